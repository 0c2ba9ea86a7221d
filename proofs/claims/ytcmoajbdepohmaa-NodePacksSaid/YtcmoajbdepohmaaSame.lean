/- The walk of octavoref01.Same: are two slices of bytes the same? -/
import Derived.Test.YtcmoajbdepohmaaProg
import Derived.Test.YtcmoajbdepohmaaBase
import Derived.WalkSpells
import Derived.WalkLawsBesides
import Derived.Deep.QuietTactic
import Derived.BigQuiet
namespace Go.Proofs.Ytcmoajbdepohmaa
open Go.RowKit Go.Oct

theorem below_drawn (B : Nat) (w : World) (n : Nat) : Below B w (w.drewN n) := ⟨rfl, rfl, rfl, Nat.le_refl _, fun _ _ => rfl⟩
/-- a question is answered, nothing that was there turns -/
def Asked (b : Bool) (w : World) (e : Ending) (w' : World) : Prop := e = .returned (.bool b) ∧ Below w.heap.size w w'
set_option maxHeartbeats 400000 in
theorem same_any (v1 v2 : Value) (l m : List UInt8) (w : World) (h1 : Bytes w v1 l) (h2 : Bytes w v2 m) :
    Calls Try.prog 18 #[v1, v2] w (Asked (decide (l = m)) w) := by
  obtain ⟨a, c, rfl, hc, hmx, hcs⟩ := h1.open
  obtain ⟨a2, c2, rfl, hc2, hmx2, hcs2⟩ := h2.open
  unfold maxLen at hmx hmx2
  by_cases hlen : l.length = m.length
  · by_cases h0 : l.length = 0
    · have hl : l = [] := List.eq_nil_of_length_eq_zero h0
      have hm : m = [] := List.eq_nil_of_length_eq_zero (by omega)
      subst hl; subst hm
      clear hcs hcs2 h1 h2 h0 hlen
      simp only [List.length_nil]
      go_enter Try.func18, Try.ntmps18
      go_wp2
      refine wp_loop_rounds 1 ?_
      rw [rounds_succ]
      go_wp2
      go_ret
      exact ⟨rfl, Below.refl _ _⟩
    · obtain ⟨b, o, rfl, hk⟩ := hcs (by omega)
      obtain ⟨b2, o2, rfl, hk2⟩ := hcs2 (by omega)
      have HK := Lib.hid hk
      have HK2 := Lib.hid hk2
      have HL := Lib.hid hlen
      rw [← hlen] at hc2 ⊢
      clear hcs hcs2 h1 h2 hk hk2 hlen h0
      go_enter Try.func18, Try.ntmps18
      go_wp2
      go_loopw [5] (fun i wr => ∃ j : Nat, j ≤ l.length ∧ i = .int .i64 j ∧ l.take j = m.take j ∧ Below w.heap.size w wr) (fun i _ => l.length - (intOf i).toNat)
      case atStart => exact ⟨0, Nat.zero_le _, rfl, rfl, Below.refl _ _⟩
      case round =>
        obtain ⟨j, hj, rfl, he, hnx⟩ := hrel
        have HE := Lib.hid he
        clear he
        by_cases hlt : j < l.length
        · have hjm : j < m.length := by have := HL.out; omega
          have c1 : wr.cell? ⟨b, o + j, none⟩ = some (.int .u8 (l[j].toNat : Int)) := (hnx.cell (World.block_lt_of_cell? w _ (HK.out j hlt))).trans (HK.out j hlt)
          have c2 : wr.cell? ⟨b2, o2 + j, none⟩ = some (.int .u8 (m[j].toNat : Int)) := (hnx.cell (World.block_lt_of_cell? w _ (HK2.out j hjm))).trans (HK2.out j hjm)
          have q0 : (0 : Int) ≤ (j : Int) := by omega
          have q1 : (j : Int) < (l.length : Int) := by omega
          have HT := Lib.hid (show l.take (j + 1) = l.take j ++ [l[j]] from List.take_succ_eq_append_getElem hlt)
          have HT2 := Lib.hid (show m.take (j + 1) = m.take j ++ [m[j]] from List.take_succ_eq_append_getElem hjm)
          by_cases hq : l[j] = m[j]
          · have ht : ((l[j].toNat : Int) != (m[j].toNat : Int)) = false := by rw [hq]; simp
            have HQ := Lib.hid hq
            clear hq
            go_wp2
            go_quiet (fail)
            go_wp2
            go_roundw
            case rel => exact ⟨j + 1, by omega, by go_num, by rw [HT.out, HT2.out, HE.out, HQ.out], hnx.trans (below_drawn _ _ _)⟩
            case measure => simp [intOf]; omega
          · have ht : ((l[j].toNat : Int) != (m[j].toNat : Int)) = true := by
              rw [bne_iff_ne]
              intro e
              exact hq (UInt8.toNat_inj.1 (by omega))
            have HQ := Lib.hid hq
            clear hq
            go_wp2
            go_quiet (fail)
            go_wp2
            go_ret
            have hne : l ≠ m := fun e => HQ.out (by subst e; rfl)
            exact ⟨by rw [decide_eq_false hne]; rfl, hnx.trans (below_drawn _ _ _)⟩
        · have HJ := Lib.hid (show j = l.length by omega)
          go_wp2
          go_ret
          have h3 := HE.out
          rw [HJ.out] at h3
          have hlm : l = m := by
            rw [List.take_length] at h3
            rw [h3, HL.out, List.take_length]
          exact ⟨by rw [decide_eq_true hlm]; rfl, hnx⟩
  · have HL := Lib.hid (show l ≠ m from fun e => hlen (by rw [e]))
    have ht : ((l.length : Int) != (m.length : Int)) = true := by rw [bne_iff_ne]; omega
    clear hcs hcs2 h1 h2 hlen
    go_enter Try.func18, Try.ntmps18
    go_wp2
    go_ret
    exact ⟨by rw [decide_eq_false HL.out]; rfl, Below.refl _ _⟩
theorem same_yes (v1 v2 : Value) (l : List UInt8) (w : World) (h1 : Bytes w v1 l) (h2 : Bytes w v2 l) : Calls Try.prog 18 #[v1, v2] w (Asked true w) := by
  have h := same_any v1 v2 l l w h1 h2
  rw [show decide (l = l) = true by simp] at h
  exact h
end Go.Proofs.Ytcmoajbdepohmaa
