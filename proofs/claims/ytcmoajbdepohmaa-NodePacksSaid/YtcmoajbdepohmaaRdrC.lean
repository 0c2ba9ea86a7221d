/- The walk of the reader's Zeros. -/
import Derived.Test.YtcmoajbdepohmaaRdrT
import Derived.Test.YtcmoajbdepohmaaRdrL
namespace Go.Proofs.Ytcmoajbdepohmaa
open Go.RowKit Go.Oct

def allZero (l : List UInt8) : Bool := l.all (· == 0)
def zrCode (l : List UInt8) (at_ : Nat) (n : Int) : Nat :=
  if nextCode n (l.length - at_) = 0 then (if allZero ((l.drop at_).take n.toNat) then 0 else 4) else nextCode n (l.length - at_)
def zrAt (l : List UInt8) (at_ : Nat) (n : Int) : Nat := if zrCode l at_ n = 0 then at_ + n.toNat else at_
def ZerosPost (base g : Nat) (l : List UInt8) (at_ : Nat) (n : Int) (w : World) (e : Ending) (w' : World) : Prop :=
  e = .returned (.int .i64 (zrCode l at_ n : Nat)) ∧ Reader base w' g l (zrAt l at_ n) ∧ w.grownBy w' (some g)
theorem allZero_take (l : List UInt8) (j : Nat) (h : j < l.length) : allZero (l.take (j + 1)) = (allZero (l.take j) && l[j] == 0) := by
  unfold allZero
  rw [List.take_succ_eq_append_getElem h, List.all_append]
  simp only [List.all_cons, List.all_nil, Bool.and_true]
set_option maxHeartbeats 400000 in
theorem zeros_any (base g : Nat) (l : List UInt8) (at_ : Nat) (n : Int) (w : World) (hr : Reader base w g l at_) (hn1 : n ≤ 9223372036854775807) :
    Calls Try.prog 30 #[.pointer (some ⟨g, 0, none⟩), .int .i64 n] w (ZerosPost base g l at_ n w) := by
  by_cases h0 : nextCode n (l.length - at_) = 0
  · have hn : 0 ≤ n := by
      rcases Int.lt_or_le n 0 with h | h
      · unfold nextCode at h0; rw [if_pos h] at h0; cases h0
      · exact h
    obtain ⟨k, rfl⟩ := Int.eq_ofNat_of_zero_le hn
    have hat := hr.left
    have hk : at_ + k ≤ l.length := by
      rcases Nat.lt_or_ge (l.length - at_) k with h | h
      · unfold nextCode at h0; rw [if_neg (by omega), if_pos (by omega)] at h0; cases h0
      · omega
    have HN := Lib.hid h0
    have HX := Lib.hid (show nextBytes l at_ (k : Int) = (l.drop at_).take k by simp [nextBytes, HN.out])
    obtain ⟨m, hm⟩ : ∃ m, m = (l.drop at_).take k := ⟨_, rfl⟩
    have hlen : m.length = k := by rw [hm]; simp; omega
    have HM := Lib.hid hm
    have HL := Lib.hid hlen
    have HC0 := Lib.hid (show allZero m = true → zrCode l at_ (k : Int) = 0 from fun h => by rw [hm] at h; simp [zrCode, HN.out, h])
    have HC4 := Lib.hid (show allZero m = false → zrCode l at_ (k : Int) = 4 from fun h => by rw [hm] at h; simp [zrCode, HN.out, h])
    clear h0 hn hm
    go_enter Try.func30, Try.ntmps30
    go_wp2_with fail
    refine (next_any base g l at_ (k : Int) _ hr hn1).mono ?_
    rintro e w1 ⟨v, rfl, hb, hx⟩
    rw [HN.out]
    rw [HX.out, ← HM.out] at hb
    have hr1 := hr.below hx
    obtain ⟨c1, f1⟩ := hr1.cells
    have hmv := hr1.move (at_ + k) hk
    rw [show ((at_ + k : Nat) : Int) = (at_ : Int) + (k : Int) by omega] at hmv
    have HMV := Lib.hid hmv
    clear hmv hr
    obtain ⟨a, cap, rfl, hcap, hmax, hcells⟩ := hb.open
    unfold maxLen at hmax
    rw [hlen] at hcap ⊢
    by_cases hz : k = 0
    · subst hz
      have HZ := Lib.hid (HC0.out (by rw [List.eq_nil_of_length_eq_zero HL.out]; rfl))
      have HA := Lib.hid (show zrAt l at_ ((0 : Nat) : Int) = at_ + 0 by simp [zrAt])
      clear hcells hb hlen
      go_wp2_with fail
      refine wp_loop_rounds 1 ?_
      rw [rounds_succ]
      go_wp2_with fail
      go_ret
      have h1 := HMV.out
      rw [show ((at_ : Int) + ((0 : Nat) : Int)) = (at_ : Int) by omega] at h1
      exact ⟨by rw [HZ.out]; rfl, by rw [HA.out]; exact h1.1, (grown_of_below hx _).trans h1.2⟩
    · obtain ⟨b, o, rfl, hcs⟩ := hcells (by omega)
      have HCS := Lib.hid hcs
      clear hcells hb hcs hlen hz
      go_wp2_with fail
      go_loop [20] (fun i => ∃ j : Nat, j ≤ k ∧ i = .int .i64 j ∧ allZero (m.take j) = true) (fun i => k - (intOf i).toNat)
      case atStart => exact ⟨0, Nat.zero_le _, rfl, rfl⟩
      case round =>
        obtain ⟨j, hj, rfl, hall⟩ := hrel
        have HA := Lib.hid hall
        clear hall
        by_cases hlt : j < k
        · have hjm : j < m.length := by rw [HL.out]; exact hlt
          have hcell := HCS.out j hjm
          have HT := Lib.hid (allZero_take m j hjm)
          by_cases hq : m[j] = 0
          · have ht : ((m[j].toNat : Int) != 0) = false := by rw [hq]; rfl
            have HQ := Lib.hid hq
            clear hq
            go_wp2_with fail
            go_round
            case rel => exact ⟨j + 1, by omega, by go_num, by rw [HT.out, HA.out, HQ.out]; rfl⟩
            case measure => simp [intOf]; omega
          · have ht : ((m[j].toNat : Int) != 0) = true := by
              rw [bne_iff_ne]
              intro e
              exact hq (UInt8.toNat_inj.1 (by have : m[j].toNat = 0 := by omega
                                              rw [this]; rfl))
            have HF := Lib.hid (show allZero m = false by
              apply Bool.eq_false_iff.2
              intro h
              have := List.all_eq_true.1 h m[j] (List.getElem_mem _)
              exact hq (by simpa using this))
            clear hq
            go_wp2_with fail
            go_ret
            have hc := HC4.out HF.out
            exact ⟨by rw [hc]; rfl, by simp only [zrAt, hc]; exact hr1, grown_of_below hx _⟩
        · have HZ := Lib.hid (HC0.out (by have h1 := HA.out; rw [show j = m.length by rw [HL.out]; omega, List.take_length] at h1; exact h1))
          have HAT := Lib.hid (show zrAt l at_ (k : Int) = at_ + k by simp [zrAt, HZ.out])
          go_wp2_with fail
          go_ret
          exact ⟨by rw [HZ.out]; rfl, by rw [HAT.out]; exact HMV.out.1, (grown_of_below hx _).trans HMV.out.2⟩
  · have HC := Lib.hid (show zrCode l at_ n = nextCode n (l.length - at_) by simp [zrCode, h0])
    have HA := Lib.hid (show zrAt l at_ n = at_ by simp [zrAt, HC.out, h0])
    have ht : ((nextCode n (l.length - at_) : Int) != 0) = true := by rw [bne_iff_ne]; omega
    clear h0
    go_enter Try.func30, Try.ntmps30
    go_wp2_with fail
    refine (next_any base g l at_ n _ hr hn1).mono ?_
    rintro e w1 ⟨v, rfl, hb, hx⟩
    go_wp2_with fail
    go_ret
    exact ⟨by rw [HC.out]; rfl, by rw [HA.out]; exact hr.below hx, grown_of_below hx _⟩
end Go.Proofs.Ytcmoajbdepohmaa
