/- The walk of octavoref01.Copy: the bytes as new memory of the call's own. -/
import Derived.Test.YtcmoajbdepohmaaProg
import Derived.Test.YtcmoajbdepohmaaBase
import Derived.WalkSpells
import Derived.WalkLawsBesides
namespace Go.Proofs.Ytcmoajbdepohmaa
open Go.RowKit Go.Oct

theorem infoU8 : (Try.prog.info? 5).map (fun i => (i.zero, i.size, i.bytes)) = some (some (.int .u8 0), 1, 1) := by kernel_rfl
/-- the world w' has what w had, and v is a slice of new memory that holds the bytes -/
structure Fresh (w w' : World) (v : Value) (l : List UInt8) : Prop where
  own : w'.ownsRow w.heap.size 5 1 v l.length (bs l)
  below : Below w.heap.size w w'
set_option maxHeartbeats 400000 in
theorem copy_any (v : Value) (l : List UInt8) (w : World) (hb : Bytes w v l) (hl : l.length ≤ 140737488355328) :
    Calls Try.prog 25 #[v] w fun e w' => ∃ v', e = .returned v' ∧ w'.ownsRow w.heap.size 5 1 v' l.length (bs l) ∧ Below w.heap.size w w' := by
  obtain ⟨a, cap, rfl, hcap, hmax, hcells⟩ := hb.open
  unfold maxLen at hmax
  obtain ⟨i0, hi, hz0, hz1, hz2⟩ := info_parts infoU8
  by_cases h0 : l.length = 0
  · have HR := Lib.hid (show Calls Try.prog 25 #[.slice a 0 cap] w fun e w' => ∃ v', e = .returned v' ∧ w'.ownsRow w.heap.size 5 1 v' 0 (bs []) ∧ Below w.heap.size w w' from by
      clear hcells hb h0 hcap hi hz0 hz1 hz2
      go_enter Try.func25, Try.ntmps25
      go_wp2
      refine wp_loop_rounds 1 ?_
      rw [rounds_succ]
      go_wp2
      go_ret
      exact ⟨_, rfl, World.ownsRow_nil _ _ _ _, Below.refl _ _⟩)
    rw [List.eq_nil_of_length_eq_zero h0]
    exact HR.out
  obtain ⟨b, o, rfl, hcs⟩ := hcells (by omega)
  have hbB : b < w.heap.size := World.block_lt_of_cell? w _ (hcs 0 (by omega))
  have HC := Lib.hid hcs
  clear hcells hb hcs
  go_enter Try.func25, Try.ntmps25
  go_wp2
  go_loopw [3, 4] (fun v i wr => ∃ k : Nat, k ≤ l.length ∧ i = .int .i64 k ∧ wr.ownsRow w.heap.size 5 1 v k (bs (l.take k)) ∧ Below w.heap.size w wr) (fun _ i _ => l.length - (intOf i).toNat)
  case atStart => exact ⟨0, Nat.zero_le _, rfl, World.ownsRow_nil _ _ _ _, Below.refl _ _⟩
  case round =>
    obtain ⟨k, hk, rfl, hown, hnx⟩ := hrel
    by_cases hlt : k < l.length
    · have hcx : wr.cell? ⟨b, o + k, none⟩ = some (.int .u8 (l[k].toNat : Int)) := (hnx.cell hbB).trans (HC.out k hlt)
      have HT := Lib.hid (show bs (l.take (k + 1)) = bs (l.take k) ++ [.int .u8 (l[k].toNat : Int)] by rw [List.take_succ_eq_append_getElem hlt, bs_append]; rfl)
      have hsz := hnx.size
      go_wp2_with (at_builtin; refine wpList_append_own _ rfl _ _ 22 rfl w.heap.size 5 i0 (.int .u8 0) 1 1 Try.underlying22 hi hz0 hz1 hz2 rfl (by decide) _ _ _ rfl (hown.alloc _) ⟨wr.heap.size, 0, none⟩ 1 1 [.int .u8 (l[k].toNat : Int)] rfl rfl ?c1 ?c2 ?c3 ?c4 ?c5 ?_)
      case c1 => exact cell_one_new _ _ _
      case c2 => intro u hu; simp at hu; subst hu; rfl
      case c3 => unfold maxLen; omega
      case c4 => omega
      case c5 => simp; omega
      intro v' w1 hown' hgrow _
      have hnx1 : Below w.heap.size w w1 := (hnx.alloc hsz _).grown hgrow (by simp; omega) (fun k hk => (hown.lt k hk).1)
      clear hown hgrow hcx
      go_wp2
      go_roundw
      case rel => exact ⟨k + 1, by omega, by go_num, by rw [HT.out]; exact hown', hnx1⟩
      case measure => simp [intOf]; omega
    · have HE := Lib.hid (show l.take k = l from List.take_of_length_le (by omega))
      have HK := Lib.hid (show k = l.length by omega)
      go_wp2
      go_ret
      exact ⟨_, rfl, by rw [HE.out, HK.out] at hown; exact hown, hnx⟩
end Go.Proofs.Ytcmoajbdepohmaa
