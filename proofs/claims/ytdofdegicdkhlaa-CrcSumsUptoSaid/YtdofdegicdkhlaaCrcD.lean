/- The sums that the document names: octavolaw02.awake answers true. -/
import Derived.Test.YtdofdegicdkhlaaCrcC
import Derived.Test.YtdofdegicdkhlaaCrcB
import Derived.Lib.SmallJoins
namespace Go.Proofs.Ytdofdegicdkhlaa
open Go.RowKit Go.Oct

set_option maxHeartbeats 400000 in
theorem awake02_any (w : World) :
    Calls Try.prog 16 #[] w fun e w' => e = .returned (.bool true) ∧ Below w.heap.size w w' := by
  have hs : OctCrc.crc [49, 50, 51, 52, 53, 54, 55, 56, 57] = 3421780262 := by decide +kernel
  have hj : OctCrc.join 1 0 1 = 1996959894 := by decide +kernel
  have kc := fun (w : World) (C : Array Value) (n c g : Nat) (hg : g = w.heap.size) => Joins.run_convert_bytes_const_at (P := Try.prog) w 23 5 C n c g hg Try.underlying23 Try.underlying5
  go_enter Try.func16, Try.ntmps16
  go_wp2_with fail
  refine (of_any _ [[49, 50, 51, 52], [53, 54, 55, 56, 57]] _ (Pieces.two (heap_last (by simp)) (Bytes.block (heap_keep (heap_keep (heap_last rfl) _) _) rfl (by decide) (by decide) rfl)
    (Bytes.block (heap_keep (heap_last (by simp)) _) rfl (by decide) (by decide) rfl))).mono ?_
  rintro e w' ⟨rfl, rfl⟩
  have hs2 : OctCrc.crc [[49, 50, 51, 52], [53, 54, 55, 56, 57]].flatten = 3421780262 := hs
  rw [hs2]
  go_wp2_with fail
  refine (join_any 1 0 1 (by decide) (by decide) (by decide) _).mono ?_
  rintro e w' ⟨rfl, rfl⟩
  rw [show OctCrc.join 1 0 (1 : Int).toNat = 1996959894 from hj]
  go_wp2_with fail
  go_ret
  exact ⟨rfl, ((((Below.refl _ _).alloc (Nat.le_refl _) _).alloc (by simp) _).alloc (by simp; omega) _)⟩
end Go.Proofs.Ytdofdegicdkhlaa
