/- The walk of the reader's Left. -/
import Derived.Test.YtcmoajbdepohmaaRdrB
namespace Go.Proofs.Ytcmoajbdepohmaa
open Go.RowKit Go.Oct

set_option maxHeartbeats 400000 in
theorem left_any (base g : Nat) (l : List UInt8) (at_ : Nat) (w : World) (hr : Reader base w g l at_) :
    Calls Try.prog 27 #[.pointer (some ⟨g, 0, none⟩)] w fun e w' => e = .returned (.int .i64 (l.length - at_ : Nat)) ∧ Below w.heap.size w w' := by
  obtain ⟨_, hat, hl, gb, cp, hg, _⟩ := hr
  have c0 : w.cell? ⟨g, 0, none⟩ = some (.slice (some ⟨gb, 0, none⟩) l.length cp) := by rw [World.cell_block hg]; rfl
  have c1 : w.cell? ⟨g, 1, none⟩ = some (.int .i64 (at_ : Int)) := by rw [World.cell_block hg]; rfl
  have hs : IntKind.i64.wrap ((l.length : Int) - (at_ : Int)) = (l.length : Int) - (at_ : Int) := IntWalk.i64_in _ (by omega)
  have hv := Lib.hid (show ((l.length - at_ : Nat) : Int) = (l.length : Int) - (at_ : Int) by omega)
  clear hg
  go_enter Try.func27, Try.ntmps27
  go_wp2
  go_quiet (fail)
  go_wp2
  go_ret
  exact ⟨by rw [hv.out]; rfl, below_drawn _ _ _⟩
end Go.Proofs.Ytcmoajbdepohmaa
