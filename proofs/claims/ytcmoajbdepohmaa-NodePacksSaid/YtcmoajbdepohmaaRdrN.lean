/- The walks of the reader's Place, and of all its methods at a nil reader. -/
import Derived.Test.YtcmoajbdepohmaaRdrC
namespace Go.Proofs.Ytcmoajbdepohmaa
open Go.RowKit Go.Oct

theorem place_any (base g : Nat) (l : List UInt8) (at_ : Nat) (w : World) (hr : Reader base w g l at_) :
    Calls Try.prog 26 #[.pointer (some ⟨g, 0, none⟩)] w fun e w' => e = .returned (.int .i64 (at_ : Nat)) ∧ w = w' := by
  obtain ⟨c1, _⟩ := hr.cells
  clear hr
  go_enter Try.func26, Try.ntmps26
  go_wp2
  go_ret
  exact ⟨rfl, rfl⟩
theorem nil_left (w : World) : Calls Try.prog 27 #[.pointer none] w fun e w' => e = .returned (.int .i64 0) ∧ w = w' := by
  go_enter Try.func27, Try.ntmps27
  go_wp2
  go_ret
  exact ⟨rfl, rfl⟩
theorem nil_place (w : World) : Calls Try.prog 26 #[.pointer none] w fun e w' => e = .returned (.int .i64 0) ∧ w = w' := by
  go_enter Try.func26, Try.ntmps26
  go_wp2
  go_ret
  exact ⟨rfl, rfl⟩
theorem nil_int (n : Int) (w : World) : Calls Try.prog 29 #[.pointer none, .int .i64 n] w fun e w' => e = .returned (.tuple #[.int .i64 0, .int .i64 1]) ∧ w = w' := by
  go_enter Try.func29, Try.ntmps29
  go_wp2_with fail
  go_ret2
  exact ⟨rfl, rfl⟩
theorem nil_next (n : Int) (w : World) : Calls Try.prog 44 #[.pointer none, .int .i64 n] w fun e w' => e = .returned (.tuple #[.slice none 0 0, .int .i64 1]) ∧ w = w' := by
  go_enter Try.func44, Try.ntmps44
  go_wp2_with fail
  go_ret2
  exact ⟨rfl, rfl⟩
theorem nil_take (n : Int) (w : World) : Calls Try.prog 24 #[.pointer none, .int .i64 n] w fun e w' => e = .returned (.tuple #[.slice none 0 0, .int .i64 1]) ∧ w = w' := by
  go_enter Try.func24, Try.ntmps24
  go_wp2_with fail
  refine (nil_next n _).mono ?_
  rintro e w' ⟨rfl, rfl⟩
  go_wp2_with fail
  go_ret2
  exact ⟨rfl, rfl⟩
theorem nil_zeros (n : Int) (w : World) : Calls Try.prog 30 #[.pointer none, .int .i64 n] w fun e w' => e = .returned (.int .i64 1) ∧ w = w' := by
  go_enter Try.func30, Try.ntmps30
  go_wp2_with fail
  refine (nil_next n _).mono ?_
  rintro e w' ⟨rfl, rfl⟩
  go_wp2_with fail
  go_ret
  exact ⟨rfl, rfl⟩
end Go.Proofs.Ytcmoajbdepohmaa
