/- The walk of super.fields: five numbers, each with its width. -/
import Derived.Test.YtdekfbmjhmfmaaaSupA
namespace Go.Proofs.Ytdekfbmjhmfmaaa
open Go.RowKit Go.Oct

theorem fields_any (g r c t o : Int) (w : World) :
    Calls Try.prog 37 #[.agg #[.int .i64 g, .int .i64 r, .int .i64 c, .int .i64 t, .int .i64 o]] w fun e w' => ∃ b, e = .returned (.slice (some ⟨b, 0, none⟩) 5 5) ∧ w.heap.size ≤ b ∧
      w'.heap[b]? = some (.cells #[.int .i64 g, .int .i64 6, .int .i64 r, .int .i64 4, .int .i64 c, .int .i64 1, .int .i64 t, .int .i64 4, .int .i64 o, .int .i64 4] 64 (0, 0)) ∧ Below w.heap.size w w' := by
  go_enter Try.func37, Try.ntmps37
  go_wp2_with fail
  go_ret
  refine ⟨_, rfl, ?_, ?_, ((Below.refl _ _).alloc (Nat.le_refl _) _).alloc (by simp) _⟩
  · simp
  · exact heap_last (by simp)
end Go.Proofs.Ytdekfbmjhmfmaaa
