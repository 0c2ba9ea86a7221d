/- The law NodeSums: its arguments are opened as data, its walk (NdV) is called, the given statement is closed. -/
import Derived.Test.YtcmoajbdepohmaaRows
import Derived.Test.YtcmoajbdepohmaaFrame
import Derived.Test.YtcmoajbdepohmaaOpenN
import Derived.Test.YtcmoajbdepohmaaNdV
namespace Go.Proofs.Ytcmoajbdepohmaa.lawNodeSums
open Go.ChangeShapes Go.WideShapes Go.ChangeAt Go.RowKit Go.Oct
theorem own : ownKnob Try.prog.godebug = none := by kernel_rfl
theorem laidOut : laidOutB Try.prog = true := by kernel_rfl
set_option maxRecDepth 100000 in
theorem lifted (os : Os) (started : os.Started) (H : Type) (enc : TypeId × Value → H) :
    ReturnsInHanded {} Try.checked os 14 .any (Rows.nodeSumsSpec.pre6 enc Try.prog Try.f14 Rows.nodeSumsRow.domain false) (Rows.nodeSumsSpec.post enc Try.prog Try.f14 false true false false) := by
  refine returnsInHanded_of_change_sized (C := Try.checked) own started (by kernel_rfl) Try.func14
    (ChangeSpec.witness6 (enc := enc) (C := Try.checked) false ⟨#[], #[.agg #[.bool false, .slice none 0 0, .slice none 0 0], .int .i64 0], []⟩ 8 (by kernel_rfl) (by kernel_rfl) (by kernel_rfl) (by kernel_rfl)) ?_
  intro W base args ds gs before hval0 hW _ hsz _
  have hval : ∀ (j : Nat) t v, Try.f14.params[j]? = some t → args[j]? = some v → Value.okWide Try.prog W .any base t v := hval0
  have hW' := hW
  obtain ⟨p, q, hA0, hV, rfl, _, _⟩ := hW
  have hA : DataW.TrodAll enc Try.prog W 0 (fun _ => true) true Try.f14.params.toList args.toList ds p := hA0
  rw [Try.params14] at hA hval
  obtain ⟨v0, vs0, d0, ds0, p0, q0, hargs, rfl, rfl, h0, r0⟩ := trodAll_cons hA
  obtain ⟨v1, vs1, d1, ds1, p1, q1, rfl, rfl, rfl, h1, r1⟩ := trodAll_cons r0
  obtain ⟨rfl, rfl, rfl⟩ := trodAll_nil r1
  obtain rfl : args = #[v0, v1] := by cases args; simp_all
  obtain ⟨rfl, rfl⟩ := trodVars_none hV
  rw [Try.params14] at hsz
  have lt0 : ∀ x ∈ p0, x.block < W.heap.size := by obtain ⟨m, hm⟩ := h0; exact DataW.trod_lt m _ _ _ hm
  have flS0 : Flat enc Try.prog W 0 78 := flat_struct Try.underlying78 (by kernel_rfl) (by intro f hf; simp at hf; rcases hf with rfl | rfl | rfl <;> exact flat_int Try.underlying3)
  have flE0 : Flat enc Try.prog W 0 80 := flat_struct Try.underlying80 (by kernel_rfl) (by intro f hf; simp at hf; rcases hf with rfl | rfl; exact flS0; exact flat_int Try.underlying3)
  have flK0 : Flat enc Try.prog W 0 82 := flat_struct Try.underlying82 (by kernel_rfl) (by intro f hf; simp at hf; rcases hf with rfl | rfl | rfl | rfl <;> exact flat_int Try.underlying3)
  obtain ⟨lf0, ve0, vk0, es0, ks0, rfl, BE0, BK0, le0, lk0⟩ := node_in (s1 := 53) (s2 := 54) (e1 := 80) (e2 := 82) Try.underlying56 (by kernel_rfl) (by kernel_rfl) Try.underlying4 rfl rfl Try.underlying53 Try.underlying54 (by kernel_rfl) (by kernel_rfl) (by kernel_rfl) (by kernel_rfl) flE0 flK0 (hval 0 56 v0 rfl rfl) h0 hsz (j := 0) rfl rfl
  obtain ⟨a1, rfl, rfl, rfl, w1⟩ := open_int Try.underlying3 (hval 1 3 v1 rfl rfl) h1
  clear hA0 hval0
  refine (nodeSums_walk lf0 ve0 vk0 es0 ks0 a1 W BE0 BK0 (Nat.le_trans le0 (by decide)) (Nat.le_trans lk0 (by decide)) w1).mono fun e W' ⟨he, bel⟩ => ?_
  subst he
  exact ⟨_, rfl, _, _, _, [], _, [], hW', trodAll_mk1 (shut_bool Try.underlying4 _), (trodAll_cons_mk (Below.trod laidOut (by kernel_rfl) (of_decide_eq_true (by kernel_rfl)) h0 bel lt0) (trodAll_cons_mk (shut_int Try.underlying3 w1) trodAll_mk0)), rfl, bel.frame _, fun h => by cases h⟩
/-- The given statement. -/
theorem proved : Rows.NodeSumsSaid :=
  OpenClaim.holds_of_wide 14 Try.f14 rfl rfl rfl rfl rfl rfl rfl ⟨rfl, rfl, rfl, rfl, rfl⟩ rfl rfl rfl rfl rfl (by kernel_rfl) Try.func14 (by kernel_rfl)
    (of_decide_eq_true (by kernel_rfl)) (by unfold Func.isWrapper; first | (rw [if_pos (by decide +kernel)]; kernel_rfl) | (rw [if_neg (by decide +kernel)]; exact ⟨rfl, rfl⟩))
    (fun os started H enc _ => lifted os started H enc)
end Go.Proofs.Ytcmoajbdepohmaa.lawNodeSums
