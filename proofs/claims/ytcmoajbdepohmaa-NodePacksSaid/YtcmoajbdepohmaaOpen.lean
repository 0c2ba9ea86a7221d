/- How an argument of a law that is a struct of whole numbers is read. No program is named here. -/
import Derived.Test.YtcmoajbdepohmaaFrame
import Derived.Lib.SmallJoins
import Derived.Deep.Slices
import Derived.Deep.Fields
import Derived.ChangeSame
namespace Go.Oct
open Go.ChangeShapes Go.WideShapes Go.ChangeAt Go.RowKit Go.Deep Go.Joins
variable {H : Type} {enc : TypeId × Value → H} {P : Program}
theorem open_agg_ints {w : World} {base : Nat} {spare : Nat → Bool} {held : Bool} {r : Reach} {b0 : Nat} {t : TypeId} {fs : Array Field} {v : Value} {d : DataW H} {p : List MemPlace} (hs : P.underlying t = some (.struct fs)) (hone : oneCellFields P fs = true) (hC : P.cellsOf t = fs.size)
    (hint : ∀ f ∈ fs, P.underlying f.type = some (.int .i64)) (hv : Value.okWide P w r b0 t v) (h : DataW.Trod enc P w base spare held t v d p) :
    ∃ zs : List Int, zs.length = fs.size ∧ v = .agg (zs.map (Value.int .i64)).toArray ∧ ∀ z ∈ zs, (Lit.int .i64 z).wf = true := by
  obtain ⟨cs, rfl, hsz⟩ := okWide_struct hs hv
  obtain ⟨fuel, hf⟩ := h
  obtain ⟨xs, n, _, hx, _, hlen, hg⟩ := DataW.trod_struct hs hf
  have hsz2 : cs.size = fs.size := hsz.trans hC
  have key : ∀ j (hj : j < cs.toList.length), ∃ z, cs.toList[j] = .int .i64 z ∧ (Lit.int .i64 z).wf = true := by
    intro j hj
    have hj2 : j < fs.size := by rw [← hsz2]; simpa using hj
    have hfj : fs[j]? = some fs[j] := Array.getElem?_eq_getElem hj2
    obtain ⟨o, k⟩ := hone_of hone j fs[j] hfj
    have h1 := hg j fs[j] hfj
    rw [o, k] at h1
    have e1 : ((Value.agg cs).cells.toList.drop j).take 1 = [cs.toList[j]] := by
      show (cs.toList.drop j).take 1 = _
      rw [List.drop_eq_getElem_cons hj]
      rfl
    rw [e1] at h1
    have hys : xs[j]? = some (xs[j]'(by omega)) := List.getElem?_eq_getElem (by omega)
    obtain ⟨z, hz, _, hw⟩ := DataW.trod_int (hint _ (Array.getElem_mem hj2)) (h1.trans hys)
    simp only [List.cons.injEq, and_true] at hz
    exact ⟨z, hz, hw⟩
  refine ⟨cs.toList.map fun v => match v with | .int _ z => z | _ => 0, by simp [hsz2], ?_, ?_⟩
  · congr 1
    apply Array.toList_inj.1
    apply List.ext_getElem
    · simp
    · intro j h1 h2
      obtain ⟨z, hz, _⟩ := key j h1
      simp [hz]
  · intro z hz
    simp only [List.mem_map] at hz
    obtain ⟨v, hv, rfl⟩ := hz
    obtain ⟨j, hj, rfl⟩ := List.getElem_of_mem hv
    obtain ⟨z, hz, hw⟩ := key j hj
    rw [hz]
    exact hw
theorem two_of {α : Type} {l : List α} (h : l.length = 2) : ∃ a b, l = [a, b] := by
  match l, h with
  | [a, b], _ => exact ⟨a, b, rfl⟩
theorem five_of {α : Type} {l : List α} (h : l.length = 5) : ∃ a b c d e, l = [a, b, c, d, e] := by
  match l, h with
  | [a, b, c, d, e], _ => exact ⟨a, b, c, d, e, rfl⟩
end Go.Oct
