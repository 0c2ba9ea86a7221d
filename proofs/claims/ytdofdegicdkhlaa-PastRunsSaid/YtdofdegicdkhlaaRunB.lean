/- A slice of whole numbers that came in reads as a list. -/
import Derived.Test.YtdofdegicdkhlaaRunA
import Derived.Test.YtdofdegicdkhlaaOpenV
import Derived.Test.YtdofdegicdkhlaaFrame
namespace Go.Proofs.Ytdofdegicdkhlaa
open Go.ChangeShapes Go.WideShapes Go.ChangeAt Go.RowKit Go.Oct
theorem ints_in {H : Type} {enc : TypeId × Value → H} {P : Program} {W : World} {base b0 : Nat} {t e : TypeId} {v : Value} {d : DataW H} {p : List MemPlace}
    (ht : P.underlying t = some (.slice e)) (he : P.underlying e = some (.int .i64)) (hc : P.cellsOf e = 1)
    (hv : Value.okWide P W .any base t v) (h : DataW.Trod enc P W b0 (fun _ => true) true t v d p) :
    ∃ l : List Int, IntsOf W v l ∧ ∀ z ∈ l, -9223372036854775808 ≤ z ∧ z ≤ 9223372036854775807 := by
  obtain ⟨a, len, cap, rfl⟩ := okWide_slice ht hv
  obtain ⟨fuel, hf⟩ := h
  rcases open_ints ht he hc hf with ⟨hcs, _⟩ | ⟨x, l, c, zs, hcs, _, hl, hm, hz, hx, hcell, hwz⟩
  · simp [Value.cells] at hcs
    obtain ⟨rfl, rfl, rfl⟩ := hcs
    exact ⟨[], ⟨none, 0, rfl, Nat.le_refl _, by decide, fun h => by simp at h⟩, by simp⟩
  · simp [Value.cells] at hcs
    obtain ⟨rfl, rfl, rfl⟩ := hcs
    simp only [if_true] at hz
    have hlen : (zs.take len).length = len := by simp; omega
    refine ⟨zs.take len, ⟨some x, cap, by rw [hlen], by rw [hlen]; exact hl, hm, fun hne => ?_⟩, fun z hzz => i64_wf_bounds (hwz z (List.mem_of_mem_take hzz))⟩
    have hpos : 0 < len := by
      rcases Nat.eq_zero_or_pos len with h | h
      · subst h; simp at hne
      · exact h
    have h0 := hcell 0 (by omega)
    obtain ⟨b, o, spot⟩ := x
    have hspot : spot = none := by simpa [Addr.add] using World.cell?_spot h0
    subst hspot
    refine ⟨b, o, rfl, fun i y hy => ?_⟩
    have hi : i < len := by
      have := (List.getElem?_eq_some_iff.1 hy).1
      simp at this
      omega
    have hiz : i < zs.length := by omega
    have hci := hcell i hiz
    have e : (⟨b, o, none⟩ : Addr).add i = ⟨b, o + i, none⟩ := by unfold Addr.add; split <;> simp_all
    rw [e] at hci
    rw [hci]
    have hg : zs.getD i 0 = zs[i] := by simp [hiz]
    rw [hg]
    simpa [hi, hiz] using hy
end Go.Proofs.Ytdofdegicdkhlaa
