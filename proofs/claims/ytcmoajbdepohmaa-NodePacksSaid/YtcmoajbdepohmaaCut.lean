/- Parts of a slice of bytes that is read. No program is named here. -/
import Derived.Test.YtcmoajbdepohmaaBase
namespace Go.Oct
open Go.RowKit
theorem Bytes.cut {w : World} {b o n cap : Nat} {l : List UInt8} (h : Bytes w (.slice (some ⟨b, o, none⟩) n cap) l) (i m c : Nat) (hm : i + m ≤ n) (hc : m ≤ c) (hcm : c ≤ maxLen) :
    Bytes w (.slice (some ⟨b, o + i, none⟩) m c) ((l.drop i).take m) := by
  obtain ⟨a', cap', hv, h1, h2, h3⟩ := h
  simp only [Value.slice.injEq] at hv
  obtain ⟨rfl, rfl, rfl⟩ := hv
  have hl : ((l.drop i).take m).length = m := by simp; omega
  unfold Bytes
  rw [hl]
  refine ⟨_, c, rfl, hc, hcm, fun hx => ⟨b, o + i, rfl, fun j x hj => ?_⟩⟩
  have hne : bs l ≠ [] := by
    intro e
    apply hx
    have e2 : l = [] := List.eq_nil_of_length_eq_zero (by have := congrArg List.length e; rw [bs_length] at this; simpa using this)
    subst e2
    simp [bs]
  obtain ⟨b', o', ha, hcl⟩ := h3 hne
  simp only [Option.some.injEq, Addr.mk.injEq, and_true] at ha
  obtain ⟨rfl, rfl⟩ := ha
  rw [Nat.add_assoc]
  refine hcl (i + j) x ?_
  have e : bs ((l.drop i).take m) = ((bs l).drop i).take m := by simp [bs, List.map_take, List.map_drop]
  rw [e, List.getElem?_take] at hj
  split at hj
  · rwa [List.getElem?_drop] at hj
  · cases hj
/-- the same, from some place to the end -/
theorem Bytes.tail {w : World} {b o n cap : Nat} {l : List UInt8} (h : Bytes w (.slice (some ⟨b, o, none⟩) n cap) l) (i m c : Nat) (hm : i + m = n) (hc : m ≤ c) (hcm : c ≤ maxLen) :
    Bytes w (.slice (some ⟨b, o + i, none⟩) m c) (l.drop i) := by
  have h1 := h.cut i m c (by omega) hc hcm
  obtain ⟨a', cap', hv, _⟩ := h
  simp only [Value.slice.injEq] at hv
  rwa [List.take_of_length_le (by simp; omega)] at h1
end Go.Oct
