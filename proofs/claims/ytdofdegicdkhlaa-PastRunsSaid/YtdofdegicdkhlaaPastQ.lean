/- Plain laws of a commit, what stands ahead of it, and so many commits. No program is named here. -/
import Derived.Test.YtdofdegicdkhlaaPastPlain
namespace Go.Oct
theorem take_now {l : List Ver} {k : Nat} (h : pastMay l k) : l.take (k + 1) = l.take k ++ [nowOf l k] := by
  have hk : k < l.length := by have := h.2.1; omega
  rw [List.take_succ_eq_append_getElem hk]
  unfold nowOf
  rw [if_pos h]
  simp [hk]
theorem com_one {l : List Ver} {c : Int} {v : Ver} {most : Int} (h : comCode l c v most = 0) (hm : most = 1) : comList l c v most = [v] ∧ comCur l c v most = 0 := by
  have e : comList l c v most = [v] := by
    subst hm
    simp only [comList, h, if_true]
    show lastOf 1 (_ ++ [v]) = [v]
    rw [lastOf_snoc 1 _ v (Nat.le_refl _)]
    simp [lastOf]
  refine ⟨e, ?_⟩
  simp only [comCur, h, if_true, e]
  rfl
theorem com_two {l : List Ver} {c : Int} {v : Ver} {most : Int} (h : comCode l c v most = 0) (hm : 2 ≤ most) :
    ∃ A : List Ver, comList l c v most = A ++ [nowOf l c, v] ∧ comCur l c v most = (A.length : Int) + 1 ∧ (A.length : Int) + 2 ≤ most := by
  obtain ⟨hp, hv, m1, m2⟩ := com_ok h
  obtain ⟨k, rfl⟩ := Int.eq_ofNat_of_zero_le hp.1
  obtain ⟨m, rfl⟩ := Int.eq_ofNat_of_zero_le (show 0 ≤ most by omega)
  have e : comList l k v m = lastOf (m - 2) (l.take k) ++ [nowOf l k, v] := by
    simp only [comList, h, if_true, Int.toNat_natCast]
    rw [lastOf_snoc m _ v (by omega), take_now hp, lastOf_snoc (m - 1) _ _ (by omega), List.append_assoc]
    rfl
  refine ⟨_, e, ?_, ?_⟩
  · simp only [comCur, h, if_true, e, List.length_append, List.length_cons, List.length_nil]
    omega
  · have := lastOf_length (m - 2) (l.take k)
    omega
/-- behind a commit: what stands, an undo, a redo -/
theorem com_back {l : List Ver} {c : Int} {v : Ver} {most : Int} (h : comCode l c v most = 0) (hm : 2 ≤ most) :
    nowOf (comList l c v most) (comCur l c v most) = v ∧ turnCode (comList l c v most) (comCur l c v most) (-1) = 0 ∧
    turnList (comList l c v most) (comCur l c v most) (-1) = comList l c v most ∧ turnCur (comList l c v most) (comCur l c v most) (-1) = comCur l c v most - 1 ∧
    nowOf (comList l c v most) (comCur l c v most - 1) = nowOf l c ∧ turnCode (comList l c v most) (comCur l c v most - 1) 1 = 0 ∧
    turnList (comList l c v most) (comCur l c v most - 1) 1 = comList l c v most ∧ turnCur (comList l c v most) (comCur l c v most - 1) 1 = comCur l c v most ∧ ((comList l c v most).length : Int) ≤ most := by
  have hp := com_may h
  obtain ⟨A, e1, e2, e3⟩ := com_two h hm
  rw [e1, e2] at hp ⊢
  have hlen : (A ++ [nowOf l c, v]).length = A.length + 2 := by simp
  have hp2 : pastMay (A ++ [nowOf l c, v]) ((A.length : Int) + 1 - 1) := ⟨by omega, by rw [hlen]; omega, hp.2.2⟩
  have t1 : turnCode (A ++ [nowOf l c, v]) ((A.length : Int) + 1) (-1) = 0 := by
    unfold turnCode; rw [if_pos hp, if_pos ⟨by omega, by rw [hlen]; omega⟩]
  have t2 : turnCode (A ++ [nowOf l c, v]) ((A.length : Int) + 1 - 1) 1 = 0 := by
    unfold turnCode; rw [if_pos hp2, if_pos ⟨by omega, by rw [hlen]; omega⟩]
  refine ⟨?_, t1, by simp [turnList, t1], by simp only [turnCur, t1, if_true]; omega, ?_, t2, by rw [turnList, if_pos t2], by simp only [turnCur, t2, if_true]; omega, by rw [hlen]; omega⟩
  · rw [nowOf, if_pos hp, show ((A.length : Int) + 1).toNat = A.length + 1 by omega]
    simp
  · rw [nowOf, if_pos hp2, show ((A.length : Int) + 1 - 1).toNat = A.length by omega]
    simp
theorem com_back1 {l : List Ver} {c : Int} {v : Ver} {most : Int} (h : comCode l c v most = 0) (hm : most = 1) :
    nowOf (comList l c v most) (comCur l c v most) = v ∧ turnCode (comList l c v most) (comCur l c v most) (-1) = 14 ∧ (comList l c v most).length = 1 := by
  have hp := com_may h
  obtain ⟨e1, e2⟩ := com_one h hm
  rw [e1, e2] at hp ⊢
  refine ⟨by rw [nowOf, if_pos hp]; rfl, ?_, rfl⟩
  unfold turnCode
  rw [if_pos hp, if_neg (by simp)]
end Go.Oct
