/- Plain laws of sums of a node that is parted in two (layer 13). No program is named here. -/
import Derived.Test.YtcmoajbdepohmaaNsPlain
namespace Go.Oct
theorem lnSum_open (f : Quad → Int) (l : List Quad) : lnSum f (-1) l = -1 := by
  induction l with
  | nil => rfl
  | cons x l ih => rw [lnSum, show lnStep (-1) (f x) = -1 from if_pos (.inr (by decide)), ih]
theorem lnStep_neg {L l : Int} (h : l < 0 ∨ L < 0) : lnStep L l = -1 := if_pos h
theorem lnStep_add {L l : Int} (h : ¬ (l < 0 ∨ L < 0)) : lnStep L l = L + l := if_neg h
theorem lnSum_shift (f : Quad → Int) (l : List Quad) (x : Int) (hx : 0 ≤ x) : ∀ y, 0 ≤ y → (lnSum f y l < 0 ∧ lnSum f (x + y) l = -1) ∨ (0 ≤ lnSum f y l ∧ lnSum f (x + y) l = x + lnSum f y l) := by
  induction l with
  | nil => intro y hy; exact .inr ⟨hy, rfl⟩
  | cons v l ih =>
    intro y hy
    show (lnSum f (lnStep y (f v)) l < 0 ∧ lnSum f (lnStep (x + y) (f v)) l = -1) ∨ (0 ≤ lnSum f (lnStep y (f v)) l ∧ lnSum f (lnStep (x + y) (f v)) l = x + lnSum f (lnStep y (f v)) l)
    by_cases hv : f v < 0
    · rw [lnStep_neg (.inl hv), lnStep_neg (.inl hv), lnSum_open]
      exact .inl ⟨by decide, rfl⟩
    · rw [lnStep_add (L := x + y) (by omega), lnStep_add (L := y) (by omega), Int.add_assoc]
      exact ih (y + f v) (by omega)
/-- the lines of two lists, one behind the other -/
theorem lnSum_two (f : Quad → Int) (a b : List Quad) (h : -1 ≤ lnSum f 0 a) : lnSum f 0 (a ++ b) = if lnSum f 0 a < 0 ∨ lnSum f 0 b < 0 then -1 else lnSum f 0 a + lnSum f 0 b := by
  rw [lnSum_append]
  obtain ⟨A, hA⟩ : ∃ A, lnSum f 0 a = A := ⟨_, rfl⟩
  rw [hA] at h ⊢
  by_cases h0 : A < 0
  · obtain rfl : A = -1 := by omega
    rw [lnSum_open, if_pos (.inl (by decide))]
  · have hs := lnSum_shift f b A (by omega) 0 (by decide)
    rw [Int.add_zero] at hs
    rcases hs with ⟨h1, h2⟩ | ⟨h1, h2⟩
    · rw [h2, if_pos (.inr h1)]
    · rw [h2, if_neg (by omega)]
/-- what the law asks of the three sums -/
def SumsOf (x y z l m o p q all : Int) : Prop := z = x + y ∧ all = p + q ∧ o = (if l < 0 ∨ m < 0 then -1 else l + m) ∧ (0 ≤ x ∧ x ≤ 1048576) ∧ (0 ≤ y ∧ y ≤ 1048576) ∧ (0 ≤ p ∧ p ≤ 1048576) ∧ (0 ≤ q ∧ q ≤ 1048576) ∧ (-1 ≤ l ∧ l ≤ 12582912) ∧ (-1 ≤ m ∧ m ≤ 12582912)
theorem ln_le {leaf : Bool} {es ks : List Quad} (h : ndMay leaf es ks) : -1 ≤ sumL leaf es ks ∧ sumL leaf es ks ≤ 12582912 := by
  rcases h with ⟨rfl, rfl, hall, _, h12, _⟩ | ⟨rfl, rfl, hall, _, h12, _⟩
  · have := lnSum_range linesOfE 1048576 es 0 (fun y hy => by have := hall y hy; unfold entMay at this; unfold linesOfE; omega) (by decide) (by decide)
    simp only [Int.lt_irrefl, if_false] at this
    show -1 ≤ lnSum linesOfE 0 es ∧ lnSum linesOfE 0 es ≤ _
    omega
  · have := lnSum_range linesOfK 1048576 ks 0 (fun y hy => by have := hall y hy; unfold kidMay at this; unfold linesOfK; omega) (by decide) (by decide)
    simp only [Int.lt_irrefl, if_false] at this
    show -1 ≤ lnSum linesOfK 0 ks ∧ lnSum linesOfK 0 ks ≤ _
    omega
theorem sum_pos (f : Quad → Int) (l : List Quad) (h : ∀ x ∈ l, 0 ≤ f x) : 0 ≤ sumOf f l := by
  induction l with
  | nil => exact Int.le_refl _
  | cons x l ih =>
    have a := h x (by simp)
    have b := ih (fun y hy => h y (by simp [hy]))
    simp only [sumOf]; omega
theorem sb_le {leaf : Bool} {es ks : List Quad} (h : ndMay leaf es ks) : (0 ≤ sumB leaf es ks ∧ sumB leaf es ks ≤ 1048576) ∧ (0 ≤ sumS leaf es ks ∧ sumS leaf es ks ≤ 1048576) := by
  rcases h with ⟨rfl, rfl, hall, _, h12, hs⟩ | ⟨rfl, rfl, hall, _, h12, hs, ht⟩
  · have := sum_pos lenOf es (fun y hy => by have := hall y hy; unfold entMay at this; unfold lenOf; omega)
    show (0 ≤ sumOf lenOf es ∧ sumOf lenOf es ≤ _) ∧ (0 ≤ (es.length : Int) ∧ (es.length : Int) ≤ _)
    omega
  · have a := sum_pos bytesOfKid ks (fun y hy => by have := hall y hy; unfold kidMay at this; unfold bytesOfKid; omega)
    have b := sum_pos scrapsOfKid ks (fun y hy => by have := hall y hy; unfold kidMay at this; unfold scrapsOfKid; omega)
    show (0 ≤ sumOf bytesOfKid ks ∧ sumOf bytesOfKid ks ≤ _) ∧ (0 ≤ sumOf scrapsOfKid ks ∧ sumOf scrapsOfKid ks ≤ _)
    omega
theorem sums_leaf {es : List Quad} {k : Nat} (ha : ndMay true (es.take k) []) (hb : ndMay true (es.drop k) []) :
    SumsOf (sumB true (es.take k) []) (sumB true (es.drop k) []) (sumB true es []) (sumL true (es.take k) []) (sumL true (es.drop k) []) (sumL true es []) (sumS true (es.take k) []) (sumS true (es.drop k) []) (sumS true es []) := by
  refine ⟨?_, ?_, ?_, (sb_le ha).1, (sb_le hb).1, (sb_le ha).2, (sb_le hb).2, ln_le ha, ln_le hb⟩
  · show sumOf lenOf es = sumOf lenOf (es.take k) + sumOf lenOf (es.drop k)
    rw [← sumOf_append, List.take_append_drop]
  · show (es.length : Int) = ((es.take k).length : Int) + ((es.drop k).length : Int)
    have := congrArg List.length (List.take_append_drop k es)
    rw [List.length_append] at this
    omega
  · have h := lnSum_two linesOfE (es.take k) (es.drop k) (ln_le ha).1
    rw [List.take_append_drop] at h
    exact h
theorem sums_inner {ks : List Quad} {k : Nat} (ha : ndMay false [] (ks.take k)) (hb : ndMay false [] (ks.drop k)) :
    SumsOf (sumB false [] (ks.take k)) (sumB false [] (ks.drop k)) (sumB false [] ks) (sumL false [] (ks.take k)) (sumL false [] (ks.drop k)) (sumL false [] ks) (sumS false [] (ks.take k)) (sumS false [] (ks.drop k)) (sumS false [] ks) := by
  refine ⟨?_, ?_, ?_, (sb_le ha).1, (sb_le hb).1, (sb_le ha).2, (sb_le hb).2, ln_le ha, ln_le hb⟩
  · show sumOf bytesOfKid ks = sumOf bytesOfKid (ks.take k) + sumOf bytesOfKid (ks.drop k)
    rw [← sumOf_append, List.take_append_drop]
  · show sumOf scrapsOfKid ks = sumOf scrapsOfKid (ks.take k) + sumOf scrapsOfKid (ks.drop k)
    rw [← sumOf_append, List.take_append_drop]
  · have h := lnSum_two linesOfK (ks.take k) (ks.drop k) (ln_le ha).1
    rw [List.take_append_drop] at h
    exact h
end Go.Oct
