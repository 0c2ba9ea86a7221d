/- Which superblock counts, of two places that are known. -/
import Derived.Test.YtdekfbmjhmfmaaaSupL
namespace Go.Proofs.Ytdekfbmjhmfmaaa
open Go.RowKit Go.Oct

theorem sz1 (w : World) (o : Obj) : (w.alloc o).heap.size = w.heap.size + 1 := by simp
theorem below_row {w0 w w' : World} {row : Option Nat} (h : Below w0.heap.size w0 w) (k : w.grownBy w' row) (hne : ∀ r, row = some r → w0.heap.size ≤ r) : Below w0.heap.size w0 w' :=
  ⟨k.os.trans h.os, k.tape.trans h.tape, k.output.trans h.output, Nat.le_trans h.size k.size, fun i hi => (k.block i (by have := h.size; omega) (by intro e; have := hne i e.symm; omega)).trans (h.block i hi)⟩
theorem below_grownBy {w w' : World} (h : Below w.heap.size w w') (row : Option Nat) : w.grownBy w' row := ⟨h.os, h.tape, h.output, h.size, fun i hi _ => h.block i hi⟩
theorem own_grown {w w' : World} {base g n cp f : Nat} {e : TypeId} {size : Nat} {xs : List Value} (h : w.ownsRow base e size (.slice (some ⟨g, 0, none⟩) n cp) n xs) (k : w.grownBy w' (some f)) (hne : g ≠ f) : w'.ownsRow base e size (.slice (some ⟨g, 0, none⟩) n cp) n xs :=
  h.kept k (.inr (by intro e; exact hne (Option.some.inj e)))
theorem place_is (n : Int) (p : Int) (hp : 64 * (n % 2) = p) (w : World) : Calls Try.prog 36 #[.int .i64 n] w fun e w' => e = .returned (.int .i64 p) ∧ Below w.heap.size w w' := by
  subst hp
  exact (place_any n w).mono fun _ _ ⟨h1, h2⟩ => ⟨h1, h2 ▸ Below.refl _ _⟩
theorem part0 {X Y : List UInt8} (hX : X.length = 64) : supPart (X ++ Y) 0 = X := by
  unfold supPart
  rw [Nat.mul_zero, List.drop_zero, ← hX, List.take_left]
theorem part1 {X Y : List UInt8} (hX : X.length = 64) (hY : Y.length = 64) : supPart (X ++ Y) 1 = Y := by
  unfold supPart
  rw [Nat.mul_one, ← hX, List.drop_left, hX, ← hY, List.take_length]
theorem has0 {X Y : List UInt8} (hX : X.length = 64) : supHas (X ++ Y) 0 ↔ supOpen X = 0 ∧ fld X 8 6 % 2 = 0 := by
  unfold supHas
  rw [part0 hX]
  exact ⟨fun h => h.2, fun h => ⟨by simp; omega, h⟩⟩
theorem has1 {X Y : List UInt8} (hX : X.length = 64) (hY : Y.length = 64) : supHas (X ++ Y) 1 ↔ supOpen Y = 0 ∧ fld Y 8 6 % 2 = 1 := by
  unfold supHas
  rw [part1 hX hY]
  exact ⟨fun h => h.2, fun h => ⟨by simp; omega, h⟩⟩
theorem bst1 {X Y : List UInt8} (hX : X.length = 64) : bst (X ++ Y) 1 = if supOpen X = 0 ∧ fld X 8 6 % 2 = 0 then some 0 else none := by
  by_cases h : supOpen X = 0 ∧ fld X 8 6 % 2 = 0
  · rw [if_pos h]
    exact bst_yes (i := 0) ⟨(has0 hX).2 h, by rw [part0 hX]; exact Nat.lt_of_lt_of_le Nat.zero_lt_one (supOpen_gen h.1)⟩
  · rw [if_neg h]
    exact bst_no (i := 0) (fun k => h ((has0 hX).1 k.1))
theorem bval0 {X Y : List UInt8} (hX : X.length = 64) (a k : Nat) : bval (X ++ Y) (some 0) a k = fld X a k := by rw [bval, part0 hX]
theorem bval1 {X Y : List UInt8} (hX : X.length = 64) (hY : Y.length = 64) (a k : Nat) : bval (X ++ Y) (some 1) a k = fld Y a k := by rw [bval, part1 hX hY]
theorem bst2_first {X Y : List UInt8} (hX : X.length = 64) (hY : Y.length = 64) (h : supOpen X = 0 ∧ fld X 8 6 % 2 = 0) (hn : ¬ (supOpen Y = 0 ∧ fld Y 8 6 % 2 = 1 ∧ fld X 8 6 < fld Y 8 6)) : bst (X ++ Y) 2 = some 0 := by
  have e : bst (X ++ Y) 1 = some 0 := by rw [bst1 hX, if_pos h]
  rw [bst_no (i := 1) (fun k => hn ?_), e]
  obtain ⟨k1, k2⟩ := k
  rw [e, bval0 hX, part1 hX hY] at k2
  exact ⟨((has1 hX hY).1 k1).1, ((has1 hX hY).1 k1).2, k2⟩
theorem bst2_second {X Y : List UInt8} (hX : X.length = 64) (hY : Y.length = 64) (h : supOpen Y = 0 ∧ fld Y 8 6 % 2 = 1) (hn : supOpen X = 0 ∧ fld X 8 6 % 2 = 0 → fld X 8 6 < fld Y 8 6) : bst (X ++ Y) 2 = some 1 := by
  refine bst_yes (i := 1) ⟨(has1 hX hY).2 h, ?_⟩
  rw [part1 hX hY, bst1 hX]
  by_cases k : supOpen X = 0 ∧ fld X 8 6 % 2 = 0
  · rw [if_pos k, bval0 hX]; exact hn k
  · rw [if_neg k]; exact Nat.lt_of_lt_of_le Nat.zero_lt_one (supOpen_gen h.1)
theorem bst2_none {X Y : List UInt8} (hX : X.length = 64) (hY : Y.length = 64) (h0 : ¬ (supOpen X = 0 ∧ fld X 8 6 % 2 = 0)) (h1 : ¬ (supOpen Y = 0 ∧ fld Y 8 6 % 2 = 1)) : bst (X ++ Y) 2 = none := by
  rw [bst_no (i := 1) (fun k => h1 ((has1 hX hY).1 k.1)), bst1 hX, if_neg h0]
/-- so many bytes, and bytes 0 behind -/
def padB (X : List UInt8) (i : Nat) : List UInt8 := X.take i ++ List.replicate (64 - (X.take i).length) 0
theorem padB_len (X : List UInt8) (i : Nat) (h : i ≤ 64) : (padB X i).length = 64 := by
  unfold padB
  rw [List.length_append, List.length_replicate]
  have := List.length_take_le i X
  omega
theorem padB_zero (X : List UInt8) : padB X 0 = List.replicate 64 0 := by simp [padB]
theorem padB_full {X : List UInt8} (h : X.length = 64) : padB X 64 = X := by
  unfold padB
  rw [List.take_of_length_le (by omega), h]
  simp
theorem padB_set {X : List UInt8} {i : Nat} (hi : i < X.length) (h : i < 64) : (padB X i).set i (X[i]'hi) = padB X (i + 1) := by
  have hl : (X.take i).length = i := by simp; omega
  have hl1 : (X.take (i + 1)).length = i + 1 := by simp; omega
  unfold padB
  rw [List.set_append_right _ _ (by omega), hl, hl1, Nat.sub_self, show 64 - i = (64 - (i + 1)) + 1 by omega, List.replicate_succ, List.set_cons_zero, List.take_succ_eq_append_getElem hi, List.append_assoc]
  rfl
theorem padB_stay {X : List UInt8} {i : Nat} (hi : X.length ≤ i) : padB X (i + 1) = padB X i := by
  unfold padB
  rw [List.take_of_length_le (by omega), List.take_of_length_le hi]
theorem set_first {X Y : List UInt8} (hX : X.length = 64) {i : Nat} (hi : i < 64) (b : UInt8) : (X ++ Y).set i b = X.set i b ++ Y := List.set_append_left _ _ (by omega)
theorem set_second {X Y : List UInt8} (hX : X.length = 64) {i : Nat} (b : UInt8) : (X ++ Y).set (64 + i) b = X ++ Y.set i b := by
  rw [List.set_append_right _ _ (by omega), hX, Nat.add_sub_cancel_left]
/-- over bytes that stand other bytes are laid -/
def overB (Y B : List UInt8) (i : Nat) : List UInt8 := B.take i ++ Y.drop i
theorem overB_len {Y B : List UInt8} (hY : Y.length = 64) (hB : B.length = 64) (i : Nat) (h : i ≤ 64) : (overB Y B i).length = 64 := by
  simp [overB]; omega
theorem overB_set {Y B : List UInt8} (hY : Y.length = 64) (hB : B.length = 64) {i : Nat} (h : i < 64) : (overB Y B i).set i (B[i]'(by omega)) = overB Y B (i + 1) := by
  have hl : (B.take i).length = i := by simp; omega
  unfold overB
  rw [List.set_append_right _ _ (by omega), hl, Nat.sub_self, List.drop_eq_getElem_cons (by omega), List.set_cons_zero, List.take_succ_eq_append_getElem (by omega), List.append_assoc]
  rfl
theorem overB_full {Y B : List UInt8} (hY : Y.length = 64) (hB : B.length = 64) : overB Y B 64 = B := by
  unfold overB
  rw [List.take_of_length_le (by omega), List.drop_of_length_le (by omega), List.append_nil]
theorem overB_zero (Y B : List UInt8) : overB Y B 0 = Y := by simp [overB]
/-- a superblock that is opened, with its numbers -/
def Opens (X : List UInt8) (g r c t o : Int) : Prop :=
  supOpen X = 0 ∧ ((supOf X 8 6 : Nat) : Int) = g ∧ ((supOf X 14 4 : Nat) : Int) = r ∧ ((supOf X 18 1 : Nat) : Int) = c ∧ ((supOf X 19 4 : Nat) : Int) = t ∧ ((supOf X 23 4 : Nat) : Int) = o
/-- what counts of these bytes -/
def Counts (L : List UInt8) (g r c t o : Int) : Prop :=
  ((bval L (bst L 2) 8 6 : Nat) : Int) = g ∧ ((bval L (bst L 2) 14 4 : Nat) : Int) = r ∧ ((bval L (bst L 2) 18 1 : Nat) : Int) = c ∧ ((bval L (bst L 2) 19 4 : Nat) : Int) = t ∧ ((bval L (bst L 2) 23 4 : Nat) : Int) = o ∧ (bst L 2).isSome = true
theorem opens_fld {X : List UInt8} {g r c t o : Int} (h : Opens X g r c t o) : ((fld X 8 6 : Nat) : Int) = g ∧ ((fld X 14 4 : Nat) : Int) = r ∧ ((fld X 18 1 : Nat) : Int) = c ∧ ((fld X 19 4 : Nat) : Int) = t ∧ ((fld X 23 4 : Nat) : Int) = o := by
  obtain ⟨h0, h1⟩ := h
  simp only [supOf, h0, if_true] at h1
  exact h1
theorem counts_first {X Y : List UInt8} (hX : X.length = 64) (hY : Y.length = 64) {g r c t o : Int} (h : Opens X g r c t o) (hg : g % 2 = 0) (hn : ¬ (supOpen Y = 0 ∧ fld Y 8 6 % 2 = 1 ∧ fld X 8 6 < fld Y 8 6)) : Counts (X ++ Y) g r c t o := by
  have hf := opens_fld h
  have e := bst2_first hX hY ⟨h.1, by have := hf.1; omega⟩ hn
  unfold Counts
  rw [e]
  simp only [bval0 hX]
  exact ⟨hf.1, hf.2.1, hf.2.2.1, hf.2.2.2.1, hf.2.2.2.2, rfl⟩
theorem counts_second {X Y : List UInt8} (hX : X.length = 64) (hY : Y.length = 64) {g r c t o : Int} (h : Opens Y g r c t o) (hg : g % 2 = 1) (hn : supOpen X = 0 ∧ fld X 8 6 % 2 = 0 → fld X 8 6 < fld Y 8 6) : Counts (X ++ Y) g r c t o := by
  have hf := opens_fld h
  have e := bst2_second hX hY ⟨h.1, by have := hf.1; omega⟩ hn
  unfold Counts
  rw [e]
  simp only [bval1 hX hY]
  exact ⟨hf.1, hf.2.1, hf.2.2.1, hf.2.2.2.1, hf.2.2.2.2, rfl⟩
end Go.Proofs.Ytdekfbmjhmfmaaa
