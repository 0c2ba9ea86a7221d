/- Plain laws of nodes (layer 13). No program is named here. -/
import Derived.Test.YtcmoajbdepohmaaLePlain
import Derived.Test.YtcmoajbdepohmaaBase
namespace Go.Oct
/-- an entry: source, at, length, lines; a kid: page, bytes, lines, scraps -/
abbrev Quad := Int × Int × Int × Int
def qs : List Quad → List Value
  | [] => []
  | v :: l => .int .i64 v.1 :: .int .i64 v.2.1 :: .int .i64 v.2.2.1 :: .int .i64 v.2.2.2 :: qs l
theorem qs_length (l : List Quad) : (qs l).length = l.length * 4 := by
  induction l with
  | nil => rfl
  | cons v l ih => simp only [qs, List.length_cons, ih]; omega
theorem qs_append (l m : List Quad) : qs (l ++ m) = qs l ++ qs m := by
  induction l with
  | nil => rfl
  | cons v l ih => simp only [qs, List.cons_append, ih]
theorem qs_get (l : List Quad) (i : Nat) (h : i < l.length) : (qs l)[i * 4]? = some (.int .i64 l[i].1) ∧ (qs l)[i * 4 + 1]? = some (.int .i64 l[i].2.1) ∧ (qs l)[i * 4 + 2]? = some (.int .i64 l[i].2.2.1) ∧ (qs l)[i * 4 + 3]? = some (.int .i64 l[i].2.2.2) := by
  induction l generalizing i with
  | nil => simp at h
  | cons v l ih =>
    cases i with
    | zero => simp [qs]
    | succ i =>
      have := ih i (by simpa using h)
      have e : (i + 1) * 4 = i * 4 + 4 := by omega
      rw [e]
      simpa [qs] using this
theorem qs_one (l : List Quad) : ∀ u ∈ qs l, u.oneCell' = true := by
  induction l with
  | nil => intro u hu; simp [qs] at hu
  | cons v l ih =>
    intro u hu
    simp only [qs, List.mem_cons] at hu
    rcases hu with rfl | rfl | rfl | rfl | hu
    · rfl
    · rfl
    · rfl
    · rfl
    · exact ih u hu
theorem qs_take (l : List Quad) (n : Nat) : qs (l.take n) = (qs l).take (n * 4) := by
  induction l generalizing n with
  | nil => simp [qs]
  | cons v l ih =>
    cases n with
    | zero => simp [qs]
    | succ n => rw [show (n + 1) * 4 = n * 4 + 4 by omega]; simp [qs, ih]
theorem qs_drop (l : List Quad) (n : Nat) : qs (l.drop n) = (qs l).drop (n * 4) := by
  induction l generalizing n with
  | nil => simp [qs]
  | cons v l ih =>
    cases n with
    | zero => simp
    | succ n => rw [show (n + 1) * 4 = n * 4 + 4 by omega]; simp [qs, ih]
def entMay (x : Quad) : Prop := (x.1 = 0 ∨ x.1 = 1) ∧ 0 ≤ x.2.1 ∧ x.2.1 ≤ 16777216 ∧ 1 ≤ x.2.2.1 ∧ x.2.2.1 ≤ 16777216 - x.2.1 ∧ x.2.2.1 ≤ 1048576 ∧ -1 ≤ x.2.2.2 ∧ x.2.2.2 ≤ x.2.2.1 ∧ (x.1 = 1 ∨ x.2.2.2 = -1)
instance (x : Quad) : Decidable (entMay x) := by unfold entMay; infer_instance
def kidMay (x : Quad) : Prop := 1 ≤ x.1 ∧ x.1 < 1048576 ∧ 1 ≤ x.2.1 ∧ x.2.1 ≤ 1048576 ∧ -1 ≤ x.2.2.1 ∧ x.2.2.1 ≤ x.2.1 ∧ 1 ≤ x.2.2.2 ∧ x.2.2.2 ≤ x.2.1
instance (x : Quad) : Decidable (kidMay x) := by unfold kidMay; infer_instance
def sumOf (f : Quad → Int) : List Quad → Int
  | [] => 0
  | x :: l => f x + sumOf f l
theorem sumOf_append (f : Quad → Int) (l m : List Quad) : sumOf f (l ++ m) = sumOf f l + sumOf f m := by
  induction l with
  | nil => simp [sumOf]
  | cons x l ih => simp only [List.cons_append, sumOf, ih]; omega
theorem sumOf_le (f : Quad → Int) (c : Int) (l : List Quad) (h : ∀ x ∈ l, 0 ≤ f x ∧ f x ≤ c) : 0 ≤ sumOf f l ∧ sumOf f l ≤ c * l.length := by
  induction l with
  | nil => simp [sumOf]
  | cons x l ih =>
    have h1 := h x (List.mem_cons_self ..)
    have h2 := ih (fun y hy => h y (List.mem_cons_of_mem _ hy))
    simp only [sumOf, List.length_cons]
    refine ⟨by omega, ?_⟩
    have : c * ((l.length + 1 : Nat) : Int) = c * (l.length : Int) + c := by push_cast; rw [Int.mul_add, Int.mul_one]
    rw [this]
    omega
def lenOf (x : Quad) : Int := x.2.2.1
def bytesOfKid (x : Quad) : Int := x.2.1
def scrapsOfKid (x : Quad) : Int := x.2.2.2
/-- may a node be: a leaf of entries, or an inner node of kids -/
def ndMay (leaf : Bool) (es ks : List Quad) : Prop :=
  (leaf = true ∧ ks = [] ∧ (∀ x ∈ es, entMay x) ∧ 1 ≤ es.length ∧ es.length ≤ 12 ∧ sumOf lenOf es ≤ 1048576) ∨
  (leaf = false ∧ es = [] ∧ (∀ x ∈ ks, kidMay x) ∧ 2 ≤ ks.length ∧ ks.length ≤ 12 ∧ sumOf bytesOfKid ks ≤ 1048576 ∧ sumOf scrapsOfKid ks ≤ 1024)
instance (leaf : Bool) (es ks : List Quad) : Decidable (ndMay leaf es ks) := by unfold ndMay; infer_instance
end Go.Oct
