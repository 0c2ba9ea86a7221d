/- Plain laws of the versions that are kept: which may be, a commit, a turn, two stacks. No program is named here. -/
import Derived.Test.YtcmoajbdepohmaaLePlain
import Derived.Test.YtcmoajbdepohmaaBase
namespace Go.Oct
open Go.RowKit
/-- a version: its root, its bytes -/
abbrev Ver := Int × Int
def verMay (v : Ver) : Prop := 0 ≤ v.1 ∧ v.1 < 1048576 ∧ 0 ≤ v.2 ∧ v.2 ≤ 1048576 ∧ (v.1 = 0 ↔ v.2 = 0)
instance (v : Ver) : Decidable (verMay v) := by unfold verMay; infer_instance
def listMay (l : List Ver) : Prop := 1 ≤ l.length ∧ l.length ≤ 16 ∧ ∀ v ∈ l, verMay v
instance (l : List Ver) : Decidable (listMay l) := by unfold listMay; infer_instance
def pastMay (l : List Ver) (c : Int) : Prop := 0 ≤ c ∧ c < l.length ∧ listMay l
instance (l : List Ver) (c : Int) : Decidable (pastMay l c) := by unfold pastMay; infer_instance
/-- versions as cells -/
def vs : List Ver → List Value
  | [] => []
  | v :: l => .int .i64 v.1 :: .int .i64 v.2 :: vs l
theorem vs_length (l : List Ver) : (vs l).length = l.length * 2 := by
  induction l with
  | nil => rfl
  | cons v l ih => simp only [vs, List.length_cons, ih]; omega
theorem vs_append (l m : List Ver) : vs (l ++ m) = vs l ++ vs m := by
  induction l with
  | nil => rfl
  | cons v l ih => simp only [List.cons_append, vs, ih]
theorem vs_get (l : List Ver) (i : Nat) (h : i < l.length) : (vs l)[i * 2]? = some (.int .i64 l[i].1) ∧ (vs l)[i * 2 + 1]? = some (.int .i64 l[i].2) := by
  induction l generalizing i with
  | nil => simp at h
  | cons v l ih =>
    cases i with
    | zero => simp [vs]
    | succ i =>
      have := ih i (by simpa using h)
      rw [show (i + 1) * 2 = i * 2 + 1 + 1 by omega]
      simpa [vs] using this
theorem vs_one (l : List Ver) : ∀ u ∈ vs l, u.oneCell' = true := by
  induction l with
  | nil => simp [vs]
  | cons v l ih => intro u hu; simp only [vs, List.mem_cons] at hu; rcases hu with rfl | rfl | hu; rfl; rfl; exact ih u hu
theorem vs_take (l : List Ver) (n : Nat) : vs (l.take n) = (vs l).take (n * 2) := by
  induction l generalizing n with
  | nil => simp [vs]
  | cons v l ih =>
    cases n with
    | zero => simp [vs]
    | succ n => rw [show (n + 1) * 2 = n * 2 + 1 + 1 by omega]; simp [vs, ih]
theorem vs_drop (l : List Ver) (n : Nat) : vs (l.drop n) = (vs l).drop (n * 2) := by
  induction l generalizing n with
  | nil => simp [vs]
  | cons v l ih =>
    cases n with
    | zero => simp
    | succ n => rw [show (n + 1) * 2 = n * 2 + 1 + 1 by omega]; simp [vs, ih]
theorem vs_set (l : List Ver) (i : Nat) (a : Int) (h : i < l.length) : (vs l).set (i * 2) (.int .i64 a) = vs (l.set i (a, l[i].2)) := by
  induction l generalizing i with
  | nil => simp at h
  | cons v l ih =>
    cases i with
    | zero => simp [vs]
    | succ i =>
      have := ih i (by simpa using h)
      rw [show (i + 1) * 2 = i * 2 + 1 + 1 by omega]
      simpa [vs] using this
theorem vs_inj {l m : List Ver} (h : vs l = vs m) : l = m := by
  induction l generalizing m with
  | nil => cases m with
    | nil => rfl
    | cons v m => simp [vs] at h
  | cons v l ih =>
    cases m with
    | nil => simp [vs] at h
    | cons u m =>
      simp [vs] at h
      rw [ih h.2.2]
      congr 1
      exact Prod.ext h.1 h.2.1
/-- v is a slice that reads as these versions -/
def Vers (w : World) (v : Value) (l : List Ver) : Prop := Has w v l.length (vs l)
theorem Vers.below {w w' : World} {v : Value} {l : List Ver} (h : Vers w v l) (k : Below w.heap.size w w') : Vers w' v l := Has.below h k
theorem Vers.open {w : World} {v : Value} {l : List Ver} (h : Vers w v l) : ∃ a cap, v = .slice a l.length cap ∧ l.length ≤ cap ∧ cap ≤ maxLen ∧
    (0 < l.length → ∃ b o, a = some ⟨b, o, none⟩ ∧ b < w.heap.size ∧ ∀ i (hi : i < l.length), w.cell? ⟨b, o + i * 2, none⟩ = some (.int .i64 l[i].1) ∧ w.cell? ⟨b, o + i * 2 + 1, none⟩ = some (.int .i64 l[i].2)) := by
  obtain ⟨a, cap, hv, h1, h2, h3⟩ := h
  refine ⟨a, cap, hv, h1, h2, fun hl => ?_⟩
  obtain ⟨b, o, ha, hc⟩ := h3 (by intro e; have := congrArg List.length e; rw [vs_length, List.length_nil] at this; omega)
  have hcell : ∀ i (hi : i < l.length), w.cell? ⟨b, o + i * 2, none⟩ = some (.int .i64 l[i].1) ∧ w.cell? ⟨b, o + i * 2 + 1, none⟩ = some (.int .i64 l[i].2) :=
    fun i hi => ⟨hc _ _ (vs_get l i hi).1, by rw [Nat.add_assoc]; exact hc _ _ (vs_get l i hi).2⟩
  exact ⟨b, o, ha, World.block_lt_of_cell? w _ (hcell 0 hl).1, hcell⟩
/-- the last ones, so many at most -/
def lastOf (most : Nat) (l : List Ver) : List Ver := l.drop (l.length - most)
theorem lastOf_length (most : Nat) (l : List Ver) : (lastOf most l).length = min l.length most := by simp [lastOf]; omega
theorem lastOf_mem {most : Nat} {l : List Ver} {v : Ver} (h : v ∈ lastOf most l) : v ∈ l := List.mem_of_mem_drop h
theorem lastOf_snoc (most : Nat) (l : List Ver) (v : Ver) (h : 1 ≤ most) : lastOf most (l ++ [v]) = lastOf (most - 1) l ++ [v] := by
  unfold lastOf
  rw [List.length_append, List.length_singleton, List.drop_append_of_le_length (by omega)]
  congr 2
  omega
/-- a commit -/
def comCode (l : List Ver) (c : Int) (v : Ver) (most : Int) : Nat := if pastMay l c ∧ verMay v ∧ 1 ≤ most ∧ most ≤ 16 then 0 else 1
def comList (l : List Ver) (c : Int) (v : Ver) (most : Int) : List Ver := if comCode l c v most = 0 then lastOf most.toNat (l.take (c.toNat + 1) ++ [v]) else []
def comCur (l : List Ver) (c : Int) (v : Ver) (most : Int) : Int := if comCode l c v most = 0 then ((comList l c v most).length : Int) - 1 else 0
/-- an undo (by -1), a redo (by 1) -/
def turnCode (l : List Ver) (c d : Int) : Nat := if pastMay l c then (if 0 ≤ c + d ∧ c + d < l.length then 0 else 14) else 1
def turnList (l : List Ver) (c d : Int) : List Ver := if turnCode l c d = 0 then l else []
def turnCur (l : List Ver) (c d : Int) : Int := if turnCode l c d = 0 then c + d else 0
/-- the version that stands -/
def nowOf (l : List Ver) (c : Int) : Ver := if pastMay l c then l.getD c.toNat (0, 0) else (0, 0)
theorem com_ok {l : List Ver} {c : Int} {v : Ver} {most : Int} (h : comCode l c v most = 0) : pastMay l c ∧ verMay v ∧ 1 ≤ most ∧ most ≤ 16 := by
  unfold comCode at h; split at h
  · assumption
  · cases h
/-- a list that may be, committed to, may be -/
theorem com_may {l : List Ver} {c : Int} {v : Ver} {most : Int} (h : comCode l c v most = 0) : pastMay (comList l c v most) (comCur l c v most) := by
  obtain ⟨⟨h1, h2, h3, h4, h5⟩, h6, h7, h8⟩ := com_ok h
  simp only [comCur, comList, h, if_true]
  have hl : (lastOf most.toNat (l.take (c.toNat + 1) ++ [v])).length = min (c.toNat + 2) most.toNat := by
    rw [lastOf_length]; simp; omega
  refine ⟨by rw [hl]; omega, by rw [hl]; omega, by rw [hl]; omega, by rw [hl]; omega, fun x hx => ?_⟩
  have := lastOf_mem hx
  rcases List.mem_append.1 this with h | h
  · exact h5 x (List.mem_of_mem_take h)
  · rw [List.mem_singleton.1 h]; exact h6
/-! ### two stacks -/
/-- what two stacks and a version between them say of a past -/
def stacked (behind : List Ver) (now : Ver) (ahead : List Ver) (l : List Ver) (c : Int) : Prop := l = behind ++ now :: ahead.reverse ∧ c = behind.length
theorem stacked_len {behind ahead l : List Ver} {now : Ver} {c : Int} (h : stacked behind now ahead l c) : l.length = behind.length + 1 + ahead.length := by
  rw [h.1]; simp; omega
theorem stacked_now {behind ahead l : List Ver} {now : Ver} {c : Int} (h : stacked behind now ahead l c) (hm : pastMay l c) : nowOf l c = now := by
  unfold nowOf; rw [if_pos hm, h.1, h.2]; simp
theorem stacked_back {behind ahead l : List Ver} {b now : Ver} {c : Int} (h : stacked (behind ++ [b]) now ahead l c) : stacked behind b (ahead ++ [now]) l (c - 1) := by
  obtain ⟨h1, h2⟩ := h
  exact ⟨by rw [h1]; simp, by rw [h2]; simp⟩
theorem stacked_forth {behind ahead l : List Ver} {a now : Ver} {c : Int} (h : stacked behind now (ahead ++ [a]) l c) : stacked (behind ++ [now]) a ahead l (c + 1) := by
  obtain ⟨h1, h2⟩ := h
  exact ⟨by rw [h1]; simp, by rw [h2]; simp⟩
theorem stacked_com {behind ahead l : List Ver} {now v : Ver} {c most : Int} (h : stacked behind now ahead l c) (hc : comCode l c v most = 0) :
    stacked (lastOf (most.toNat - 1) (behind ++ [now])) v [] (comList l c v most) (comCur l c v most) := by
  obtain ⟨h1, h2⟩ := h
  obtain ⟨hp, hv, m1, m2⟩ := com_ok hc
  have e : l.take (c.toNat + 1) = behind ++ [now] := by
    have hb : (behind ++ [now]).length = c.toNat + 1 := by rw [h2]; simp
    rw [h1, show behind ++ now :: ahead.reverse = (behind ++ [now]) ++ ahead.reverse by simp, ← hb, List.take_left]
  have hl : comList l c v most = lastOf (most.toNat - 1) (behind ++ [now]) ++ [v] := by
    simp only [comList, hc, if_true, e]
    exact lastOf_snoc _ _ _ (by omega)
  refine ⟨by rw [hl]; simp, ?_⟩
  simp only [comCur, hc, if_true, hl]
  simp
end Go.Oct
