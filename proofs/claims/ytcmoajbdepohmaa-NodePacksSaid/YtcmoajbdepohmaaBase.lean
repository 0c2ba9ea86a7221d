/- Plain words for slices that are read: a value is a slice of so many elements, and these are its cells; a slice of bytes reads as a list. No program is named here. -/
import Derived.WalkKit
import Derived.Lib.Hide
namespace Go.Oct
open Go.RowKit
/-- v is a slice of n elements whose cells are xs -/
def Has (w : World) (v : Value) (n : Nat) (xs : List Value) : Prop :=
  ∃ a cap, v = .slice a n cap ∧ n ≤ cap ∧ cap ≤ maxLen ∧ (xs ≠ [] → ∃ b o, a = some ⟨b, o, none⟩ ∧ ∀ i x, xs[i]? = some x → w.cell? ⟨b, o + i, none⟩ = some x)
/-- bytes as cells -/
def bs (l : List UInt8) : List Value := l.map fun b => .int .u8 (b.toNat : Int)
theorem bs_length (l : List UInt8) : (bs l).length = l.length := by simp [bs]
theorem bs_append (l m : List UInt8) : bs (l ++ m) = bs l ++ bs m := by simp [bs]
theorem bs_get (l : List UInt8) (i : Nat) (h : i < l.length) : (bs l)[i]? = some (.int .u8 (l[i].toNat : Int)) := by simp [bs, h]
/-- v is a slice of bytes that reads as l -/
def Bytes (w : World) (v : Value) (l : List UInt8) : Prop := Has w v l.length (bs l)
theorem Has.keep {w w' : World} {v : Value} {n : Nat} {xs : List Value} (h : Has w v n xs) (k : ∀ a x, w.cell? a = some x → w'.cell? a = some x) : Has w' v n xs := by
  obtain ⟨a, cap, hv, h1, h2, h3⟩ := h
  refine ⟨a, cap, hv, h1, h2, fun hx => ?_⟩
  obtain ⟨b, o, ha, hc⟩ := h3 hx
  exact ⟨b, o, ha, fun i x hi => k _ _ (hc i x hi)⟩
theorem Has.below {w w' : World} {v : Value} {n : Nat} {xs : List Value} (h : Has w v n xs) (k : Below w.heap.size w w') : Has w' v n xs :=
  h.keep fun a _ ha => (k.cell (World.block_lt_of_cell? w a ha)).trans ha
theorem Bytes.below {w w' : World} {v : Value} {l : List UInt8} (h : Bytes w v l) (k : Below w.heap.size w w') : Bytes w' v l := Has.below h k
theorem Bytes.open {w : World} {v : Value} {l : List UInt8} (h : Bytes w v l) : ∃ a cap, v = .slice a l.length cap ∧ l.length ≤ cap ∧ cap ≤ maxLen ∧
    (0 < l.length → ∃ b o, a = some ⟨b, o, none⟩ ∧ ∀ i (hi : i < l.length), w.cell? ⟨b, o + i, none⟩ = some (.int .u8 (l[i].toNat : Int))) := by
  obtain ⟨a, cap, hv, h1, h2, h3⟩ := h
  refine ⟨a, cap, hv, h1, h2, fun hl => ?_⟩
  obtain ⟨b, o, ha, hc⟩ := h3 (by intro e; have := congrArg List.length e; rw [bs_length] at this; simp at this; simp [this] at hl)
  exact ⟨b, o, ha, fun i hi => hc i _ (bs_get l i hi)⟩
theorem Has.open {w : World} {v : Value} {n : Nat} {xs : List Value} (h : Has w v n xs) : ∃ a cap, v = .slice a n cap ∧ n ≤ cap ∧ cap ≤ maxLen ∧
    (0 < xs.length → ∃ b o, a = some ⟨b, o, none⟩ ∧ ∀ i (hi : i < xs.length), w.cell? ⟨b, o + i, none⟩ = some xs[i]) := by
  obtain ⟨a, cap, hv, h1, h2, h3⟩ := h
  refine ⟨a, cap, hv, h1, h2, fun hl => ?_⟩
  obtain ⟨b, o, ha, hc⟩ := h3 (by intro e; simp [e] at hl)
  exact ⟨b, o, ha, fun i hi => hc i _ (by simp [hi])⟩
theorem World.cell_block {w : World} {b : Nat} {cs : Array Value} {t : TypeId} {f : Nat × Nat} (h : w.heap[b]? = some (.cells cs t f)) (i : Nat) : w.cell? ⟨b, i, none⟩ = cs[i]? := by
  simp [World.cell?, h]
/-- a slice over a block that is known -/
theorem Has.block {w : World} {b : Nat} {cs : Array Value} {t : TypeId} {f : Nat × Nat} (h : w.heap[b]? = some (.cells cs t f)) {n o cap : Nat} {xs : List Value}
    (hn : n ≤ cap) (hc : cap ≤ maxLen) (hx : ∀ i x, xs[i]? = some x → cs[o + i]? = some x) : Has w (.slice (some ⟨b, o, none⟩) n cap) n xs :=
  ⟨_, _, rfl, hn, hc, fun _ => ⟨b, o, rfl, fun i x hi => (World.cell_block h (o + i)).trans (hx i x hi)⟩⟩
theorem heap_keep {w : World} {b : Nat} {o : Obj} (h : w.heap[b]? = some o) (o' : Obj) : (w.alloc o').heap[b]? = some o := by
  have hb : b < w.heap.size := (Array.getElem?_eq_some_iff.1 h).1
  rw [heap_alloc_old w o' hb]; exact h
theorem below_new {a w : World} (h : Below a.heap.size a w) (o : Obj) : Below a.heap.size a (w.alloc o) := h.alloc h.size o
theorem Has.alloc {w : World} {v : Value} {n : Nat} {xs : List Value} (h : Has w v n xs) (o : Obj) : Has (w.alloc o) v n xs :=
  h.below ((Below.refl _ _).alloc (Nat.le_refl _) o)
theorem Bytes.alloc {w : World} {v : Value} {l : List UInt8} (h : Bytes w v l) (o : Obj) : Bytes (w.alloc o) v l := Has.alloc h o
theorem heap_last {w : World} {b : Nat} {o : Obj} (h : b = w.heap.size) : (w.alloc o).heap[b]? = some o := by
  subst h; exact heap_alloc_new w o
/-- the bytes of a block that is known whole -/
theorem Bytes.block {w : World} {b : Nat} {cs : Array Value} {t : TypeId} {f : Nat × Nat} (h : w.heap[b]? = some (.cells cs t f)) {n cap : Nat} {l : List UInt8}
    (hn : n = l.length) (hc : n ≤ cap) (hm : cap ≤ maxLen) (hx : cs.toList.take n = bs l) : Bytes w (.slice (some ⟨b, 0, none⟩) n cap) l := by
  subst hn
  refine Has.block h hc hm (fun i x hi => ?_)
  rw [← hx, List.getElem?_take] at hi
  split at hi
  · simpa using hi
  · cases hi
theorem ret_bool {a : Bool} (h : a = true) : Ending.returned (.bool a) = .returned (.bool true) := by rw [h]
theorem beq_u32 {a b : Nat} (h : a = b) : ((a : Int) == (b : Int)) = true := by rw [h]; simp
/-- what the call owns reads as it is -/
theorem Has.own {w : World} {base : Nat} {e : TypeId} {size n : Nat} {v : Value} {xs : List Value} (h : w.ownsRow base e size v n xs) : Has w v n xs := by
  rcases h.2 with ⟨rfl, rfl⟩ | ⟨g, cap, cur, rfl, _, hg, hnc, hcm, hcs, ht⟩
  · have : xs = [] := List.eq_nil_of_length_eq_zero (by simpa using h.1)
    subst this
    exact ⟨none, 0, rfl, Nat.le_refl _, by decide, fun h => by simp at h⟩
  · refine ⟨_, cap, rfl, hnc, hcm, fun _ => ⟨g, 0, rfl, fun i x hi => ?_⟩⟩
    rw [World.cell_block hg]
    rw [← ht, List.getElem?_take] at hi
    split at hi
    · simpa using hi
    · cases hi
theorem Bytes.own {w : World} {base : Nat} {e : TypeId} {v : Value} {l : List UInt8} (h : w.ownsRow base e 1 v l.length (bs l)) : Bytes w v l := Has.own h
theorem bs_set (l : List UInt8) (j : Nat) (y : UInt8) : bs (l.set j y) = (bs l).set j (.int .u8 (y.toNat : Int)) := by simp [bs, List.map_set]
theorem Bytes.nil (W : World) : Bytes W (.slice none 0 0) [] := ⟨none, 0, rfl, Nat.le_refl _, by decide, fun h => by simp [bs] at h⟩
/-- the first n bytes -/
theorem Bytes.take {w : World} {a : Option Addr} {len cap : Nat} {l : List UInt8} (h : Bytes w (.slice a len cap) l) (n : Nat) (hn : n ≤ len) : Bytes w (.slice a n cap) (l.take n) := by
  obtain ⟨a', cap', hv, h1, h2, h3⟩ := h
  simp only [Value.slice.injEq] at hv
  obtain ⟨rfl, rfl, rfl⟩ := hv
  have hl : (l.take n).length = n := by simp; omega
  unfold Bytes
  rw [hl]
  refine ⟨a, cap, rfl, by omega, h2, fun hx => ?_⟩
  have hne : bs l ≠ [] := by
    intro e
    have := congrArg List.length e
    rw [bs_length] at this
    apply hx
    have : l = [] := List.eq_nil_of_length_eq_zero (by simpa using this)
    subst this
    simp [bs]
  obtain ⟨b, o, ha, hc⟩ := h3 hne
  refine ⟨b, o, ha, fun i x hi => hc i x ?_⟩
  have : bs (l.take n) = (bs l).take n := by simp [bs, List.map_take]
  rw [this, List.getElem?_take] at hi
  split at hi
  · exact hi
  · cases hi
/-- the bytes of three texts, their bits turned in one another -/
def mix (x y z : List UInt8) : List UInt8 := List.zipWith (fun p c => p ^^^ c) (List.zipWith (fun a b => a ^^^ b) x y) z
/-- what the call owns stays owned while memory is only added to -/
theorem own_keep {w w' : World} {base : Nat} {e : TypeId} {size n : Nat} {v : Value} {xs : List Value} (h : w.ownsRow base e size v n xs) (k : Below w.heap.size w w') : w'.ownsRow base e size v n xs := by
  refine h.kept (row := none) ⟨k.os, k.tape, k.output, k.size, fun i hi _ => k.block i hi⟩ ?_
  cases v.ownBlock <;> simp
end Go.Oct
