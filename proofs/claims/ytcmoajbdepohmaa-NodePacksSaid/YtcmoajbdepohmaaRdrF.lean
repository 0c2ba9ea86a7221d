/- A reader stands while a block of another kind is written. -/
import Derived.Test.YtcmoajbdepohmaaRdrB
namespace Go.Proofs.Ytcmoajbdepohmaa
open Go.RowKit Go.Oct

theorem own_far {w w' : World} {base : Nat} {e t : TypeId} {size n s : Nat} {v : Value} {xs : List Value} {cs : Array Value} {f : Nat × Nat} (h : w.ownsRow base e size v n xs) (k : w.grownBy w' (some s))
    (hs : w.heap[s]? = some (.cells cs t f)) (ht : e ≠ t) : w'.ownsRow base e size v n xs := by
  refine h.kept k ?_
  rcases h.2 with ⟨rfl, _⟩ | ⟨g', cap', cur, rfl, hb, hg', _⟩
  · exact .inl rfl
  · right
    intro e'
    simp only [Value.ownBlock, Option.some.injEq] at e'
    subst e'
    rw [hs] at hg'
    simp only [Option.some.injEq, Obj.cells.injEq] at hg'
    exact ht hg'.2.1.symm
theorem Reader.far {base : Nat} {w w' : World} {g s : Nat} {l : List UInt8} {at_ : Nat} {cs : Array Value} {t : TypeId} {f : Nat × Nat} (h : Reader base w g l at_) (k : w.grownBy w' (some s))
    (hs : w.heap[s]? = some (.cells cs t f)) (h1 : t ≠ 5) (h2 : t ≠ 76) : Reader base w' g l at_ := by
  obtain ⟨hb, hl, hm, gb, cp, hg, ho⟩ := h
  refine ⟨hb, hl, hm, gb, cp, ?_, own_far ho k hs (Ne.symm h1)⟩
  rw [← hg]
  refine k.block g (Array.getElem?_eq_some_iff.1 hg).1 ?_
  intro e
  obtain rfl := Option.some.inj e
  rw [hs] at hg
  simp only [Option.some.injEq, Obj.cells.injEq] at hg
  exact h2 hg.2.1
theorem Reader.lt {base : Nat} {w : World} {g : Nat} {l : List UInt8} {at_ : Nat} (h : Reader base w g l at_) : base ≤ g ∧ g < w.heap.size := by
  obtain ⟨hb, _, _, gb, cp, h4, _⟩ := h
  exact ⟨hb, (Array.getElem?_eq_some_iff.1 h4).1⟩
theorem below_grown {w0 w w' : World} {B g : Nat} (h : Below B w0 w) (k : w.grownBy w' (some g)) (hg : B ≤ g) (hB : B ≤ w.heap.size) : Below B w0 w' :=
  h.trans ⟨k.os, k.tape, k.output, k.size, fun i hi => k.block i (by omega) (by intro e; have := Option.some.inj e; omega)⟩
theorem grown_setCell (w : World) (p : Addr) (v : Value) : w.grownBy (w.setCell p v) (some p.block) :=
  ⟨rfl, rfl, rfl, by simp [World.setCell], fun i _ hi => Below.heap_setCell _ _ _ _ (by intro e; exact hi (by rw [e]))⟩
theorem box_on {w w1 w2 : World} {b g : Nat} {x : Obj} (h : w.heap[b]? = some x) (k : Below w.heap.size w w1) (hx : w1.grownBy w2 (some g)) (hb : b ≠ g) : w2.heap[b]? = some x :=
  (hx.block b (by have := (Array.getElem?_eq_some_iff.1 h).1; have := k.size; omega) (by intro e; exact hb (Option.some.inj e))).trans ((k.block b (Array.getElem?_eq_some_iff.1 h).1).trans h)
end Go.Proofs.Ytcmoajbdepohmaa
