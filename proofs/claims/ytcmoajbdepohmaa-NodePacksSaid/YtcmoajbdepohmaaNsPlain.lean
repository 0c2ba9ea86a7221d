/- Plain laws of a node's sum (layer 13). No program is named here. -/
import Derived.Test.YtcmoajbdepohmaaNdPlain
namespace Go.Oct
/-- one step of counting lines: open stays open -/
def lnStep (L l : Int) : Int := if l < 0 ∨ L < 0 then -1 else L + l
def lnSum (f : Quad → Int) : Int → List Quad → Int
  | L, [] => L
  | L, x :: l => lnSum f (lnStep L (f x)) l
theorem lnSum_append (f : Quad → Int) (l m : List Quad) (L : Int) : lnSum f L (l ++ m) = lnSum f (lnSum f L l) m := by
  induction l generalizing L with
  | nil => rfl
  | cons x l ih => exact ih _
theorem lnSum_next (f : Quad → Int) (L : Int) (l : List Quad) (k : Nat) (hk : k < l.length) : lnSum f L (l.take (k + 1)) = lnStep (lnSum f L (l.take k)) (f l[k]) := by
  rw [List.take_succ_eq_append_getElem hk, lnSum_append]; rfl
theorem lnSum_range (f : Quad → Int) (c : Int) (l : List Quad) (L : Int) (h : ∀ x ∈ l, f x ≤ c) (hc : 0 ≤ c) (hL : -1 ≤ L) : -1 ≤ lnSum f L l ∧ lnSum f L l ≤ (if L < 0 then 0 else L) + c * l.length := by
  induction l generalizing L with
  | nil => simp only [lnSum, List.length_nil]; split <;> omega
  | cons x l ih =>
    have hx := h x (List.mem_cons_self ..)
    have hs : -1 ≤ lnStep L (f x) ∧ lnStep L (f x) ≤ (if L < 0 then 0 else L) + c := by
      unfold lnStep; split <;> split <;> omega
    have h2 := ih (lnStep L (f x)) (fun y hy => h y (List.mem_cons_of_mem _ hy)) hs.1
    have : c * ((l.length + 1 : Nat) : Int) = c * (l.length : Int) + c := by push_cast; rw [Int.mul_add, Int.mul_one]
    simp only [lnSum, List.length_cons, this]
    refine ⟨h2.1, Int.le_trans h2.2 ?_⟩
    have h3 := hs.2
    split <;> split <;> omega
def linesOfE (x : Quad) : Int := x.2.2.2
def linesOfK (x : Quad) : Int := x.2.2.1
/-- a node's bytes, line ends, scraps, of a node that may be -/
def sumB (leaf : Bool) (es ks : List Quad) : Int := if leaf then sumOf lenOf es else sumOf bytesOfKid ks
def sumL (leaf : Bool) (es ks : List Quad) : Int := if leaf then lnSum linesOfE 0 es else lnSum linesOfK 0 ks
def sumS (leaf : Bool) (es ks : List Quad) : Int := if leaf then (es.length : Int) else sumOf scrapsOfKid ks
end Go.Oct
