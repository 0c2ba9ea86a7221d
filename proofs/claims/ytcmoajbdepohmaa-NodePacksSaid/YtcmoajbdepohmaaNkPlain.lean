/- Plain laws of nodes as bytes (layer 13). No program is named here. -/
import Derived.Test.YtcmoajbdepohmaaNdPlain
import Derived.Test.YtcmoajbdepohmaaSupPlain
namespace Go.Oct
/-- a number that may stand open -/
def opn (n : Int) : Int := if n = -1 then 4294967295 else n
def unopn (n : Int) : Int := if n = 4294967295 then -1 else n
theorem opn_back {n : Int} (h : n < 4294967295) : unopn (opn n) = n := by
  unfold opn unopn
  by_cases h1 : n = -1
  · rw [if_pos h1, if_pos rfl, h1]
  · rw [if_neg h1, if_neg (by omega)]
/-- a number as bytes, -1 as the open number -/
def opn4 (width : Int) (n : Int) : List UInt8 := numBytes (opn n) width
def layAll (width : Int) : List Int → List UInt8
  | [] => []
  | n :: l => opn4 width n ++ layAll width l
theorem layAll_append (width : Int) (l m : List Int) : layAll width (l ++ m) = layAll width l ++ layAll width m := by
  induction l with
  | nil => rfl
  | cons n l ih => simp only [List.cons_append, layAll, ih, List.append_assoc]
theorem opn4_le (width n : Int) : (opn4 width n).length ≤ 8 := by
  have h : ∀ m : Int, (numBytes m width).length ≤ 8 := by
    intro m
    unfold numBytes
    split
    · rename_i h
      rw [numList_length]
      unfold numCode at h
      split at h
      · omega
      · omega
    · simp
  exact h _
theorem layAll_le (width : Int) (l : List Int) : (layAll width l).length ≤ 8 * l.length := by
  induction l with
  | nil => exact Nat.zero_le _
  | cons n l ih =>
    have := opn4_le width n
    simp only [layAll, List.length_append, List.length_cons]
    omega
/-- an entry's bytes, a kid's bytes -/
def entBytes (x : Quad) : List UInt8 := layAll 1 [x.1] ++ layAll 4 [x.2.1, x.2.2.1, x.2.2.2]
def kidBytes (x : Quad) : List UInt8 := layAll 4 [x.1, x.2.1, x.2.2.1, x.2.2.2]
theorem entBytes_le (x : Quad) : (entBytes x).length ≤ 32 := by
  have h1 := layAll_le 1 [x.1]
  have h2 := layAll_le 4 [x.2.1, x.2.2.1, x.2.2.2]
  simp only [entBytes, List.length_append, List.length_cons, List.length_nil] at *
  omega
theorem kidBytes_le (x : Quad) : (kidBytes x).length ≤ 32 := by
  have h2 := layAll_le 4 [x.1, x.2.1, x.2.2.1, x.2.2.2]
  simp only [kidBytes, List.length_cons, List.length_nil] at *
  omega
def ndBody (f : Quad → List UInt8) : List Quad → List UInt8
  | [] => []
  | x :: l => f x ++ ndBody f l
theorem ndBody_append (f : Quad → List UInt8) (l m : List Quad) : ndBody f (l ++ m) = ndBody f l ++ ndBody f m := by
  induction l with
  | nil => rfl
  | cons x l ih => simp only [List.cons_append, ndBody, ih, List.append_assoc]
theorem ndBody_next (f : Quad → List UInt8) (l : List Quad) (k : Nat) (hk : k < l.length) : ndBody f (l.take (k + 1)) = ndBody f (l.take k) ++ f l[k] := by
  rw [List.take_succ_eq_append_getElem hk, ndBody_append]; simp [ndBody]
theorem ndBody_le (f : Quad → List UInt8) (hf : ∀ x, (f x).length ≤ 32) (l : List Quad) : (ndBody f l).length ≤ 32 * l.length := by
  induction l with
  | nil => exact Nat.zero_le _
  | cons x l ih =>
    have := hf x
    simp only [ndBody, List.length_append, List.length_cons]
    omega
/-- what a node is packed as -/
def ndPack (leaf : Bool) (es ks : List Quad) : List UInt8 :=
  if ndMay leaf es ks then (if leaf then layAll 1 [(es.length : Int)] ++ ndBody entBytes es else layAll 1 [(ks.length : Int)] ++ ndBody kidBytes ks) else []
def ndKind (leaf : Bool) (es ks : List Quad) : Nat := if ndMay leaf es ks then (if leaf then 1 else 2) else 0
def ndCode (leaf : Bool) (es ks : List Quad) : Nat := if ndMay leaf es ks then 0 else 1
end Go.Oct
