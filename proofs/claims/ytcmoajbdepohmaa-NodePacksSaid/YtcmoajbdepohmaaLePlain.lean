/- Plain laws of whole numbers as bytes: the lowest byte first. No program is named here. -/
import Derived.WalkKit
namespace Go.Oct
/-- the k lowest bytes of a number, the lowest first -/
def numList : Nat → Nat → List UInt8
  | _, 0 => []
  | n, k + 1 => UInt8.ofNat (n % 256) :: numList (n / 256) k
/-- the number that bytes stand for -/
def numVal : List UInt8 → Nat
  | [] => 0
  | b :: l => b.toNat + 256 * numVal l
theorem numList_length (n k : Nat) : (numList n k).length = k := by
  induction k generalizing n with
  | zero => rfl
  | succ k ih => simp [numList, ih]
theorem numVal_lt (l : List UInt8) : numVal l < 256 ^ l.length := by
  induction l with
  | nil => simp [numVal]
  | cons b l ih =>
    have := b.toNat_lt
    rw [numVal, List.length_cons, Nat.pow_succ]
    omega
theorem numVal_numList (n k : Nat) : numVal (numList n k) = n % 256 ^ k := by
  induction k generalizing n with
  | zero => simp [numList, numVal, Nat.mod_one]
  | succ k ih =>
    rw [numList, numVal, ih, UInt8.toNat_ofNat_of_lt' (by simp [UInt8.size]; omega), Nat.pow_succ, Nat.mul_comm (256 ^ k) 256, Nat.mod_mul]
theorem numList_numVal (l : List UInt8) : numList (numVal l) l.length = l := by
  induction l with
  | nil => rfl
  | cons b l ih =>
    have := b.toNat_lt
    rw [List.length_cons, numList, numVal]
    have h1 : (b.toNat + 256 * numVal l) % 256 = b.toNat := by omega
    have h2 : (b.toNat + 256 * numVal l) / 256 = numVal l := by omega
    rw [h1, h2, ih, UInt8.ofNat_toNat]
theorem numList_snoc (n k : Nat) : numList n (k + 1) = numList n k ++ [UInt8.ofNat (n / 256 ^ k % 256)] := by
  induction k generalizing n with
  | zero => simp [numList]
  | succ k ih =>
    rw [numList, ih, numList, List.cons_append]
    congr 3
    rw [Nat.div_div_eq_div_mul, Nat.pow_succ, Nat.mul_comm 256]
theorem numVal_append (l m : List UInt8) : numVal (l ++ m) = numVal l + 256 ^ l.length * numVal m := by
  induction l with
  | nil => simp [numVal]
  | cons b l ih =>
    rw [List.cons_append, numVal, ih, numVal, List.length_cons, Nat.pow_succ, Nat.mul_add, Nat.add_assoc, Nat.mul_comm (256 ^ l.length) 256, Nat.mul_assoc]
theorem numList_get (n k i : Nat) (h : i < (numList n k).length) : (numList n k)[i] = UInt8.ofNat (n / 256 ^ i % 256) := by
  induction k generalizing n i with
  | zero => simp [numList] at h
  | succ k ih =>
    cases i with
    | zero => simp [numList]
    | succ i =>
      simp only [numList, List.getElem_cons_succ]
      rw [ih, Nat.div_div_eq_div_mul, Nat.pow_succ, Nat.mul_comm 256]
/-- how a number in so many bytes is refused: 0 not, 1 an argument that may not be, 2 out of range -/
def numCode (n width : Int) : Nat := if width < 1 ∨ 8 < width ∨ n < 0 then 1 else if 256 ^ width.toNat ≤ n.toNat then 2 else 0
def numBytes (n width : Int) : List UInt8 := if numCode n width = 0 then numList n.toNat width.toNat else []
/-- how bytes are refused as a number -/
def valCode (l : List UInt8) : Nat := if l.length < 1 ∨ 8 < l.length then 1 else if 9223372036854775808 ≤ numVal l then 2 else 0
def numOf (l : List UInt8) : Nat := if valCode l = 0 then numVal l else 0
theorem numVal_drop (l : List UInt8) (p : Nat) (h : p < l.length) : numVal (l.drop p) = l[p].toNat + 256 * numVal (l.drop (p + 1)) := by
  rw [List.drop_eq_getElem_cons h, numVal]
theorem numVal_drop_le (l : List UInt8) (p : Nat) : numVal (l.drop p) ≤ numVal l := by
  induction p with
  | zero => simp
  | succ p ih =>
    rcases Nat.lt_or_ge p l.length with h | h
    · rw [numVal_drop l p h] at ih; omega
    · rw [List.drop_eq_nil_of_le (by omega)]; exact Nat.zero_le _
theorem numVal_eight (l : List UInt8) (h : l.length = 8) : (9223372036854775808 ≤ numVal l) = (128 ≤ (l[7]'(by omega)).toNat) := by
  match l, h with
  | [a, b, c, d, e, f, g, i], _ =>
    have := a.toNat_lt; have := b.toNat_lt; have := c.toNat_lt; have := d.toNat_lt; have := e.toNat_lt; have := f.toNat_lt; have := g.toNat_lt; have := i.toNat_lt
    simp only [numVal, List.getElem_cons_succ, List.getElem_cons_zero, eq_iff_iff]
    omega
theorem numVal_seven (l : List UInt8) (h : l.length < 8) : numVal l < 9223372036854775808 := by
  have h1 := numVal_lt l
  have h2 : 256 ^ l.length ≤ 256 ^ 7 := Nat.pow_le_pow_right (by decide) (by omega)
  omega
end Go.Oct
