/- Plain laws of a list of versions as bytes. No program is named here. -/
import Derived.Test.YtdofdegicdkhlaaSupPlain
import Derived.Test.YtdofdegicdkhlaaPastPlain
namespace Go.Oct
/-- a version's bytes, a list's bytes -/
def verBytes (v : Ver) : List UInt8 := numBytes v.1 4 ++ numBytes v.2 4
def verBody : List Ver → List UInt8
  | [] => []
  | v :: l => verBytes v ++ verBody l
def verPack (l : List Ver) : List UInt8 := if listMay l then UInt8.ofNat l.length :: verBody l else []
def verCode (l : List Ver) : Nat := if listMay l then 0 else 1
/-- the versions that bytes stand for -/
def verAt (b : List UInt8) (i : Nat) : Ver := ((fld b (1 + 8 * i) 4 : Nat), (fld b (5 + 8 * i) 4 : Nat))
def verList (b : List UInt8) (k : Nat) : List Ver := (List.range k).map (verAt b)
def verSized (b : List UInt8) : Prop := b.length = 1 + 8 * fld b 0 1
instance (b : List UInt8) : Decidable (verSized b) := by unfold verSized; infer_instance
def verOpen (b : List UInt8) : Nat := if verSized b ∧ listMay (verList b (fld b 0 1)) then 0 else 4
def verOf (b : List UInt8) : List Ver := if verOpen b = 0 then verList b (fld b 0 1) else []
theorem verMay_codes {v : Ver} (h : verMay v) : numCode v.1 4 = 0 ∧ numCode v.2 4 = 0 := by
  unfold verMay at h
  exact ⟨numCode_of (k := 4) (by omega) (by simp only [Nat.reducePow]; omega) (by decide) (by decide), numCode_of (k := 4) (by omega) (by simp only [Nat.reducePow]; omega) (by decide) (by decide)⟩
theorem verBytes_len {v : Ver} (h : verMay v) : (verBytes v).length = 8 := by
  obtain ⟨h1, h2⟩ := verMay_codes h
  have a : (numBytes v.1 4).length = 4 := numBytes_len' (k := 4) h1
  have b : (numBytes v.2 4).length = 4 := numBytes_len' (k := 4) h2
  rw [verBytes, List.length_append, a, b]
theorem verBody_len {l : List Ver} (h : ∀ v ∈ l, verMay v) : (verBody l).length = 8 * l.length := by
  induction l with
  | nil => rfl
  | cons v l ih =>
    rw [verBody, List.length_append, verBytes_len (h v (by simp)), ih (fun x hx => h x (by simp [hx])), List.length_cons]
    omega
theorem verBody_snoc (l : List Ver) (v : Ver) : verBody (l ++ [v]) = verBody l ++ verBytes v := by
  induction l with
  | nil => simp [verBody]
  | cons u l ih => rw [List.cons_append, verBody, ih, verBody, List.append_assoc]
theorem verBody_drop {l : List Ver} (h : ∀ v ∈ l, verMay v) (i : Nat) : (verBody l).drop (8 * i) = verBody (l.drop i) := by
  induction l generalizing i with
  | nil => simp [verBody]
  | cons v l ih =>
    cases i with
    | zero => simp
    | succ i =>
      have hv := verBytes_len (h v (by simp))
      have := ih (fun x hx => h x (by simp [hx])) i
      rw [verBody, List.drop_succ_cons, ← this, show 8 * (i + 1) = 8 + 8 * i by omega, ← List.drop_drop, ← hv, List.drop_left]
theorem verPack_len {l : List Ver} (h : listMay l) : (verPack l).length = 1 + 8 * l.length := by
  rw [verPack, if_pos h, List.length_cons, verBody_len h.2.2]; omega
theorem ver_back {l : List Ver} (h : listMay l) : fld (verPack l) 0 1 = l.length ∧ verList (verPack l) l.length = l ∧ verOpen (verPack l) = 0 ∧ verOf (verPack l) = l := by
  have hp : verPack l = UInt8.ofNat l.length :: verBody l := by rw [verPack, if_pos h]
  have h16 := h.2.1
  have f0 : fld (verPack l) 0 1 = l.length := by
    rw [hp]
    unfold fld
    simp only [List.drop_zero, List.take_succ_cons, List.take_zero, numVal, Nat.mul_zero, Nat.add_zero]
    rw [UInt8.toNat_ofNat_of_lt' (by simp [UInt8.size]; omega)]
  have hl : verList (verPack l) l.length = l := by
    apply List.ext_getElem
    · simp [verList]
    · intro i h1 h2
      have hm := h.2.2 l[i] (List.getElem_mem _)
      obtain ⟨c1, c2⟩ := verMay_codes hm
      have l1' : (numBytes l[i].1 4).length = 4 := numBytes_len' (k := 4) c1
      have d1 : (verPack l).drop (1 + 8 * i) = numBytes l[i].1 4 ++ (numBytes l[i].2 4 ++ verBody (l.drop (i + 1))) := by
        rw [hp, show 1 + 8 * i = 8 * i + 1 by omega, List.drop_succ_cons, verBody_drop h.2.2, List.drop_eq_getElem_cons h2, verBody, verBytes, List.append_assoc]
      have d2 : (verPack l).drop (5 + 8 * i) = numBytes l[i].2 4 ++ verBody (l.drop (i + 1)) := by
        rw [show 5 + 8 * i = (1 + 8 * i) + 4 by omega, ← List.drop_drop, d1, List.drop_left' l1']
      have l2' : (numBytes l[i].2 4).length = 4 := numBytes_len' (k := 4) c2
      have e1 : ((fld (verPack l) (1 + 8 * i) 4 : Nat) : Int) = l[i].1 := by
        unfold fld
        rw [d1, List.take_left' l1']
        exact numVal_bytes (k := 4) c1
      have e2 : ((fld (verPack l) (5 + 8 * i) 4 : Nat) : Int) = l[i].2 := by
        unfold fld
        rw [d2, List.take_left' l2']
        exact numVal_bytes (k := 4) c2
      simp only [verList, List.getElem_map, List.getElem_range, verAt, e1, e2]
  have ho : verOpen (verPack l) = 0 := by
    unfold verOpen
    rw [if_pos]
    refine ⟨?_, by rw [f0, hl]; exact h⟩
    unfold verSized
    rw [verPack_len h, f0]
  exact ⟨f0, hl, ho, by rw [verOf, if_pos ho, f0, hl]⟩
theorem verList_snoc (b : List UInt8) (k : Nat) : verList b (k + 1) = verList b k ++ [verAt b k] := by
  simp [verList, List.range_succ]
theorem verList_length (b : List UInt8) (k : Nat) : (verList b k).length = k := by simp [verList]
theorem verOpen_no {b : List UInt8} (h : ¬ (verSized b ∧ listMay (verList b (fld b 0 1)))) : verOpen b = 4 ∧ verOf b = [] := by
  have h1 : verOpen b = 4 := by unfold verOpen; rw [if_neg h]
  exact ⟨h1, by rw [verOf, if_neg (by rw [h1]; decide)]⟩
theorem verOpen_yes {b : List UInt8} (h : verSized b ∧ listMay (verList b (fld b 0 1))) : verOpen b = 0 ∧ verOf b = verList b (fld b 0 1) := by
  have h1 : verOpen b = 0 := by unfold verOpen; rw [if_pos h]
  exact ⟨h1, by rw [verOf, if_pos h1]⟩
end Go.Oct
