/- Plain laws of superblocks as bytes: a superblock's bytes, the superblock of bytes, how these are refused. No program is named here. -/
import Derived.Test.YtcmoajbdepohmaaLePlain
import Derived.Test.YtcmoajbdepohmaaCrcPlain
namespace Go.Oct
/-- may a superblock be -/
def supMay (g r c t o : Int) : Prop := 1 ≤ g ∧ g ≤ 1099511627776 ∧ 1 ≤ r ∧ r < 1048576 ∧ 0 ≤ c ∧ c < 16 ∧ 0 ≤ t ∧ t ≤ 16777216 ∧ 0 ≤ o ∧ o ≤ 1048576
instance (g r c t o : Int) : Decidable (supMay g r c t o) := by unfold supMay; infer_instance
def supLetters : List UInt8 := [111, 99, 116, 97, 118, 111, 48, 49]
def supBody (g r c t o : Int) : List UInt8 := supLetters ++ numBytes g 6 ++ numBytes r 4 ++ numBytes c 1 ++ numBytes t 4 ++ numBytes o 4 ++ List.replicate 33 0
def supPack (g r c t o : Int) : List UInt8 := if supMay g r c t o then supBody g r c t o ++ numBytes (OctCrc.crc (supBody g r c t o) : Nat) 4 else []
def supCode (g r c t o : Int) : Nat := if supMay g r c t o then 0 else 1
/-- the number in so many bytes from a place on -/
def fld (l : List UInt8) (at_ k : Nat) : Nat := numVal ((l.drop at_).take k)
def supForm (l : List UInt8) : Prop := l.take 8 = supLetters ∧ (l.drop 27).take 33 = List.replicate 33 0 ∧ supMay (fld l 8 6) (fld l 14 4) (fld l 18 1) (fld l 19 4) (fld l 23 4)
instance (l : List UInt8) : Decidable (supForm l) := by unfold supForm; infer_instance
/-- how bytes are refused as a superblock: 0 not -/
def supOpen (l : List UInt8) : Nat := if l.length ≠ 64 then 3 else if numVal (l.drop 60) ≠ OctCrc.crc (l.take 60) then 5 else if supForm l then 0 else 4
/-- a field of what is opened -/
def supOf (l : List UInt8) (at_ k : Nat) : Nat := if supOpen l = 0 then fld l at_ k else 0
theorem fld_lt (l : List UInt8) (at_ k : Nat) : fld l at_ k < 256 ^ k := by
  have h := numVal_lt ((l.drop at_).take k)
  have : 256 ^ ((l.drop at_).take k).length ≤ 256 ^ k := Nat.pow_le_pow_right (by decide) (List.length_take_le _ _)
  unfold fld; omega
theorem numCode_ok' {n : Nat} {k : Nat} (h : n < 256 ^ k) (hk : 1 ≤ k) (hk8 : k ≤ 8) : numCode (n : Int) (k : Int) = 0 := by
  unfold numCode
  rw [if_neg (by omega), if_neg (by simp; omega)]
theorem numBytes_ok' {n : Nat} {k : Nat} (h : n < 256 ^ k) (hk : 1 ≤ k) (hk8 : k ≤ 8) : numBytes (n : Int) (k : Int) = numList n k := by
  simp [numBytes, numCode_ok' h hk hk8]
theorem numBytes_fld (l : List UInt8) (at_ k : Nat) (h : at_ + k ≤ l.length) (hk : 1 ≤ k) (hk8 : k ≤ 8) : numBytes (fld l at_ k : Int) (k : Int) = (l.drop at_).take k := by
  rw [numBytes_ok' (fld_lt l at_ k) hk hk8]
  have hl : ((l.drop at_).take k).length = k := by simp; omega
  have := numList_numVal ((l.drop at_).take k)
  rw [hl] at this
  exact this
theorem cut_join (l : List UInt8) (a k : Nat) : l.take a ++ (l.drop a).take k = l.take (a + k) := by
  rw [List.take_add]
theorem supBody_of {l : List UInt8} (hl : 60 ≤ l.length) (h1 : l.take 8 = supLetters) (h2 : (l.drop 27).take 33 = List.replicate 33 0) :
    supBody (fld l 8 6) (fld l 14 4) (fld l 18 1) (fld l 19 4) (fld l 23 4) = l.take 60 := by
  unfold supBody
  have e1 := numBytes_fld l 8 6 (by omega) (by decide) (by decide)
  have e2 := numBytes_fld l 14 4 (by omega) (by decide) (by decide)
  have e3 := numBytes_fld l 18 1 (by omega) (by decide) (by decide)
  have e4 := numBytes_fld l 19 4 (by omega) (by decide) (by decide)
  have e5 := numBytes_fld l 23 4 (by omega) (by decide) (by decide)
  have a1 : numBytes (fld l 8 6 : Int) 6 = (l.drop 8).take 6 := e1
  have a2 : numBytes (fld l 14 4 : Int) 4 = (l.drop 14).take 4 := e2
  have a3 : numBytes (fld l 18 1 : Int) 1 = (l.drop 18).take 1 := e3
  have a4 : numBytes (fld l 19 4 : Int) 4 = (l.drop 19).take 4 := e4
  have a5 : numBytes (fld l 23 4 : Int) 4 = (l.drop 23).take 4 := e5
  rw [a1, a2, a3, a4, a5, ← h1, ← h2, cut_join, cut_join, cut_join, cut_join, cut_join, cut_join]
theorem numList4_crc (l : List UInt8) (n : Nat) (hl : l.length = 4) (h : numVal l = n) : numList n 4 = l := by
  rw [← h, ← hl]; exact numList_numVal l
theorem crc_bytes (x : List UInt8) : numBytes (OctCrc.crc x : Nat) 4 = numList (OctCrc.crc x) 4 :=
  numBytes_ok' (k := 4) (by have := OctCrc.crc_lt x; omega) (by decide) (by decide)
/-- what is in form is packed as it was -/
theorem supPack_of {l : List UInt8} (h : supOpen l = 0) : supPack (fld l 8 6) (fld l 14 4) (fld l 18 1) (fld l 19 4) (fld l 23 4) = l ∧ supMay (fld l 8 6) (fld l 14 4) (fld l 18 1) (fld l 19 4) (fld l 23 4) := by
  unfold supOpen at h
  by_cases h1 : l.length ≠ 64
  · rw [if_pos h1] at h; cases h
  rw [if_neg h1] at h
  by_cases h2 : numVal (l.drop 60) ≠ OctCrc.crc (l.take 60)
  · rw [if_pos h2] at h; cases h
  rw [if_neg h2] at h
  by_cases h3 : supForm l
  · obtain ⟨f1, f2, f3⟩ := h3
    refine ⟨?_, f3⟩
    rw [supPack, if_pos f3, supBody_of (by omega) f1 f2, crc_bytes, numList4_crc (l.drop 60) _ (by simp; omega) (Decidable.not_not.1 h2), List.take_append_drop]
  · rw [if_neg h3] at h; cases h
theorem numBytes_len' {n : Int} {k : Nat} (h : numCode n k = 0) : (numBytes n k).length = k := by
  simp only [numBytes, h, if_true, numList_length, Int.toNat_natCast]
theorem numCode_of {n : Int} {k : Nat} (h0 : 0 ≤ n) (h : n.toNat < 256 ^ k) (hk : 1 ≤ k) (hk8 : k ≤ 8) : numCode n (k : Int) = 0 := by
  obtain ⟨m, rfl⟩ := Int.eq_ofNat_of_zero_le h0
  exact numCode_ok' (by simpa using h) hk hk8
theorem supMay_codes {g r c t o : Int} (h : supMay g r c t o) : numCode g 6 = 0 ∧ numCode r 4 = 0 ∧ numCode c 1 = 0 ∧ numCode t 4 = 0 ∧ numCode o 4 = 0 := by
  unfold supMay at h
  refine ⟨numCode_of (k := 6) (by omega) ?_ (by decide) (by decide), numCode_of (k := 4) (by omega) ?_ (by decide) (by decide), numCode_of (k := 1) (by omega) ?_ (by decide) (by decide), numCode_of (k := 4) (by omega) ?_ (by decide) (by decide), numCode_of (k := 4) (by omega) ?_ (by decide) (by decide)⟩ <;>
    simp only [Nat.reducePow] <;> omega
theorem supMay_lens {g r c t o : Int} (h : supMay g r c t o) : (numBytes g 6).length = 6 ∧ (numBytes r 4).length = 4 ∧ (numBytes c 1).length = 1 ∧ (numBytes t 4).length = 4 ∧ (numBytes o 4).length = 4 := by
  obtain ⟨h1, h2, h3, h4, h5⟩ := supMay_codes h
  exact ⟨numBytes_len' (k := 6) h1, numBytes_len' (k := 4) h2, numBytes_len' (k := 1) h3, numBytes_len' (k := 4) h4, numBytes_len' (k := 4) h5⟩
theorem supBody_len {g r c t o : Int} (h : supMay g r c t o) : (supBody g r c t o).length = 60 := by
  obtain ⟨h1, h2, h3, h4, h5⟩ := supMay_lens h
  simp only [supBody, List.length_append, h1, h2, h3, h4, h5, List.length_replicate]
  rfl
theorem supPack_len {g r c t o : Int} (h : supMay g r c t o) : (supPack g r c t o).length = 64 := by
  rw [supPack, if_pos h, List.length_append, supBody_len h, crc_bytes, numList_length]
theorem numVal_bytes {n : Int} {k : Nat} (h : numCode n k = 0) : (numVal (numBytes n k) : Int) = n := by
  have h0 : ¬ ((k : Int) < 1 ∨ 8 < (k : Int) ∨ n < 0) := by
    intro e; unfold numCode at h; rw [if_pos e] at h; cases h
  have h1 : ¬ 256 ^ (k : Int).toNat ≤ n.toNat := by
    intro e; unfold numCode at h; rw [if_neg h0, if_pos e] at h; cases h
  simp only [Int.toNat_natCast] at h1
  simp only [numBytes, h, if_true, numVal_numList, Int.toNat_natCast]
  rw [Nat.mod_eq_of_lt (by omega)]
  omega
/-- the bytes in the middle -/
theorem mid (a b c : List UInt8) (n k : Nat) (hn : a.length = n) (hk : b.length = k) : ((a ++ (b ++ c)).drop n).take k = b := by
  rw [← hn, List.drop_left, ← hk, List.take_left]
/-- a superblock that may be is opened as it was packed -/
theorem supOpen_pack {g r c t o : Int} (h : supMay g r c t o) : supOpen (supPack g r c t o) = 0 ∧ (fld (supPack g r c t o) 8 6 : Int) = g ∧ (fld (supPack g r c t o) 14 4 : Int) = r ∧
    (fld (supPack g r c t o) 18 1 : Int) = c ∧ (fld (supPack g r c t o) 19 4 : Int) = t ∧ (fld (supPack g r c t o) 23 4 : Int) = o := by
  obtain ⟨h1, h2, h3, h4, h5⟩ := supMay_codes h
  obtain ⟨l1, l2, l3, l4, l5⟩ := supMay_lens h
  have v1 := numVal_bytes (k := 6) h1
  have v2 := numVal_bytes (k := 4) h2
  have v3 := numVal_bytes (k := 1) h3
  have v4 := numVal_bytes (k := 4) h4
  have v5 := numVal_bytes (k := 4) h5
  obtain ⟨S, hS⟩ : ∃ S, S = numBytes (OctCrc.crc (supBody g r c t o) : Nat) 4 := ⟨_, rfl⟩
  have hp : supPack g r c t o = supBody g r c t o ++ S := by rw [supPack, if_pos h, hS]
  have hb : supBody g r c t o = supLetters ++ (numBytes g 6 ++ (numBytes r 4 ++ (numBytes c 1 ++ (numBytes t 4 ++ (numBytes o 4 ++ List.replicate 33 0))))) := by simp [supBody]
  have lL : supLetters.length = 8 := rfl
  have f0 : (supPack g r c t o).take 8 = supLetters := by
    rw [hp, hb, List.append_assoc, ← lL, List.take_left]
  have f1 : ((supPack g r c t o).drop 8).take 6 = numBytes g 6 := by
    rw [hp, hb]; simp only [List.append_assoc]; exact mid _ _ _ 8 6 lL l1
  have f2 : ((supPack g r c t o).drop 14).take 4 = numBytes r 4 := by
    rw [hp, hb, ← List.append_assoc supLetters]; simp only [List.append_assoc]; rw [← List.append_assoc supLetters]; exact mid _ _ _ 14 4 (by simp [lL, l1]) l2
  have f3 : ((supPack g r c t o).drop 18).take 1 = numBytes c 1 := by
    rw [hp, hb]; simp only [List.append_assoc]; rw [← List.append_assoc supLetters, ← List.append_assoc (supLetters ++ _)]; exact mid _ _ _ 18 1 (by simp [lL, l1, l2]) l3
  have f4 : ((supPack g r c t o).drop 19).take 4 = numBytes t 4 := by
    rw [hp, hb]; simp only [List.append_assoc]; rw [← List.append_assoc supLetters, ← List.append_assoc (supLetters ++ _), ← List.append_assoc (supLetters ++ _ ++ _)]; exact mid _ _ _ 19 4 (by simp [lL, l1, l2, l3]) l4
  have f5 : ((supPack g r c t o).drop 23).take 4 = numBytes o 4 := by
    rw [hp, hb]; simp only [List.append_assoc]; rw [← List.append_assoc supLetters, ← List.append_assoc (supLetters ++ _), ← List.append_assoc (supLetters ++ _ ++ _), ← List.append_assoc (supLetters ++ _ ++ _ ++ _)]; exact mid _ _ _ 23 4 (by simp [lL, l1, l2, l3, l4]) l5
  have f6 : ((supPack g r c t o).drop 27).take 33 = List.replicate 33 0 := by
    rw [hp, hb]; simp only [List.append_assoc]; rw [← List.append_assoc supLetters, ← List.append_assoc (supLetters ++ _), ← List.append_assoc (supLetters ++ _ ++ _), ← List.append_assoc (supLetters ++ _ ++ _ ++ _), ← List.append_assoc (supLetters ++ _ ++ _ ++ _ ++ _)]; exact mid _ _ _ 27 33 (by simp [lL, l1, l2, l3, l4, l5]) (by simp)
  have g1 : (fld (supPack g r c t o) 8 6 : Int) = g := by unfold fld; rw [f1]; exact v1
  have g2 : (fld (supPack g r c t o) 14 4 : Int) = r := by unfold fld; rw [f2]; exact v2
  have g3 : (fld (supPack g r c t o) 18 1 : Int) = c := by unfold fld; rw [f3]; exact v3
  have g4 : (fld (supPack g r c t o) 19 4 : Int) = t := by unfold fld; rw [f4]; exact v4
  have g5 : (fld (supPack g r c t o) 23 4 : Int) = o := by unfold fld; rw [f5]; exact v5
  refine ⟨?_, g1, g2, g3, g4, g5⟩
  have hform : supForm (supPack g r c t o) := ⟨f0, f6, by rw [g1, g2, g3, g4, g5]; exact h⟩
  unfold supOpen
  rw [if_neg (by rw [supPack_len h]; decide), if_neg ?_, if_pos hform]
  rw [hp, ← supBody_len h, List.drop_left, List.take_left, hS, crc_bytes, numVal_numList, Nat.mod_eq_of_lt (OctCrc.crc_lt _)]
  simp
/-- the document's answer: the fields are packed again, and compared -/
theorem supForm_iff {l : List UInt8} (hl : l.length = 64) (hs : numVal (l.drop 60) = OctCrc.crc (l.take 60)) :
    supForm l ↔ supMay (fld l 8 6) (fld l 14 4) (fld l 18 1) (fld l 19 4) (fld l 23 4) ∧ supPack (fld l 8 6) (fld l 14 4) (fld l 18 1) (fld l 19 4) (fld l 23 4) = l := by
  constructor
  · intro h
    have h0 : supOpen l = 0 := by unfold supOpen; rw [if_neg (by omega), if_neg (by simpa using hs), if_pos h]
    exact ⟨(supPack_of h0).2, (supPack_of h0).1⟩
  · rintro ⟨h, hp⟩
    have h0 := (supOpen_pack h).1
    rw [hp] at h0
    unfold supOpen at h0
    rw [if_neg (by omega), if_neg (by simpa using hs)] at h0
    apply Classical.byContradiction
    intro hn
    rw [if_neg hn] at h0
    cases h0
/-- with one byte changed a superblock is none -/
theorem supOpen_turned {l : List UInt8} (h : supOpen l = 0) (i : Nat) (hi : i < l.length) (b : UInt8) (hb : b ≠ l[i]) : supOpen (l.set i b) ≠ 0 := by
  intro h2
  have sep : ∀ {m : List UInt8}, supOpen m = 0 → m.length = 64 ∧ numVal (m.drop 60) = OctCrc.crc (m.take 60) := by
    intro m hm
    unfold supOpen at hm
    by_cases h1 : m.length ≠ 64
    · rw [if_pos h1] at hm; cases hm
    rw [if_neg h1] at hm
    by_cases h2 : numVal (m.drop 60) ≠ OctCrc.crc (m.take 60)
    · rw [if_pos h2] at hm; cases hm
    exact ⟨Decidable.not_not.1 h1, Decidable.not_not.1 h2⟩
  obtain ⟨hl, hs⟩ := sep h
  obtain ⟨hl2, hs2⟩ := sep h2
  by_cases hlt : i < 60
  · rw [List.drop_set_of_lt hlt, hs, List.take_set] at hs2
    have hit : i < (l.take 60).length := by simp; omega
    have e1 : l.take 60 = (l.take 60).take i ++ (l.take 60)[i] :: (l.take 60).drop (i + 1) := by
      rw [← List.drop_eq_getElem_cons hit, List.take_append_drop]
    have e2 : (l.take 60).set i b = (l.take 60).take i ++ b :: (l.take 60).drop (i + 1) := List.set_eq_take_append_cons_drop .. |>.trans (by rw [if_pos hit])
    rw [e2] at hs2
    refine OctCrc.crc_turned ((l.take 60).take i) ((l.take 60).drop (i + 1)) b ((l.take 60)[i]) (by simpa using hb) ?_
    rw [← hs2, ← e1]
  · have e1 : (l.set i b).take 60 = l.take 60 := List.take_set_of_le (by omega)
    rw [e1, ← hs] at hs2
    have e3 : ((l.set i b).drop 60).length = (l.drop 60).length := by simp
    have e4 : (l.set i b).drop 60 = l.drop 60 := by
      rw [← numList_numVal ((l.set i b).drop 60), ← numList_numVal (l.drop 60), hs2, e3]
    have e5 : l.set i b = l := by rw [← List.take_append_drop 60 (l.set i b), e1, e4, List.take_append_drop]
    have e6 := congrArg (fun m => m[i]?) e5
    simp [hi] at e6
    exact hb e6
end Go.Oct
