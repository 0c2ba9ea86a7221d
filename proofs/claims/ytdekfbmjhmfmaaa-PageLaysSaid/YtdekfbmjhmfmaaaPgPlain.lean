/- Plain laws of pages as bytes: a page's bytes, the page of bytes, how these are refused. No program is named here. -/
import Derived.Test.YtdekfbmjhmfmaaaSupPlain
namespace Go.Oct
/-- may a page be, but for its body -/
def pgMay (no kind : Int) : Prop := 0 ≤ no ∧ no < 1048576 ∧ 1 ≤ kind ∧ kind ≤ 9
instance (no kind : Int) : Decidable (pgMay no kind) := by unfold pgMay; infer_instance
def pgCode (no kind : Int) (l : List UInt8) : Nat := if pgMay no kind then (if 244 < l.length then 10 else 0) else 1
def pgFront (no kind : Int) (l : List UInt8) : List UInt8 := [UInt8.ofNat kind.toNat, 0] ++ numBytes (l.length : Nat) 2 ++ numBytes no 4
def pgBack (l : List UInt8) : List UInt8 := l ++ List.replicate (244 - l.length) 0
def pgSum (no kind : Int) (l : List UInt8) : List UInt8 := numBytes (OctCrc.crc (pgFront no kind l ++ pgBack l) : Nat) 4
def pgPack (no kind : Int) (l : List UInt8) : List UInt8 := if pgCode no kind l = 0 then pgFront no kind l ++ pgSum no kind l ++ pgBack l else []
/-- what the sum of a page is of -/
def pgSummed (b : List UInt8) : List UInt8 := b.take 8 ++ b.drop 12
def pgForm (no : Int) (b : List UInt8) : Prop := fld b 1 1 = 0 ∧ 1 ≤ fld b 0 1 ∧ fld b 0 1 ≤ 9 ∧ fld b 2 2 ≤ 244 ∧ (fld b 4 4 : Int) = no ∧ b.drop (12 + fld b 2 2) = List.replicate (244 - fld b 2 2) 0
instance (no : Int) (b : List UInt8) : Decidable (pgForm no b) := by unfold pgForm; infer_instance
/-- how bytes are refused as a page: 0 not -/
def pgOpen (no : Int) (b : List UInt8) : Nat := if ¬ (0 ≤ no ∧ no < 1048576) then 1 else if b.length ≠ 256 then 3 else if fld b 8 4 ≠ OctCrc.crc (pgSummed b) then 5 else if pgForm no b then 0 else 4
def pgKind (no : Int) (b : List UInt8) : Nat := if pgOpen no b = 0 then fld b 0 1 else 0
def pgBody (no : Int) (b : List UInt8) : List UInt8 := if pgOpen no b = 0 then (b.drop 12).take (fld b 2 2) else []
theorem pgOpen_ok {no : Int} {b : List UInt8} (h : pgOpen no b = 0) : 0 ≤ no ∧ no < 1048576 ∧ b.length = 256 ∧ fld b 8 4 = OctCrc.crc (pgSummed b) ∧ pgForm no b := by
  unfold pgOpen at h
  by_cases h0 : ¬ (0 ≤ no ∧ no < 1048576)
  · rw [if_pos h0] at h; cases h
  rw [if_neg h0] at h
  by_cases h1 : b.length ≠ 256
  · rw [if_pos h1] at h; cases h
  rw [if_neg h1] at h
  by_cases h2 : fld b 8 4 ≠ OctCrc.crc (pgSummed b)
  · rw [if_pos h2] at h; cases h
  rw [if_neg h2] at h
  by_cases h3 : pgForm no b
  · exact ⟨by omega, by omega, Decidable.not_not.1 h1, Decidable.not_not.1 h2, h3⟩
  · rw [if_neg h3] at h; cases h
theorem pgOpen_mk {no : Int} {b : List UInt8} (h0 : 0 ≤ no) (h00 : no < 1048576) (h1 : b.length = 256) (h2 : fld b 8 4 = OctCrc.crc (pgSummed b)) (h3 : pgForm no b) : pgOpen no b = 0 := by
  unfold pgOpen
  rw [if_neg (by omega), if_neg (by simpa using h1), if_neg (by simpa using h2), if_pos h3]
theorem pgCode_ok {no kind : Int} {l : List UInt8} (h : pgCode no kind l = 0) : pgMay no kind ∧ l.length ≤ 244 := by
  unfold pgCode at h
  by_cases h1 : pgMay no kind
  · rw [if_pos h1] at h
    by_cases h2 : 244 < l.length
    · rw [if_pos h2] at h; cases h
    · exact ⟨h1, by omega⟩
  · rw [if_neg h1] at h; cases h
theorem pgCode_mk {no kind : Int} {l : List UInt8} (h : pgMay no kind) (h2 : l.length ≤ 244) : pgCode no kind l = 0 := by
  unfold pgCode; rw [if_pos h, if_neg (by omega)]
theorem pg_lens {no kind : Int} {l : List UInt8} (h : pgMay no kind) (h2 : l.length ≤ 244) : (numBytes (l.length : Nat) 2).length = 2 ∧ (numBytes no 4).length = 4 ∧ (pgFront no kind l).length = 8 ∧ (pgBack l).length = 244 ∧ (pgSum no kind l).length = 4 := by
  unfold pgMay at h
  have h1 : (numBytes ((l.length : Nat) : Int) 2).length = 2 := numBytes_len' (k := 2) (numCode_ok' (k := 2) (by omega) (by decide) (by decide))
  have h3 : (numBytes no 4).length = 4 := numBytes_len' (k := 4) (numCode_of (k := 4) (by omega) (by simp only [Nat.reducePow]; omega) (by decide) (by decide))
  refine ⟨h1, h3, ?_, ?_, ?_⟩
  · simp only [pgFront, List.length_append, h1, h3]; rfl
  · simp only [pgBack, List.length_append, List.length_replicate]; omega
  · simp only [pgSum, crc_bytes, numList_length]
theorem pgPack_eq {no kind : Int} {l : List UInt8} (h : pgMay no kind) (h2 : l.length ≤ 244) : pgPack no kind l = pgFront no kind l ++ pgSum no kind l ++ pgBack l := by
  unfold pgPack; rw [if_pos (pgCode_mk h h2)]
theorem pgPack_len {no kind : Int} {l : List UInt8} (h : pgMay no kind) (h2 : l.length ≤ 244) : (pgPack no kind l).length = 256 := by
  obtain ⟨_, _, a, b, c⟩ := pg_lens h h2
  rw [pgPack_eq h h2]; simp only [List.length_append, a, b, c]
theorem mid' (a b c : List UInt8) (n k : Nat) (hn : a.length = n) (hk : b.length = k) : ((a ++ b ++ c).drop n).take k = b := by
  rw [List.append_assoc]; exact mid a b c n k hn hk
/-- a page that is packed: its parts -/
theorem pgPack_parts {no kind : Int} {l : List UInt8} (h : pgMay no kind) (h2 : l.length ≤ 244) :
    pgSummed (pgPack no kind l) = pgFront no kind l ++ pgBack l ∧ ((pgPack no kind l).drop 8).take 4 = pgSum no kind l ∧ (pgPack no kind l).drop 12 = pgBack l ∧ (pgPack no kind l).take 8 = pgFront no kind l ∧
    ((pgPack no kind l).drop 0).take 1 = [UInt8.ofNat kind.toNat] ∧ ((pgPack no kind l).drop 1).take 1 = [0] ∧ ((pgPack no kind l).drop 2).take 2 = numBytes (l.length : Nat) 2 ∧ ((pgPack no kind l).drop 4).take 4 = numBytes no 4 := by
  obtain ⟨l1, l2, a, b, c⟩ := pg_lens h h2
  have e := pgPack_eq h h2
  have e12 : (pgPack no kind l).drop 12 = pgBack l := by
    rw [e, show 12 = (pgFront no kind l ++ pgSum no kind l).length by simp [a, c], List.drop_left]
  have e8 : (pgPack no kind l).take 8 = pgFront no kind l := by
    rw [e, List.append_assoc, ← a, List.take_left]
  refine ⟨by rw [pgSummed, e12, e8], by rw [e]; exact mid' _ _ _ 8 4 a c, e12, e8, ?_, ?_, ?_, ?_⟩
  · rw [e, pgFront]; simp
  · rw [e, pgFront]; simp
  · rw [e, pgFront]
    have := mid' [UInt8.ofNat kind.toNat, 0] (numBytes (l.length : Nat) 2) (numBytes no 4 ++ (pgSum no kind l ++ pgBack l)) 2 2 rfl l1
    simpa only [List.append_assoc] using this
  · rw [e, pgFront]
    have := mid' ([UInt8.ofNat kind.toNat, 0] ++ numBytes (l.length : Nat) 2) (numBytes no 4) (pgSum no kind l ++ pgBack l) 4 4 (by simp [l1]) l2
    simpa only [List.append_assoc] using this
theorem pg_fields {no kind : Int} {l : List UInt8} (h : pgMay no kind) (h2 : l.length ≤ 244) :
    (fld (pgPack no kind l) 0 1 : Int) = kind ∧ fld (pgPack no kind l) 1 1 = 0 ∧ fld (pgPack no kind l) 2 2 = l.length ∧ (fld (pgPack no kind l) 4 4 : Int) = no ∧ fld (pgPack no kind l) 8 4 = OctCrc.crc (pgSummed (pgPack no kind l)) := by
  obtain ⟨p1, p2, p3, p4, p5, p6, p7, p8⟩ := pgPack_parts h h2
  have hm := h
  unfold pgMay at hm
  refine ⟨?_, ?_, ?_, ?_, ?_⟩
  · unfold fld; rw [p5]; simp only [numVal, Nat.mul_zero, Nat.add_zero]
    rw [UInt8.toNat_ofNat_of_lt' (by simp [UInt8.size]; omega)]; omega
  · unfold fld; rw [p6]; rfl
  · unfold fld; rw [p7]
    have := numVal_bytes (n := ((l.length : Nat) : Int)) (k := 2) (numCode_ok' (k := 2) (by omega) (by decide) (by decide))
    exact Int.ofNat.inj this
  · unfold fld; rw [p8]
    exact numVal_bytes (k := 4) (numCode_of (k := 4) (by omega) (by simp only [Nat.reducePow]; omega) (by decide) (by decide))
  · unfold fld; rw [p2, p1, pgSum, crc_bytes, numVal_numList, Nat.mod_eq_of_lt (OctCrc.crc_lt _)]
/-- what is packed is opened as it was -/
theorem pgOpen_pack {no kind : Int} {l : List UInt8} (h : pgMay no kind) (h2 : l.length ≤ 244) :
    pgOpen no (pgPack no kind l) = 0 ∧ (pgKind no (pgPack no kind l) : Int) = kind ∧ pgBody no (pgPack no kind l) = l := by
  obtain ⟨f1, f2, f3, f4, f5⟩ := pg_fields h h2
  obtain ⟨p1, p2, p3, p4, p5, p6, p7, p8⟩ := pgPack_parts h h2
  have hm := h
  unfold pgMay at hm
  have h0 : pgOpen no (pgPack no kind l) = 0 := by
    refine pgOpen_mk hm.1 hm.2.1 (pgPack_len h h2) f5 ⟨f2, by omega, by omega, by omega, f4, ?_⟩
    rw [f3, ← List.drop_drop, p3, pgBack, List.drop_left]
  refine ⟨h0, by rw [pgKind, if_pos h0, f1], ?_⟩
  rw [pgBody, if_pos h0, f3, p3, pgBack, List.take_left]
theorem numList1 (b : List UInt8) (i : Nat) (h : i < b.length) : fld b i 1 = b[i].toNat := by
  unfold fld
  rw [List.drop_eq_getElem_cons h, List.take_succ_cons, List.take_zero, numVal, numVal, Nat.mul_zero, Nat.add_zero]
/-- what is opened is packed as it was -/
theorem pgPack_of {no : Int} {b : List UInt8} (h : pgOpen no b = 0) : pgCode no (fld b 0 1 : Nat) ((b.drop 12).take (fld b 2 2)) = 0 ∧ pgPack no (fld b 0 1 : Nat) ((b.drop 12).take (fld b 2 2)) = b := by
  obtain ⟨h0, h1, hl, hs, f1, f2, f3, f4, f5, f6⟩ := pgOpen_ok h
  have hM : pgMay no (fld b 0 1 : Nat) := ⟨h0, h1, by omega, by omega⟩
  have hbl : ((b.drop 12).take (fld b 2 2)).length = fld b 2 2 := by simp; omega
  have hL : ((b.drop 12).take (fld b 2 2)).length ≤ 244 := by omega
  refine ⟨pgCode_mk hM hL, ?_⟩
  have n2 := numBytes_fld b 2 2 (by omega) (by decide) (by decide)
  have n4 := numBytes_fld b 4 4 (by omega) (by decide) (by decide)
  have n8 := numBytes_fld b 8 4 (by omega) (by decide) (by decide)
  have eb : pgBack ((b.drop 12).take (fld b 2 2)) = b.drop 12 := by
    rw [pgBack, hbl, ← f6, ← List.drop_drop, List.take_append_drop]
  have ef : pgFront no (fld b 0 1 : Nat) ((b.drop 12).take (fld b 2 2)) = b.take 8 := by
    have n2' : numBytes ((fld b 2 2 : Nat) : Int) 2 = (b.drop 2).take 2 := n2
    have n4' : numBytes ((fld b 4 4 : Nat) : Int) 4 = (b.drop 4).take 4 := n4
    rw [pgFront, hbl, n2', ← f5, n4']
    have e2 : [UInt8.ofNat ((fld b 0 1 : Nat) : Int).toNat, 0] = b.take 2 := by
      have z := f1
      rw [numList1 b 1 (by omega)] at z
      have z1 : b[1] = 0 := UInt8.toNat_inj.1 z
      rw [Int.toNat_natCast, numList1 b 0 (by omega), UInt8.ofNat_toNat, ← z1]
      match b, hl with
      | x :: y :: t, _ => rfl
    rw [e2, cut_join, cut_join]
  rw [pgPack_eq hM hL, pgSum, eb, ef, ← pgSummed, ← hs]
  have n8' : numBytes ((fld b 8 4 : Nat) : Int) 4 = (b.drop 8).take 4 := n8
  rw [n8', cut_join, List.take_append_drop]
/-- the document's answer: the page is packed anew and compared -/
theorem pgForm_iff {no : Int} {b : List UInt8} (h0 : 0 ≤ no) (h1 : no < 1048576) (hl : b.length = 256) (hs : fld b 8 4 = OctCrc.crc (pgSummed b)) :
    pgForm no b ↔ fld b 2 2 ≤ 244 ∧ pgCode no (fld b 0 1 : Nat) ((b.drop 12).take (fld b 2 2)) = 0 ∧ pgPack no (fld b 0 1 : Nat) ((b.drop 12).take (fld b 2 2)) = b := by
  constructor
  · intro h
    have := pgPack_of (pgOpen_mk h0 h1 hl hs h)
    exact ⟨h.2.2.2.1, this⟩
  · rintro ⟨_, hc, hp⟩
    obtain ⟨hM, hL⟩ := pgCode_ok hc
    have := (pgOpen_pack hM hL).1
    rw [hp] at this
    exact (pgOpen_ok this).2.2.2.2
theorem fld_set_out (b : List UInt8) (i : Nat) (x : UInt8) (a k : Nat) (h : i < a ∨ a + k ≤ i) : fld (b.set i x) a k = fld b a k := by
  unfold fld
  rcases h with h | h
  · rw [List.drop_set_of_lt h]
  · rcases Nat.lt_or_ge i a with h' | h'
    · rw [List.drop_set_of_lt h']
    · rw [List.drop_set, if_neg (by omega), List.take_set_of_le (by omega)]
theorem set_split (l : List UInt8) (i : Nat) (x : UInt8) (h : i < l.length) : l.set i x = l.take i ++ x :: l.drop (i + 1) ∧ l = l.take i ++ l[i] :: l.drop (i + 1) :=
  ⟨(List.set_eq_take_append_cons_drop ..).trans (by rw [if_pos h]), by rw [← List.drop_eq_getElem_cons h, List.take_append_drop]⟩
/-- with one byte changed a page is none, under any number -/
theorem pgOpen_turned {no m : Int} {b : List UInt8} (h : pgOpen no b = 0) (i : Nat) (hi : i < b.length) (x : UInt8) (hx : x ≠ b[i]) : pgOpen m (b.set i x) ≠ 0 := by
  intro h2
  obtain ⟨_, _, hl, hs, _⟩ := pgOpen_ok h
  obtain ⟨_, _, hl2, hs2, _⟩ := pgOpen_ok h2
  by_cases hin : 8 ≤ i ∧ i < 12
  · have e : pgSummed (b.set i x) = pgSummed b := by
      unfold pgSummed
      rw [List.take_set_of_le (by omega), List.drop_set_of_lt (by omega)]
    rw [e, ← hs] at hs2
    have n1 := numBytes_fld (b.set i x) 8 4 (by simp; omega) (by decide) (by decide)
    have n2 := numBytes_fld b 8 4 (by omega) (by decide) (by decide)
    rw [hs2, n2] at n1
    have e6 := congrArg (fun m => m[i - 8]?) n1
    simp only [List.getElem?_take, List.getElem?_drop] at e6
    rw [if_pos (by omega), if_pos (by omega), show 8 + (i - 8) = i by omega] at e6
    simp [hi] at e6
    exact hx e6.symm
  · rw [fld_set_out b i x 8 4 (by omega), hs] at hs2
    rcases Nat.lt_or_ge i 8 with h8 | h8
    · have hit : i < (b.take 8).length := by simp; omega
      obtain ⟨s1, s2⟩ := set_split (b.take 8) i x hit
      have e : pgSummed (b.set i x) = (b.take 8).take i ++ x :: ((b.take 8).drop (i + 1) ++ b.drop 12) := by
        unfold pgSummed
        rw [List.take_set, s1, List.drop_set_of_lt (by omega), List.append_assoc]; rfl
      have e' : pgSummed b = (b.take 8).take i ++ b[i] :: ((b.take 8).drop (i + 1) ++ b.drop 12) := by
        unfold pgSummed
        conv => lhs; rw [s2]
        rw [List.append_assoc, List.getElem_take]; rfl
      rw [e, e'] at hs2
      exact OctCrc.crc_turned _ _ _ _ hx hs2.symm
    · have hit : i - 12 < (b.drop 12).length := by simp; omega
      obtain ⟨s1, s2⟩ := set_split (b.drop 12) (i - 12) x hit
      have e : pgSummed (b.set i x) = (b.take 8 ++ (b.drop 12).take (i - 12)) ++ x :: (b.drop 12).drop (i - 12 + 1) := by
        unfold pgSummed
        rw [List.take_set_of_le (by omega), List.drop_set, if_neg (by omega), s1, List.append_assoc]
      have hg : (b.drop 12)[i - 12] = b[i] := by rw [List.getElem_drop]; congr 1; omega
      have e' : pgSummed b = (b.take 8 ++ (b.drop 12).take (i - 12)) ++ b[i] :: (b.drop 12).drop (i - 12 + 1) := by
        unfold pgSummed
        conv => lhs; rw [s2]
        rw [List.append_assoc, hg]
      rw [e, e'] at hs2
      exact OctCrc.crc_turned _ _ _ _ hx hs2.symm
/-- under another number a page is none -/
theorem pgOpen_other {no m : Int} {b : List UInt8} (h : pgOpen no b = 0) (hm : m ≠ no) : pgOpen m b ≠ 0 := by
  intro h2
  have := (pgOpen_ok h).2.2.2.2.2.2.2.2.1
  have := (pgOpen_ok h2).2.2.2.2.2.2.2.2.1
  omega
end Go.Oct
