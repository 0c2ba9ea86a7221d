/- Plain laws of bytes as nodes (layer 13). No program is named here. -/
import Derived.Test.YtcmoajbdepohmaaNkPlain
namespace Go.Oct
/-- the i-th entry, the i-th kid that bytes stand for -/
def ndEnt (b : List UInt8) (i : Nat) : Quad := (((fld b (1 + 13 * i) 1 : Nat) : Int), unopn (fld b (2 + 13 * i) 4 : Nat), unopn (fld b (6 + 13 * i) 4 : Nat), unopn (fld b (10 + 13 * i) 4 : Nat))
def ndKid (b : List UInt8) (i : Nat) : Quad := (unopn (fld b (1 + 16 * i) 4 : Nat), unopn (fld b (5 + 16 * i) 4 : Nat), unopn (fld b (9 + 16 * i) 4 : Nat), unopn (fld b (13 + 16 * i) 4 : Nat))
def qList (f : Nat → Quad) (k : Nat) : List Quad := (List.range k).map f
theorem qList_snoc (f : Nat → Quad) (k : Nat) : qList f (k + 1) = qList f k ++ [f k] := by simp [qList, List.range_succ]
theorem qList_length (f : Nat → Quad) (k : Nat) : (qList f k).length = k := by simp [qList]
def ndSized (kind : Int) (b : List UInt8) : Prop := (kind = 1 ∧ b.length = 1 + 13 * fld b 0 1) ∨ (kind = 2 ∧ b.length = 1 + 16 * fld b 0 1)
instance (kind : Int) (b : List UInt8) : Decidable (ndSized kind b) := by unfold ndSized; infer_instance
def ndEsOf (kind : Int) (b : List UInt8) : List Quad := if kind = 1 then qList (ndEnt b) (fld b 0 1) else []
def ndKsOf (kind : Int) (b : List UInt8) : List Quad := if kind = 2 then qList (ndKid b) (fld b 0 1) else []
/-- are these bytes a node of this kind? -/
def ndOpens (kind : Int) (b : List UInt8) : Prop := ndSized kind b ∧ ndMay (decide (kind = 1)) (ndEsOf kind b) (ndKsOf kind b)
instance (kind : Int) (b : List UInt8) : Decidable (ndOpens kind b) := by unfold ndOpens; infer_instance
def noCode (kind : Int) (b : List UInt8) : Nat := if ndOpens kind b then 0 else 4
def noLeaf (kind : Int) (b : List UInt8) : Bool := if ndOpens kind b then decide (kind = 1) else false
def noEs (kind : Int) (b : List UInt8) : List Quad := if ndOpens kind b then ndEsOf kind b else []
def noKs (kind : Int) (b : List UInt8) : List Quad := if ndOpens kind b then ndKsOf kind b else []
theorem ndOpens_short {kind : Int} {b : List UInt8} (h : b.length < 1) : ¬ ndOpens kind b := by
  rintro ⟨h1 | h1, _⟩ <;> omega
theorem ndOpens_kind {kind : Int} {b : List UInt8} (h : kind ≠ 1) (h2 : kind ≠ 2) : ¬ ndOpens kind b := by
  rintro ⟨h1 | h1, _⟩ <;> omega
theorem ndOpens_one {b : List UInt8} : ndOpens 1 b ↔ b.length = 1 + 13 * fld b 0 1 ∧ ndMay true (qList (ndEnt b) (fld b 0 1)) [] := by
  unfold ndOpens ndSized ndEsOf ndKsOf
  constructor
  · rintro ⟨h | h, h2⟩
    · exact ⟨h.2, h2⟩
    · omega
  · rintro ⟨h, h2⟩
    exact ⟨.inl ⟨rfl, h⟩, h2⟩
theorem ndOpens_two {b : List UInt8} : ndOpens 2 b ↔ b.length = 1 + 16 * fld b 0 1 ∧ ndMay false [] (qList (ndKid b) (fld b 0 1)) := by
  unfold ndOpens ndSized ndEsOf ndKsOf
  constructor
  · rintro ⟨h | h, h2⟩
    · omega
    · exact ⟨h.2, h2⟩
  · rintro ⟨h, h2⟩
    exact ⟨.inr ⟨rfl, h⟩, h2⟩
end Go.Oct
