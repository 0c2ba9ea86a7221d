/- What stands at the head of a round of the law PastRuns, and what moves it. -/
import Derived.Test.YtdofdegicdkhlaaOff
import Derived.Test.YtdofdegicdkhlaaPastO
import Derived.RegionTactic
import Derived.BigRegion
import Derived.Deep.DeepCutAuto
namespace Go.Proofs.Ytdofdegicdkhlaa
open Go.RowKit Go.Oct

/-- v reads as these versions, and lies in this block -/
def VRow (w : World) (v : Value) (l : List Ver) (row : Option Nat) : Prop :=
  (v = .slice none 0 0 ∧ l = [] ∧ row = none) ∨ ∃ g o cap cs, v = .slice (some ⟨g, o, none⟩) l.length cap ∧ row = some g ∧ w.heap[g]? = some (.cells cs 41 (0, 0)) ∧ l.length ≤ cap ∧ cap ≤ maxLen ∧ (cs.toList.drop o).take (l.length * 2) = vs l
theorem VRow.new {base : Nat} {w : World} {v : Value} {l : List Ver} (h : NewVers base w v l) : ∃ row, VRow w v l row ∧ ∀ r, row = some r → base ≤ r := by
  rcases h with ⟨h1, h2⟩ | ⟨g, o, cap, cs, h1, hb, r⟩
  · exact ⟨none, .inl ⟨h1, h2, rfl⟩, fun r hr => by cases hr⟩
  · exact ⟨some g, .inr ⟨g, o, cap, cs, h1, rfl, r⟩, fun r hr => by have := Option.some.inj hr; omega⟩
theorem VRow.vers {w : World} {v : Value} {l : List Ver} {row : Option Nat} (h : VRow w v l row) : Vers w v l := by
  rcases h with ⟨h1, h2, _⟩ | ⟨g, o, cap, cs, h1, _, r⟩
  · exact NewVers.vers (base := 0) (.inl ⟨h1, h2⟩)
  · exact NewVers.vers (base := 0) (.inr ⟨g, o, cap, cs, h1, Nat.zero_le _, r⟩)
theorem VRow.kept {w w' : World} {v : Value} {l : List Ver} {row row' : Option Nat} (h : VRow w v l row) (k : w.grownBy w' row') (hne : ∀ i, row = some i → row' = some i → False) : VRow w' v l row := by
  rcases h with h | ⟨g, o, cap, cs, hv, hr, hg, r⟩
  · exact .inl h
  · exact .inr ⟨g, o, cap, cs, hv, hr, box_grown hg k (fun e => hne g hr e), r⟩
theorem VRow.below {w w' : World} {v : Value} {l : List Ver} {row : Option Nat} (h : VRow w v l row) (k : Below w.heap.size w w') : VRow w' v l row := by
  rcases h with h | ⟨g, o, cap, cs, hv, hr, hg, r⟩
  · exact .inl h
  · exact .inr ⟨g, o, cap, cs, hv, hr, box_below hg k, r⟩
theorem VRow.lt {w : World} {v : Value} {l : List Ver} {row : Option Nat} (h : VRow w v l row) : ∀ i, row = some i → i < w.heap.size := by
  intro i hi
  rcases h with ⟨_, _, h⟩ | ⟨g, o, cap, cs, hv, hr, hg, r⟩
  · rw [h] at hi; cases hi
  · rw [hr] at hi
    have := Option.some.inj hi
    have := (Array.getElem?_eq_some_iff.1 hg).1
    omega
theorem VRow.form {w : World} {v : Value} {l : List Ver} {row : Option Nat} (h : VRow w v l row) : ∃ a cp, v = .slice a l.length cp := by
  rcases h with ⟨rfl, rfl, _⟩ | ⟨g, o, cap, cs, hv, _⟩
  · exact ⟨_, _, rfl⟩
  · exact ⟨_, _, hv⟩
/-- what stands at the head of a round -/
structure RunSt (w : World) (pb nb : Nat) (lb la : List Ver) (now : Ver) (l : List Ver) (c : Int) (ap ab aa : Option Addr) (cp cb ca : Nat) (rp rb ra : Option Nat) (W : World) : Prop where
  pbx : W.heap[pb]? = some (pastBox (.slice ap l.length cp) c)
  nbx : W.heap[nb]? = some (verBox now.1 now.2)
  vp : VRow W (.slice ap l.length cp) l rp
  ob : OffRow W 41 2 (.slice ab lb.length cb) lb.length (vs lb) rb
  oa : OffRow W 41 2 (.slice aa la.length ca) la.length (vs la) ra
  st : stacked lb now la l c
  my : pastMay l c
  pn : pb ≠ nb ∧ w.heap.size ≤ pb ∧ w.heap.size ≤ nb
  np : ∀ i, rp = some i → i ≠ pb ∧ i ≠ nb ∧ w.heap.size ≤ i
  nbb : ∀ i, rb = some i → i ≠ pb ∧ i ≠ nb ∧ w.heap.size ≤ i
  na : ∀ i, ra = some i → i ≠ pb ∧ i ≠ nb ∧ w.heap.size ≤ i
  pbn : ∀ i, rp = some i → rb = some i → False
  pan : ∀ i, rp = some i → ra = some i → False
  ban : ∀ i, rb = some i → ra = some i → False
  bl : Below w.heap.size w W
/-- a slice of whole numbers -/
def IntsOf (w : World) (v : Value) (l : List Int) : Prop := Has w v l.length (l.map (Value.int .i64))
theorem IntsOf.open {w : World} {v : Value} {l : List Int} (h : IntsOf w v l) : ∃ a cap, v = .slice a l.length cap ∧ l.length ≤ cap ∧ cap ≤ maxLen ∧
    (0 < l.length → ∃ b o, a = some ⟨b, o, none⟩ ∧ b < w.heap.size ∧ ∀ i (hi : i < l.length), w.cell? ⟨b, o + i, none⟩ = some (.int .i64 l[i])) := by
  obtain ⟨a, cap, hv, h1, h2, h3⟩ := h
  refine ⟨a, cap, hv, h1, h2, fun hl => ?_⟩
  obtain ⟨b, o, ha, hc⟩ := h3 (by cases l with | nil => simp at hl | cons v l => simp)
  have hcell : ∀ i (hi : i < l.length), w.cell? ⟨b, o + i, none⟩ = some (.int .i64 l[i]) := fun i hi => hc i _ (by simp [hi])
  exact ⟨b, o, ha, World.block_lt_of_cell? w _ (hcell 0 hl), hcell⟩
theorem empty_off (w : World) : OffRow (w.alloc (.cells #[] 41)) 41 2 (.slice (some ⟨w.heap.size, 0, none⟩) 0 0) 0 [] (some w.heap.size) :=
  ⟨by simp, .inr ⟨w.heap.size, 0, 0, #[], rfl, rfl, heap_alloc_new w _, Nat.le_refl _, by decide, by simp, by simp⟩⟩
theorem OffRow.alloc {w : World} {size n : Nat} {e : TypeId} {v : Value} {xs : List Value} {row : Option Nat} (h : OffRow w e size v n xs row) (o : Obj) : OffRow (w.alloc o) e size v n xs row := h.below ((Below.refl _ _).alloc (Nat.le_refl _) o)
theorem VRow.alloc {w : World} {v : Value} {l : List Ver} {row : Option Nat} (h : VRow w v l row) (o : Obj) : VRow (w.alloc o) v l row := h.below ((Below.refl _ _).alloc (Nat.le_refl _) o)
theorem undo_no {now : Ver} {la l : List Ver} {c : Int} (h : stacked [] now la l c) (hm : pastMay l c) : turnCode l c (-1) = 14 ∧ turnList l c (-1) = [] ∧ turnCur l c (-1) = 0 := by
  have hc : c = 0 := h.2
  have h1 : turnCode l c (-1) = 14 := by unfold turnCode; rw [if_pos hm, if_neg (by omega)]
  exact ⟨h1, by rw [turnList, if_neg (by omega)], by rw [turnCur, if_neg (by omega)]⟩
theorem undo_yes {lb la l : List Ver} {b now : Ver} {c : Int} (h : stacked (lb ++ [b]) now la l c) (hm : pastMay l c) : turnCode l c (-1) = 0 ∧ turnList l c (-1) = l ∧ turnCur l c (-1) = c - 1 := by
  have hc : c = lb.length + 1 := by have := h.2; simpa using this
  have hl := stacked_len h
  simp only [List.length_append, List.length_cons, List.length_nil] at hl
  have h1 : turnCode l c (-1) = 0 := by unfold turnCode; rw [if_pos hm, if_pos (by omega)]
  exact ⟨h1, by rw [turnList, if_pos h1], by rw [turnCur, if_pos h1]; omega⟩
theorem redo_no {lb l : List Ver} {now : Ver} {c : Int} (h : stacked lb now [] l c) (hm : pastMay l c) : turnCode l c 1 = 14 ∧ turnList l c 1 = [] ∧ turnCur l c 1 = 0 := by
  have hc := h.2
  have hl := stacked_len h
  simp only [List.length_nil, Nat.add_zero] at hl
  have h1 : turnCode l c 1 = 14 := by unfold turnCode; rw [if_pos hm, if_neg (by omega)]
  exact ⟨h1, by rw [turnList, if_neg (by omega)], by rw [turnCur, if_neg (by omega)]⟩
theorem redo_yes {lb la l : List Ver} {b now : Ver} {c : Int} (h : stacked lb now (la ++ [b]) l c) (hm : pastMay l c) : turnCode l c 1 = 0 ∧ turnList l c 1 = l ∧ turnCur l c 1 = c + 1 := by
  have hc := h.2
  have hl := stacked_len h
  simp only [List.length_append, List.length_cons, List.length_nil] at hl
  have h1 : turnCode l c 1 = 0 := by unfold turnCode; rw [if_pos hm, if_pos (by omega)]
  exact ⟨h1, by rw [turnList, if_pos h1], by rw [turnCur, if_pos h1]⟩
theorem RunSt.below {w : World} {pb nb : Nat} {lb la : List Ver} {now : Ver} {l : List Ver} {c : Int} {ap ab aa : Option Addr} {cp cb ca : Nat} {rp rb ra : Option Nat} {W W' : World} (h : RunSt w pb nb lb la now l c ap ab aa cp cb ca rp rb ra W) (k : Below W.heap.size W W') : RunSt w pb nb lb la now l c ap ab aa cp cb ca rp rb ra W' :=
  ⟨box_below h.pbx k, box_below h.nbx k, h.vp.below k, h.ob.below k, h.oa.below k, h.st, h.my, h.pn, h.np, h.nbb, h.na, h.pbn, h.pan, h.ban, below_step h.bl k⟩
theorem RunSt.kept {w : World} {pb nb : Nat} {lb la : List Ver} {now : Ver} {l : List Ver} {c : Int} {ap ab aa : Option Addr} {cp cb ca : Nat} {rp rb ra : Option Nat} {W W' : World} {Q : Nat} (h : RunSt w pb nb lb la now l c ap ab aa cp cb ca rp rb ra W) (k : W.grownBy W' (some Q))
    (h0 : Q ≠ pb) (h1 : Q ≠ nb) (h2 : ∀ i, rp = some i → i ≠ Q) (h3 : ∀ i, rb = some i → i ≠ Q) (h4 : ∀ i, ra = some i → i ≠ Q) (h5 : w.heap.size ≤ Q) : RunSt w pb nb lb la now l c ap ab aa cp cb ca rp rb ra W' :=
  ⟨box_grown h.pbx k (fun e => h0 (Option.some.inj e)), box_grown h.nbx k (fun e => h1 (Option.some.inj e)), h.vp.kept k (fun i hi hj => h2 i hi (Option.some.inj hj).symm), h.ob.kept k (fun i hi hj => h3 i hi (Option.some.inj hj).symm), h.oa.kept k (fun i hi hj => h4 i hi (Option.some.inj hj).symm),
    h.st, h.my, h.pn, h.np, h.nbb, h.na, h.pbn, h.pan, h.ban, below_row h.bl k (fun r hr => by have := Option.some.inj hr; omega)⟩
theorem grown2 (w : World) (b : Nat) (v0 v1 : Value) : w.grownBy ((w.setCell ⟨b, 0, none⟩ v0).setCell ⟨b, 1, none⟩ v1) (some b) := (grown_setCell w ⟨b, 0, none⟩ v0).trans (grown_setCell _ ⟨b, 1, none⟩ v1)
theorem verBox_set {w : World} {b : Nat} {x y : Int} (h : w.heap[b]? = some (verBox x y)) (x' y' : Int) : ((w.setCell ⟨b, 0, none⟩ (.int .i64 x')).setCell ⟨b, 1, none⟩ (.int .i64 y')).heap[b]? = some (verBox x' y') := by
  unfold verBox at h ⊢
  simp [World.setCell, Array.getElem?_modify, h]
theorem setCell_size (w : World) (a : Addr) (v : Value) : (w.setCell a v).heap.size = w.heap.size := by simp [World.setCell]
theorem off_at {w : World} {g : Nat} (h : w.heap[g]? = some (.cells #[] 41 (0, 0))) : OffRow w 41 2 (.slice (some ⟨g, 0, none⟩) 0 0) 0 [] (some g) :=
  ⟨by simp, .inr ⟨g, 0, 0, #[], rfl, rfl, h, Nat.le_refl _, by decide, by simp, by simp⟩⟩
theorem heap3 (w : World) (a b c : Obj) : (((w.alloc a).alloc b).alloc c).drew.heap[w.heap.size]? = some a ∧ (((w.alloc a).alloc b).alloc c).drew.heap[w.heap.size + 1]? = some b ∧ (((w.alloc a).alloc b).alloc c).drew.heap[w.heap.size + 1 + 1]? = some c :=
  ⟨heap_keep (heap_keep (heap_last rfl) _) _, heap_keep (heap_last (sz1 _ _).symm) _, heap_last (by rw [sz1, sz1])⟩
/-- what stands in the midst of a round: the new past lies in its own box q -/
structure Mid (w : World) (pb nb q : Nat) (pv : Value) (pc : Int) (lb la : List Ver) (now : Ver) (l : List Ver) (qc : Int) (aq ab aa : Option Addr) (cq cb ca : Nat) (rq rb ra : Option Nat) (W : World) : Prop where
  pbx : W.heap[pb]? = some (pastBox pv pc)
  nbx : W.heap[nb]? = some (verBox now.1 now.2)
  qbx : W.heap[q]? = some (pastBox (.slice aq l.length cq) qc)
  vq : VRow W (.slice aq l.length cq) l rq
  ob : OffRow W 41 2 (.slice ab lb.length cb) lb.length (vs lb) rb
  oa : OffRow W 41 2 (.slice aa la.length ca) la.length (vs la) ra
  pn : pb ≠ nb ∧ pb ≠ q ∧ nb ≠ q ∧ w.heap.size ≤ pb ∧ w.heap.size ≤ nb ∧ w.heap.size ≤ q
  nq : ∀ i, rq = some i → i ≠ pb ∧ i ≠ nb ∧ i ≠ q ∧ w.heap.size ≤ i
  nbb : ∀ i, rb = some i → i ≠ pb ∧ i ≠ nb ∧ i ≠ q ∧ w.heap.size ≤ i
  na : ∀ i, ra = some i → i ≠ pb ∧ i ≠ nb ∧ i ≠ q ∧ w.heap.size ≤ i
  qbn : ∀ i, rq = some i → rb = some i → False
  qan : ∀ i, rq = some i → ra = some i → False
  ban : ∀ i, rb = some i → ra = some i → False
  bl : Below w.heap.size w W
/-- the turn's answer is laid into q -/
theorem Mid.of {w : World} {pb nb q : Nat} {lb la : List Ver} {now : Ver} {l : List Ver} {c : Int} {ap ab aa : Option Addr} {cp cb ca : Nat} {rp rb ra : Option Nat} {W0 W W' : World} {l2 : List Ver} {v0 v2 : Value} {c0 c2 : Int}
    (h0 : RunSt w pb nb lb la now l c ap ab aa cp cb ca rp rb ra W0) (hW : Below W0.heap.size W0 W) (hq0 : W.heap[q]? = some (pastBox v0 c0)) (hq : W0.heap.size ≤ q) (hv : NewVers W0.heap.size W v2 l2) (hvq : ∀ a o n k, v2 = .slice (some ⟨a, o, none⟩) n k → a ≠ q)
    (hW' : W' = (W.setCell ⟨q, 0, none⟩ v2).setCell ⟨q, 1, none⟩ (.int .i64 c2)) :
    ∃ aq cq rq, v2 = .slice aq l2.length cq ∧ Mid w pb nb q (.slice ap l.length cp) c lb la now l2 c2 aq ab aa cq cb ca rq rb ra W' := by
  have h := h0.below hW
  obtain ⟨rq, hvr, hrq⟩ := VRow.new hv
  obtain ⟨aq, cq, rfl⟩ := hvr.form
  have hg : W.grownBy W' (some q) := by rw [hW']; exact grown2 _ _ _ _
  have hp0 := (Array.getElem?_eq_some_iff.1 h0.pbx).1
  have hn0 := (Array.getElem?_eq_some_iff.1 h0.nbx).1
  have hs := h0.bl.size
  have hlt : ∀ i, rq = some i → i ≠ q := by
    rcases hvr with ⟨_, _, hr⟩ | ⟨g, o, cap, cs, hv', hr, _⟩
    · intro i hi; rw [hr] at hi; cases hi
    · intro i hi
      rw [hr] at hi
      have := Option.some.inj hi
      have := hvq _ _ _ _ hv'
      omega
  refine ⟨aq, cq, rq, rfl, box_grown h.pbx hg (by simp; omega), box_grown h.nbx hg (by simp; omega), by rw [hW']; exact pastBox_set hq0 _ _, hvr.kept hg (fun i hi hj => hlt i hi (Option.some.inj hj).symm), h.ob.kept hg (fun i hi hj => ?_), h.oa.kept hg (fun i hi hj => ?_), ⟨h.pn.1, by omega, by omega, h.pn.2.1, h.pn.2.2, by omega⟩, ?_, ?_, ?_, ?_, ?_, h.ban, below_row h.bl hg (fun r hr => by have := Option.some.inj hr; omega)⟩
  · have := h0.ob.lt i hi; have := Option.some.inj hj; omega
  · have := h0.oa.lt i hi; have := Option.some.inj hj; omega
  · intro i hi; have := hrq i hi; exact ⟨by omega, by omega, hlt i hi, by omega⟩
  · intro i hi; have := h0.ob.lt i hi; have := h.nbb i hi; exact ⟨this.1, this.2.1, by omega, this.2.2⟩
  · intro i hi; have := h0.oa.lt i hi; have := h.na i hi; exact ⟨this.1, this.2.1, by omega, this.2.2⟩
  · intro i hi hj; have := hrq i hi; have := h0.ob.lt i hj; omega
  · intro i hi hj; have := hrq i hi; have := h0.oa.lt i hj; omega
theorem Mid.below {w : World} {pb nb q : Nat} {pv : Value} {pc : Int} {lb la : List Ver} {now : Ver} {l : List Ver} {qc : Int} {aq ab aa : Option Addr} {cq cb ca : Nat} {rq rb ra : Option Nat} {W W' : World}
    (h : Mid w pb nb q pv pc lb la now l qc aq ab aa cq cb ca rq rb ra W) (k : Below W.heap.size W W') : Mid w pb nb q pv pc lb la now l qc aq ab aa cq cb ca rq rb ra W' :=
  ⟨box_below h.pbx k, box_below h.nbx k, box_below h.qbx k, h.vq.below k, h.ob.below k, h.oa.below k, h.pn, h.nq, h.nbb, h.na, h.qbn, h.qan, h.ban, below_step h.bl k⟩
/-- a version goes behind the ones ahead -/
theorem Mid.ahead {w : World} {pb nb q : Nat} {pv : Value} {pc : Int} {lb la : List Ver} {now : Ver} {l : List Ver} {qc : Int} {aq ab aa : Option Addr} {cq cb ca : Nat} {rq rb ra : Option Nat} {W W' : World} {x : Ver} {v' : Value} {r' : Option Nat}
    (h : Mid w pb nb q pv pc lb la now l qc aq ab aa cq cb ca rq rb ra W) (ho : OffRow W' 41 2 v' (la.length + 1) (vs la ++ vs [x]) r') (hg : W.grownBy W' ra) (hr : r' = ra ∨ ∃ r, r' = some r ∧ W.heap.size ≤ r) :
    ∃ aa' ca' la', la' = la ++ [x] ∧ v' = .slice aa' la'.length ca' ∧ Mid w pb nb q pv pc lb la' now l qc aq ab aa' cq cb ca' rq rb r' W' := by
  obtain ⟨aa', ca', rfl⟩ := ho.form
  have e : (la ++ [x]).length = la.length + 1 := by simp
  refine ⟨aa', ca', _, rfl, by rw [e], ?_⟩
  have hs := h.bl.size
  have hp := (Array.getElem?_eq_some_iff.1 h.pbx).1
  have hn := (Array.getElem?_eq_some_iff.1 h.nbx).1
  have hq := (Array.getElem?_eq_some_iff.1 h.qbx).1
  rw [← vs_append, ← e] at ho
  refine ⟨box_grown h.pbx hg (fun e => (h.na _ e).1 rfl), box_grown h.nbx hg (fun e => (h.na _ e).2.1 rfl), box_grown h.qbx hg (fun e => (h.na _ e).2.2.1 rfl), h.vq.kept hg h.qan, h.ob.kept hg h.ban, ho, h.pn, h.nq, h.nbb, ?_, h.qbn, ?_, ?_, below_row h.bl hg (fun r hr => (h.na r hr).2.2.2)⟩
  · intro i hi
    rcases hr with rfl | ⟨r, rfl, hr⟩
    · exact h.na i hi
    · have := Option.some.inj hi; exact ⟨by omega, by omega, by omega, by omega⟩
  · intro i hi hj
    rcases hr with rfl | ⟨r, rfl, hr⟩
    · exact h.qan i hi hj
    · have := Option.some.inj hj; have := h.vq.lt i hi; omega
  · intro i hi hj
    rcases hr with rfl | ⟨r, rfl, hr⟩
    · exact h.ban i hi hj
    · have := Option.some.inj hj; have := h.ob.lt i hi; omega
/-- a version goes behind the ones behind -/
theorem Mid.behind {w : World} {pb nb q : Nat} {pv : Value} {pc : Int} {lb la : List Ver} {now : Ver} {l : List Ver} {qc : Int} {aq ab aa : Option Addr} {cq cb ca : Nat} {rq rb ra : Option Nat} {W W' : World} {x : Ver} {v' : Value} {r' : Option Nat}
    (h : Mid w pb nb q pv pc lb la now l qc aq ab aa cq cb ca rq rb ra W) (ho : OffRow W' 41 2 v' (lb.length + 1) (vs lb ++ vs [x]) r') (hg : W.grownBy W' rb) (hr : r' = rb ∨ ∃ r, r' = some r ∧ W.heap.size ≤ r) :
    ∃ ab' cb' lb', lb' = lb ++ [x] ∧ v' = .slice ab' lb'.length cb' ∧ Mid w pb nb q pv pc lb' la now l qc aq ab' aa cq cb' ca rq r' ra W' := by
  obtain ⟨ab', cb', rfl⟩ := ho.form
  have e : (lb ++ [x]).length = lb.length + 1 := by simp
  refine ⟨ab', cb', _, rfl, by rw [e], ?_⟩
  have hs := h.bl.size
  have hp := (Array.getElem?_eq_some_iff.1 h.pbx).1
  have hn := (Array.getElem?_eq_some_iff.1 h.nbx).1
  have hq := (Array.getElem?_eq_some_iff.1 h.qbx).1
  rw [← vs_append, ← e] at ho
  refine ⟨box_grown h.pbx hg (fun e => (h.nbb _ e).1 rfl), box_grown h.nbx hg (fun e => (h.nbb _ e).2.1 rfl), box_grown h.qbx hg (fun e => (h.nbb _ e).2.2.1 rfl), h.vq.kept hg h.qbn, ho, h.oa.kept hg (fun i hi hj => h.ban i hj hi), h.pn, h.nq, ?_, h.na, ?_, h.qan, ?_, below_row h.bl hg (fun r hr => (h.nbb r hr).2.2.2)⟩
  · intro i hi
    rcases hr with rfl | ⟨r, rfl, hr⟩
    · exact h.nbb i hi
    · have := Option.some.inj hi; exact ⟨by omega, by omega, by omega, by omega⟩
  · intro i hi hj
    rcases hr with rfl | ⟨r, rfl, hr⟩
    · exact h.qbn i hi hj
    · have := Option.some.inj hj; have := h.vq.lt i hi; omega
  · intro i hi hj
    rcases hr with rfl | ⟨r, rfl, hr⟩
    · exact h.ban i hi hj
    · have := Option.some.inj hi; have := h.oa.lt i hj; omega
/-- the slice of the ones behind is another one of its block -/
theorem Mid.cutB {w : World} {pb nb q : Nat} {pv : Value} {pc : Int} {lb lb' la : List Ver} {now : Ver} {l : List Ver} {qc : Int} {aq ab ab' aa : Option Addr} {cq cb cb' ca : Nat} {rq rb ra : Option Nat} {W : World}
    (h : Mid w pb nb q pv pc lb la now l qc aq ab aa cq cb ca rq rb ra W) (ho : OffRow W 41 2 (.slice ab' lb'.length cb') lb'.length (vs lb') rb) : Mid w pb nb q pv pc lb' la now l qc aq ab' aa cq cb' ca rq rb ra W :=
  ⟨h.pbx, h.nbx, h.qbx, h.vq, ho, h.oa, h.pn, h.nq, h.nbb, h.na, h.qbn, h.qan, h.ban, h.bl⟩
theorem Mid.cutA {w : World} {pb nb q : Nat} {pv : Value} {pc : Int} {lb la la' : List Ver} {now : Ver} {l : List Ver} {qc : Int} {aq ab aa aa' : Option Addr} {cq cb ca ca' : Nat} {rq rb ra : Option Nat} {W : World}
    (h : Mid w pb nb q pv pc lb la now l qc aq ab aa cq cb ca rq rb ra W) (ho : OffRow W 41 2 (.slice aa' la'.length ca') la'.length (vs la') ra) : Mid w pb nb q pv pc lb la' now l qc aq ab aa' cq cb ca' rq rb ra W :=
  ⟨h.pbx, h.nbx, h.qbx, h.vq, h.ob, ho, h.pn, h.nq, h.nbb, h.na, h.qbn, h.qan, h.ban, h.bl⟩
theorem Mid.nilA {w : World} {pb nb q : Nat} {pv : Value} {pc : Int} {lb la : List Ver} {now : Ver} {l : List Ver} {qc : Int} {aq ab aa : Option Addr} {cq cb ca : Nat} {rq rb ra : Option Nat} {W : World}
    (h : Mid w pb nb q pv pc lb la now l qc aq ab aa cq cb ca rq rb ra W) : Mid w pb nb q pv pc lb [] now l qc aq ab none cq cb 0 rq rb none W :=
  ⟨h.pbx, h.nbx, h.qbx, h.vq, h.ob, ⟨rfl, .inl ⟨rfl, rfl, rfl⟩⟩, h.pn, h.nq, h.nbb, fun i hi => by (cases hi), h.qbn, fun i _ hi => by (cases hi), fun i _ hi => by (cases hi), h.bl⟩
/-- another version is the one that stands -/
theorem Mid.stand {w : World} {pb nb q : Nat} {pv : Value} {pc : Int} {lb la : List Ver} {now : Ver} {l : List Ver} {qc : Int} {aq ab aa : Option Addr} {cq cb ca : Nat} {rq rb ra : Option Nat} {W : World}
    (h : Mid w pb nb q pv pc lb la now l qc aq ab aa cq cb ca rq rb ra W) (x y : Int) : Mid w pb nb q pv pc lb la (x, y) l qc aq ab aa cq cb ca rq rb ra ((W.setCell ⟨nb, 0, none⟩ (.int .i64 x)).setCell ⟨nb, 1, none⟩ (.int .i64 y)) := by
  have hg := grown2 W nb (.int .i64 x) (.int .i64 y)
  exact ⟨box_grown h.pbx hg (fun e => h.pn.1 (Option.some.inj e).symm), verBox_set h.nbx _ _, box_grown h.qbx hg (fun e => h.pn.2.2.1 (Option.some.inj e)), h.vq.kept hg (fun i hi hj => (h.nq i hi).2.1 (Option.some.inj hj).symm), h.ob.kept hg (fun i hi hj => (h.nbb i hi).2.1 (Option.some.inj hj).symm), h.oa.kept hg (fun i hi hj => (h.na i hi).2.1 (Option.some.inj hj).symm),
    h.pn, h.nq, h.nbb, h.na, h.qbn, h.qan, h.ban, below_row h.bl hg (fun r hr => by have := h.pn.2.2.2.2.1; have := Option.some.inj hr; omega)⟩
/-- q is laid into p: the round's end -/
theorem Mid.done {w : World} {pb nb q : Nat} {pv : Value} {pc : Int} {lb la : List Ver} {now : Ver} {l : List Ver} {qc : Int} {aq ab aa : Option Addr} {cq cb ca : Nat} {rq rb ra : Option Nat} {W : World}
    (h : Mid w pb nb q pv pc lb la now l qc aq ab aa cq cb ca rq rb ra W) (hs : stacked lb now la l qc) (hm : pastMay l qc) : RunSt w pb nb lb la now l qc aq ab aa cq cb ca rq rb ra ((W.setCell ⟨pb, 0, none⟩ (.slice aq l.length cq)).setCell ⟨pb, 1, none⟩ (.int .i64 qc)) := by
  have hg := grown2 W pb (.slice aq l.length cq) (.int .i64 qc)
  exact ⟨pastBox_set h.pbx _ _, box_grown h.nbx hg (fun e => h.pn.1 (Option.some.inj e)), h.vq.kept hg (fun i hi hj => (h.nq i hi).1 (Option.some.inj hj).symm), h.ob.kept hg (fun i hi hj => (h.nbb i hi).1 (Option.some.inj hj).symm), h.oa.kept hg (fun i hi hj => (h.na i hi).1 (Option.some.inj hj).symm), hs, hm, ⟨h.pn.1, h.pn.2.2.2.1, h.pn.2.2.2.2.1⟩,
    fun i hi => ⟨(h.nq i hi).1, (h.nq i hi).2.1, (h.nq i hi).2.2.2⟩, fun i hi => ⟨(h.nbb i hi).1, (h.nbb i hi).2.1, (h.nbb i hi).2.2.2⟩, fun i hi => ⟨(h.na i hi).1, (h.na i hi).2.1, (h.na i hi).2.2.2⟩, h.qbn, h.qan, h.ban, below_row h.bl hg (fun r hr => by have := h.pn.2.2.2.1; have := Option.some.inj hr; omega)⟩
/-- the cells of one version of a row -/
theorem off_cells {w : World} {l : List Ver} {g o n cap : Nat} {row : Option Nat} (h : OffRow w 41 2 (.slice (some ⟨g, o, none⟩) n cap) n (vs l) row) (i : Nat) (hi : i < l.length) :
    w.cell? ⟨g, o + i * 2, none⟩ = some (.int .i64 l[i].1) ∧ w.cell? ⟨g, o + i * 2 + 1, none⟩ = some (.int .i64 l[i].2) := by
  obtain ⟨a, k, hv, -, -, hc⟩ := h.has
  obtain ⟨h1, h2⟩ := vs_get l i hi
  obtain ⟨b, o', ha, hc⟩ := hc (fun e => by rw [e] at h1; simp at h1)
  simp only [Value.slice.injEq] at hv
  rw [ha] at hv
  simp only [Option.some.injEq, Addr.mk.injEq, and_true] at hv
  obtain ⟨⟨rfl, rfl⟩, -⟩ := hv
  exact ⟨hc _ _ h1, hc _ _ h2⟩
theorem ver_news {w : World} {g : Nat} {x y : Int} {f : Nat × Nat} {t : TypeId} (h : w.heap[g]? = some (.cells #[.int .i64 x, .int .i64 y] t f)) : ∀ j u, (vs [(x, y)])[j]? = some u → w.cell? ((⟨g, 0, none⟩ : Addr).add j) = some u := by
  intro j u hj
  rw [Addr.add_lit, Nat.zero_add, World.cell_block h]
  simpa [vs] using hj
theorem new_apart {base : Nat} {w : World} {v : Value} {l : List Ver} {q : Nat} (h : NewVers base w v l) (hq : q < base) : ∀ a o n k, v = .slice (some ⟨a, o, none⟩) n k → a ≠ q := by
  intro a o n k hv
  rcases h with ⟨h1, _⟩ | ⟨g, o', cap, cs, h1, hb, _⟩
  · rw [h1] at hv; simp at hv
  · rw [h1] at hv
    simp only [Value.slice.injEq, Option.some.injEq, Addr.mk.injEq] at hv
    omega
theorem NewVers.wider {base b : Nat} {w : World} {v : Value} {l : List Ver} (h : NewVers base w v l) (hb : b ≤ base) : NewVers b w v l := by
  rcases h with h | ⟨g, o, cap, cs, h1, h2, r⟩
  · exact .inl h
  · exact .inr ⟨g, o, cap, cs, h1, Nat.le_trans hb h2, r⟩
def slen : Value → Nat
  | .slice _ n _ => n
  | _ => 0
theorem Mid.drew {w : World} {pb nb q : Nat} {pv : Value} {pc : Int} {lb la : List Ver} {now : Ver} {l : List Ver} {qc : Int} {aq ab aa : Option Addr} {cq cb ca : Nat} {rq rb ra : Option Nat} {W : World}
    (h : Mid w pb nb q pv pc lb la now l qc aq ab aa cq cb ca rq rb ra W) : Mid w pb nb q pv pc lb la now l qc aq ab aa cq cb ca rq rb ra W.drew := h.below (Below.refl _ _).drew
/-- one more is dropped at the front -/
theorem off_drop {w : World} {l : List Ver} {g o n cap : Nat} {row : Option Nat} (h : OffRow w 41 2 (.slice (some ⟨g, o, none⟩) l.length cap) l.length (vs l) row) (hn : l.length = n + 1) :
    OffRow w 41 2 (.slice (if cap = 1 then some ⟨g, o, none⟩ else some ⟨g, o + 2, none⟩) n (cap - 1)) n (vs (l.drop 1)) row := by
  rw [vs_drop]
  rw [hn] at h
  by_cases hc : cap = 1
  · rw [if_pos hc]
    subst hc
    rcases h.2 with ⟨hv, _⟩ | ⟨g', o', cap', cs, hv, hr, hg, h1, h2, h3, h4⟩
    · simp at hv
    · simp only [Value.slice.injEq, Option.some.injEq, Addr.mk.injEq, and_true, true_and] at hv
      obtain ⟨⟨rfl, rfl⟩, rfl⟩ := hv
      obtain rfl : n = 0 := by omega
      have hx : (vs l).drop (1 * 2) = [] := List.drop_eq_nil_of_le (by rw [vs_length, hn]; omega)
      rw [hx]
      exact h.last
  · rw [if_neg hc]
    exact h.rest
end Go.Proofs.Ytdofdegicdkhlaa
