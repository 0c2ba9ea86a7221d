/- The walks of past.at, past.Undo, past.Redo, octavoref17.Turn. -/
import Derived.Test.YtdofdegicdkhlaaPastC
import Derived.Test.YtdofdegicdkhlaaAppend
import Derived.Lib.SmallJoins
namespace Go.Proofs.Ytdofdegicdkhlaa
open Go.RowKit Go.Oct

theorem infoVer : (Try.prog.info? 41).map (fun i => (i.zero, i.size, i.bytes)) = some (some (.agg #[.int .i64 0, .int .i64 0]), 2, 16) := by kernel_rfl
/-- v is nil, or a part of a block of versions that lies from base on and reads as l -/
def NewVers (base : Nat) (w : World) (v : Value) (l : List Ver) : Prop :=
  (v = .slice none 0 0 ∧ l = []) ∨ ∃ g o cap cs, v = .slice (some ⟨g, o, none⟩) l.length cap ∧ base ≤ g ∧ w.heap[g]? = some (.cells cs 41 (0, 0)) ∧ l.length ≤ cap ∧ cap ≤ maxLen ∧
    (cs.toList.drop o).take (l.length * 2) = vs l
theorem NewVers.vers {base : Nat} {w : World} {v : Value} {l : List Ver} (h : NewVers base w v l) : Vers w v l := by
  rcases h with ⟨rfl, rfl⟩ | ⟨g, o, cap, cs, rfl, _, hg, h1, h2, h3⟩
  · exact ⟨none, 0, rfl, Nat.le_refl _, by decide, fun h => by simp [vs] at h⟩
  · refine ⟨_, _, rfl, h1, h2, fun _ => ⟨g, o, rfl, fun i x hi => ?_⟩⟩
    rw [World.cell_block hg]
    rw [← h3, List.getElem?_take] at hi
    split at hi
    · rw [List.getElem?_drop] at hi
      simpa using hi
    · cases hi
theorem NewVers.below {base : Nat} {w w' : World} {v : Value} {l : List Ver} (h : NewVers base w v l) (k : Below w.heap.size w w') : NewVers base w' v l := by
  rcases h with h | ⟨g, o, cap, cs, rfl, hb, hg, r⟩
  · exact .inl h
  · exact .inr ⟨g, o, cap, cs, rfl, hb, box_below hg k, r⟩
theorem NewVers.mono {base base' : Nat} {w : World} {v : Value} {l : List Ver} (h : NewVers base w v l) (k : base' ≤ base) : NewVers base' w v l := by
  rcases h with h | ⟨g, o, cap, cs, rfl, hb, r⟩
  · exact .inl h
  · exact .inr ⟨g, o, cap, cs, rfl, by omega, r⟩
theorem NewVers.own {base : Nat} {w : World} {v : Value} {l : List Ver} (h : w.ownsRow base 41 2 v l.length (vs l)) : NewVers base w v l := by
  rcases h.2 with ⟨rfl, h0⟩ | ⟨g, cap, cur, rfl, hb, hg, hnc, hcm, hcs, ht⟩
  · exact .inl ⟨rfl, List.eq_nil_of_length_eq_zero h0⟩
  · exact .inr ⟨g, 0, cap, cur, rfl, hb, hg, hnc, hcm, by rw [List.drop_zero]; exact ht⟩
theorem own_made (w : World) (base : Nat) (h : base ≤ w.heap.size) : (w.alloc (.cells #[] 41)).ownsRow base 41 2 (.slice (some ⟨w.heap.size, 0, none⟩) 0 0) 0 [] :=
  World.ownsRow_made w #[] 0 h (by decide) (by simp)
/-- what a turn answers -/
def PastPost (w : World) (code : Nat) (l : List Ver) (c : Int) (e : Ending) (w' : World) : Prop :=
  ∃ v, e = .returned (.tuple #[.agg #[v, .int .i64 c], .int .i64 (code : Nat)]) ∧ NewVers w.heap.size w' v l ∧ Below w.heap.size w w'
theorem past_bad {w w' : World} {code : Nat} (h : Below w.heap.size w w') (e : Ending) (he : e = .returned (.tuple #[.agg #[.slice none 0 0, .int .i64 0], .int .i64 (code : Nat)])) : PastPost w code [] 0 e w' :=
  ⟨_, he, .inl ⟨rfl, rfl⟩, h⟩
theorem sets2_below {w0 w : World} {B b : Nat} (h : Below B w0 w) (hb : B ≤ b) (v0 v1 : Value) : Below B w0 ((w.setCell ⟨b, 0, none⟩ v0).setCell ⟨b, 1, none⟩ v1) := (h.setCell hb _).setCell hb _
theorem sets2_other (w : World) (b i : Nat) (hne : i ≠ b) (v0 v1 : Value) : ((w.setCell ⟨b, 0, none⟩ v0).setCell ⟨b, 1, none⟩ v1).heap[i]? = w.heap[i]? := by
  rw [Below.heap_setCell _ _ _ _ hne, Below.heap_setCell _ _ _ _ hne]
theorem NewVers.sets2 {base : Nat} {w : World} {v : Value} {l : List Ver} (h : NewVers base w v l) (s : Nat) (hs : s < base) (v0 v1 : Value) : NewVers base ((w.setCell ⟨s, 0, none⟩ v0).setCell ⟨s, 1, none⟩ v1) v l := by
  rcases h with h | ⟨g, o, cap, cs, rfl, hb, hg, r⟩
  · exact .inl h
  · exact .inr ⟨g, o, cap, cs, rfl, hb, (sets2_other w s g (by omega) v0 v1).trans hg, r⟩
theorem NewVers.form {base : Nat} {w : World} {v : Value} {l : List Ver} (h : NewVers base w v l) : ∃ g cp, v = .slice g l.length cp := by
  rcases h with ⟨rfl, rfl⟩ | ⟨g, o, cap, cs, rfl, _⟩
  · exact ⟨_, _, rfl⟩
  · exact ⟨_, _, rfl⟩
set_option maxHeartbeats 2000000 in
theorem past_at_any (v : Value) (l : List Ver) (c d cur : Int) (w : World) (hB : Vers w v l) (hl : l.length ≤ 8796093022144) (hcur : cur = c + d) :
    Calls Try.prog 49 #[.agg #[v, .int .i64 c], .int .i64 cur] w (PastPost w (turnCode l c d) (turnList l c d) (turnCur l c d)) := by
  obtain ⟨a, cap, rfl, hcap, hmax, hcells⟩ := Vers.open hB
  unfold maxLen at hmax
  by_cases hM : pastMay l c
  · have HM := Lib.hid (decide_eq_true hM)
    by_cases h0 : cur < 0
    · have e1 : turnCode l c d = 14 := by unfold turnCode; rw [if_pos hM, if_neg (by omega)]
      rw [show turnList l c d = [] by simp [turnList, e1], show turnCur l c d = 0 by simp [turnCur, e1], e1]
      clear hM e1 hcells hcur
      go_enter Try.func49, Try.ntmps49
      go_wp2_with fail
      refine (pastMay_any _ l _ _ (Vers.alloc (Vers.alloc hB _) _)).mono ?_
      rintro e w2 ⟨rfl, hx2⟩
      rw [HM.out]
      have hbx := box_below (heap_keep (heap_last (o := pastBox (.slice a l.length cap) c) rfl) _) hx2
      have hbz := box_below (heap_last (o := pastBox (.slice none 0 0) 0) (sz1 _ _).symm) hx2
      obtain ⟨y0, y1⟩ := pastBox_cells hbx
      obtain ⟨z0, z1⟩ := pastBox_cells hbz
      have hfz := pastBox_free hbz
      have hls := (Array.getElem?_eq_some_iff.1 hbz).1
      have hw2 : Below w.heap.size w w2 := (below_new (below_new (Below.refl _ _) _) _).trans (hx2.mono (by simp; omega))
      clear hbx hbz hx2
      go_wp2_with fail
      refine bodyPost_ret (v := .tuple #[.agg #[.slice none 0 0, .int .i64 0], .int .i64 14]) (by simp [results, Try.results49, go_sem, z0, z1]) rfl ?_
      exact past_bad (sets2_below hw2 (by omega) _ _) _ rfl
    by_cases h1 : (l.length : Int) ≤ cur
    · have e1 : turnCode l c d = 14 := by unfold turnCode; rw [if_pos hM, if_neg (by omega)]
      rw [show turnList l c d = [] by simp [turnList, e1], show turnCur l c d = 0 by simp [turnCur, e1], e1]
      clear hM e1 hcells hcur
      go_enter Try.func49, Try.ntmps49
      go_wp2_with fail
      refine (pastMay_any _ l _ _ (Vers.alloc (Vers.alloc hB _) _)).mono ?_
      rintro e w2 ⟨rfl, hx2⟩
      rw [HM.out]
      have hbx := box_below (heap_keep (heap_last (o := pastBox (.slice a l.length cap) c) rfl) _) hx2
      have hbz := box_below (heap_last (o := pastBox (.slice none 0 0) 0) (sz1 _ _).symm) hx2
      obtain ⟨y0, y1⟩ := pastBox_cells hbx
      obtain ⟨z0, z1⟩ := pastBox_cells hbz
      have hfz := pastBox_free hbz
      have hls := (Array.getElem?_eq_some_iff.1 hbz).1
      have hw2 : Below w.heap.size w w2 := (below_new (below_new (Below.refl _ _) _) _).trans (hx2.mono (by simp; omega))
      clear hbx hbz hx2
      go_wp2_with fail
      refine bodyPost_ret (v := .tuple #[.agg #[.slice none 0 0, .int .i64 0], .int .i64 14]) (by simp [results, Try.results49, go_sem, z0, z1]) rfl ?_
      exact past_bad (sets2_below hw2 (by omega) _ _) _ rfl
    have e1 : turnCode l c d = 0 := by unfold turnCode; rw [if_pos hM, if_pos (by omega)]
    rw [show turnList l c d = l by simp [turnList, e1], show turnCur l c d = cur by simp [turnCur, e1]; omega, e1]
    obtain ⟨i0, hi, hz0, hz1, hz2⟩ := info_parts infoVer
    clear hM e1 hcells hcur
    go_enter Try.func49, Try.ntmps49
    go_wp2_with fail
    refine (pastMay_any _ l _ _ (Vers.alloc (Vers.alloc hB _) _)).mono ?_
    rintro e w2 ⟨rfl, hx2⟩
    rw [HM.out]
    have hbx := box_below (heap_keep (heap_last (o := pastBox (.slice a l.length cap) c) rfl) _) hx2
    have hbz := box_below (heap_last (o := pastBox (.slice none 0 0) 0) (sz1 _ _).symm) hx2
    obtain ⟨y0, y1⟩ := pastBox_cells hbx
    have hls := (Array.getElem?_eq_some_iff.1 hbz).1
    have hw2 : Below w.heap.size w w2 := (below_new (below_new (Below.refl _ _) _) _).trans (hx2.mono (by simp; omega))
    have HB2 := Lib.hid (Vers.alloc (Vers.below (Vers.alloc (Vers.alloc hB _) _) hx2) (.cells #[] 41))
    obtain ⟨x0, x1⟩ := pastBox_cells (heap_keep hbx (.cells #[] 41))
    have HO2 := Lib.hid (own_made w2 w2.heap.size (Nat.le_refl _))
    have HZ := Lib.hid hbz
    clear hbx hbz hx2
    go_wp2_with (at_builtin; go_loud (refine wpList_append_has _ rfl (.tmp 20) (.tmp 22) 37 rfl w2.heap.size 41 i0 (.agg #[.int .i64 0, .int .i64 0]) 2 16 Try.underlying37 hi hz0 hz1 hz2 rfl (by decide) _ _ _ rfl HO2.out _ _ _ rfl HB2.out (vs_length l) (vs_one l) ?c3 ?c4 ?c5 ?_))
    case c3 => unfold maxLen; omega
    case c4 => omega
    case c5 => simp
    intro v' w3 hown3 hgr3 _
    have hown : w3.ownsRow w2.heap.size 41 2 v' l.length (vs l) := by simpa using hown3
    have hw3 : Below w.heap.size w w3 := (below_new hw2 _).grown hgr3 (by simp; omega) (fun k hk => by simp [Value.ownBlock] at hk; omega)
    have hbz3 := box_grown (heap_keep HZ.out _) hgr3 (by simp [Value.ownBlock]; omega)
    obtain ⟨z0, z1⟩ := pastBox_cells hbz3
    have hfz := pastBox_free hbz3
    have hls3 := (Array.getElem?_eq_some_iff.1 hbz3).1
    have hgs := hgr3.size
    simp only [sz1] at hgs
    obtain ⟨g, cp, hf⟩ : ∃ g cp, v' = .slice g l.length cp := by rcases hown.2 with ⟨rfl, h0⟩ | ⟨g, cap', cur, rfl, _⟩; exact ⟨none, 0, by rw [h0]⟩; exact ⟨_, _, rfl⟩
    subst hf
    have HN := Lib.hid (NewVers.own hown)
    clear hown hown3 hgr3 hbz3 y0 y1 x0 x1
    go_wp2_with fail
    refine bodyPost_ret (v := .tuple #[.agg #[.slice g l.length cp, .int .i64 cur], .int .i64 0]) (by simp [results, Try.results49, go_sem, z0, z1]) rfl ?_
    exact ⟨_, rfl, (HN.out.sets2 _ hls _ _).mono (by omega), sets2_below hw3 (by omega) _ _⟩
  · have e1 : turnCode l c d = 1 := by unfold turnCode; rw [if_neg hM]
    have HM := Lib.hid (decide_eq_false hM)
    rw [show turnList l c d = [] by simp [turnList, e1], show turnCur l c d = 0 by simp [turnCur, e1], e1]
    clear hM e1 hcells hcur
    go_enter Try.func49, Try.ntmps49
    go_wp2_with fail
    refine (pastMay_any _ l _ _ (Vers.alloc (Vers.alloc hB _) _)).mono ?_
    rintro e w2 ⟨rfl, hx2⟩
    rw [HM.out]
    have hbz := box_below (heap_last (o := pastBox (.slice none 0 0) 0) (sz1 _ _).symm) hx2
    obtain ⟨z0, z1⟩ := pastBox_cells hbz
    have hfz := pastBox_free hbz
    have hls := (Array.getElem?_eq_some_iff.1 hbz).1
    have hw2 : Below w.heap.size w w2 := (below_new (below_new (Below.refl _ _) _) _).trans (hx2.mono (by simp; omega))
    clear hbz hx2
    go_wp2_with fail
    refine bodyPost_ret (v := .tuple #[.agg #[.slice none 0 0, .int .i64 0], .int .i64 1]) (by simp [results, Try.results49, go_sem, z0, z1]) rfl ?_
    exact past_bad (sets2_below hw2 (by omega) _ _) _ rfl
set_option maxHeartbeats 1000000 in
theorem pastUndo_any (v : Value) (l : List Ver) (c : Int) (w : World) (hB : Vers w v l) (hl : l.length ≤ 8796093022144) (hc : c ≤ 9223372036854775807) :
    Calls Try.prog 31 #[.agg #[v, .int .i64 c]] w (PastPost w (turnCode l c (-1)) (turnList l c (-1)) (turnCur l c (-1))) := by
  obtain ⟨a, cap, rfl, hcap, hmax, -⟩ := Vers.open hB
  unfold maxLen at hmax
  by_cases h0 : c < 0
  · have e1 : turnCode l c (-1) = 1 := by unfold turnCode; rw [if_neg (fun h => by have := h.1; omega)]
    rw [show turnList l c (-1) = [] by simp [turnList, e1], show turnCur l c (-1) = 0 by simp [turnCur, e1], e1]
    clear e1
    go_enter Try.func31, Try.ntmps31
    go_wp2_with fail
    refine bodyPost_ret (v := .tuple #[.agg #[.slice none 0 0, .int .i64 0], .int .i64 1]) (by simp [results, Try.results31, go_sem]) rfl ?_
    exact past_bad (below_new (below_new (Below.refl _ _) _) _) _ rfl
  have HB2 := Lib.hid (Vers.alloc (Vers.alloc hB (pastBox (.slice a l.length cap) c)) (pastBox (.slice none 0 0) 0))
  go_enter Try.func31, Try.ntmps31
  go_wp2_with fail
  refine (past_at_any _ l c (-1) _ _ HB2.out hl (by omega)).mono ?_
  rintro e w3 ⟨v3, rfl, hn3, hx3⟩
  obtain ⟨g3, c3, rfl⟩ := hn3.form
  have hbz3 := box_below (heap_last (o := pastBox (.slice none 0 0) 0) (sz1 _ _).symm) hx3
  obtain ⟨z0, z1⟩ := pastBox_cells hbz3
  have hfz := pastBox_free hbz3
  have hls3 := (Array.getElem?_eq_some_iff.1 hbz3).1
  have hw3 : Below w.heap.size w w3 := (below_new (below_new (Below.refl _ _) _) _).trans (hx3.mono (by simp; omega))
  have HN := Lib.hid hn3
  clear hx3 hbz3 hn3
  go_wp2_with fail
  refine bodyPost_ret (v := .tuple #[.agg #[.slice g3 (turnList l c (-1)).length c3, .int .i64 (turnCur l c (-1))], .int .i64 (turnCode l c (-1) : Nat)]) (by simp [results, Try.results31, go_sem, z0, z1]) rfl ?_
  exact ⟨_, rfl, (HN.out.sets2 _ (by simp only [sz1]; omega) _ _).mono (by simp only [sz1]; omega), sets2_below hw3 (by omega) _ _⟩
end Go.Proofs.Ytdofdegicdkhlaa
