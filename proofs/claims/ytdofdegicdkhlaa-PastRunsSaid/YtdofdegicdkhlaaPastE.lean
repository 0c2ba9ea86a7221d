/- The walks of past.Redo and octavoref17.Turn. -/
import Derived.Test.YtdofdegicdkhlaaPastD
namespace Go.Proofs.Ytdofdegicdkhlaa
open Go.RowKit Go.Oct

set_option maxHeartbeats 1000000 in
theorem pastRedo_any (v : Value) (l : List Ver) (c : Int) (w : World) (hB : Vers w v l) (hl : l.length ≤ 8796093022144) :
    Calls Try.prog 33 #[.agg #[v, .int .i64 c]] w (PastPost w (turnCode l c 1) (turnList l c 1) (turnCur l c 1)) := by
  obtain ⟨a, cap, rfl, hcap, hmax, -⟩ := Vers.open hB
  unfold maxLen at hmax
  by_cases hM : pastMay l c
  · have HM := Lib.hid (decide_eq_true hM)
    obtain ⟨hc0, hc1, -⟩ := hM
    go_enter Try.func33, Try.ntmps33
    go_wp2_with fail
    refine (pastMay_any _ l _ _ (Vers.alloc (Vers.alloc hB _) _)).mono ?_
    rintro e w2 ⟨rfl, hx2⟩
    rw [HM.out]
    have hbx := box_below (heap_keep (heap_last (o := pastBox (.slice a l.length cap) c) rfl) _) hx2
    have hbz := box_below (heap_last (o := pastBox (.slice none 0 0) 0) (sz1 _ _).symm) hx2
    obtain ⟨y0, y1⟩ := pastBox_cells hbx
    have hls := (Array.getElem?_eq_some_iff.1 hbz).1
    have hw2 : Below w.heap.size w w2 := (below_new (below_new (Below.refl _ _) _) _).trans (hx2.mono (by simp; omega))
    have HB2 := Lib.hid (Vers.below (Vers.alloc (Vers.alloc hB _) _) hx2)
    have HZ := Lib.hid hbz
    clear hbx hbz hx2
    go_wp2_with fail
    refine (past_at_any _ l c 1 _ _ HB2.out hl (by omega)).mono ?_
    rintro e w3 ⟨v3, rfl, hn3, hx3⟩
    obtain ⟨g3, c3, rfl⟩ := hn3.form
    have hbz3 := box_below HZ.out hx3
    obtain ⟨z0, z1⟩ := pastBox_cells hbz3
    have hfz := pastBox_free hbz3
    have hls3 := (Array.getElem?_eq_some_iff.1 hbz3).1
    have hw3 : Below w.heap.size w w3 := below_step hw2 hx3
    have HN := Lib.hid hn3
    clear hx3 hbz3 hn3 y0 y1
    go_wp2_with fail
    refine bodyPost_ret (v := .tuple #[.agg #[.slice g3 (turnList l c 1).length c3, .int .i64 (turnCur l c 1)], .int .i64 (turnCode l c 1 : Nat)]) (by simp [results, Try.results33, go_sem, z0, z1]) rfl ?_
    exact ⟨_, rfl, (HN.out.sets2 _ (by omega) _ _).mono (by omega), sets2_below hw3 (by omega) _ _⟩
  · have e1 : turnCode l c 1 = 1 := by unfold turnCode; rw [if_neg hM]
    have HM := Lib.hid (decide_eq_false hM)
    rw [show turnList l c 1 = [] by simp [turnList, e1], show turnCur l c 1 = 0 by simp [turnCur, e1], e1]
    clear e1 hM
    go_enter Try.func33, Try.ntmps33
    go_wp2_with fail
    refine (pastMay_any _ l _ _ (Vers.alloc (Vers.alloc hB _) _)).mono ?_
    rintro e w2 ⟨rfl, hx2⟩
    rw [HM.out]
    have hbz := box_below (heap_last (o := pastBox (.slice none 0 0) 0) (sz1 _ _).symm) hx2
    obtain ⟨z0, z1⟩ := pastBox_cells hbz
    have hfz := pastBox_free hbz
    have hls := (Array.getElem?_eq_some_iff.1 hbz).1
    have hw2 : Below w.heap.size w w2 := (below_new (below_new (Below.refl _ _) _) _).trans (hx2.mono (by simp; omega))
    clear hbz hx2
    go_wp2_with fail
    refine bodyPost_ret (v := .tuple #[.agg #[.slice none 0 0, .int .i64 0], .int .i64 1]) (by simp [results, Try.results33, go_sem, z0, z1]) rfl ?_
    exact past_bad (sets2_below hw2 (by omega) _ _) _ rfl
/-- what the document's turn answers: the list itself -/
def RefTurnPost (w : World) (v : Value) (l0 : List Ver) (code : Nat) (l : List Ver) (c : Int) (e : Ending) (w' : World) : Prop :=
  ∃ v', e = .returned (.tuple #[.agg #[v', .int .i64 c], .int .i64 (code : Nat)]) ∧ ((v' = .slice none 0 0 ∧ l = []) ∨ (v' = v ∧ l = l0)) ∧ Below w.heap.size w w'
theorem vers_none (w : World) : Vers w (.slice none 0 0) [] := ⟨none, 0, rfl, Nat.le_refl _, by decide, fun h => by simp [vs] at h⟩
theorem vers_turn {w : World} {v v' : Value} {l l0 : List Ver} (h : (v' = .slice none 0 0 ∧ l = []) ∨ (v' = v ∧ l = l0)) (k : Vers w v l0) : Vers w v' l := by
  rcases h with ⟨rfl, rfl⟩ | ⟨rfl, rfl⟩
  · exact vers_none _
  · exact k
theorem vers_sets2 {w0 w : World} {v : Value} {l : List Ver} {s : Nat} (h : Vers w0 v l) (k : Below w0.heap.size w0 w) (hs : w0.heap.size ≤ s) (v0 v1 : Value) : Vers ((w.setCell ⟨s, 0, none⟩ v0).setCell ⟨s, 1, none⟩ v1) v l :=
  Vers.below h (sets2_below k hs v0 v1)
set_option maxHeartbeats 1000000 in
theorem refTurn17_any (v : Value) (l : List Ver) (c d : Int) (w : World) (hB : Vers w v l) (hd0 : -1 ≤ d) (hd1 : d ≤ 1) :
    Calls Try.prog 32 #[.agg #[v, .int .i64 c], .int .i64 d] w (RefTurnPost w v l (turnCode l c d) (turnList l c d) (turnCur l c d)) := by
  obtain ⟨a, cap, rfl, hcap, hmax, -⟩ := Vers.open hB
  unfold maxLen at hmax
  by_cases hM : pastMay l c
  · have HM := Lib.hid (decide_eq_true hM)
    have hM2 := hM
    obtain ⟨hc0, hc1, -⟩ := hM2
    by_cases h0 : c + d < 0
    · have e1 : turnCode l c d = 14 := by unfold turnCode; rw [if_pos hM, if_neg (by omega)]
      rw [show turnList l c d = [] by simp [turnList, e1], show turnCur l c d = 0 by simp [turnCur, e1], e1]
      clear e1 hM
      go_enter Try.func32, Try.ntmps32
      go_wp2_with fail
      refine (refMay17_any _ l _ _ (Vers.alloc (Vers.alloc hB _) _)).mono ?_
      rintro e w2 ⟨rfl, hx2⟩
      rw [HM.out]
      have hbx := box_below (heap_keep (heap_last (o := pastBox (.slice a l.length cap) c) rfl) _) hx2
      have hbz := box_below (heap_last (o := pastBox (.slice none 0 0) 0) (sz1 _ _).symm) hx2
      obtain ⟨y0, y1⟩ := pastBox_cells hbx
      obtain ⟨z0, z1⟩ := pastBox_cells hbz
      have hfz := pastBox_free hbz
      have hls := (Array.getElem?_eq_some_iff.1 hbz).1
      have hw2 : Below w.heap.size w w2 := (below_new (below_new (Below.refl _ _) _) _).trans (hx2.mono (by simp; omega))
      clear hbx hbz hx2
      go_wp2_with fail
      refine bodyPost_ret (v := .tuple #[.agg #[.slice none 0 0, .int .i64 0], .int .i64 14]) (by simp [results, Try.results32, go_sem, z0, z1]) rfl ?_
      exact ⟨_, rfl, .inl ⟨rfl, rfl⟩, sets2_below hw2 (by omega) _ _⟩
    by_cases h1 : (l.length : Int) ≤ c + d
    · have e1 : turnCode l c d = 14 := by unfold turnCode; rw [if_pos hM, if_neg (by omega)]
      rw [show turnList l c d = [] by simp [turnList, e1], show turnCur l c d = 0 by simp [turnCur, e1], e1]
      clear e1 hM
      go_enter Try.func32, Try.ntmps32
      go_wp2_with fail
      refine (refMay17_any _ l _ _ (Vers.alloc (Vers.alloc hB _) _)).mono ?_
      rintro e w2 ⟨rfl, hx2⟩
      rw [HM.out]
      have hbx := box_below (heap_keep (heap_last (o := pastBox (.slice a l.length cap) c) rfl) _) hx2
      have hbz := box_below (heap_last (o := pastBox (.slice none 0 0) 0) (sz1 _ _).symm) hx2
      obtain ⟨y0, y1⟩ := pastBox_cells hbx
      obtain ⟨z0, z1⟩ := pastBox_cells hbz
      have hfz := pastBox_free hbz
      have hls := (Array.getElem?_eq_some_iff.1 hbz).1
      have hw2 : Below w.heap.size w w2 := (below_new (below_new (Below.refl _ _) _) _).trans (hx2.mono (by simp; omega))
      clear hbx hbz hx2
      go_wp2_with fail
      refine bodyPost_ret (v := .tuple #[.agg #[.slice none 0 0, .int .i64 0], .int .i64 14]) (by simp [results, Try.results32, go_sem, z0, z1]) rfl ?_
      exact ⟨_, rfl, .inl ⟨rfl, rfl⟩, sets2_below hw2 (by omega) _ _⟩
    have e1 : turnCode l c d = 0 := by unfold turnCode; rw [if_pos hM, if_pos (by omega)]
    rw [show turnList l c d = l by simp [turnList, e1], show turnCur l c d = c + d by simp [turnCur, e1], e1]
    clear e1 hM
    go_enter Try.func32, Try.ntmps32
    go_wp2_with fail
    refine (refMay17_any _ l _ _ (Vers.alloc (Vers.alloc hB _) _)).mono ?_
    rintro e w2 ⟨rfl, hx2⟩
    rw [HM.out]
    have hbx := box_below (heap_keep (heap_last (o := pastBox (.slice a l.length cap) c) rfl) _) hx2
    have hbz := box_below (heap_last (o := pastBox (.slice none 0 0) 0) (sz1 _ _).symm) hx2
    obtain ⟨y0, y1⟩ := pastBox_cells hbx
    obtain ⟨z0, z1⟩ := pastBox_cells hbz
    have hfz := pastBox_free hbz
    have hls := (Array.getElem?_eq_some_iff.1 hbz).1
    have hw2 : Below w.heap.size w w2 := (below_new (below_new (Below.refl _ _) _) _).trans (hx2.mono (by simp; omega))
    clear hbx hbz hx2
    go_wp2_with fail
    refine bodyPost_ret (v := .tuple #[.agg #[.slice a l.length cap, .int .i64 (c + d)], .int .i64 0]) (by simp [results, Try.results32, go_sem, z0, z1]) rfl ?_
    exact ⟨_, rfl, .inr ⟨rfl, rfl⟩, sets2_below hw2 (by omega) _ _⟩
  · have e1 : turnCode l c d = 1 := by unfold turnCode; rw [if_neg hM]
    have HM := Lib.hid (decide_eq_false hM)
    rw [show turnList l c d = [] by simp [turnList, e1], show turnCur l c d = 0 by simp [turnCur, e1], e1]
    clear e1 hM
    go_enter Try.func32, Try.ntmps32
    go_wp2_with fail
    refine (refMay17_any _ l _ _ (Vers.alloc (Vers.alloc hB _) _)).mono ?_
    rintro e w2 ⟨rfl, hx2⟩
    rw [HM.out]
    have hbz := box_below (heap_last (o := pastBox (.slice none 0 0) 0) (sz1 _ _).symm) hx2
    obtain ⟨z0, z1⟩ := pastBox_cells hbz
    have hfz := pastBox_free hbz
    have hls := (Array.getElem?_eq_some_iff.1 hbz).1
    have hw2 : Below w.heap.size w w2 := (below_new (below_new (Below.refl _ _) _) _).trans (hx2.mono (by simp; omega))
    clear hbz hx2
    go_wp2_with fail
    refine bodyPost_ret (v := .tuple #[.agg #[.slice none 0 0, .int .i64 0], .int .i64 1]) (by simp [results, Try.results32, go_sem, z0, z1]) rfl ?_
    exact ⟨_, rfl, .inl ⟨rfl, rfl⟩, sets2_below hw2 (by omega) _ _⟩
end Go.Proofs.Ytdofdegicdkhlaa
