/- The walk of octavolaw17.awake. -/
import Derived.Test.YtdofdegicdkhlaaPastH
namespace Go.Proofs.Ytdofdegicdkhlaa
open Go.RowKit Go.Oct

theorem vers_block {w : World} {b : Nat} {cs : Array Value} {l : List Ver} (h : w.heap[b]? = some (.cells cs 41 (0, 0))) (hc : cs.toList = vs l) (hl : l.length ≤ maxLen) : Vers w (.slice (some ⟨b, 0, none⟩) l.length l.length) l :=
  Has.block h (Nat.le_refl _) hl (fun i x hi => by rw [Nat.zero_add, ← hi, ← hc]; simp)
theorem run_root (x y : Int) (w : World) : (Instr.field 41 (.agg #[.int .i64 x, .int .i64 y]) 0).run Try.prog w = .ok (.int .i64 x) w := by rfl
set_option maxHeartbeats 2000000 in
theorem awake17_any (w : World) : Calls Try.prog 25 #[] w fun e w' => e = .returned (.bool true) ∧ Below w.heap.size w w' := by
  have hrt := run_root
  have HC := Lib.hid (show comCode [(1, 1), (2, 2), (3, 3)] 1 (4, 4) 2 = 0 by decide)
  have HL := Lib.hid (show comList [(1, 1), (2, 2), (3, 3)] 1 (4, 4) 2 = [(2, 2), (4, 4)] by decide)
  have HU := Lib.hid (show comCur [(1, 1), (2, 2), (3, 3)] 1 (4, 4) 2 = 1 by decide)
  have HB := Lib.hid (show turnCode [(2, 2), (4, 4)] 1 (-1) = 0 ∧ turnList [(2, 2), (4, 4)] 1 (-1) = [(2, 2), (4, 4)] ∧ turnCur [(2, 2), (4, 4)] 1 (-1) = 0 by decide)
  have HF := Lib.hid (show turnCode [(2, 2), (4, 4)] 1 1 = 14 by decide)
  have HN := Lib.hid (show nowOf [(2, 2), (4, 4)] 1 = (4, 4) ∧ nowOf [(2, 2), (4, 4)] 0 = (2, 2) by decide)
  go_enter Try.func25, Try.ntmps25
  go_wp2_with fail
  refine (pastCommit_any _ [(1, 1), (2, 2), (3, 3)] 1 4 4 2 _ (Vers.alloc (vers_block (heap_last rfl) rfl (by decide)) _) (by decide)).mono ?_
  rintro e w1 ⟨v1, rfl, hn1, hx1⟩
  rw [HL.out] at hn1
  rw [HC.out, HU.out]
  have hw1 : Below w.heap.size w w1 := (below_new (below_new (Below.refl _ _) _) _).trans (hx1.mono (by simp; omega))
  obtain ⟨g1, c1, hf⟩ := hn1.form
  subst hf
  have hv1 := Vers.alloc hn1.vers (pastBox (.slice g1 [(2, 2), (4, 4)].length c1) 1)
  have hb1 := heap_last (w := w1) (o := pastBox (.slice g1 [(2, 2), (4, 4)].length c1) 1) rfl
  have hw2 := below_new hw1 (pastBox (.slice g1 [(2, 2), (4, 4)].length c1) 1)
  unfold pastBox at hv1 hb1 hw2
  clear hx1 hn1 hw1
  simp only [List.length_cons, List.length_nil, Nat.zero_add, Nat.reduceAdd] at hv1 hb1 hw2 ⊢
  go_wp2_with fail
  refine (pastUndo_any _ [(2, 2), (4, 4)] 1 _ hv1 (by decide) (by decide)).mono ?_
  rintro e w3 ⟨v3, rfl, hn3, hx3⟩
  rw [HB.out.2.1] at hn3
  rw [HB.out.1, HB.out.2.2]
  obtain ⟨g3, c3, hf⟩ := hn3.form
  subst hf
  have hq3 := Vers.below hv1 hx3
  have hbq3 := box_below hb1 hx3
  have hw3 := below_step hw2 hx3
  have hv3 := hn3.vers
  simp only [List.length_cons, List.length_nil, Nat.zero_add, Nat.reduceAdd] at hv3 ⊢
  obtain ⟨y0, y1⟩ := pastBox_cells (show w3.heap[w1.heap.size]? = some (pastBox _ _) from hbq3)
  have hls3 := (Array.getElem?_eq_some_iff.1 hbq3).1
  clear hx3 hn3 hv1 hb1 hw2
  go_wp2_with fail
  refine (pastRedo_any _ [(2, 2), (4, 4)] 1 _ (Vers.alloc hq3 _) (by decide)).mono ?_
  rintro e w4 ⟨v4, rfl, hn4, hx4⟩
  rw [HF.out]
  have hw4 := (below_new hw3 _).trans (hx4.mono (by have := hw3.size; simp; omega))
  have hbq4 := box_below (heap_keep hbq3 _) hx4
  have hbr4 := box_below (heap_last (o := pastBox (.slice g3 2 c3) 0) rfl) hx4
  have hq4 := Vers.below (Vers.alloc hq3 _) hx4
  have hr4 := Vers.below (Vers.alloc hv3 _) hx4
  obtain ⟨g4, c4, hf⟩ := hn4.form
  subst hf
  obtain ⟨_, _, hf, _, _, hcs⟩ := Vers.open hq4
  simp only [Value.slice.injEq] at hf
  obtain ⟨rfl, -, rfl⟩ := hf
  obtain ⟨bq, oq, rfl, hbql, hcs⟩ := hcs (by decide)
  have x0 : w4.cell? ⟨bq, oq, none⟩ = some (.int .i64 2) := (hcs 0 (by decide)).1
  clear y0 y1 hcs hx4 hn4 hq3 hbq3 hv3 hw3
  obtain ⟨y0, y1⟩ := pastBox_cells (show w4.heap[w1.heap.size]? = some (pastBox _ _) from hbq4)
  obtain ⟨z0, z1⟩ := pastBox_cells hbr4
  have hl1 := (Array.getElem?_eq_some_iff.1 hbq4).1
  have hl3 := (Array.getElem?_eq_some_iff.1 hbr4).1
  have HQ := Lib.hid hq4
  have HR := Lib.hid hr4
  clear hq4 hr4
  go_wp2_with fail
  refine (pastNow_any _ [(2, 2), (4, 4)] 1 _ (Vers.alloc HQ.out _)).mono ?_
  rintro e w5 ⟨rfl, hx5⟩
  rw [HN.out.1]
  have hw5 := (below_new hw4 _).trans (hx5.mono (by have := hw4.size; simp; omega))
  have hbr5 := box_below (heap_keep hbr4 _) hx5
  have HR5 := Lib.hid (Vers.below (Vers.alloc HR.out _) hx5)
  clear y0 y1 z0 z1 hx5 hbr4 hbq4 hw4 x0
  obtain ⟨z0, z1⟩ := pastBox_cells hbr5
  go_wp2_with fail
  refine (pastNow_any _ [(2, 2), (4, 4)] 0 _ HR5.out).mono ?_
  rintro e w6 ⟨rfl, hx6⟩
  rw [HN.out.2]
  go_wp2_with fail
  go_ret
  exact ⟨rfl, below_step hw5 hx6⟩
end Go.Proofs.Ytdofdegicdkhlaa
