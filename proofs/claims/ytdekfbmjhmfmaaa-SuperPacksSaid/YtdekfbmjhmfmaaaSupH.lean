/- The walk of the law SuperPacks. -/
import Derived.Test.YtdekfbmjhmfmaaaSupG
namespace Go.Proofs.Ytdekfbmjhmfmaaa
open Go.RowKit Go.Oct

set_option maxHeartbeats 1000000 in
theorem superPacks_walk (g r c t o : Int) (w : World) (_hw : ∀ z ∈ [g, r, c, t, o], (Lit.int .i64 z).wf = true) :
    Calls Try.prog 3 #[.agg #[.int .i64 g, .int .i64 r, .int .i64 c, .int .i64 t, .int .i64 o]] w fun e w' => e = .returned (.bool true) ∧ Below w.heap.size w w' := by
  obtain ⟨P, hP⟩ : ∃ P, supPack g r c t o = P := ⟨_, rfl⟩
  obtain ⟨K, hK⟩ : ∃ K, supCode g r c t o = K := ⟨_, rfl⟩
  obtain ⟨M, hM⟩ : ∃ M, decide (supMay g r c t o) = M := ⟨_, rfl⟩
  have HP := Lib.hid hP
  have HK := Lib.hid hK
  have HM := Lib.hid hM
  clear hP hK hM
  go_enter Try.func3, Try.ntmps3
  go_wp2_with fail
  refine (superPack_any g r c t o _).mono ?_
  rintro e w1 ⟨va, rfl, howna, hx1⟩
  rw [HP.out] at howna
  rw [HK.out]
  have hb1 : w1.heap[w.heap.size]? = some (supBox g r c t o) := box_below (heap_last rfl) hx1
  have hw1 : Below w.heap.size w w1 := ((Below.refl _ _).alloc (Nat.le_refl _) _).trans (hx1.mono (by simp))
  have hBa1 : Bytes w1 va P := Bytes.own howna
  obtain ⟨c0, c1, c2, c3, c4⟩ := supBox_cells hb1
  clear hx1 howna
  go_wp2_with fail
  refine (refPack16_any g r c t o _).mono ?_
  rintro e w2 ⟨vb, rfl, hownb, hx2⟩
  rw [HP.out] at hownb
  rw [HK.out]
  have hb2 := box_below hb1 hx2
  have hw2 : Below w.heap.size w w2 := hw1.trans (hx2.mono hw1.size)
  have hBa : Bytes w2 va P := hBa1.below hx2
  have hBb : Bytes w2 vb P := Bytes.own hownb
  clear c0 c1 c2 c3 c4 hb1 hw1 hBa1 hx2 hownb
  obtain ⟨c0, c1, c2, c3, c4⟩ := supBox_cells hb2
  go_wp2_with fail
  refine region_each 19 [some 17, some 18, some 19, some 20, some 21, some 22, some 23, some 24, some 25, some 26, some 27, some 28, some 29, some 30, some 31, some 32, some 33, some 34, some 2] [[], [0], [1], [2, 1], [1], [4, 1], [3, 5, 1], [1, 6], [7], [8], [8], [9, 10, 8], [8, 11], [12], [13], [13], [14, 15, 13], [13, 16], [17]]
    [kIs (.bool true), kIs (.bool true), kIs (.agg #[.int .i64 g, .int .i64 r, .int .i64 c, .int .i64 t, .int .i64 o]), kIs (.bool M), kIs (.agg #[.int .i64 g, .int .i64 r, .int .i64 c, .int .i64 t, .int .i64 o]), kIs (.bool M), kIs (.bool true), kIs (.bool true), kIs (.bool true), kIs va, kIs vb, kIs (.bool true), kIs (.bool true), kIs (.bool true), kIs (.int .i64 (K : Nat)), kIs (.int .i64 (K : Nat)), kIs (.bool true), kIs (.bool true), kIs (.bool true)]
    (by kernel_rfl) (by kernel_rfl) (by kernel_rfl) (by kernel_rfl) ?_ ?_
  · simp only [obligsD]
    refine ⟨?_, ?_, ?_, ?_, ?_, ?_, ?_, ?_, ?_, ?_, ?_, ?_, ?_, ?_, ?_, ?_, ?_, ?_, ?_, trivial⟩
    · intro us w1 hb _
      change Oper.wp _ _ _ _ _ _
      go_simp
      refine (awake16_any _).mono ?_
      rintro e w2 ⟨rfl, hb2⟩
      exact ⟨_, rfl, hb2, rfl⟩
    · intro us w1 _ hd
      simp only [List.mem_cons, List.not_mem_nil, or_false, forall_eq, List.getD_cons_zero, kIs] at hd
      simp only [putD, List.getD_cons_zero, Act.put, hd]
      go_simp
      exact ⟨_, rfl, Below.refl _ _, rfl⟩
    · intro us w1 hb hd
      simp only [List.mem_cons, List.not_mem_nil, or_false, forall_eq, List.getD_cons_zero, List.getD_cons_succ, kIs] at hd
      refine ⟨fun _ => ?_, fun h => (h (by simp [hd])).elim⟩
      have d0 := (hb.cell (World.block_lt_of_cell? _ _ c0)).trans c0
      have d1 := (hb.cell (World.block_lt_of_cell? _ _ c1)).trans c1
      have d2 := (hb.cell (World.block_lt_of_cell? _ _ c2)).trans c2
      have d3 := (hb.cell (World.block_lt_of_cell? _ _ c3)).trans c3
      have d4 := (hb.cell (World.block_lt_of_cell? _ _ c4)).trans c4
      simp only [putD, Act.put]
      go_simp
      exact ⟨_, rfl, Below.refl _ _, rfl⟩
    · intro us w1 hb hd
      simp only [List.mem_cons, List.not_mem_nil, or_false, forall_eq_or_imp, forall_eq, List.getD_cons_zero, List.getD_cons_succ, kIs] at hd
      refine ⟨fun _ => ?_, fun h => (h (by simp [hd])).elim⟩
      simp only [putD, List.getD_cons_zero, List.getD_cons_succ, Act.put, hd]
      go_simp
      refine (HM.out ▸ superMay_any g r c t o _).mono ?_
      rintro e w2 ⟨rfl, hb2⟩
      exact ⟨_, rfl, hb2, rfl⟩
    · intro us w1 hb hd
      simp only [List.mem_cons, List.not_mem_nil, or_false, forall_eq, List.getD_cons_zero, List.getD_cons_succ, kIs] at hd
      refine ⟨fun _ => ?_, fun h => (h (by simp [hd])).elim⟩
      have d0 := (hb.cell (World.block_lt_of_cell? _ _ c0)).trans c0
      have d1 := (hb.cell (World.block_lt_of_cell? _ _ c1)).trans c1
      have d2 := (hb.cell (World.block_lt_of_cell? _ _ c2)).trans c2
      have d3 := (hb.cell (World.block_lt_of_cell? _ _ c3)).trans c3
      have d4 := (hb.cell (World.block_lt_of_cell? _ _ c4)).trans c4
      simp only [putD, Act.put]
      go_simp
      exact ⟨_, rfl, Below.refl _ _, rfl⟩
    · intro us w1 hb hd
      simp only [List.mem_cons, List.not_mem_nil, or_false, forall_eq_or_imp, forall_eq, List.getD_cons_zero, List.getD_cons_succ, kIs] at hd
      refine ⟨fun _ => ?_, fun h => (h (by simp [hd])).elim⟩
      simp only [putD, List.getD_cons_zero, List.getD_cons_succ, Act.put, hd]
      go_simp
      refine (HM.out ▸ refMay16_any g r c t o _).mono ?_
      rintro e w2 ⟨rfl, hb2⟩
      exact ⟨_, rfl, hb2, rfl⟩
    · intro us w1 _ hd
      simp only [List.mem_cons, List.not_mem_nil, or_false, forall_eq_or_imp, forall_eq, List.getD_cons_zero, List.getD_cons_succ, kIs] at hd
      refine ⟨fun _ => ?_, fun h => (h (by simp [hd])).elim⟩
      simp only [putD, List.getD_cons_zero, List.getD_cons_succ, Act.put, hd]
      go_simp
      exact ⟨_, rfl, Below.refl _ _, rfl⟩
    · intro us w1 _ hd
      simp only [List.mem_cons, List.not_mem_nil, or_false, forall_eq_or_imp, forall_eq, List.getD_cons_zero, List.getD_cons_succ, kIs] at hd
      simp only [putD, List.getD_cons_zero, List.getD_cons_succ, Act.put, hd]
      go_simp
      exact ⟨_, rfl, Below.refl _ _, rfl⟩
    · intro us w1 _ hd
      simp only [List.mem_cons, List.not_mem_nil, or_false, forall_eq, List.getD_cons_zero, List.getD_cons_succ, kIs] at hd
      simp only [putD, List.getD_cons_zero, List.getD_cons_succ, Act.put, hd]
      go_simp
      exact ⟨_, rfl, Below.refl _ _, rfl⟩
    · intro us w1 _ hd
      simp only [List.mem_cons, List.not_mem_nil, or_false, forall_eq, List.getD_cons_zero, List.getD_cons_succ, kIs] at hd
      refine ⟨fun _ => ?_, fun h => (h (by simp [hd])).elim⟩
      simp only [putD, List.getD_cons_zero, List.getD_cons_succ, Act.put, hd]
      go_simp
      exact ⟨_, rfl, Below.refl _ _, rfl⟩
    · intro us w1 _ hd
      simp only [List.mem_cons, List.not_mem_nil, or_false, forall_eq, List.getD_cons_zero, List.getD_cons_succ, kIs] at hd
      refine ⟨fun _ => ?_, fun h => (h (by simp [hd])).elim⟩
      simp only [putD, List.getD_cons_zero, List.getD_cons_succ, Act.put, hd]
      go_simp
      exact ⟨_, rfl, Below.refl _ _, rfl⟩
    · intro us w1 hb hd
      simp only [List.mem_cons, List.not_mem_nil, or_false, forall_eq_or_imp, forall_eq, List.getD_cons_zero, List.getD_cons_succ, kIs] at hd
      refine ⟨fun _ => ?_, fun h => (h (by simp [hd])).elim⟩
      simp only [putD, List.getD_cons_zero, List.getD_cons_succ, Act.put, hd]
      go_simp
      refine (same_yes va vb P _ (hBa.below hb) (hBb.below hb)).mono ?_
      rintro e w2 ⟨rfl, hb2⟩
      exact ⟨_, rfl, hb2, rfl⟩
    · intro us w1 _ hd
      simp only [List.mem_cons, List.not_mem_nil, or_false, forall_eq_or_imp, forall_eq, List.getD_cons_zero, List.getD_cons_succ, kIs] at hd
      simp only [putD, List.getD_cons_zero, List.getD_cons_succ, Act.put, hd]
      go_simp
      exact ⟨_, rfl, Below.refl _ _, rfl⟩
    · intro us w1 _ hd
      simp only [List.mem_cons, List.not_mem_nil, or_false, forall_eq, List.getD_cons_zero, List.getD_cons_succ, kIs] at hd
      simp only [putD, List.getD_cons_zero, List.getD_cons_succ, Act.put, hd]
      go_simp
      exact ⟨_, rfl, Below.refl _ _, rfl⟩
    · intro us w1 _ hd
      simp only [List.mem_cons, List.not_mem_nil, or_false, forall_eq, List.getD_cons_zero, List.getD_cons_succ, kIs] at hd
      refine ⟨fun _ => ?_, fun h => (h (by simp [hd])).elim⟩
      simp only [putD, List.getD_cons_zero, List.getD_cons_succ, Act.put, hd]
      go_simp
      exact ⟨_, rfl, Below.refl _ _, rfl⟩
    · intro us w1 _ hd
      simp only [List.mem_cons, List.not_mem_nil, or_false, forall_eq, List.getD_cons_zero, List.getD_cons_succ, kIs] at hd
      refine ⟨fun _ => ?_, fun h => (h (by simp [hd])).elim⟩
      simp only [putD, List.getD_cons_zero, List.getD_cons_succ, Act.put, hd]
      go_simp
      exact ⟨_, rfl, Below.refl _ _, rfl⟩
    · intro us w1 _ hd
      simp only [List.mem_cons, List.not_mem_nil, or_false, forall_eq_or_imp, forall_eq, List.getD_cons_zero, List.getD_cons_succ, kIs] at hd
      refine ⟨fun _ => ?_, fun h => (h (by simp [hd])).elim⟩
      simp only [putD, List.getD_cons_zero, List.getD_cons_succ, Act.put, hd]
      go_simp
      exact ⟨_, rfl, Below.refl _ _, rfl⟩
    · intro us w1 _ hd
      simp only [List.mem_cons, List.not_mem_nil, or_false, forall_eq_or_imp, forall_eq, List.getD_cons_zero, List.getD_cons_succ, kIs] at hd
      simp only [putD, List.getD_cons_zero, List.getD_cons_succ, Act.put, hd]
      go_simp
      exact ⟨_, rfl, Below.refl _ _, rfl⟩
    · intro us w1 _ hd
      simp only [List.mem_cons, List.not_mem_nil, or_false, forall_eq, List.getD_cons_zero, List.getD_cons_succ, kIs] at hd
      simp only [putD, List.getD_cons_zero, List.getD_cons_succ, Act.put, hd]
      go_simp
      exact ⟨_, rfl, Below.refl _ _, rfl⟩
  intro us w2 hb hp
  have h18 := hp 18 (by simp)
  simp only [List.getD_cons_zero, List.getD_cons_succ, kIs] at h18
  rw [show List.range 19 = [0, 1, 2, 3, 4, 5, 6, 7, 8, 9, 10, 11, 12, 13, 14, 15, 16, 17, 18] from rfl]
  simp only [putD, List.getD_cons_zero, List.getD_cons_succ, Act.put, List.setIfInBounds_toArray, List.set_cons_zero, List.set_cons_succ, h18]
  go_wp2_with fail
  go_ret
  exact ⟨rfl, hw2.trans (hb.mono hw2.size)⟩
end Go.Proofs.Ytdekfbmjhmfmaaa
