/- The walk of the law PastBack. -/
import Derived.Test.YtdofdegicdkhlaaPastI
import Derived.Test.YtdofdegicdkhlaaPastQ
namespace Go.Proofs.Ytdofdegicdkhlaa
open Go.RowKit Go.Oct

set_option maxHeartbeats 8000000 in
theorem pastBack_walk (v : Value) (l : List Ver) (c x1 x2 most : Int) (w : World) (hB : Vers w v l) (hl0 : l.length ≤ 8796093021952) (_hcw : (Lit.int .i64 c).wf = true) (_hw : ∀ z ∈ [x1, x2], (Lit.int .i64 z).wf = true) (_wm : (Lit.int .i64 most).wf = true) :
    Calls Try.prog 12 #[.agg #[v, .int .i64 c], .agg #[.int .i64 x1, .int .i64 x2], .int .i64 most] w fun e w' => e = .returned (.bool true) ∧ Below w.heap.size w w' := by
  have hl : l.length ≤ 8796093022144 := by omega
  obtain ⟨a, cap, rfl, -⟩ := Vers.open hB
  have P0 := Lib.hid hB
  clear hB _hcw _hw _wm hl0
  obtain ⟨KA, hKA⟩ : ∃ x, comCode l c (x1, x2) most = x := ⟨_, rfl⟩
  obtain ⟨LA, hLA⟩ : ∃ x, comList l c (x1, x2) most = x := ⟨_, rfl⟩
  obtain ⟨UA, hUA⟩ : ∃ x, comCur l c (x1, x2) most = x := ⟨_, rfl⟩
  have HKA := Lib.hid hKA
  have HLA := Lib.hid hLA
  have HUA := Lib.hid hUA
  by_cases h0 : KA = 0
  · subst h0
    have hp := com_may hKA
    rw [hLA, hUA] at hp
    have hua : UA ≤ 9223372036854775807 := by have := hp.2.1; have := hp.2.2.2.1; omega
    have hla : LA.length ≤ 8796093022144 := by have := hp.2.2.2.1; omega
    have hm := (com_ok hKA).2.2
    by_cases h1 : most = 1
    · have hq := com_back1 hKA h1
      rw [hLA, hUA] at hq
      have HQ := Lib.hid hq
      have hm2 : (most == 1) = true := by simpa using h1
      clear hq hKA hLA hUA hp hm h1
      go_enter Try.func12, Try.ntmps12
      go_wp2_with fail
      refine (pastCommit_any _ l c x1 x2 most _ (Vers.alloc (Vers.alloc P0.out _) _) hl).mono ?_
      rintro e w1 ⟨va, rfl, hna, hx⟩
      have hbel_w1 : Below w.heap.size w w1 := (below_new (below_new (Below.refl w.heap.size w) _) _).trans (hx.mono (by first | omega | (simp; done) | (simp; omega)))
      have hz_w1 : w.heap.size + 2 ≤ w1.heap.size := by have hz := hx.size; first | omega | (simp only [sz1] at hz; omega)
      have B3 := Lib.hid (show w1.heap[w.heap.size]? = some (pastBox (.slice a l.length cap) c) from box_below (heap_keep (heap_last (o := pastBox (.slice a l.length cap) c) rfl) _) hx)
      have B4 := Lib.hid (show w1.heap[w.heap.size + 1]? = some (verBox x1 x2) from box_below (heap_last (o := verBox x1 x2) (by simp only [sz1])) hx)
      clear hx 
      have hl_B3 := (Array.getElem?_eq_some_iff.1 B3.out).1
      have hl_B4 := (Array.getElem?_eq_some_iff.1 B4.out).1
      rw [HLA.out] at hna
      rw [HKA.out, HUA.out]
      obtain ⟨ga, ca, hf⟩ := hna.form
      subst hf
      have Na := Lib.hid hna
      clear hna
      go_wp2_with fail
      refine (awake17_any _).mono ?_
      rintro e w2 ⟨rfl, hx⟩
      have hbel_w2 : Below w.heap.size w w2 := (below_new hbel_w1 _).trans (hx.mono (by have := hbel_w1.size; first | omega | (simp; omega)))
      have hz_w2 : w1.heap.size + 1 ≤ w2.heap.size := by have hz := hx.size; first | omega | (simp only [sz1] at hz; omega)
      have B3' := Lib.hid (box_below (heap_keep B3.out _) hx)
      have B4' := Lib.hid (box_below (heap_keep B4.out _) hx)
      have Na' := Lib.hid ((Na.out.below ((Below.refl _ _).alloc (Nat.le_refl _) _)).below hx)
      have B7 := Lib.hid (show w2.heap[w1.heap.size]? = some (pastBox (.slice ga LA.length ca) UA) from box_below (heap_last (o := pastBox (.slice ga LA.length ca) UA) rfl) hx)
      clear hx B3 B4 Na hbel_w1
      have B3 := B3'
      have B4 := B4'
      have Na := Na'
      clear B3' B4' Na'
      clear hl_B3 hl_B4
      have hl_B3 := (Array.getElem?_eq_some_iff.1 B3.out).1
      have hl_B4 := (Array.getElem?_eq_some_iff.1 B4.out).1
      have hl_B7 := (Array.getElem?_eq_some_iff.1 B7.out).1
      obtain ⟨yB7_0, yB7_1⟩ := pastBox_cells B7.out
      go_wp2_with fail
      refine (pastUndo_any _ LA UA _ Na.out.vers hla hua).mono ?_
      rintro e w3 ⟨vb, rfl, hnb, hx⟩
      clear yB7_0 yB7_1
      have hbel_w3 : Below w.heap.size w w3 := hbel_w2.trans (hx.mono (by have := hbel_w2.size; first | omega | (simp; omega)))
      have hz_w3 : w2.heap.size + 0 ≤ w3.heap.size := by have hz := hx.size; first | omega | (simp only [sz1] at hz; omega)
      have B3' := Lib.hid (box_below B3.out hx)
      have B4' := Lib.hid (box_below B4.out hx)
      have Na' := Lib.hid (Na.out.below hx)
      have B7' := Lib.hid (box_below B7.out hx)
      clear hx B3 B4 Na B7 hbel_w2
      have B3 := B3'
      have B4 := B4'
      have Na := Na'
      have B7 := B7'
      clear B3' B4' Na' B7'
      clear hl_B3 hl_B4 hl_B7
      have hl_B3 := (Array.getElem?_eq_some_iff.1 B3.out).1
      have hl_B4 := (Array.getElem?_eq_some_iff.1 B4.out).1
      have hl_B7 := (Array.getElem?_eq_some_iff.1 B7.out).1
      rw [HQ.out.2.1]
      obtain ⟨gb, cb, hf⟩ := hnb.form
      subst hf
      have Nb := Lib.hid hnb
      clear hnb
      go_wp2_with fail
      obtain ⟨w4, hset⟩ : ∃ x, x = (w3.alloc (.cells #[.slice gb (turnList LA UA (-1)).length cb, .int .i64 (turnCur LA UA (-1))] 39)) := ⟨_, rfl⟩
      rw [← hset]
      have hx : Below (w3.alloc (pastBox (.slice gb (turnList LA UA (-1)).length cb) (turnCur LA UA (-1)))).heap.size (w3.alloc (pastBox (.slice gb (turnList LA UA (-1)).length cb) (turnCur LA UA (-1)))) w4 := by rw [hset]; exact Below.refl _ _
      clear hset
      have hbel_w4 : Below w.heap.size w w4 := (below_new hbel_w3 _).trans (hx.mono (by have := hbel_w3.size; first | omega | (simp; omega)))
      have hz_w4 : w3.heap.size + 1 ≤ w4.heap.size := by have hz := hx.size; first | omega | (simp only [sz1] at hz; omega)
      have B3' := Lib.hid (box_below (heap_keep B3.out _) hx)
      have B4' := Lib.hid (box_below (heap_keep B4.out _) hx)
      have Na' := Lib.hid ((Na.out.below ((Below.refl _ _).alloc (Nat.le_refl _) _)).below hx)
      have B7' := Lib.hid (box_below (heap_keep B7.out _) hx)
      have Nb' := Lib.hid ((Nb.out.below ((Below.refl _ _).alloc (Nat.le_refl _) _)).below hx)
      have B9 := Lib.hid (show w4.heap[w3.heap.size]? = some (pastBox (.slice gb (turnList LA UA (-1)).length cb) (turnCur LA UA (-1))) from box_below (heap_last (o := pastBox (.slice gb (turnList LA UA (-1)).length cb) (turnCur LA UA (-1))) rfl) hx)
      clear hx B3 B4 Na B7 Nb hbel_w3
      have B3 := B3'
      have B4 := B4'
      have Na := Na'
      have B7 := B7'
      have Nb := Nb'
      clear B3' B4' Na' B7' Nb'
      clear hl_B3 hl_B4 hl_B7
      have hl_B3 := (Array.getElem?_eq_some_iff.1 B3.out).1
      have hl_B4 := (Array.getElem?_eq_some_iff.1 B4.out).1
      have hl_B7 := (Array.getElem?_eq_some_iff.1 B7.out).1
      have hl_B9 := (Array.getElem?_eq_some_iff.1 B9.out).1
      obtain ⟨yB7_0, yB7_1⟩ := pastBox_cells B7.out
      obtain ⟨yB4_0, yB4_1⟩ := verBox_cells B4.out
      refine region_each 15 [some 34, some 35, some 36, some 37, some 38, some 39, some 40, some 41, some 42, some 43, some 44, some 45, some 46, some 47, some 6] [[], [0], [1], [2], [3, 2], [4, 2], [5, 2], [2, 6], [7], [8], [9, 8], [8], [10, 11, 8], [8, 12], [13]]
        [kIs (.int .i64 14), kIs (.bool true), kIs (.bool true), kIs (.pointer (some ⟨w1.heap.size, 0, none⟩)), kIs (.slice ga LA.length ca), kIs (.int .i64 (LA.length : Nat)), kIs (.bool true), kIs (.bool true), kIs (.bool true), kIs (.agg #[.slice ga LA.length ca, .int .i64 UA]), kIs (.agg #[.int .i64 x1, .int .i64 x2]), kIs (.agg #[.int .i64 x1, .int .i64 x2]), kIs (.bool true), kIs (.bool true), kIs (.bool true)]
        (by kernel_rfl) (by kernel_rfl) (by kernel_rfl) (by kernel_rfl) ?_ ?_
      · simp only [obligsD]
        refine ⟨?_, ?_, ?_, ?_, ?_, ?_, ?_, ?_, ?_, ?_, ?_, ?_, ?_, ?_, ?_, trivial⟩
        · intro us w1 _ _
          change Oper.wp _ _ _ _ _ _
          go_simp
          exact ⟨_, rfl, Below.refl _ _, rfl⟩
        · intro us w1 _ hd
          simp only [List.mem_cons, List.not_mem_nil, or_false, forall_eq, List.getD_cons_zero, kIs] at hd
          simp only [putD, List.getD_cons_zero, Act.put, hd]
          go_simp
          exact ⟨_, rfl, Below.refl _ _, rfl⟩
        · intro us w1 _ hd
          simp only [List.mem_cons, List.not_mem_nil, or_false, forall_eq, List.getD_cons_zero, List.getD_cons_succ, kIs] at hd
          simp only [putD, List.getD_cons_zero, List.getD_cons_succ, Act.put, hd]
          go_simp
          exact ⟨_, rfl, Below.refl _ _, rfl⟩
        · intro us w1 _ hd
          simp only [List.mem_cons, List.not_mem_nil, or_false, forall_eq, List.getD_cons_zero, List.getD_cons_succ, kIs] at hd
          refine ⟨fun _ => ?_, fun h => (h (by simp [hd])).elim⟩
          simp only [putD, List.getD_cons_zero, List.getD_cons_succ, Act.put, hd]
          go_simp
          exact ⟨_, rfl, Below.refl _ _, rfl⟩
        · intro us w1 hb hd
          simp only [List.mem_cons, List.not_mem_nil, or_false, forall_eq_or_imp, forall_eq, List.getD_cons_zero, List.getD_cons_succ, kIs] at hd
          refine ⟨fun _ => ?_, fun h => (h (by simp [hd])).elim⟩
          simp only [putD, List.getD_cons_zero, List.getD_cons_succ, Act.put, hd]
          have d0 := (hb.cell (World.block_lt_of_cell? _ _ yB7_0)).trans yB7_0
          go_simp
          exact ⟨_, rfl, Below.refl _ _, rfl⟩
        · intro us w1 hb hd
          simp only [List.mem_cons, List.not_mem_nil, or_false, forall_eq_or_imp, forall_eq, List.getD_cons_zero, List.getD_cons_succ, kIs] at hd
          refine ⟨fun _ => ?_, fun h => (h (by simp [hd])).elim⟩
          simp only [putD, List.getD_cons_zero, List.getD_cons_succ, Act.put, hd]
          go_simp
          exact ⟨_, rfl, Below.refl _ _, rfl⟩
        · intro us w1 hb hd
          simp only [List.mem_cons, List.not_mem_nil, or_false, forall_eq_or_imp, forall_eq, List.getD_cons_zero, List.getD_cons_succ, kIs] at hd
          refine ⟨fun _ => ?_, fun h => (h (by simp [hd])).elim⟩
          simp only [putD, List.getD_cons_zero, List.getD_cons_succ, Act.put, hd]
          have hq1 : LA.length = 1 := HQ.out.2.2
          go_simp
          exact ⟨_, rfl, Below.refl _ _, by first | rfl | (simp [kIs, hq1])⟩
        · intro us w1 _ hd
          simp only [List.mem_cons, List.not_mem_nil, or_false, forall_eq_or_imp, forall_eq, List.getD_cons_zero, List.getD_cons_succ, kIs] at hd
          simp only [putD, List.getD_cons_zero, List.getD_cons_succ, Act.put, hd]
          go_simp
          exact ⟨_, rfl, Below.refl _ _, rfl⟩
        · intro us w1 _ hd
          simp only [List.mem_cons, List.not_mem_nil, or_false, forall_eq, List.getD_cons_zero, List.getD_cons_succ, kIs] at hd
          simp only [putD, List.getD_cons_zero, List.getD_cons_succ, Act.put, hd]
          go_simp
          exact ⟨_, rfl, Below.refl _ _, rfl⟩
        · intro us w1 hb hd
          simp only [List.mem_cons, List.not_mem_nil, or_false, forall_eq, List.getD_cons_zero, List.getD_cons_succ, kIs] at hd
          refine ⟨fun _ => ?_, fun h => (h (by simp [hd])).elim⟩
          simp only [putD, List.getD_cons_zero, List.getD_cons_succ, Act.put, hd]
          have d0 := (hb.cell (World.block_lt_of_cell? _ _ yB7_0)).trans yB7_0
          have d1 := (hb.cell (World.block_lt_of_cell? _ _ yB7_1)).trans yB7_1
          go_simp
          exact ⟨_, rfl, Below.refl _ _, rfl⟩
        · intro us w1 hb hd
          simp only [List.mem_cons, List.not_mem_nil, or_false, forall_eq_or_imp, forall_eq, List.getD_cons_zero, List.getD_cons_succ, kIs] at hd
          refine ⟨fun _ => ?_, fun h => (h (by simp [hd])).elim⟩
          simp only [putD, List.getD_cons_zero, List.getD_cons_succ, Act.put, hd]
          go_simp
          refine (pastNow_any _ LA UA _ (Na.out.below hb).vers).mono ?_
          rintro e w99 ⟨rfl, hb2⟩
          rw [HQ.out.1]
          exact ⟨_, rfl, hb2, rfl⟩
        · intro us w1 hb hd
          simp only [List.mem_cons, List.not_mem_nil, or_false, forall_eq, List.getD_cons_zero, List.getD_cons_succ, kIs] at hd
          refine ⟨fun _ => ?_, fun h => (h (by simp [hd])).elim⟩
          simp only [putD, List.getD_cons_zero, List.getD_cons_succ, Act.put, hd]
          have d0 := (hb.cell (World.block_lt_of_cell? _ _ yB4_0)).trans yB4_0
          have d1 := (hb.cell (World.block_lt_of_cell? _ _ yB4_1)).trans yB4_1
          go_simp
          exact ⟨_, rfl, Below.refl _ _, rfl⟩
        · intro us w1 _ hd
          simp only [List.mem_cons, List.not_mem_nil, or_false, forall_eq_or_imp, forall_eq, List.getD_cons_zero, List.getD_cons_succ, kIs] at hd
          refine ⟨fun _ => ?_, fun h => (h (by simp [hd])).elim⟩
          simp only [putD, List.getD_cons_zero, List.getD_cons_succ, Act.put, hd]
          go_simp
          exact ⟨_, rfl, Below.refl _ _, rfl⟩
        · intro us w1 _ hd
          simp only [List.mem_cons, List.not_mem_nil, or_false, forall_eq_or_imp, forall_eq, List.getD_cons_zero, List.getD_cons_succ, kIs] at hd
          simp only [putD, List.getD_cons_zero, List.getD_cons_succ, Act.put, hd]
          go_simp
          exact ⟨_, rfl, Below.refl _ _, rfl⟩
        · intro us w1 _ hd
          simp only [List.mem_cons, List.not_mem_nil, or_false, forall_eq, List.getD_cons_zero, List.getD_cons_succ, kIs] at hd
          simp only [putD, List.getD_cons_zero, List.getD_cons_succ, Act.put, hd]
          go_simp
          exact ⟨_, rfl, Below.refl _ _, rfl⟩
      intro us w90 hx hp
      have hL := hp 14 (by simp)
      simp only [List.getD_cons_zero, List.getD_cons_succ, kIs] at hL
      rw [show List.range 15 = [0, 1, 2, 3, 4, 5, 6, 7, 8, 9, 10, 11, 12, 13, 14] from rfl]
      simp only [putD, List.getD_cons_zero, List.getD_cons_succ, Act.put, List.setIfInBounds_toArray, List.set_cons_zero, List.set_cons_succ, hL]
      have hend := below_step hbel_w4 hx
      go_wp2_with fail
      go_ret
      exact ⟨rfl, hend⟩
    · have hq := com_back hKA (by omega)
      rw [hLA, hUA] at hq
      have HQ := Lib.hid hq
      obtain ⟨⟨n1, n2⟩, hn⟩ : ∃ n, nowOf l c = n := ⟨_, rfl⟩
      have HN := Lib.hid hn
      have hm2 : (most == 1) = false := by simpa using h1
      clear hq hKA hLA hUA hp hm hn h1
      go_enter Try.func12, Try.ntmps12
      go_wp2_with fail
      refine (pastCommit_any _ l c x1 x2 most _ (Vers.alloc (Vers.alloc P0.out _) _) hl).mono ?_
      rintro e w1 ⟨va, rfl, hna, hx⟩
      have hbel_w1 : Below w.heap.size w w1 := (below_new (below_new (Below.refl w.heap.size w) _) _).trans (hx.mono (by first | omega | (simp; done) | (simp; omega)))
      have hz_w1 : w.heap.size + 2 ≤ w1.heap.size := by have hz := hx.size; first | omega | (simp only [sz1] at hz; omega)
      have B3 := Lib.hid (show w1.heap[w.heap.size]? = some (pastBox (.slice a l.length cap) c) from box_below (heap_keep (heap_last (o := pastBox (.slice a l.length cap) c) rfl) _) hx)
      have B4 := Lib.hid (show w1.heap[w.heap.size + 1]? = some (verBox x1 x2) from box_below (heap_last (o := verBox x1 x2) (by simp only [sz1])) hx)
      clear hx 
      have hl_B3 := (Array.getElem?_eq_some_iff.1 B3.out).1
      have hl_B4 := (Array.getElem?_eq_some_iff.1 B4.out).1
      rw [HLA.out] at hna
      rw [HKA.out, HUA.out]
      obtain ⟨ga, ca, hf⟩ := hna.form
      subst hf
      have Na := Lib.hid hna
      clear hna
      go_wp2_with fail
      refine (awake17_any _).mono ?_
      rintro e w2 ⟨rfl, hx⟩
      have hbel_w2 : Below w.heap.size w w2 := (below_new hbel_w1 _).trans (hx.mono (by have := hbel_w1.size; first | omega | (simp; omega)))
      have hz_w2 : w1.heap.size + 1 ≤ w2.heap.size := by have hz := hx.size; first | omega | (simp only [sz1] at hz; omega)
      have B3' := Lib.hid (box_below (heap_keep B3.out _) hx)
      have B4' := Lib.hid (box_below (heap_keep B4.out _) hx)
      have Na' := Lib.hid ((Na.out.below ((Below.refl _ _).alloc (Nat.le_refl _) _)).below hx)
      have B7 := Lib.hid (show w2.heap[w1.heap.size]? = some (pastBox (.slice ga LA.length ca) UA) from box_below (heap_last (o := pastBox (.slice ga LA.length ca) UA) rfl) hx)
      clear hx B3 B4 Na hbel_w1
      have B3 := B3'
      have B4 := B4'
      have Na := Na'
      clear B3' B4' Na'
      clear hl_B3 hl_B4
      have hl_B3 := (Array.getElem?_eq_some_iff.1 B3.out).1
      have hl_B4 := (Array.getElem?_eq_some_iff.1 B4.out).1
      have hl_B7 := (Array.getElem?_eq_some_iff.1 B7.out).1
      obtain ⟨yB7_0, yB7_1⟩ := pastBox_cells B7.out
      go_wp2_with fail
      refine (pastUndo_any _ LA UA _ Na.out.vers hla hua).mono ?_
      rintro e w3 ⟨vb, rfl, hnb, hx⟩
      clear yB7_0 yB7_1
      have hbel_w3 : Below w.heap.size w w3 := hbel_w2.trans (hx.mono (by have := hbel_w2.size; first | omega | (simp; omega)))
      have hz_w3 : w2.heap.size + 0 ≤ w3.heap.size := by have hz := hx.size; first | omega | (simp only [sz1] at hz; omega)
      have B3' := Lib.hid (box_below B3.out hx)
      have B4' := Lib.hid (box_below B4.out hx)
      have Na' := Lib.hid (Na.out.below hx)
      have B7' := Lib.hid (box_below B7.out hx)
      clear hx B3 B4 Na B7 hbel_w2
      have B3 := B3'
      have B4 := B4'
      have Na := Na'
      have B7 := B7'
      clear B3' B4' Na' B7'
      clear hl_B3 hl_B4 hl_B7
      have hl_B3 := (Array.getElem?_eq_some_iff.1 B3.out).1
      have hl_B4 := (Array.getElem?_eq_some_iff.1 B4.out).1
      have hl_B7 := (Array.getElem?_eq_some_iff.1 B7.out).1
      rw [HQ.out.2.2.1] at hnb
      rw [HQ.out.2.1, HQ.out.2.2.2.1]
      obtain ⟨gb, cb, hf⟩ := hnb.form
      subst hf
      have Nb := Lib.hid hnb
      clear hnb
      go_wp2_with fail
      obtain ⟨w4, hset⟩ : ∃ x, x = (w3.alloc (.cells #[.slice gb LA.length cb, .int .i64 (UA - 1)] 39)) := ⟨_, rfl⟩
      rw [← hset]
      have hx : Below (w3.alloc (pastBox (.slice gb LA.length cb) (UA - 1))).heap.size (w3.alloc (pastBox (.slice gb LA.length cb) (UA - 1))) w4 := by rw [hset]; exact Below.refl _ _
      clear hset
      have hbel_w4 : Below w.heap.size w w4 := (below_new hbel_w3 _).trans (hx.mono (by have := hbel_w3.size; first | omega | (simp; omega)))
      have hz_w4 : w3.heap.size + 1 ≤ w4.heap.size := by have hz := hx.size; first | omega | (simp only [sz1] at hz; omega)
      have B3' := Lib.hid (box_below (heap_keep B3.out _) hx)
      have B4' := Lib.hid (box_below (heap_keep B4.out _) hx)
      have Na' := Lib.hid ((Na.out.below ((Below.refl _ _).alloc (Nat.le_refl _) _)).below hx)
      have B7' := Lib.hid (box_below (heap_keep B7.out _) hx)
      have Nb' := Lib.hid ((Nb.out.below ((Below.refl _ _).alloc (Nat.le_refl _) _)).below hx)
      have B9 := Lib.hid (show w4.heap[w3.heap.size]? = some (pastBox (.slice gb LA.length cb) (UA - 1)) from box_below (heap_last (o := pastBox (.slice gb LA.length cb) (UA - 1)) rfl) hx)
      clear hx B3 B4 Na B7 Nb hbel_w3
      have B3 := B3'
      have B4 := B4'
      have Na := Na'
      have B7 := B7'
      have Nb := Nb'
      clear B3' B4' Na' B7' Nb'
      clear hl_B3 hl_B4 hl_B7
      have hl_B3 := (Array.getElem?_eq_some_iff.1 B3.out).1
      have hl_B4 := (Array.getElem?_eq_some_iff.1 B4.out).1
      have hl_B7 := (Array.getElem?_eq_some_iff.1 B7.out).1
      have hl_B9 := (Array.getElem?_eq_some_iff.1 B9.out).1
      obtain ⟨yB9_0, yB9_1⟩ := pastBox_cells B9.out
      go_wp2_with fail
      refine (pastRedo_any _ LA (UA - 1) _ Nb.out.vers hla).mono ?_
      rintro e w5 ⟨vd, rfl, hnd, hx⟩
      clear yB9_0 yB9_1
      have hbel_w5 : Below w.heap.size w w5 := hbel_w4.trans (hx.mono (by have := hbel_w4.size; first | omega | (simp; omega)))
      have hz_w5 : w4.heap.size + 0 ≤ w5.heap.size := by have hz := hx.size; first | omega | (simp only [sz1] at hz; omega)
      have B3' := Lib.hid (box_below B3.out hx)
      have B4' := Lib.hid (box_below B4.out hx)
      have Na' := Lib.hid (Na.out.below hx)
      have B7' := Lib.hid (box_below B7.out hx)
      have Nb' := Lib.hid (Nb.out.below hx)
      have B9' := Lib.hid (box_below B9.out hx)
      clear hx B3 B4 Na B7 Nb B9 hbel_w4
      have B3 := B3'
      have B4 := B4'
      have Na := Na'
      have B7 := B7'
      have Nb := Nb'
      have B9 := B9'
      clear B3' B4' Na' B7' Nb' B9'
      clear hl_B3 hl_B4 hl_B7 hl_B9
      have hl_B3 := (Array.getElem?_eq_some_iff.1 B3.out).1
      have hl_B4 := (Array.getElem?_eq_some_iff.1 B4.out).1
      have hl_B7 := (Array.getElem?_eq_some_iff.1 B7.out).1
      have hl_B9 := (Array.getElem?_eq_some_iff.1 B9.out).1
      rw [HQ.out.2.2.2.2.2.2.1] at hnd
      rw [HQ.out.2.2.2.2.2.1, HQ.out.2.2.2.2.2.2.2.1]
      obtain ⟨gd, cd, hf⟩ := hnd.form
      subst hf
      have Nd := Lib.hid hnd
      clear hnd
      go_wp2_with fail
      obtain ⟨w6, hset⟩ : ∃ x, x = (w5.alloc (.cells #[.slice gd LA.length cd, .int .i64 UA] 39)) := ⟨_, rfl⟩
      rw [← hset]
      have hx : Below (w5.alloc (pastBox (.slice gd LA.length cd) UA)).heap.size (w5.alloc (pastBox (.slice gd LA.length cd) UA)) w6 := by rw [hset]; exact Below.refl _ _
      clear hset
      have hbel_w6 : Below w.heap.size w w6 := (below_new hbel_w5 _).trans (hx.mono (by have := hbel_w5.size; first | omega | (simp; omega)))
      have hz_w6 : w5.heap.size + 1 ≤ w6.heap.size := by have hz := hx.size; first | omega | (simp only [sz1] at hz; omega)
      have B3' := Lib.hid (box_below (heap_keep B3.out _) hx)
      have B4' := Lib.hid (box_below (heap_keep B4.out _) hx)
      have Na' := Lib.hid ((Na.out.below ((Below.refl _ _).alloc (Nat.le_refl _) _)).below hx)
      have B7' := Lib.hid (box_below (heap_keep B7.out _) hx)
      have Nb' := Lib.hid ((Nb.out.below ((Below.refl _ _).alloc (Nat.le_refl _) _)).below hx)
      have B9' := Lib.hid (box_below (heap_keep B9.out _) hx)
      have Nd' := Lib.hid ((Nd.out.below ((Below.refl _ _).alloc (Nat.le_refl _) _)).below hx)
      have B11 := Lib.hid (show w6.heap[w5.heap.size]? = some (pastBox (.slice gd LA.length cd) UA) from box_below (heap_last (o := pastBox (.slice gd LA.length cd) UA) rfl) hx)
      clear hx B3 B4 Na B7 Nb B9 Nd hbel_w5
      have B3 := B3'
      have B4 := B4'
      have Na := Na'
      have B7 := B7'
      have Nb := Nb'
      have B9 := B9'
      have Nd := Nd'
      clear B3' B4' Na' B7' Nb' B9' Nd'
      clear hl_B3 hl_B4 hl_B7 hl_B9
      have hl_B3 := (Array.getElem?_eq_some_iff.1 B3.out).1
      have hl_B4 := (Array.getElem?_eq_some_iff.1 B4.out).1
      have hl_B7 := (Array.getElem?_eq_some_iff.1 B7.out).1
      have hl_B9 := (Array.getElem?_eq_some_iff.1 B9.out).1
      have hl_B11 := (Array.getElem?_eq_some_iff.1 B11.out).1
      obtain ⟨yB7_0, yB7_1⟩ := pastBox_cells B7.out
      obtain ⟨yB4_0, yB4_1⟩ := verBox_cells B4.out
      obtain ⟨yB9_0, yB9_1⟩ := pastBox_cells B9.out
      obtain ⟨yB3_0, yB3_1⟩ := pastBox_cells B3.out
      obtain ⟨yB11_0, yB11_1⟩ := pastBox_cells B11.out
      refine region_each 32 [some 53, some 54, some 55, some 56, some 57, some 58, some 59, some 60, some 61, some 62, some 63, some 64, some 65, some 66, some 67, some 68, some 69, some 70, some 71, some 72, some 73, some 74, some 75, some 76, some 77, some 78, some 79, some 80, some 81, some 82, some 83, some 6] [[], [0], [1], [2], [3, 2], [2, 4], [5], [6], [7, 6], [6], [8, 9, 6], [6, 10], [11], [12], [13, 12], [12], [15, 12], [14, 16, 12], [12, 17], [18], [19], [19], [20, 21, 19], [19, 22], [23], [24], [25, 24], [26, 24], [24], [27, 28, 24], [24, 29], [30]]
        [kIs (.int .i64 0), kIs (.bool true), kIs (.bool true), kIs (.int .i64 0), kIs (.bool true), kIs (.bool true), kIs (.bool true), kIs (.agg #[.slice ga LA.length ca, .int .i64 UA]), kIs (.agg #[.int .i64 x1, .int .i64 x2]), kIs (.agg #[.int .i64 x1, .int .i64 x2]), kIs (.bool true), kIs (.bool true), kIs (.bool true), kIs (.agg #[.slice gb LA.length cb, .int .i64 (UA - 1)]), kIs (.agg #[.int .i64 n1, .int .i64 n2]), kIs (.agg #[(.slice a l.length cap), .int .i64 c]), kIs (.agg #[.int .i64 n1, .int .i64 n2]), kIs (.bool true), kIs (.bool true), kIs (.bool true), kIs (.agg #[.slice gd LA.length cd, .int .i64 UA]), kIs (.agg #[.slice ga LA.length ca, .int .i64 UA]), kIs (.bool true), kIs (.bool true), kIs (.bool true), kIs (.pointer (some ⟨w1.heap.size, 0, none⟩)), kIs (.slice ga LA.length ca), kIs (.int .i64 (LA.length : Nat)), kIs (.int .i64 most), kIs (.bool true), kIs (.bool true), kIs (.bool true)]
        (by kernel_rfl) (by kernel_rfl) (by kernel_rfl) (by kernel_rfl) ?_ ?_
      · simp only [obligsD]
        refine ⟨?_, ?_, ?_, ?_, ?_, ?_, ?_, ?_, ?_, ?_, ?_, ?_, ?_, ?_, ?_, ?_, ?_, ?_, ?_, ?_, ?_, ?_, ?_, ?_, ?_, ?_, ?_, ?_, ?_, ?_, ?_, ?_, trivial⟩
        · intro us w1 _ _
          change Oper.wp _ _ _ _ _ _
          go_simp
          exact ⟨_, rfl, Below.refl _ _, rfl⟩
        · intro us w1 _ hd
          simp only [List.mem_cons, List.not_mem_nil, or_false, forall_eq, List.getD_cons_zero, kIs] at hd
          simp only [putD, List.getD_cons_zero, Act.put, hd]
          go_simp
          exact ⟨_, rfl, Below.refl _ _, rfl⟩
        · intro us w1 _ hd
          simp only [List.mem_cons, List.not_mem_nil, or_false, forall_eq, List.getD_cons_zero, List.getD_cons_succ, kIs] at hd
          simp only [putD, List.getD_cons_zero, List.getD_cons_succ, Act.put, hd]
          go_simp
          exact ⟨_, rfl, Below.refl _ _, rfl⟩
        · intro us w1 _ hd
          simp only [List.mem_cons, List.not_mem_nil, or_false, forall_eq, List.getD_cons_zero, List.getD_cons_succ, kIs] at hd
          refine ⟨fun _ => ?_, fun h => (h (by simp [hd])).elim⟩
          simp only [putD, List.getD_cons_zero, List.getD_cons_succ, Act.put, hd]
          go_simp
          exact ⟨_, rfl, Below.refl _ _, rfl⟩
        · intro us w1 _ hd
          simp only [List.mem_cons, List.not_mem_nil, or_false, forall_eq_or_imp, forall_eq, List.getD_cons_zero, List.getD_cons_succ, kIs] at hd
          refine ⟨fun _ => ?_, fun h => (h (by simp [hd])).elim⟩
          simp only [putD, List.getD_cons_zero, List.getD_cons_succ, Act.put, hd]
          go_simp
          exact ⟨_, rfl, Below.refl _ _, rfl⟩
        · intro us w1 _ hd
          simp only [List.mem_cons, List.not_mem_nil, or_false, forall_eq_or_imp, forall_eq, List.getD_cons_zero, List.getD_cons_succ, kIs] at hd
          simp only [putD, List.getD_cons_zero, List.getD_cons_succ, Act.put, hd]
          go_simp
          exact ⟨_, rfl, Below.refl _ _, rfl⟩
        · intro us w1 _ hd
          simp only [List.mem_cons, List.not_mem_nil, or_false, forall_eq, List.getD_cons_zero, List.getD_cons_succ, kIs] at hd
          simp only [putD, List.getD_cons_zero, List.getD_cons_succ, Act.put, hd]
          go_simp
          exact ⟨_, rfl, Below.refl _ _, rfl⟩
        · intro us w1 hb hd
          simp only [List.mem_cons, List.not_mem_nil, or_false, forall_eq, List.getD_cons_zero, List.getD_cons_succ, kIs] at hd
          refine ⟨fun _ => ?_, fun h => (h (by simp [hd])).elim⟩
          simp only [putD, List.getD_cons_zero, List.getD_cons_succ, Act.put, hd]
          have d0 := (hb.cell (World.block_lt_of_cell? _ _ yB7_0)).trans yB7_0
          have d1 := (hb.cell (World.block_lt_of_cell? _ _ yB7_1)).trans yB7_1
          go_simp
          exact ⟨_, rfl, Below.refl _ _, rfl⟩
        · intro us w1 hb hd
          simp only [List.mem_cons, List.not_mem_nil, or_false, forall_eq_or_imp, forall_eq, List.getD_cons_zero, List.getD_cons_succ, kIs] at hd
          refine ⟨fun _ => ?_, fun h => (h (by simp [hd])).elim⟩
          simp only [putD, List.getD_cons_zero, List.getD_cons_succ, Act.put, hd]
          go_simp
          refine (pastNow_any _ LA UA _ (Na.out.below hb).vers).mono ?_
          rintro e w99 ⟨rfl, hb2⟩
          rw [HQ.out.1]
          exact ⟨_, rfl, hb2, rfl⟩
        · intro us w1 hb hd
          simp only [List.mem_cons, List.not_mem_nil, or_false, forall_eq, List.getD_cons_zero, List.getD_cons_succ, kIs] at hd
          refine ⟨fun _ => ?_, fun h => (h (by simp [hd])).elim⟩
          simp only [putD, List.getD_cons_zero, List.getD_cons_succ, Act.put, hd]
          have d0 := (hb.cell (World.block_lt_of_cell? _ _ yB4_0)).trans yB4_0
          have d1 := (hb.cell (World.block_lt_of_cell? _ _ yB4_1)).trans yB4_1
          go_simp
          exact ⟨_, rfl, Below.refl _ _, rfl⟩
        · intro us w1 _ hd
          simp only [List.mem_cons, List.not_mem_nil, or_false, forall_eq_or_imp, forall_eq, List.getD_cons_zero, List.getD_cons_succ, kIs] at hd
          refine ⟨fun _ => ?_, fun h => (h (by simp [hd])).elim⟩
          simp only [putD, List.getD_cons_zero, List.getD_cons_succ, Act.put, hd]
          go_simp
          exact ⟨_, rfl, Below.refl _ _, rfl⟩
        · intro us w1 _ hd
          simp only [List.mem_cons, List.not_mem_nil, or_false, forall_eq_or_imp, forall_eq, List.getD_cons_zero, List.getD_cons_succ, kIs] at hd
          simp only [putD, List.getD_cons_zero, List.getD_cons_succ, Act.put, hd]
          go_simp
          exact ⟨_, rfl, Below.refl _ _, rfl⟩
        · intro us w1 _ hd
          simp only [List.mem_cons, List.not_mem_nil, or_false, forall_eq, List.getD_cons_zero, List.getD_cons_succ, kIs] at hd
          simp only [putD, List.getD_cons_zero, List.getD_cons_succ, Act.put, hd]
          go_simp
          exact ⟨_, rfl, Below.refl _ _, rfl⟩
        · intro us w1 hb hd
          simp only [List.mem_cons, List.not_mem_nil, or_false, forall_eq, List.getD_cons_zero, List.getD_cons_succ, kIs] at hd
          refine ⟨fun _ => ?_, fun h => (h (by simp [hd])).elim⟩
          simp only [putD, List.getD_cons_zero, List.getD_cons_succ, Act.put, hd]
          have d0 := (hb.cell (World.block_lt_of_cell? _ _ yB9_0)).trans yB9_0
          have d1 := (hb.cell (World.block_lt_of_cell? _ _ yB9_1)).trans yB9_1
          go_simp
          exact ⟨_, rfl, Below.refl _ _, rfl⟩
        · intro us w1 hb hd
          simp only [List.mem_cons, List.not_mem_nil, or_false, forall_eq_or_imp, forall_eq, List.getD_cons_zero, List.getD_cons_succ, kIs] at hd
          refine ⟨fun _ => ?_, fun h => (h (by simp [hd])).elim⟩
          simp only [putD, List.getD_cons_zero, List.getD_cons_succ, Act.put, hd]
          go_simp
          refine (pastNow_any _ LA (UA - 1) _ (Nb.out.below hb).vers).mono ?_
          rintro e w99 ⟨rfl, hb2⟩
          rw [HQ.out.2.2.2.2.1, HN.out]
          exact ⟨_, rfl, hb2, rfl⟩
        · intro us w1 hb hd
          simp only [List.mem_cons, List.not_mem_nil, or_false, forall_eq, List.getD_cons_zero, List.getD_cons_succ, kIs] at hd
          refine ⟨fun _ => ?_, fun h => (h (by simp [hd])).elim⟩
          simp only [putD, List.getD_cons_zero, List.getD_cons_succ, Act.put, hd]
          have d0 := (hb.cell (World.block_lt_of_cell? _ _ yB3_0)).trans yB3_0
          have d1 := (hb.cell (World.block_lt_of_cell? _ _ yB3_1)).trans yB3_1
          go_simp
          exact ⟨_, rfl, Below.refl _ _, rfl⟩
        · intro us w1 hb hd
          simp only [List.mem_cons, List.not_mem_nil, or_false, forall_eq_or_imp, forall_eq, List.getD_cons_zero, List.getD_cons_succ, kIs] at hd
          refine ⟨fun _ => ?_, fun h => (h (by simp [hd])).elim⟩
          simp only [putD, List.getD_cons_zero, List.getD_cons_succ, Act.put, hd]
          go_simp
          refine (pastNow_any _ l c _ (Vers.below (Vers.below P0.out hbel_w6) hb)).mono ?_
          rintro e w99 ⟨rfl, hb2⟩
          rw [HN.out]
          exact ⟨_, rfl, hb2, rfl⟩
        · intro us w1 _ hd
          simp only [List.mem_cons, List.not_mem_nil, or_false, forall_eq_or_imp, forall_eq, List.getD_cons_zero, List.getD_cons_succ, kIs] at hd
          refine ⟨fun _ => ?_, fun h => (h (by simp [hd])).elim⟩
          simp only [putD, List.getD_cons_zero, List.getD_cons_succ, Act.put, hd]
          go_simp
          exact ⟨_, rfl, Below.refl _ _, rfl⟩
        · intro us w1 _ hd
          simp only [List.mem_cons, List.not_mem_nil, or_false, forall_eq_or_imp, forall_eq, List.getD_cons_zero, List.getD_cons_succ, kIs] at hd
          simp only [putD, List.getD_cons_zero, List.getD_cons_succ, Act.put, hd]
          go_simp
          exact ⟨_, rfl, Below.refl _ _, rfl⟩
        · intro us w1 _ hd
          simp only [List.mem_cons, List.not_mem_nil, or_false, forall_eq, List.getD_cons_zero, List.getD_cons_succ, kIs] at hd
          simp only [putD, List.getD_cons_zero, List.getD_cons_succ, Act.put, hd]
          go_simp
          exact ⟨_, rfl, Below.refl _ _, rfl⟩
        · intro us w1 hb hd
          simp only [List.mem_cons, List.not_mem_nil, or_false, forall_eq, List.getD_cons_zero, List.getD_cons_succ, kIs] at hd
          refine ⟨fun _ => ?_, fun h => (h (by simp [hd])).elim⟩
          simp only [putD, List.getD_cons_zero, List.getD_cons_succ, Act.put, hd]
          have d0 := (hb.cell (World.block_lt_of_cell? _ _ yB11_0)).trans yB11_0
          have d1 := (hb.cell (World.block_lt_of_cell? _ _ yB11_1)).trans yB11_1
          go_simp
          exact ⟨_, rfl, Below.refl _ _, rfl⟩
        · intro us w1 hb hd
          simp only [List.mem_cons, List.not_mem_nil, or_false, forall_eq, List.getD_cons_zero, List.getD_cons_succ, kIs] at hd
          refine ⟨fun _ => ?_, fun h => (h (by simp [hd])).elim⟩
          simp only [putD, List.getD_cons_zero, List.getD_cons_succ, Act.put, hd]
          have d0 := (hb.cell (World.block_lt_of_cell? _ _ yB7_0)).trans yB7_0
          have d1 := (hb.cell (World.block_lt_of_cell? _ _ yB7_1)).trans yB7_1
          go_simp
          exact ⟨_, rfl, Below.refl _ _, rfl⟩
        · intro us w1 hb hd
          simp only [List.mem_cons, List.not_mem_nil, or_false, forall_eq_or_imp, forall_eq, List.getD_cons_zero, List.getD_cons_succ, kIs] at hd
          refine ⟨fun _ => ?_, fun h => (h (by simp [hd])).elim⟩
          simp only [putD, List.getD_cons_zero, List.getD_cons_succ, Act.put, hd]
          go_simp
          refine (sameP_yes _ _ LA UA _ (Nd.out.below hb).vers (Na.out.below hb).vers).mono ?_
          rintro e w99 ⟨rfl, hb2⟩
          exact ⟨_, rfl, hb2, rfl⟩
        · intro us w1 _ hd
          simp only [List.mem_cons, List.not_mem_nil, or_false, forall_eq_or_imp, forall_eq, List.getD_cons_zero, List.getD_cons_succ, kIs] at hd
          simp only [putD, List.getD_cons_zero, List.getD_cons_succ, Act.put, hd]
          go_simp
          exact ⟨_, rfl, Below.refl _ _, rfl⟩
        · intro us w1 _ hd
          simp only [List.mem_cons, List.not_mem_nil, or_false, forall_eq, List.getD_cons_zero, List.getD_cons_succ, kIs] at hd
          simp only [putD, List.getD_cons_zero, List.getD_cons_succ, Act.put, hd]
          go_simp
          exact ⟨_, rfl, Below.refl _ _, rfl⟩
        · intro us w1 _ hd
          simp only [List.mem_cons, List.not_mem_nil, or_false, forall_eq, List.getD_cons_zero, List.getD_cons_succ, kIs] at hd
          refine ⟨fun _ => ?_, fun h => (h (by simp [hd])).elim⟩
          simp only [putD, List.getD_cons_zero, List.getD_cons_succ, Act.put, hd]
          go_simp
          exact ⟨_, rfl, Below.refl _ _, rfl⟩
        · intro us w1 hb hd
          simp only [List.mem_cons, List.not_mem_nil, or_false, forall_eq_or_imp, forall_eq, List.getD_cons_zero, List.getD_cons_succ, kIs] at hd
          refine ⟨fun _ => ?_, fun h => (h (by simp [hd])).elim⟩
          simp only [putD, List.getD_cons_zero, List.getD_cons_succ, Act.put, hd]
          have d0 := (hb.cell (World.block_lt_of_cell? _ _ yB7_0)).trans yB7_0
          go_simp
          exact ⟨_, rfl, Below.refl _ _, rfl⟩
        · intro us w1 _ hd
          simp only [List.mem_cons, List.not_mem_nil, or_false, forall_eq_or_imp, forall_eq, List.getD_cons_zero, List.getD_cons_succ, kIs] at hd
          refine ⟨fun _ => ?_, fun h => (h (by simp [hd])).elim⟩
          simp only [putD, List.getD_cons_zero, List.getD_cons_succ, Act.put, hd]
          go_simp
          exact ⟨_, rfl, Below.refl _ _, rfl⟩
        · intro us w1 _ hd
          simp only [List.mem_cons, List.not_mem_nil, or_false, forall_eq, List.getD_cons_zero, List.getD_cons_succ, kIs] at hd
          refine ⟨fun _ => ?_, fun h => (h (by simp [hd])).elim⟩
          simp only [putD, List.getD_cons_zero, List.getD_cons_succ, Act.put, hd]
          go_simp
          exact ⟨_, rfl, Below.refl _ _, rfl⟩
        · intro us w1 hb hd
          simp only [List.mem_cons, List.not_mem_nil, or_false, forall_eq_or_imp, forall_eq, List.getD_cons_zero, List.getD_cons_succ, kIs] at hd
          refine ⟨fun _ => ?_, fun h => (h (by simp [hd])).elim⟩
          simp only [putD, List.getD_cons_zero, List.getD_cons_succ, Act.put, hd]
          have hq1 : ((LA.length : Nat) : Int) ≤ most := HQ.out.2.2.2.2.2.2.2.2
          go_simp
          exact ⟨_, rfl, Below.refl _ _, by first | rfl | (simp [kIs, hq1])⟩
        · intro us w1 _ hd
          simp only [List.mem_cons, List.not_mem_nil, or_false, forall_eq_or_imp, forall_eq, List.getD_cons_zero, List.getD_cons_succ, kIs] at hd
          simp only [putD, List.getD_cons_zero, List.getD_cons_succ, Act.put, hd]
          go_simp
          exact ⟨_, rfl, Below.refl _ _, rfl⟩
        · intro us w1 _ hd
          simp only [List.mem_cons, List.not_mem_nil, or_false, forall_eq, List.getD_cons_zero, List.getD_cons_succ, kIs] at hd
          simp only [putD, List.getD_cons_zero, List.getD_cons_succ, Act.put, hd]
          go_simp
          exact ⟨_, rfl, Below.refl _ _, rfl⟩
      intro us w90 hx hp
      have hL := hp 31 (by simp)
      simp only [List.getD_cons_zero, List.getD_cons_succ, kIs] at hL
      rw [show List.range 32 = [0, 1, 2, 3, 4, 5, 6, 7, 8, 9, 10, 11, 12, 13, 14, 15, 16, 17, 18, 19, 20, 21, 22, 23, 24, 25, 26, 27, 28, 29, 30, 31] from rfl]
      simp only [putD, List.getD_cons_zero, List.getD_cons_succ, Act.put, List.setIfInBounds_toArray, List.set_cons_zero, List.set_cons_succ, hL]
      have hend := below_step hbel_w6 hx
      go_wp2_with fail
      go_ret
      exact ⟨rfl, hend⟩
  · have hk : ((KA : Int) != 0) = true := by rw [bne_iff_ne]; omega
    clear h0 hKA hLA hUA
    go_enter Try.func12, Try.ntmps12
    go_wp2_with fail
    refine (pastCommit_any _ l c x1 x2 most _ (Vers.alloc (Vers.alloc P0.out _) _) hl).mono ?_
    rintro e w1 ⟨va, rfl, hna, hx⟩
    have hbel_w1 : Below w.heap.size w w1 := (below_new (below_new (Below.refl w.heap.size w) _) _).trans (hx.mono (by first | omega | (simp; done) | (simp; omega)))
    have hz_w1 : w.heap.size + 2 ≤ w1.heap.size := by have hz := hx.size; first | omega | (simp only [sz1] at hz; omega)
    have B3 := Lib.hid (show w1.heap[w.heap.size]? = some (pastBox (.slice a l.length cap) c) from box_below (heap_keep (heap_last (o := pastBox (.slice a l.length cap) c) rfl) _) hx)
    have B4 := Lib.hid (show w1.heap[w.heap.size + 1]? = some (verBox x1 x2) from box_below (heap_last (o := verBox x1 x2) (by simp only [sz1])) hx)
    clear hx 
    have hl_B3 := (Array.getElem?_eq_some_iff.1 B3.out).1
    have hl_B4 := (Array.getElem?_eq_some_iff.1 B4.out).1
    rw [HLA.out] at hna
    rw [HKA.out, HUA.out]
    obtain ⟨ga, ca, hf⟩ := hna.form
    subst hf
    have Na := Lib.hid hna
    clear hna
    go_wp2_with fail
    refine (awake17_any _).mono ?_
    rintro e w2 ⟨rfl, hx⟩
    have hbel_w2 : Below w.heap.size w w2 := (below_new hbel_w1 _).trans (hx.mono (by have := hbel_w1.size; first | omega | (simp; omega)))
    have hz_w2 : w1.heap.size + 1 ≤ w2.heap.size := by have hz := hx.size; first | omega | (simp only [sz1] at hz; omega)
    have B3' := Lib.hid (box_below (heap_keep B3.out _) hx)
    have B4' := Lib.hid (box_below (heap_keep B4.out _) hx)
    have Na' := Lib.hid ((Na.out.below ((Below.refl _ _).alloc (Nat.le_refl _) _)).below hx)
    have B7 := Lib.hid (show w2.heap[w1.heap.size]? = some (pastBox (.slice ga LA.length ca) UA) from box_below (heap_last (o := pastBox (.slice ga LA.length ca) UA) rfl) hx)
    clear hx B3 B4 Na hbel_w1
    have B3 := B3'
    have B4 := B4'
    have Na := Na'
    clear B3' B4' Na'
    clear hl_B3 hl_B4
    have hl_B3 := (Array.getElem?_eq_some_iff.1 B3.out).1
    have hl_B4 := (Array.getElem?_eq_some_iff.1 B4.out).1
    have hl_B7 := (Array.getElem?_eq_some_iff.1 B7.out).1
    go_wp2_with fail
    refine (awake17_any _).mono ?_
    rintro e w3 ⟨rfl, hx⟩
    have hbel_w3 : Below w.heap.size w w3 := hbel_w2.trans (hx.mono (by have := hbel_w2.size; first | omega | (simp; omega)))
    have hz_w3 : w2.heap.size + 0 ≤ w3.heap.size := by have hz := hx.size; first | omega | (simp only [sz1] at hz; omega)
    have B3' := Lib.hid (box_below B3.out hx)
    have B4' := Lib.hid (box_below B4.out hx)
    have Na' := Lib.hid (Na.out.below hx)
    have B7' := Lib.hid (box_below B7.out hx)
    clear hx B3 B4 Na B7 hbel_w2
    have B3 := B3'
    have B4 := B4'
    have Na := Na'
    have B7 := B7'
    clear B3' B4' Na' B7'
    clear hl_B3 hl_B4 hl_B7
    have hl_B3 := (Array.getElem?_eq_some_iff.1 B3.out).1
    have hl_B4 := (Array.getElem?_eq_some_iff.1 B4.out).1
    have hl_B7 := (Array.getElem?_eq_some_iff.1 B7.out).1
    go_wp2_with fail
    go_ret
    exact ⟨rfl, hbel_w3⟩
end Go.Proofs.Ytdofdegicdkhlaa
