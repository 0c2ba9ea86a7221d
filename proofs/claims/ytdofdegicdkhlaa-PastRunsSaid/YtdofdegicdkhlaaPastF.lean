/- The walk of past.Commit. -/
import Derived.Test.YtdofdegicdkhlaaPastE
import Derived.Test.YtdofdegicdkhlaaRely
namespace Go.Proofs.Ytdofdegicdkhlaa
open Go.RowKit Go.Oct

theorem com_bad {l : List Ver} {c most : Int} {v : Ver} (h : ¬ (pastMay l c ∧ verMay v ∧ 1 ≤ most ∧ most ≤ 16)) : comCode l c v most = 1 ∧ comList l c v most = [] ∧ comCur l c v most = 0 := by
  have e : comCode l c v most = 1 := by unfold comCode; rw [if_neg h]
  exact ⟨e, by simp [comList, e], by simp [comCur, e]⟩
theorem own_cap2 {w : World} {base : Nat} {e : TypeId} {size g n cp : Nat} {xs : List Value} (h : w.ownsRow base e size (.slice (some ⟨g, 0, none⟩) n cp) n xs) : n ≤ cp ∧ cp ≤ maxLen := by
  rcases h.2 with ⟨h', _⟩ | ⟨g', cap', cur, h', hb, hg, hnc, hcm, hcs, htake⟩
  · simp at h'
  · simp only [Value.slice.injEq, Option.some.injEq, Addr.mk.injEq, and_true, true_and] at h'
    obtain ⟨rfl, rfl⟩ := h'
    exact ⟨hnc, hcm⟩
theorem NewVers.tail {base : Nat} {w : World} {g cp : Nat} {L : List Ver} (h : w.ownsRow base 41 2 (.slice (some ⟨g, 0, none⟩) L.length cp) L.length (vs L)) (j : Nat) (hj : j < L.length) :
    NewVers base w (.slice (some ⟨g, j * 2, none⟩) (L.drop j).length (cp - j)) (L.drop j) := by
  rcases h.2 with ⟨h', _⟩ | ⟨g', cap', cur, h', hb, hg, hnc, hcm, hcs, ht⟩
  · simp at h'
  · simp only [Value.slice.injEq, Option.some.injEq, Addr.mk.injEq, and_true, true_and] at h'
    obtain ⟨rfl, rfl⟩ := h'
    refine .inr ⟨g, j * 2, cp - j, cur, rfl, hb, hg, by rw [List.length_drop]; omega, by omega, ?_⟩
    rw [vs_drop, ← ht, List.drop_take, List.length_drop, Nat.sub_mul]
theorem has_take {w : World} {b o n cap : Nat} {l : List Ver} (h : Vers w (.slice (some ⟨b, o, none⟩) n cap) l) (k : Nat) (hk : k ≤ n) : Has w (.slice (some ⟨b, o, none⟩) k cap) k (vs (l.take k)) := by
  obtain ⟨a', cap', hv, h1, h2, h3⟩ := h
  simp only [Value.slice.injEq] at hv
  obtain ⟨rfl, rfl, rfl⟩ := hv
  refine ⟨_, _, rfl, by omega, h2, fun hne => ?_⟩
  have hne2 : vs l ≠ [] := by
    intro e
    apply hne
    rw [vs_take, e]
    simp
  obtain ⟨b', o', ha, hc⟩ := h3 hne2
  refine ⟨b', o', ha, fun i x hx => hc i x ?_⟩
  rw [vs_take, List.getElem?_take] at hx
  split at hx
  · exact hx
  · cases hx
set_option maxHeartbeats 4000000 in
theorem pastCommit_any (v : Value) (l : List Ver) (c x1 x2 most : Int) (w : World) (hB : Vers w v l) (hl : l.length ≤ 8796093022144) :
    Calls Try.prog 28 #[.agg #[v, .int .i64 c], .agg #[.int .i64 x1, .int .i64 x2], .int .i64 most] w (PastPost w (comCode l c (x1, x2) most) (comList l c (x1, x2) most) (comCur l c (x1, x2) most)) := by
  obtain ⟨a, cap, rfl, hcap, hmax, hcells⟩ := Vers.open hB
  unfold maxLen at hmax
  by_cases hM : pastMay l c
  · by_cases hV : verMay (x1, x2)
    · by_cases hm1 : most < 1
      · obtain ⟨e1, e2, e3⟩ := com_bad (l := l) (c := c) (v := (x1, x2)) (most := most) (by omega)
        rw [e1, e2, e3]
        have HM := Lib.hid (decide_eq_true hM)
        have HV := Lib.hid (decide_eq_true hV)
        clear e1 e2 e3 hM hV hcells
        go_enter Try.func28, Try.ntmps28
        go_wp2_with fail
        refine (pastMay_any _ l _ _ (Vers.alloc (Vers.alloc (Vers.alloc hB _) _) _)).mono ?_
        rintro e w2 ⟨rfl, hx2⟩
        rw [HM.out]
        have hbx := box_below (heap_keep (heap_keep (heap_last (o := pastBox (.slice a l.length cap) c) rfl) _) _) hx2
        have hbv := box_below (heap_keep (heap_last (o := verBox x1 x2) (sz1 _ _).symm) _) hx2
        have hbz : w2.heap[w.heap.size + 2]? = some (pastBox (.slice none 0 0) 0) := box_below (heap_last (by simp only [sz1])) hx2
        have hw2 : Below w.heap.size w w2 := (below_new (below_new (below_new (Below.refl _ _) _) _) _).trans (hx2.mono (by simp; omega))
        clear hx2
        obtain ⟨y0, y1⟩ := verBox_cells hbv
        go_wp2_with fail
        refine (may17_any _ _ _).mono ?_
        rintro e w3 ⟨rfl, hx3⟩
        rw [HV.out]
        have hw3 := below_step hw2 hx3
        have hbz3 := box_below hbz hx3
        obtain ⟨z0, z1⟩ := pastBox_cells hbz3
        have hfz := pastBox_free hbz3
        have hls := (Array.getElem?_eq_some_iff.1 hbz3).1
        clear hx3 hbx hbv hbz hbz3 y0 y1
        go_wp2_with fail
        refine bodyPost_ret (v := .tuple #[.agg #[.slice none 0 0, .int .i64 0], .int .i64 1]) (by simp [results, Try.results28, go_sem, z0, z1]) rfl ?_
        exact past_bad (sets2_below hw3 (by omega) _ _) _ rfl
      by_cases hm2 : 16 < most
      · obtain ⟨e1, e2, e3⟩ := com_bad (l := l) (c := c) (v := (x1, x2)) (most := most) (by omega)
        rw [e1, e2, e3]
        have HM := Lib.hid (decide_eq_true hM)
        have HV := Lib.hid (decide_eq_true hV)
        clear e1 e2 e3 hM hV hcells
        go_enter Try.func28, Try.ntmps28
        go_wp2_with fail
        refine (pastMay_any _ l _ _ (Vers.alloc (Vers.alloc (Vers.alloc hB _) _) _)).mono ?_
        rintro e w2 ⟨rfl, hx2⟩
        rw [HM.out]
        have hbx := box_below (heap_keep (heap_keep (heap_last (o := pastBox (.slice a l.length cap) c) rfl) _) _) hx2
        have hbv := box_below (heap_keep (heap_last (o := verBox x1 x2) (sz1 _ _).symm) _) hx2
        have hbz : w2.heap[w.heap.size + 2]? = some (pastBox (.slice none 0 0) 0) := box_below (heap_last (by simp only [sz1])) hx2
        have hw2 : Below w.heap.size w w2 := (below_new (below_new (below_new (Below.refl _ _) _) _) _).trans (hx2.mono (by simp; omega))
        clear hx2
        obtain ⟨y0, y1⟩ := verBox_cells hbv
        go_wp2_with fail
        refine (may17_any _ _ _).mono ?_
        rintro e w3 ⟨rfl, hx3⟩
        rw [HV.out]
        have hw3 := below_step hw2 hx3
        have hbz3 := box_below hbz hx3
        obtain ⟨z0, z1⟩ := pastBox_cells hbz3
        have hfz := pastBox_free hbz3
        have hls := (Array.getElem?_eq_some_iff.1 hbz3).1
        clear hx3 hbx hbv hbz hbz3 y0 y1
        go_wp2_with fail
        refine bodyPost_ret (v := .tuple #[.agg #[.slice none 0 0, .int .i64 0], .int .i64 1]) (by simp [results, Try.results28, go_sem, z0, z1]) rfl ?_
        exact past_bad (sets2_below hw3 (by omega) _ _) _ rfl
      obtain ⟨hc0, hc1, hlm⟩ := id hM
      have hl16 := hlm.2.1
      obtain ⟨k, rfl⟩ := Int.eq_ofNat_of_zero_le hc0
      obtain ⟨m, rfl⟩ := Int.eq_ofNat_of_zero_le (show 0 ≤ most by omega)
      have hk : k < l.length := by omega
      have e1 : comCode l k (x1, x2) m = 0 := by unfold comCode; rw [if_pos ⟨hM, hV, by omega, by omega⟩]
      have e2 : comList l k (x1, x2) m = lastOf m (l.take (k + 1) ++ [(x1, x2)]) := by simp [comList, e1]
      have e3 : comCur l k (x1, x2) m = ((lastOf m (l.take (k + 1) ++ [(x1, x2)])).length : Int) - 1 := by simp only [comCur, e1, if_true, e2]
      rw [e1, e2, e3]
      have HM := Lib.hid (decide_eq_true hM)
      have HV := Lib.hid (decide_eq_true hV)
      obtain ⟨b, o, rfl, hbl, -⟩ := hcells (by omega)
      have HTL := Lib.hid (show (l.take (k + 1)).length = k + 1 by simp; omega)
      obtain ⟨i0, hi, hz0, hz1, hz2⟩ := info_parts infoVer
      clear e1 e2 e3 hM hV hcells hlm hc0
      go_enter Try.func28, Try.ntmps28
      go_wp2_with fail
      refine (pastMay_any _ l _ _ (Vers.alloc (Vers.alloc (Vers.alloc hB _) _) _)).mono ?_
      rintro e w2 ⟨rfl, hx2⟩
      rw [HM.out]
      have hbx := box_below (heap_keep (heap_keep (heap_last (o := pastBox (.slice (some ⟨b, o, none⟩) l.length cap) (k : Int)) rfl) _) _) hx2
      have hbv := box_below (heap_keep (heap_last (o := verBox x1 x2) (sz1 _ _).symm) _) hx2
      have hbz : w2.heap[w.heap.size + 2]? = some (pastBox (.slice none 0 0) 0) := box_below (heap_last (by simp only [sz1])) hx2
      have hw2 : Below w.heap.size w w2 := (below_new (below_new (below_new (Below.refl _ _) _) _) _).trans (hx2.mono (by simp; omega))
      clear hx2
      obtain ⟨y0, y1⟩ := verBox_cells hbv
      go_wp2_with fail
      refine (may17_any _ _ _).mono ?_
      rintro e w3 ⟨rfl, hx3⟩
      rw [HV.out]
      have hw3 := below_step hw2 hx3
      have hbz3 := box_below hbz hx3
      obtain ⟨z0, z1⟩ := pastBox_cells hbz3
      have hfz := pastBox_free hbz3
      have hls := (Array.getElem?_eq_some_iff.1 hbz3).1
      have hbx3 := box_below hbx hx3
      have hbv3 := box_below hbv hx3
      clear hx3 hbx hbv hbz y0 y1
      go_wp2_with fail
      have HT := Lib.hid (has_take (Vers.below hB hw3) (k + 1) (by omega))
      clear z0 z1
      obtain ⟨y0, y1⟩ := pastBox_cells hbx3
      obtain ⟨z0, z1⟩ := verBox_cells hbv3
      have hwr : IntKind.i64.wrap ((k : Int) + 1) = ((k + 1 : Nat) : Int) := by rw [IntWalk.i64_in _ (by omega)]; omega
      have q1 : (k : Int) + 1 ≤ (cap : Int) := by omega
      have q2 : (0 : Int) ≤ (k : Int) + 1 := by omega
      refine region_each_tail 10 [some 26, some 27, some 28, some 29, some 30, some 31, some 32, some 33, some 34, some 35, some 36, some 8] [[], [], [1], [], [3], [4], [2, 5], [0, 6], [], [8]]
        [kEmpty, kIs (.pointer (some ⟨w.heap.size, 0, none⟩)), kIs (.slice (some ⟨b, o, none⟩) l.length cap), kIs (.pointer (some ⟨w.heap.size, 1, none⟩)), kIs (.int .i64 k), kIs (.int .i64 ((k + 1 : Nat) : Int)), kIs (.slice (some ⟨b, o, none⟩) (k + 1) cap), kOwn w3.heap.size 41 2 (k + 1) (vs (l.take (k + 1))), kIs (.agg #[.int .i64 x1, .int .i64 x2]), kHas 1 (vs [(x1, x2)])]
        (by kernel_rfl) (by kernel_rfl) (by kernel_rfl) (by kernel_rfl) (by kernel_rfl) ?_ ?_
      · simp only [List.take_succ_cons, List.take_zero, obligsD]
        refine ⟨?_, ?_, ?_, ?_, ?_, ?_, ?_, ?_, ?_, ?_, trivial⟩
        · intro us w1 hb _
          change Oper.wp _ _ _ _ _ _
          go_simp
          exact ⟨_, rfl, (Below.refl _ _).alloc (Nat.le_refl _) _, _, rfl⟩
        · intro us w1 _ _
          change Oper.wp _ _ _ _ _ _
          go_simp
          exact ⟨_, rfl, Below.refl _ _, rfl⟩
        · intro us w1 hb hd
          simp only [List.mem_cons, List.not_mem_nil, or_false, forall_eq, List.getD_cons_zero, List.getD_cons_succ, kIs] at hd
          simp only [putD, List.getD_cons_zero, List.getD_cons_succ, Act.put, hd]
          have d0 := (hb.cell (World.block_lt_of_cell? _ _ y0)).trans y0
          go_simp
          exact ⟨_, rfl, Below.refl _ _, rfl⟩
        · intro us w1 _ _
          change Oper.wp _ _ _ _ _ _
          go_simp
          exact ⟨_, rfl, Below.refl _ _, rfl⟩
        · intro us w1 hb hd
          simp only [List.mem_cons, List.not_mem_nil, or_false, forall_eq, List.getD_cons_zero, List.getD_cons_succ, kIs] at hd
          simp only [putD, List.getD_cons_zero, List.getD_cons_succ, Act.put, hd]
          have d0 := (hb.cell (World.block_lt_of_cell? _ _ y1)).trans y1
          go_simp
          exact ⟨_, rfl, Below.refl _ _, rfl⟩
        · intro us w1 hb hd
          simp only [List.mem_cons, List.not_mem_nil, or_false, forall_eq, List.getD_cons_zero, List.getD_cons_succ, kIs] at hd
          simp only [putD, List.getD_cons_zero, List.getD_cons_succ, Act.put, hd]
          go_simp
          exact ⟨_, rfl, Below.refl _ _, by first | rfl | (simp only [kIs]; done) | (simp only [kIs]; rw [hwr])⟩
        · intro us w1 hb hd
          simp only [List.mem_cons, List.not_mem_nil, or_false, forall_eq_or_imp, forall_eq, List.getD_cons_zero, List.getD_cons_succ, kIs] at hd
          simp only [putD, List.getD_cons_zero, List.getD_cons_succ, Act.put, hd]
          go_simp
          exact ⟨_, rfl, Below.refl _ _, rfl⟩
        · intro us w1 hb hd
          simp only [List.mem_cons, List.not_mem_nil, or_false, forall_eq_or_imp, forall_eq, List.getD_cons_zero, List.getD_cons_succ, kEmpty, kIs] at hd
          obtain ⟨⟨ge, he⟩, h6⟩ := hd
          simp only [putD, List.getD_cons_zero, List.getD_cons_succ, Act.put, he, h6]
          refine oper_append_full w1 (.tmp 26) (.tmp 32) 37 rfl 41 i0 (.agg #[.int .i64 0, .int .i64 0]) 2 16 Try.underlying37 hi hz0 hz1 hz2 rfl (by decide) ge 0 0 [] rfl rfl (fun j u hj => by simp at hj) (.slice (some ⟨b, o, none⟩) (k + 1) cap) (k + 1) (vs (l.take (k + 1))) rfl (HT.out.below hb) (by rw [vs_length, HTL.out]) (by omega) (by unfold maxLen; omega) (by omega) ?_
          intro v' w2' hown hgr
          refine ⟨_, rfl, below_none hgr, ?_⟩
          have h9 : w2'.ownsRow w1.heap.size 41 2 v' (k + 1) (vs (l.take (k + 1))) := by simpa using hown
          exact Joins.ownsRow_le h9 hb.size
        · intro us w1 hb _
          simp only [putD, Act.put]
          have d0 := (hb.cell (World.block_lt_of_cell? _ _ z0)).trans z0
          have d1 := (hb.cell (World.block_lt_of_cell? _ _ z1)).trans z1
          go_simp
          exact ⟨_, rfl, Below.refl _ _, rfl⟩
        · intro us w1 hb hd
          simp only [List.mem_cons, List.not_mem_nil, or_false, forall_eq, List.getD_cons_zero, List.getD_cons_succ, kIs] at hd
          simp only [putD, List.getD_cons_zero, List.getD_cons_succ, Act.put, hd]
          go_simp
          exact ⟨_, rfl, (Below.refl _ _).alloc (Nat.le_refl _) _, Has.block (heap_last rfl) (Nat.le_refl _) (by decide) (fun i x hi => by rw [Nat.zero_add, ← hi]; simp [vs])⟩
      intro us w4 hb hp
      have h7 := hp 7 (by simp)
      have h9 := hp 9 (by simp)
      simp only [List.getD_cons_zero, List.getD_cons_succ, kOwn, kHas] at h7 h9
      rw [show List.range 10 = [0, 1, 2, 3, 4, 5, 6, 7, 8, 9] from rfl]
      simp only [List.drop_succ_cons, List.drop_zero, putD, List.getD_cons_zero, List.getD_cons_succ, Act.put, List.setIfInBounds_toArray, List.set_cons_zero, List.set_cons_succ]
      have hw4 : Below w.heap.size w w4 := below_step hw3 hb
      have hbz4 := box_below hbz3 hb
      have hs4 := hb.size
      have hs3 := hw3.size
      have hl3 : w.heap.size + 2 < w3.heap.size := hls
      have H7 := Lib.hid h7
      have H9 := Lib.hid h9
      clear hp h7 h9 hb y0 y1 z0 z1 hbz3 hw3 hbx3 hbv3 hwr HT hls
      go_wp2_with (at_builtin; go_loud (refine wpList_append_has _ rfl (.tmp 33) (.tmp 35) 37 rfl w3.heap.size 41 i0 (.agg #[.int .i64 0, .int .i64 0]) 2 16 Try.underlying37 hi hz0 hz1 hz2 rfl (by decide) _ _ _ rfl H7.out _ _ _ rfl H9.out rfl (vs_one _) ?c3 ?c4 ?c5 ?_))
      case c3 => unfold maxLen; omega
      case c4 => omega
      case c5 => omega
      intro v5 w5 hown5 hgr5 _
      have hw5 := hw4.grown hgr5 hw4.size (fun j hj => by have := (H7.out.lt j hj).1; omega)
      have hbz5 := box_grown hbz4 hgr5 (own_block_ge H7.out hl3)
      have hres : w5.ownsRow w3.heap.size 41 2 v5 (l.take (k + 1) ++ [(x1, x2)]).length (vs (l.take (k + 1) ++ [(x1, x2)])) := by
        rw [vs_append, List.length_append, HTL.out]
        exact hown5
      obtain ⟨L, hL⟩ : ∃ L, L = l.take (k + 1) ++ [(x1, x2)] := ⟨_, rfl⟩
      have hLl : L.length = k + 2 := by rw [hL, List.length_append, HTL.out]; rfl
      rw [← hL] at hres ⊢
      have HLE := Lib.hid hL
      clear hL hown5 hgr5
      obtain ⟨g5, c5, hf⟩ := Joins.ownsRow_form hres (by omega)
      subst hf
      obtain ⟨hcl, hcm⟩ := own_cap2 hres
      unfold maxLen at hcm
      have hg5 : w3.heap.size ≤ g5 := (hres.lt g5 rfl).1
      have n1 : 2 ≤ L.length := by omega
      have n2 : L.length ≤ 17 := by omega
      have HR := Lib.hid hres
      obtain ⟨z0, z1⟩ := pastBox_cells hbz5
      have hfz := pastBox_free hbz5
      have hls := (Array.getElem?_eq_some_iff.1 hbz5).1
      clear hres hLl hbz5 hbz4 hw4
      by_cases hnm : L.length ≤ m
      · have HLL := Lib.hid (show lastOf m L = L by unfold lastOf; rw [show L.length - m = 0 by omega, List.drop_zero])
        go_wp2_with fail
        refine bodyPost_ret (v := .tuple #[.agg #[.slice (some ⟨g5, 0, none⟩) L.length c5, .int .i64 ((L.length : Int) - 1)], .int .i64 0]) (by simp [results, Try.results28, go_sem, z0, z1]) rfl ?_
        rw [← HLE.out, HLL.out]
        exact ⟨_, rfl, ((NewVers.own HR.out).sets2 (w.heap.size + 2) hl3 _ _).mono (by omega), sets2_below hw5 (by omega) _ _⟩
      · obtain ⟨j, hj⟩ : ∃ j, L.length = m + j := ⟨L.length - m, by omega⟩
        have HLL := Lib.hid (show lastOf m L = L.drop j by unfold lastOf; rw [show L.length - m = j by omega])
        have HLJ := Lib.hid (show (L.drop j).length = m by rw [List.length_drop]; omega)
        have HTT := Lib.hid (NewVers.tail HR.out j (by omega))
        go_wp2_with fail
        refine bodyPost_ret (v := .tuple #[.agg #[.slice (some ⟨g5, j * 2, none⟩) m (c5 - j), .int .i64 ((m : Int) - 1)], .int .i64 0]) (by simp [results, Try.results28, go_sem, z0, z1]) rfl ?_
        rw [← HLE.out, HLL.out, HLJ.out]
        have h9 := HTT.out
        rw [HLJ.out] at h9
        exact ⟨_, rfl, (h9.sets2 (w.heap.size + 2) hl3 _ _).mono (by omega), sets2_below hw5 (by omega) _ _⟩
    · obtain ⟨e1, e2, e3⟩ := com_bad (l := l) (c := c) (v := (x1, x2)) (most := most) (fun h => hV h.2.1)
      rw [e1, e2, e3]
      have HM := Lib.hid (decide_eq_true hM)
      have HV := Lib.hid (decide_eq_false hV)
      clear e1 e2 e3 hM hV hcells
      go_enter Try.func28, Try.ntmps28
      go_wp2_with fail
      refine (pastMay_any _ l _ _ (Vers.alloc (Vers.alloc (Vers.alloc hB _) _) _)).mono ?_
      rintro e w2 ⟨rfl, hx2⟩
      rw [HM.out]
      have hbx := box_below (heap_keep (heap_keep (heap_last (o := pastBox (.slice a l.length cap) c) rfl) _) _) hx2
      have hbv := box_below (heap_keep (heap_last (o := verBox x1 x2) (sz1 _ _).symm) _) hx2
      have hbz : w2.heap[w.heap.size + 2]? = some (pastBox (.slice none 0 0) 0) := box_below (heap_last (by simp only [sz1])) hx2
      have hw2 : Below w.heap.size w w2 := (below_new (below_new (below_new (Below.refl _ _) _) _) _).trans (hx2.mono (by simp; omega))
      clear hx2
      obtain ⟨y0, y1⟩ := verBox_cells hbv
      go_wp2_with fail
      refine (may17_any _ _ _).mono ?_
      rintro e w3 ⟨rfl, hx3⟩
      rw [HV.out]
      have hw3 := below_step hw2 hx3
      have hbz3 := box_below hbz hx3
      obtain ⟨z0, z1⟩ := pastBox_cells hbz3
      have hfz := pastBox_free hbz3
      have hls := (Array.getElem?_eq_some_iff.1 hbz3).1
      clear hx3 hbx hbv hbz hbz3 y0 y1
      go_wp2_with fail
      refine bodyPost_ret (v := .tuple #[.agg #[.slice none 0 0, .int .i64 0], .int .i64 1]) (by simp [results, Try.results28, go_sem, z0, z1]) rfl ?_
      exact past_bad (sets2_below hw3 (by omega) _ _) _ rfl
  · obtain ⟨e1, e2, e3⟩ := com_bad (l := l) (c := c) (v := (x1, x2)) (most := most) (fun h => hM h.1)
    rw [e1, e2, e3]
    have HM := Lib.hid (decide_eq_false hM)
    clear e1 e2 e3 hM hcells
    go_enter Try.func28, Try.ntmps28
    go_wp2_with fail
    refine (pastMay_any _ l _ _ (Vers.alloc (Vers.alloc (Vers.alloc hB _) _) _)).mono ?_
    rintro e w2 ⟨rfl, hx2⟩
    rw [HM.out]
    have hbx := box_below (heap_keep (heap_keep (heap_last (o := pastBox (.slice a l.length cap) c) rfl) _) _) hx2
    have hbv := box_below (heap_keep (heap_last (o := verBox x1 x2) (sz1 _ _).symm) _) hx2
    have hbz : w2.heap[w.heap.size + 2]? = some (pastBox (.slice none 0 0) 0) := box_below (heap_last (by simp only [sz1])) hx2
    have hw2 : Below w.heap.size w w2 := (below_new (below_new (below_new (Below.refl _ _) _) _) _).trans (hx2.mono (by simp; omega))
    clear hx2
    obtain ⟨z0, z1⟩ := pastBox_cells hbz
    have hfz := pastBox_free hbz
    have hls := (Array.getElem?_eq_some_iff.1 hbz).1
    clear hbx hbv hbz
    go_wp2_with fail
    refine bodyPost_ret (v := .tuple #[.agg #[.slice none 0 0, .int .i64 0], .int .i64 1]) (by simp [results, Try.results28, go_sem, z0, z1]) rfl ?_
    exact past_bad (sets2_below hw2 (by omega) _ _) _ rfl
end Go.Proofs.Ytdofdegicdkhlaa
