/- The walks of octavoref17.Same, octavolaw17.same, octavoref17.Lent and Kept. -/
import Derived.Test.YtdofdegicdkhlaaPastG
import Derived.Test.YtdofdegicdkhlaaSame
import Derived.Test.YtdofdegicdkhlaaRely
import Derived.Deep.AppendLies
namespace Go.Proofs.Ytdofdegicdkhlaa
open Go.RowKit Go.Oct

set_option maxHeartbeats 1000000 in
theorem same17_any (v1 v2 : Value) (l m : List Ver) (w : World) (h1 : Vers w v1 l) (h2 : Vers w v2 m) :
    Calls Try.prog 40 #[v1, v2] w (Asked (decide (l = m)) w) := by
  obtain ⟨a, c, rfl, hc, hmx, hcs⟩ := Vers.open h1
  obtain ⟨a2, c2, rfl, hc2, hmx2, hcs2⟩ := Vers.open h2
  unfold maxLen at hmx hmx2
  by_cases hlen : l.length = m.length
  · by_cases h0 : l.length = 0
    · have hl : l = [] := List.eq_nil_of_length_eq_zero h0
      have hm : m = [] := List.eq_nil_of_length_eq_zero (by omega)
      subst hl; subst hm
      clear hcs hcs2 h1 h2 h0 hlen
      simp only [List.length_nil]
      go_enter Try.func40, Try.ntmps40
      go_wp2
      refine wp_loop_rounds 1 ?_
      rw [rounds_succ]
      go_wp2
      go_ret
      exact ⟨rfl, Below.refl _ _⟩
    · obtain ⟨b, o, rfl, hbl, hk⟩ := hcs (by omega)
      obtain ⟨b2, o2, rfl, hbl2, hk2⟩ := hcs2 (by omega)
      have HK := Lib.hid hk
      have HK2 := Lib.hid hk2
      have HL := Lib.hid hlen
      rw [← hlen] at hc2 ⊢
      clear hcs hcs2 h1 h2 hk hk2 hlen h0
      go_enter Try.func40, Try.ntmps40
      go_wp2
      go_loopw [5] (fun i wr => ∃ j : Nat, j ≤ l.length ∧ i = .int .i64 j ∧ l.take j = m.take j ∧ Below w.heap.size w wr) (fun i _ => l.length - (intOf i).toNat)
      case atStart => exact ⟨0, Nat.zero_le _, rfl, rfl, Below.refl _ _⟩
      case round =>
        obtain ⟨j, hj, rfl, he, hnx⟩ := hrel
        have HE := Lib.hid he
        clear he
        by_cases hlt : j < l.length
        · have hjm : j < m.length := by have := HL.out; omega
          have p1 := (hnx.cell (p := ⟨b, o + j * 2, none⟩) hbl).trans (HK.out j hlt).1
          have p2 := (hnx.cell (p := ⟨b, o + j * 2 + 1, none⟩) hbl).trans (HK.out j hlt).2
          have r1 := (hnx.cell (p := ⟨b2, o2 + j * 2, none⟩) hbl2).trans (HK2.out j hjm).1
          have r2 := (hnx.cell (p := ⟨b2, o2 + j * 2 + 1, none⟩) hbl2).trans (HK2.out j hjm).2
          have q0 : (0 : Int) ≤ (j : Int) := by omega
          have q1 : (j : Int) < (l.length : Int) := by omega
          have HT := Lib.hid (show l.take (j + 1) = l.take j ++ [l[j]] from List.take_succ_eq_append_getElem hlt)
          have HT2 := Lib.hid (show m.take (j + 1) = m.take j ++ [m[j]] from List.take_succ_eq_append_getElem hjm)
          have HNE := Lib.hid (fun (h : ¬ l[j] = m[j]) => show l ≠ m from fun e => h (by subst e; rfl))
          obtain ⟨x, hx⟩ : ∃ x, x = l[j] := ⟨_, rfl⟩
          obtain ⟨y, hy⟩ : ∃ y, y = m[j] := ⟨_, rfl⟩
          rw [← hx] at p1 p2 HT HNE
          rw [← hy] at r1 r2 HT2 HNE
          clear hx hy
          obtain ⟨x1, x2⟩ := x
          obtain ⟨y1, y2⟩ := y
          simp only at p1 p2 r1 r2
          by_cases e1 : x1 = y1
          · by_cases e2 : x2 = y2
            · subst e1
              subst e2
              go_wp2
              go_quiet (fail)
              go_wp2
              go_roundw
              case rel => exact ⟨j + 1, by omega, by go_num, by rw [HT.out, HT2.out, HE.out], hnx.trans (below_drawn _ _ _)⟩
              case measure => simp [intOf]; omega
            · subst e1
              have HF := Lib.hid (HNE.out (by simp [e2]))
              have t2 : (x2 == y2) = false := by simpa using e2
              go_wp2
              go_quiet (fail)
              go_wp2
              go_ret
              exact ⟨by rw [decide_eq_false HF.out]; rfl, hnx.trans (below_drawn _ _ _)⟩
          · have HF := Lib.hid (HNE.out (by simp [e1]))
            have t1 : (x1 == y1) = false := by simpa using e1
            go_wp2
            go_quiet (fail)
            go_wp2
            go_ret
            exact ⟨by rw [decide_eq_false HF.out]; rfl, hnx.trans (below_drawn _ _ _)⟩
        · have HJ := Lib.hid (show j = l.length by omega)
          go_wp2
          go_ret
          have h3 := HE.out
          rw [HJ.out] at h3
          have hlm : l = m := by
            rw [List.take_length] at h3
            rw [h3, HL.out, List.take_length]
          exact ⟨by rw [decide_eq_true hlm]; rfl, hnx⟩
  · have HL := Lib.hid (show l ≠ m from fun e => hlen (by rw [e]))
    have ht : ((l.length : Int) != (m.length : Int)) = true := by rw [bne_iff_ne]; omega
    clear hcs hcs2 h1 h2 hlen
    go_enter Try.func40, Try.ntmps40
    go_wp2
    go_ret
    exact ⟨by rw [decide_eq_false HL.out]; rfl, Below.refl _ _⟩
theorem same17_yes (v1 v2 : Value) (l : List Ver) (w : World) (h1 : Vers w v1 l) (h2 : Vers w v2 l) : Calls Try.prog 40 #[v1, v2] w (Asked true w) := by
  have h := same17_any v1 v2 l l w h1 h2
  rw [show decide (l = l) = true by simp] at h
  exact h
set_option maxHeartbeats 1000000 in
theorem sameP_yes (v1 v2 : Value) (l : List Ver) (c : Int) (w : World) (h1 : Vers w v1 l) (h2 : Vers w v2 l) :
    Calls Try.prog 30 #[.agg #[v1, .int .i64 c], .agg #[v2, .int .i64 c]] w (Asked true w) := by
  have H1 := Lib.hid h1
  have H2 := Lib.hid h2
  obtain ⟨a, ca, rfl, -⟩ := Vers.open h1
  obtain ⟨b, cb, rfl, -⟩ := Vers.open h2
  clear h1 h2
  go_enter Try.func30, Try.ntmps30
  go_wp2_with fail
  refine (same17_yes _ _ l _ (Vers.alloc (Vers.alloc H1.out _) _) (Vers.alloc (Vers.alloc H2.out _) _)).mono ?_
  rintro e w2 ⟨rfl, hx2⟩
  go_wp2_with fail
  go_ret
  exact ⟨rfl, (below_new (below_new (Below.refl _ _) _) _).trans (hx2.mono (by simp; omega))⟩
/-- v is a slice of these versions that lies from base on, with the mark in its room -/
def LendV (base : Nat) (w : World) (v : Value) (l : List Ver) : Prop :=
  ∃ g cp, v = .slice (some ⟨g, 0, none⟩) l.length cp ∧ w.ownsRow base 41 2 (.slice (some ⟨g, 0, none⟩) (l.length + 1) cp) (l.length + 1) (vs (l ++ [(-7, -7)]))
theorem grown_setCell (w : World) (p : Addr) (v : Value) : w.grownBy (w.setCell p v) (some p.block) :=
  ⟨rfl, rfl, rfl, by simp [World.setCell], fun i _ hi => Below.heap_setCell _ _ _ _ (by intro e; exact hi (by rw [e]))⟩
theorem LendV.below {base : Nat} {w w' : World} {v : Value} {l : List Ver} (h : LendV base w v l) (k : Below w.heap.size w w') : LendV base w' v l := by
  obtain ⟨g, cp, hv, ho⟩ := h
  exact ⟨g, cp, hv, own_keep ho k⟩
theorem LendV.vers {base : Nat} {w : World} {v : Value} {l : List Ver} (h : LendV base w v l) : Vers w v l := by
  obtain ⟨g, cp, rfl, ho⟩ := h
  have h1 : Vers w (.slice (some ⟨g, 0, none⟩) (l.length + 1) cp) (l ++ [(-7, -7)]) := by
    have := Has.own ho
    unfold Vers
    rwa [List.length_append]
  have h2 := has_take h1 l.length (by omega)
  rw [List.take_left] at h2
  exact h2
set_option maxHeartbeats 1000000 in
theorem lent17_any (v : Value) (l : List Ver) (c : Int) (w : World) (hB : Vers w v l) (hl : l.length ≤ 8796093022144) :
    Calls Try.prog 23 #[.agg #[v, .int .i64 c]] w fun e w' => ∃ v', e = .returned (.agg #[v', .int .i64 c]) ∧ LendV w.heap.size w' v' l ∧ Below w.heap.size w w' := by
  have HB := Lib.hid hB
  obtain ⟨a, cap, rfl, hcap, hmax, -⟩ := Vers.open hB
  unfold maxLen at hmax
  obtain ⟨i0, hi, hz0, hz1, hz2⟩ := info_parts infoVer
  have HA := Lib.hid (vs_append l [(-7, -7)])
  clear hB
  go_enter Try.func23, Try.ntmps23
  go_wp2_with (at_builtin; go_loud (refine wpList_append_has _ rfl (.tmp 4) (.tmp 6) 37 rfl (w.heap.size + 2) 41 i0 (.agg #[.int .i64 0, .int .i64 0]) 2 16 Try.underlying37 hi hz0 hz1 hz2 rfl (by decide) _ _ _ rfl (World.ownsRow_nil _ _ _ _) _ _ _ rfl (Vers.alloc (Vers.alloc HB.out _) _) (vs_length l) (vs_one l) ?c3 ?c4 ?c5 ?_))
  case c3 => unfold maxLen; omega
  case c4 => omega
  case c5 => simp
  intro v1 w1 hown hgr _
  have hbn := below_none (show World.grownBy _ w1 none from hgr)
  have hw1 : Below w.heap.size w w1 := (below_new (below_new (Below.refl _ _) _) _).trans (hbn.mono (by simp; omega))
  have hbx1 := box_below (heap_keep (heap_last (o := pastBox (.slice a l.length cap) c) rfl) _) hbn
  have hbz1 := box_below (heap_last (o := pastBox (.slice none 0 0) 0) (sz1 _ _).symm) hbn
  have HO1 := Lib.hid hown
  have hs1 := hbn.size
  simp only [sz1] at hs1
  clear hgr hbn hown
  go_wp2_with (at_builtin; go_loud (refine wpList_append_has _ rfl (.tmp 8) (.tmp 10) 37 rfl (w.heap.size + 2) 41 i0 (.agg #[.int .i64 0, .int .i64 0]) 2 16 Try.underlying37 hi hz0 hz1 hz2 rfl (by decide) _ _ _ rfl (HO1.out.alloc _) _ _ _ rfl has_one rfl (vs_one _) ?c3 ?c4 ?c5 ?_))
  case c3 => unfold maxLen; omega
  case c4 => omega
  case c5 => first | omega | (simp; omega)
  intro v2 w2 hown2 hgr2 _
  rw [← HA.out] at hown2
  have hw2 : Below w.heap.size w w2 := (below_new hw1 _).grown hgr2 (by simp; omega) (fun q hq => by have := (HO1.out.lt q hq).1; omega)
  have hbx2 := box_grown (heap_keep hbx1 _) hgr2 (own_block_ge HO1.out (by omega))
  have hbz2 := box_grown (heap_keep hbz1 _) hgr2 (own_block_ge HO1.out (by omega))
  obtain ⟨g, cp, hf⟩ := Joins.ownsRow_form hown2 (by omega)
  subst hf
  have hcp := (own_cap2 hown2).1
  have q1 : (l.length : Int) ≤ (cp : Int) := by omega
  have q2 : ((l.length + 1 : Nat) : Int) ≤ (cp : Int) := by omega
  have HO2 := Lib.hid hown2
  obtain ⟨y0, y1⟩ := pastBox_cells hbx2
  have hg2 : w.heap.size + 2 ≤ g := (hown2.lt g rfl).1
  clear hgr2 hown2 hbx1 hbz1 hw1 hbx2
  go_wp2_with fail
  refine region_each_tail 8 [some 12, some 13, some 14, some 15, some 16, some 17, some 18, some 19, none] [[], [], [1], [2], [0, 3], [], [5], [4, 6]]
    [kIs (.slice (some ⟨g, 0, none⟩) (l.length + 1) cp), kIs (.pointer (some ⟨w.heap.size, 0, none⟩)), kIs (.slice a l.length cap), kIs (.int .i64 l.length), kIs (.slice (some ⟨g, 0, none⟩) l.length cp), kIs (.pointer (some ⟨w.heap.size, 1, none⟩)), kIs (.int .i64 c), kIs (.agg #[.slice (some ⟨g, 0, none⟩) l.length cp, .int .i64 c])]
    (by kernel_rfl) (by kernel_rfl) (by kernel_rfl) (by kernel_rfl) (by kernel_rfl) ?_ ?_
  · simp only [List.take_succ_cons, List.take_zero, obligsD]
    refine ⟨?_, ?_, ?_, ?_, ?_, ?_, ?_, ?_, trivial⟩
    · intro us w1 _ _
      change Oper.wp _ _ _ _ _ _
      go_simp
      exact ⟨_, rfl, Below.refl _ _, rfl⟩
    · intro us w1 _ _
      change Oper.wp _ _ _ _ _ _
      go_simp
      exact ⟨_, rfl, Below.refl _ _, rfl⟩
    · intro us w1 hb hd
      simp only [List.mem_cons, List.not_mem_nil, or_false, forall_eq, List.getD_cons_zero, List.getD_cons_succ, kIs] at hd
      simp only [putD, List.getD_cons_zero, List.getD_cons_succ, Act.put, hd]
      have d0 := (hb.cell (World.block_lt_of_cell? _ _ y0)).trans y0
      go_simp
      exact ⟨_, rfl, Below.refl _ _, rfl⟩
    · intro us w1 _ hd
      simp only [List.mem_cons, List.not_mem_nil, or_false, forall_eq, List.getD_cons_zero, List.getD_cons_succ, kIs] at hd
      simp only [putD, List.getD_cons_zero, List.getD_cons_succ, Act.put, hd]
      go_simp
      exact ⟨_, rfl, Below.refl _ _, rfl⟩
    · intro us w1 _ hd
      simp only [List.mem_cons, List.not_mem_nil, or_false, forall_eq_or_imp, forall_eq, List.getD_cons_zero, List.getD_cons_succ, kIs] at hd
      simp only [putD, List.getD_cons_zero, List.getD_cons_succ, Act.put, hd]
      go_simp
      exact ⟨_, rfl, Below.refl _ _, rfl⟩
    · intro us w1 _ _
      change Oper.wp _ _ _ _ _ _
      go_simp
      exact ⟨_, rfl, Below.refl _ _, rfl⟩
    · intro us w1 hb hd
      simp only [List.mem_cons, List.not_mem_nil, or_false, forall_eq, List.getD_cons_zero, List.getD_cons_succ, kIs] at hd
      simp only [putD, List.getD_cons_zero, List.getD_cons_succ, Act.put, hd]
      have d0 := (hb.cell (World.block_lt_of_cell? _ _ y1)).trans y1
      go_simp
      exact ⟨_, rfl, Below.refl _ _, rfl⟩
    · intro us w1 _ hd
      simp only [List.mem_cons, List.not_mem_nil, or_false, forall_eq_or_imp, forall_eq, List.getD_cons_zero, List.getD_cons_succ, kIs] at hd
      simp only [putD, List.getD_cons_zero, List.getD_cons_succ, Act.put, hd]
      go_simp
      exact ⟨_, rfl, Below.refl _ _, rfl⟩
  intro us w4 hb hp
  have h7 := hp 7 (by simp)
  simp only [List.getD_cons_zero, List.getD_cons_succ, kIs] at h7
  rw [show List.range 8 = [0, 1, 2, 3, 4, 5, 6, 7] from rfl]
  simp only [List.drop_succ_cons, List.drop_zero, putD, List.getD_cons_zero, List.getD_cons_succ, Act.put, List.setIfInBounds_toArray, List.set_cons_zero, List.set_cons_succ, h7]
  have hbz4 := box_below hbz2 hb
  obtain ⟨z0, z1⟩ := pastBox_cells hbz4
  have hfz := pastBox_free hbz4
  have hls := (Array.getElem?_eq_some_iff.1 hbz4).1
  have hw4 := below_step hw2 hb
  have HO4 := Lib.hid (own_keep HO2.out hb)
  clear hp h7 hb y0 y1 hbz2 hbz4 hw2
  go_wp2_with fail
  refine bodyPost_ret (v := .agg #[.slice (some ⟨g, 0, none⟩) l.length cp, .int .i64 c]) (by simp [results, Try.results23, go_sem, z0, z1]) rfl ?_
  refine ⟨_, rfl, ⟨g, cp, rfl, ?_⟩, sets2_below hw4 (by omega) _ _⟩
  have h9 := HO4.out
  have k1 := grown_setCell w4 ⟨w.heap.size + 1, 0, none⟩ (.slice (some ⟨g, 0, none⟩) l.length cp)
  have k2 := grown_setCell (w4.setCell ⟨w.heap.size + 1, 0, none⟩ (.slice (some ⟨g, 0, none⟩) l.length cp)) ⟨w.heap.size + 1, 1, none⟩ (.int .i64 c)
  exact Joins.ownsRow_le ((h9.kept k1 (.inr (by intro e; simp only [Value.ownBlock, Option.some.injEq] at e; omega))).kept k2 (.inr (by intro e; simp only [Value.ownBlock, Option.some.injEq] at e; omega))) (by omega)
set_option maxHeartbeats 2000000 in
theorem kept17_any (base : Nat) (v vb : Value) (l : List Ver) (c : Int) (w : World) (hv : LendV base w v l) (hb : Vers w vb l) (hl : l.length ≤ 8796093022144) :
    Calls Try.prog 34 #[.agg #[v, .int .i64 c], .agg #[vb, .int .i64 c]] w (Asked true w) := by
  have hC := hv.vers
  have HP0 := Lib.hid hb
  obtain ⟨a, cap, rfl, hcap, hmax, -⟩ := Vers.open hb
  obtain ⟨g, cp, rfl, hown⟩ := hv
  have hcp := (own_cap2 hown).1
  have hcm := (own_cap2 hown).2
  unfold maxLen at hcm
  have x00 : w.cell? ⟨g, l.length * 2, none⟩ = some (.int .i64 (-7)) := by
    rw [hown.cellAt _ (by omega), vs_append, List.getElem?_append_right (by rw [vs_length]; omega), vs_length, Nat.sub_self]
    rfl
  have hgl := (hown.lt g rfl).2
  have HC0 := Lib.hid hC
  clear hb hC hown
  go_enter Try.func34, Try.ntmps34
  go_wp2_with fail
  have hx1 : Below w.heap.size w ((w.alloc (pastBox (.slice (some ⟨g, 0, none⟩) l.length cp) c)).alloc (pastBox (.slice a l.length cap) c)) := below_new (below_new (Below.refl _ _) _) _
  have hbx := heap_keep (heap_last (w := w) (o := pastBox (.slice (some ⟨g, 0, none⟩) l.length cp) c) rfl) (pastBox (.slice a l.length cap) c)
  have hbz := heap_last (o := pastBox (.slice a l.length cap) c) (sz1 w (pastBox (.slice (some ⟨g, 0, none⟩) l.length cp) c)).symm
  have x01 := (hx1.cell (p := ⟨g, l.length * 2, none⟩) hgl).trans x00
  have HC := Lib.hid (Vers.below HC0.out hx1)
  have HP := Lib.hid (Vers.below HP0.out hx1)
  unfold pastBox at hx1 hbx hbz x01 HC HP
  generalize ((w.alloc (.cells #[.slice (some ⟨g, 0, none⟩) l.length cp, .int .i64 c] 39)).alloc (.cells #[.slice a l.length cap, .int .i64 c] 39)) = w3 at hx1 hbx hbz x01 HC HP ⊢
  obtain ⟨y0, y1⟩ := pastBox_cells (show w3.heap[w.heap.size]? = some (pastBox _ _) from hbx)
  obtain ⟨z0, z1⟩ := pastBox_cells (show w3.heap[w.heap.size + 1]? = some (pastBox _ _) from hbz)
  have x0 := x01
  have hwr : IntKind.i64.wrap ((l.length : Int) + 1) = ((l.length + 1 : Nat) : Int) := by rw [IntWalk.i64_in _ (by omega)]; omega
  have q1 : (l.length : Int) + 1 ≤ (cp : Int) := by omega
  have q2 : (0 : Int) ≤ (l.length : Int) + 1 := by omega
  have q3 : (l.length : Int) < (cp : Int) := by omega
  have q4 : (l.length : Int) < (l.length : Int) + 1 := by omega
  have q5 : (0 : Int) ≤ (l.length : Int) := by omega
  clear x00 x01
  refine region_each 38 [some 5, some 6, some 7, some 8, some 9, some 10, some 11, some 12, some 13, some 14, some 15, some 16, some 17, some 18, some 19, some 20, some 21, some 22, some 23, some 24, some 25, some 26, some 27, some 28, some 29, some 30, some 31, some 32, some 33, some 34, some 35, some 36, some 37, some 38, some 39, some 40, some 41, some 4] [[], [0], [], [2], [1, 3], [4], [5], [6, 5], [5], [8, 5], [7, 9, 5], [5, 10], [11], [12], [13, 12], [14, 12], [12], [16, 12], [17, 12], [15, 18, 12], [12, 19], [20], [21], [22, 21], [21], [24, 21], [25, 21], [26, 21], [23, 27, 21], [21], [29, 21], [30, 21], [28, 31, 21], [32, 21], [33, 21], [34, 21], [21, 35], [36]]
    [kIs (.pointer (some ⟨w.heap.size, 0, none⟩)), kIs (.slice (some ⟨g, 0, none⟩) l.length cp), kIs (.pointer (some ⟨w.heap.size + 1, 0, none⟩)), kIs (.slice a l.length cap), kIs (.bool true), kIs (.bool true), kIs (.pointer (some ⟨w.heap.size, 1, none⟩)), kIs (.int .i64 c), kIs (.pointer (some ⟨w.heap.size + 1, 1, none⟩)), kIs (.int .i64 c), kIs (.bool true), kIs (.bool true), kIs (.bool true), kIs (.pointer (some ⟨w.heap.size, 0, none⟩)), kIs (.slice (some ⟨g, 0, none⟩) l.length cp), kIs (.int .i64 cp), kIs (.pointer (some ⟨w.heap.size + 1, 0, none⟩)), kIs (.slice a l.length cap), kIs (.int .i64 l.length), kIs (.bool true), kIs (.bool true), kIs (.bool true), kIs (.pointer (some ⟨w.heap.size, 0, none⟩)), kIs (.slice (some ⟨g, 0, none⟩) l.length cp), kIs (.pointer (some ⟨w.heap.size + 1, 0, none⟩)), kIs (.slice a l.length cap), kIs (.int .i64 l.length), kIs (.int .i64 ((l.length + 1 : Nat) : Int)), kIs (.slice (some ⟨g, 0, none⟩) (l.length + 1) cp), kIs (.pointer (some ⟨w.heap.size + 1, 0, none⟩)), kIs (.slice a l.length cap), kIs (.int .i64 l.length), kIs (.pointer (some ⟨g, l.length * 2, none⟩)), kIs (.pointer (some ⟨g, l.length * 2, none⟩)), kIs (.int .i64 (-7)), kIs (.bool true), kIs (.bool true), kIs (.bool true)]
    (by kernel_rfl) (by kernel_rfl) (by kernel_rfl) (by kernel_rfl) ?_ ?_
  · simp only [obligsD]
    refine ⟨?_, ?_, ?_, ?_, ?_, ?_, ?_, ?_, ?_, ?_, ?_, ?_, ?_, ?_, ?_, ?_, ?_, ?_, ?_, ?_, ?_, ?_, ?_, ?_, ?_, ?_, ?_, ?_, ?_, ?_, ?_, ?_, ?_, ?_, ?_, ?_, ?_, ?_, trivial⟩
    · intro us w1 _ _
      change Oper.wp _ _ _ _ _ _
      go_simp
      exact ⟨_, rfl, Below.refl _ _, rfl⟩
    · intro us w1 hb hd
      simp only [List.mem_cons, List.not_mem_nil, or_false, forall_eq, List.getD_cons_zero, kIs] at hd
      simp only [putD, List.getD_cons_zero, List.getD_cons_succ, Act.put, hd]
      have d0 := (hb.cell (World.block_lt_of_cell? _ _ y0)).trans y0
      go_simp
      exact ⟨_, rfl, Below.refl _ _, rfl⟩
    · intro us w1 _ _
      change Oper.wp _ _ _ _ _ _
      go_simp
      exact ⟨_, rfl, Below.refl _ _, rfl⟩
    · intro us w1 hb hd
      simp only [List.mem_cons, List.not_mem_nil, or_false, forall_eq, List.getD_cons_zero, List.getD_cons_succ, kIs] at hd
      simp only [putD, List.getD_cons_zero, List.getD_cons_succ, Act.put, hd]
      have d0 := (hb.cell (World.block_lt_of_cell? _ _ z0)).trans z0
      go_simp
      exact ⟨_, rfl, Below.refl _ _, rfl⟩
    · intro us w1 hb hd
      simp only [List.mem_cons, List.not_mem_nil, or_false, forall_eq_or_imp, forall_eq, List.getD_cons_zero, List.getD_cons_succ, kIs] at hd
      simp only [putD, List.getD_cons_zero, List.getD_cons_succ, Act.put, hd]
      go_simp
      refine (same17_yes _ _ l _ (HC.out.below hb) (HP.out.below hb)).mono ?_
      rintro e w2 ⟨rfl, hb2⟩
      exact ⟨_, rfl, hb2, rfl⟩
    · intro us w1 _ hd
      simp only [List.mem_cons, List.not_mem_nil, or_false, forall_eq, List.getD_cons_zero, List.getD_cons_succ, kIs] at hd
      simp only [putD, List.getD_cons_zero, List.getD_cons_succ, Act.put, hd]
      go_simp
      exact ⟨_, rfl, Below.refl _ _, rfl⟩
    · intro us w1 _ hd
      simp only [List.mem_cons, List.not_mem_nil, or_false, forall_eq, List.getD_cons_zero, List.getD_cons_succ, kIs] at hd
      refine ⟨fun _ => ?_, fun h => (h (by simp [hd])).elim⟩
      simp only [putD, List.getD_cons_zero, List.getD_cons_succ, Act.put, hd]
      go_simp
      exact ⟨_, rfl, Below.refl _ _, rfl⟩
    · intro us w1 hb hd
      simp only [List.mem_cons, List.not_mem_nil, or_false, forall_eq_or_imp, forall_eq, List.getD_cons_zero, List.getD_cons_succ, kIs] at hd
      refine ⟨fun _ => ?_, fun h => (h (by simp [hd])).elim⟩
      simp only [putD, List.getD_cons_zero, List.getD_cons_succ, Act.put, hd]
      have d0 := (hb.cell (World.block_lt_of_cell? _ _ y1)).trans y1
      go_simp
      exact ⟨_, rfl, Below.refl _ _, rfl⟩
    · intro us w1 _ hd
      simp only [List.mem_cons, List.not_mem_nil, or_false, forall_eq, List.getD_cons_zero, List.getD_cons_succ, kIs] at hd
      refine ⟨fun _ => ?_, fun h => (h (by simp [hd])).elim⟩
      simp only [putD, List.getD_cons_zero, List.getD_cons_succ, Act.put, hd]
      go_simp
      exact ⟨_, rfl, Below.refl _ _, rfl⟩
    · intro us w1 hb hd
      simp only [List.mem_cons, List.not_mem_nil, or_false, forall_eq_or_imp, forall_eq, List.getD_cons_zero, List.getD_cons_succ, kIs] at hd
      refine ⟨fun _ => ?_, fun h => (h (by simp [hd])).elim⟩
      simp only [putD, List.getD_cons_zero, List.getD_cons_succ, Act.put, hd]
      have d0 := (hb.cell (World.block_lt_of_cell? _ _ z1)).trans z1
      go_simp
      exact ⟨_, rfl, Below.refl _ _, rfl⟩
    · intro us w1 _ hd
      simp only [List.mem_cons, List.not_mem_nil, or_false, forall_eq_or_imp, forall_eq, List.getD_cons_zero, List.getD_cons_succ, kIs] at hd
      refine ⟨fun _ => ?_, fun h => (h (by simp [hd])).elim⟩
      simp only [putD, List.getD_cons_zero, List.getD_cons_succ, Act.put, hd]
      go_simp
      exact ⟨_, rfl, Below.refl _ _, rfl⟩
    · intro us w1 _ hd
      simp only [List.mem_cons, List.not_mem_nil, or_false, forall_eq_or_imp, forall_eq, List.getD_cons_zero, List.getD_cons_succ, kIs] at hd
      simp only [putD, List.getD_cons_zero, List.getD_cons_succ, Act.put, hd]
      go_simp
      exact ⟨_, rfl, Below.refl _ _, rfl⟩
    · intro us w1 _ hd
      simp only [List.mem_cons, List.not_mem_nil, or_false, forall_eq, List.getD_cons_zero, List.getD_cons_succ, kIs] at hd
      simp only [putD, List.getD_cons_zero, List.getD_cons_succ, Act.put, hd]
      go_simp
      exact ⟨_, rfl, Below.refl _ _, rfl⟩
    · intro us w1 _ hd
      simp only [List.mem_cons, List.not_mem_nil, or_false, forall_eq, List.getD_cons_zero, List.getD_cons_succ, kIs] at hd
      refine ⟨fun _ => ?_, fun h => (h (by simp [hd])).elim⟩
      simp only [putD, List.getD_cons_zero, List.getD_cons_succ, Act.put, hd]
      go_simp
      exact ⟨_, rfl, Below.refl _ _, rfl⟩
    · intro us w1 hb hd
      simp only [List.mem_cons, List.not_mem_nil, or_false, forall_eq_or_imp, forall_eq, List.getD_cons_zero, List.getD_cons_succ, kIs] at hd
      refine ⟨fun _ => ?_, fun h => (h (by simp [hd])).elim⟩
      simp only [putD, List.getD_cons_zero, List.getD_cons_succ, Act.put, hd]
      have d0 := (hb.cell (World.block_lt_of_cell? _ _ y0)).trans y0
      go_simp
      exact ⟨_, rfl, Below.refl _ _, rfl⟩
    · intro us w1 _ hd
      simp only [List.mem_cons, List.not_mem_nil, or_false, forall_eq_or_imp, forall_eq, List.getD_cons_zero, List.getD_cons_succ, kIs] at hd
      refine ⟨fun _ => ?_, fun h => (h (by simp [hd])).elim⟩
      simp only [putD, List.getD_cons_zero, List.getD_cons_succ, Act.put, hd]
      go_simp
      exact ⟨_, rfl, Below.refl _ _, rfl⟩
    · intro us w1 _ hd
      simp only [List.mem_cons, List.not_mem_nil, or_false, forall_eq, List.getD_cons_zero, List.getD_cons_succ, kIs] at hd
      refine ⟨fun _ => ?_, fun h => (h (by simp [hd])).elim⟩
      simp only [putD, List.getD_cons_zero, List.getD_cons_succ, Act.put, hd]
      go_simp
      exact ⟨_, rfl, Below.refl _ _, rfl⟩
    · intro us w1 hb hd
      simp only [List.mem_cons, List.not_mem_nil, or_false, forall_eq_or_imp, forall_eq, List.getD_cons_zero, List.getD_cons_succ, kIs] at hd
      refine ⟨fun _ => ?_, fun h => (h (by simp [hd])).elim⟩
      simp only [putD, List.getD_cons_zero, List.getD_cons_succ, Act.put, hd]
      have d0 := (hb.cell (World.block_lt_of_cell? _ _ z0)).trans z0
      go_simp
      exact ⟨_, rfl, Below.refl _ _, rfl⟩
    · intro us w1 _ hd
      simp only [List.mem_cons, List.not_mem_nil, or_false, forall_eq_or_imp, forall_eq, List.getD_cons_zero, List.getD_cons_succ, kIs] at hd
      refine ⟨fun _ => ?_, fun h => (h (by simp [hd])).elim⟩
      simp only [putD, List.getD_cons_zero, List.getD_cons_succ, Act.put, hd]
      go_simp
      exact ⟨_, rfl, Below.refl _ _, rfl⟩
    · intro us w1 _ hd
      simp only [List.mem_cons, List.not_mem_nil, or_false, forall_eq_or_imp, forall_eq, List.getD_cons_zero, List.getD_cons_succ, kIs] at hd
      refine ⟨fun _ => ?_, fun h => (h (by simp [hd])).elim⟩
      simp only [putD, List.getD_cons_zero, List.getD_cons_succ, Act.put, hd]
      go_simp
      exact ⟨_, rfl, Below.refl _ _, rfl⟩
    · intro us w1 _ hd
      simp only [List.mem_cons, List.not_mem_nil, or_false, forall_eq_or_imp, forall_eq, List.getD_cons_zero, List.getD_cons_succ, kIs] at hd
      simp only [putD, List.getD_cons_zero, List.getD_cons_succ, Act.put, hd]
      go_simp
      exact ⟨_, rfl, Below.refl _ _, rfl⟩
    · intro us w1 _ hd
      simp only [List.mem_cons, List.not_mem_nil, or_false, forall_eq, List.getD_cons_zero, List.getD_cons_succ, kIs] at hd
      simp only [putD, List.getD_cons_zero, List.getD_cons_succ, Act.put, hd]
      go_simp
      exact ⟨_, rfl, Below.refl _ _, rfl⟩
    · intro us w1 _ hd
      simp only [List.mem_cons, List.not_mem_nil, or_false, forall_eq, List.getD_cons_zero, List.getD_cons_succ, kIs] at hd
      refine ⟨fun _ => ?_, fun h => (h (by simp [hd])).elim⟩
      simp only [putD, List.getD_cons_zero, List.getD_cons_succ, Act.put, hd]
      go_simp
      exact ⟨_, rfl, Below.refl _ _, rfl⟩
    · intro us w1 hb hd
      simp only [List.mem_cons, List.not_mem_nil, or_false, forall_eq_or_imp, forall_eq, List.getD_cons_zero, List.getD_cons_succ, kIs] at hd
      refine ⟨fun _ => ?_, fun h => (h (by simp [hd])).elim⟩
      simp only [putD, List.getD_cons_zero, List.getD_cons_succ, Act.put, hd]
      have d0 := (hb.cell (World.block_lt_of_cell? _ _ y0)).trans y0
      go_simp
      exact ⟨_, rfl, Below.refl _ _, rfl⟩
    · intro us w1 _ hd
      simp only [List.mem_cons, List.not_mem_nil, or_false, forall_eq, List.getD_cons_zero, List.getD_cons_succ, kIs] at hd
      refine ⟨fun _ => ?_, fun h => (h (by simp [hd])).elim⟩
      simp only [putD, List.getD_cons_zero, List.getD_cons_succ, Act.put, hd]
      go_simp
      exact ⟨_, rfl, Below.refl _ _, rfl⟩
    · intro us w1 hb hd
      simp only [List.mem_cons, List.not_mem_nil, or_false, forall_eq_or_imp, forall_eq, List.getD_cons_zero, List.getD_cons_succ, kIs] at hd
      refine ⟨fun _ => ?_, fun h => (h (by simp [hd])).elim⟩
      simp only [putD, List.getD_cons_zero, List.getD_cons_succ, Act.put, hd]
      have d0 := (hb.cell (World.block_lt_of_cell? _ _ z0)).trans z0
      go_simp
      exact ⟨_, rfl, Below.refl _ _, rfl⟩
    · intro us w1 _ hd
      simp only [List.mem_cons, List.not_mem_nil, or_false, forall_eq_or_imp, forall_eq, List.getD_cons_zero, List.getD_cons_succ, kIs] at hd
      refine ⟨fun _ => ?_, fun h => (h (by simp [hd])).elim⟩
      simp only [putD, List.getD_cons_zero, List.getD_cons_succ, Act.put, hd]
      go_simp
      exact ⟨_, rfl, Below.refl _ _, rfl⟩
    · intro us w1 hb hd
      simp only [List.mem_cons, List.not_mem_nil, or_false, forall_eq_or_imp, forall_eq, List.getD_cons_zero, List.getD_cons_succ, kIs] at hd
      refine ⟨fun _ => ?_, fun h => (h (by simp [hd])).elim⟩
      simp only [putD, List.getD_cons_zero, List.getD_cons_succ, Act.put, hd]
      go_simp
      exact ⟨_, rfl, Below.refl _ _, by first | rfl | (simp only [kIs]; done) | (simp only [kIs]; rw [hwr])⟩
    · intro us w1 hb hd
      simp only [List.mem_cons, List.not_mem_nil, or_false, forall_eq_or_imp, forall_eq, List.getD_cons_zero, List.getD_cons_succ, kIs] at hd
      refine ⟨fun _ => ?_, fun h => (h (by simp [hd])).elim⟩
      simp only [putD, List.getD_cons_zero, List.getD_cons_succ, Act.put, hd]
      go_simp
      exact ⟨_, rfl, Below.refl _ _, rfl⟩
    · intro us w1 _ hd
      simp only [List.mem_cons, List.not_mem_nil, or_false, forall_eq, List.getD_cons_zero, List.getD_cons_succ, kIs] at hd
      refine ⟨fun _ => ?_, fun h => (h (by simp [hd])).elim⟩
      simp only [putD, List.getD_cons_zero, List.getD_cons_succ, Act.put, hd]
      go_simp
      exact ⟨_, rfl, Below.refl _ _, rfl⟩
    · intro us w1 hb hd
      simp only [List.mem_cons, List.not_mem_nil, or_false, forall_eq_or_imp, forall_eq, List.getD_cons_zero, List.getD_cons_succ, kIs] at hd
      refine ⟨fun _ => ?_, fun h => (h (by simp [hd])).elim⟩
      simp only [putD, List.getD_cons_zero, List.getD_cons_succ, Act.put, hd]
      have d0 := (hb.cell (World.block_lt_of_cell? _ _ z0)).trans z0
      go_simp
      exact ⟨_, rfl, Below.refl _ _, rfl⟩
    · intro us w1 _ hd
      simp only [List.mem_cons, List.not_mem_nil, or_false, forall_eq_or_imp, forall_eq, List.getD_cons_zero, List.getD_cons_succ, kIs] at hd
      refine ⟨fun _ => ?_, fun h => (h (by simp [hd])).elim⟩
      simp only [putD, List.getD_cons_zero, List.getD_cons_succ, Act.put, hd]
      go_simp
      exact ⟨_, rfl, Below.refl _ _, rfl⟩
    · intro us w1 hb hd
      simp only [List.mem_cons, List.not_mem_nil, or_false, forall_eq_or_imp, forall_eq, List.getD_cons_zero, List.getD_cons_succ, kIs] at hd
      refine ⟨fun _ => ?_, fun h => (h (by simp [hd])).elim⟩
      simp only [putD, List.getD_cons_zero, List.getD_cons_succ, Act.put, hd]
      go_simp
      exact ⟨_, rfl, Below.refl _ _, rfl⟩
    · intro us w1 _ hd
      simp only [List.mem_cons, List.not_mem_nil, or_false, forall_eq_or_imp, forall_eq, List.getD_cons_zero, List.getD_cons_succ, kIs] at hd
      refine ⟨fun _ => ?_, fun h => (h (by simp [hd])).elim⟩
      simp only [putD, List.getD_cons_zero, List.getD_cons_succ, Act.put, hd]
      go_simp
      exact ⟨_, rfl, Below.refl _ _, rfl⟩
    · intro us w1 hb hd
      simp only [List.mem_cons, List.not_mem_nil, or_false, forall_eq_or_imp, forall_eq, List.getD_cons_zero, List.getD_cons_succ, kIs] at hd
      refine ⟨fun _ => ?_, fun h => (h (by simp [hd])).elim⟩
      simp only [putD, List.getD_cons_zero, List.getD_cons_succ, Act.put, hd]
      have d0 := (hb.cell (World.block_lt_of_cell? _ _ x0)).trans x0
      go_simp
      exact ⟨_, rfl, Below.refl _ _, rfl⟩
    · intro us w1 _ hd
      simp only [List.mem_cons, List.not_mem_nil, or_false, forall_eq_or_imp, forall_eq, List.getD_cons_zero, List.getD_cons_succ, kIs] at hd
      refine ⟨fun _ => ?_, fun h => (h (by simp [hd])).elim⟩
      simp only [putD, List.getD_cons_zero, List.getD_cons_succ, Act.put, hd]
      go_simp
      exact ⟨_, rfl, Below.refl _ _, rfl⟩
    · intro us w1 _ hd
      simp only [List.mem_cons, List.not_mem_nil, or_false, forall_eq_or_imp, forall_eq, List.getD_cons_zero, List.getD_cons_succ, kIs] at hd
      simp only [putD, List.getD_cons_zero, List.getD_cons_succ, Act.put, hd]
      go_simp
      exact ⟨_, rfl, Below.refl _ _, rfl⟩
    · intro us w1 _ hd
      simp only [List.mem_cons, List.not_mem_nil, or_false, forall_eq, List.getD_cons_zero, List.getD_cons_succ, kIs] at hd
      simp only [putD, List.getD_cons_zero, List.getD_cons_succ, Act.put, hd]
      go_simp
      exact ⟨_, rfl, Below.refl _ _, rfl⟩
  intro us w4 hb hp
  have h37 := hp 37 (by simp)
  simp only [List.getD_cons_zero, List.getD_cons_succ, kIs] at h37
  rw [show List.range 38 = [0, 1, 2, 3, 4, 5, 6, 7, 8, 9, 10, 11, 12, 13, 14, 15, 16, 17, 18, 19, 20, 21, 22, 23, 24, 25, 26, 27, 28, 29, 30, 31, 32, 33, 34, 35, 36, 37] from rfl]
  simp only [putD, List.getD_cons_zero, List.getD_cons_succ, Act.put, List.setIfInBounds_toArray, List.set_cons_zero, List.set_cons_succ, h37]
  have hw4 := below_step hx1 hb
  clear hp h37 hb
  go_wp2_with fail
  go_ret
  exact ⟨rfl, hw4⟩
end Go.Proofs.Ytdofdegicdkhlaa
