/- Layer 13: octavoref13.Open (printed by wip/ndp_gen.py). -/
import Derived.Test.YtcmoajbdepohmaaNdI
import Derived.Test.YtcmoajbdepohmaaNdM
import Derived.Test.YtcmoajbdepohmaaNdN
import Derived.Test.YtcmoajbdepohmaaRely
import Derived.Test.YtcmoajbdepohmaaCut
namespace Go.Proofs.Ytcmoajbdepohmaa
open Go.RowKit Go.Oct
/-- octavoref13.May -/
theorem refMay_any (leaf : Bool) (ve vk : Value) (es ks : List Quad) (w : World) (He : Quads w ve es) (Hk : Quads w vk ks) (le : es.length ≤ 4398046511104) (lk : ks.length ≤ 4398046511104) :
    Calls Try.prog 32 #[.agg #[.bool leaf, ve, vk]] w fun e w' => e = .returned (.bool (decide (ndMay leaf es ks))) ∧ Below w.heap.size w w' := by
  cases leaf
  · exact refMay_inner ve vk es ks w He Hk
  · exact refMay_leaf ve vk es ks w He Hk le lk
theorem fld_first (b : List UInt8) (i : Nat) (h : i < b.length) : fld b i 1 = b[i].toNat := by
  unfold fld
  rw [List.drop_eq_getElem_cons h, List.take_succ_cons, List.take_zero, numVal, numVal, Nat.mul_zero, Nat.add_zero]
theorem numOf_4 {l : List UInt8} (h : l.length = 4) : numOf l = numVal l := by
  have := numVal_seven l (by omega)
  have hv : valCode l = 0 := by unfold valCode; rw [if_neg (by omega), if_neg (by omega)]
  unfold numOf
  rw [if_pos hv]
/-- what stands while a node is opened: the box of the answer, the box of the node -/
structure RoSt (w : World) (leaf : Bool) (ve vk : Value) (W : World) : Prop where
  rbx : W.heap[w.heap.size]? = some (ndBox false (.slice none 0 0) (.slice none 0 0))
  nbx : W.heap[w.heap.size + 1]? = some (ndBox leaf ve vk)
  bl : Below w.heap.size w W
theorem RoSt.below {w : World} {leaf : Bool} {ve vk : Value} {W W' : World} (h : RoSt w leaf ve vk W) (k : Below W.heap.size W W') : RoSt w leaf ve vk W' :=
  ⟨box_below h.rbx k, box_below h.nbx k, below_step h.bl k⟩
theorem RoSt.size {w : World} {leaf : Bool} {ve vk : Value} {W : World} (h : RoSt w leaf ve vk W) : w.heap.size + 1 < W.heap.size := (Array.getElem?_eq_some_iff.1 h.nbx).1
theorem RoSt.app {w : World} {leaf : Bool} {ve vk u : Value} {W W' : World} {e : TypeId} {size n : Nat} {xs : List Value} (h : RoSt w leaf ve vk W) (ho : W.ownsRow w.heap.size e size u n xs) (k : W.grownBy W' u.ownBlock) (e1 : e ≠ 56) : RoSt w leaf ve vk W' := by
  have far : ∀ b (lf : Bool) (v1 v2 : Value), W.heap[b]? = some (ndBox lf v1 v2) → u.ownBlock ≠ some b := by
    intro b lf v1 v2 hb hu
    rcases ho.2 with ⟨rfl, _⟩ | ⟨gv, cap, cur, rfl, _, hg, _⟩
    · cases hu
    · simp only [Value.ownBlock, Option.some.injEq] at hu
      subst hu
      rw [hb] at hg
      unfold ndBox at hg
      simp only [Option.some.injEq, Obj.cells.injEq] at hg
      exact e1 hg.2.1.symm
  exact ⟨box_grown h.rbx k (far _ _ _ _ h.rbx), box_grown h.nbx k (far _ _ _ _ h.nbx), below_put h.bl ho k⟩
theorem RoSt.store0 {w : World} {leaf : Bool} {ve vk : Value} {W : World} (h : RoSt w leaf ve vk W) (lf : Bool) : RoSt w lf ve vk (W.setCell ⟨w.heap.size + 1, 0, none⟩ (.bool lf)) := by
  refine ⟨?_, ?_, h.bl.setCell (Nat.le_succ _) _⟩
  · rw [Below.heap_setCell _ _ _ _ (show w.heap.size ≠ w.heap.size + 1 by omega)]; exact h.rbx
  · have := heap_setCell_same W (w.heap.size + 1) 0 _ _ (.bool lf) h.nbx
    simpa [ndBox] using this
theorem RoSt.store1 {w : World} {leaf : Bool} {ve vk : Value} {W : World} (h : RoSt w leaf ve vk W) (v : Value) : RoSt w leaf v vk (W.setCell ⟨w.heap.size + 1, 1, none⟩ v) := by
  refine ⟨?_, ?_, h.bl.setCell (Nat.le_succ _) _⟩
  · rw [Below.heap_setCell _ _ _ _ (show w.heap.size ≠ w.heap.size + 1 by omega)]; exact h.rbx
  · have := heap_setCell_same W (w.heap.size + 1) 1 _ _ v h.nbx
    simpa [ndBox] using this
theorem RoSt.store2 {w : World} {leaf : Bool} {ve vk : Value} {W : World} (h : RoSt w leaf ve vk W) (v : Value) : RoSt w leaf ve v (W.setCell ⟨w.heap.size + 1, 2, none⟩ v) := by
  refine ⟨?_, ?_, h.bl.setCell (Nat.le_succ _) _⟩
  · rw [Below.heap_setCell _ _ _ _ (show w.heap.size ≠ w.heap.size + 1 by omega)]; exact h.rbx
  · have := heap_setCell_same W (w.heap.size + 1) 2 _ _ v h.nbx
    simpa [ndBox] using this
theorem RoSt.start (w : World) : RoSt w false (.slice none 0 0) (.slice none 0 0) ((w.alloc (ndBox false (.slice none 0 0) (.slice none 0 0))).alloc (ndBox false (.slice none 0 0) (.slice none 0 0))) :=
  ⟨heap_keep (heap_last rfl) _, heap_last (by simp), below_new (below_new (Below.refl _ _) _) _⟩
theorem RoSt.start1 (w : World) : RoSt w true (.slice none 0 0) (.slice none 0 0) ((w.alloc (ndBox false (.slice none 0 0) (.slice none 0 0))).alloc (ndBox true (.slice none 0 0) (.slice none 0 0))) :=
  ⟨heap_keep (heap_last rfl) _, heap_last (by simp), below_new (below_new (Below.refl _ _) _) _⟩
theorem RoSt.alloc {w : World} {leaf : Bool} {ve vk : Value} {W : World} (h : RoSt w leaf ve vk W) (o : Obj) : RoSt w leaf ve vk (W.alloc o) := h.below ((Below.refl _ _).alloc (Nat.le_refl _) o)
theorem RoSt.drew {w : World} {leaf : Bool} {ve vk : Value} {W : World} (h : RoSt w leaf ve vk W) : RoSt w leaf ve vk W.drew := h.below (Below.refl _ W).drew
set_option maxHeartbeats 1000000 in
theorem refOpen_short (kind : Int) (v : Value) (l : List UInt8) (w : World) (hB : Bytes w v l) (h0 : l.length < 1) : Calls Try.prog 41 #[.int .i64 kind, v] w (NoPost kind l w) := by
  obtain ⟨a, cap, rfl, hcap, hmax, hcells⟩ := hB.open
  unfold maxLen at hmax
  have HN := Lib.hid (ndOpens_short (kind := kind) h0)
  have h1 : (l.length : Int) < 1 := by omega
  clear hB h0 hcells
  have HST := Lib.hid (RoSt.start w)
  obtain ⟨z0, z1, z2⟩ := ndBox_cells HST.out.rbx
  obtain ⟨y0, y1, y2⟩ := ndBox_cells HST.out.nbx
  have hfz := ndBox_free HST.out.rbx
  go_enter Try.func41, Try.ntmps41
  go_wp2_with fail
  all_goals
    refine bodyPost_ret (v := .tuple #[.agg #[.bool false, .slice none 0 0, .slice none 0 0], .int .i64 4]) (by simp [results, Try.results41, go_sem]) rfl ?_
    first | exact no_bad HN.out rfl HST.out.bl | exact no_bad HN.out rfl (sets3_below HST.out.bl (Nat.le_refl _) _ _ _)
set_option maxHeartbeats 1000000 in
theorem refOpen_kind (kind : Int) (v : Value) (l : List UInt8) (w : World) (hB : Bytes w v l) (hk1 : kind ≠ 1) (hk2 : kind ≠ 2) (h0 : ¬ l.length < 1) : Calls Try.prog 41 #[.int .i64 kind, v] w (NoPost kind l w) := by
  obtain ⟨a, cap, rfl, hcap, hmax, hcells⟩ := hB.open
  unfold maxLen at hmax
  have HN := Lib.hid (ndOpens_kind (b := l) hk1 hk2)
  obtain ⟨bb, oo, rfl, hcs⟩ := hcells (by omega)
  obtain ⟨mn, hmn⟩ : ∃ x, fld l 0 1 = x := ⟨_, rfl⟩
  have hml : mn < 256 := by rw [← hmn]; exact fld_lt l 0 1
  have hc0 : w.cell? ⟨bb, oo, none⟩ = some (.int .u8 (mn : Nat)) := by
    have := hcs 0 (by omega)
    rw [← fld_first l 0 (by omega), hmn] at this
    exact this
  have hbw : bb < w.heap.size := World.block_lt_of_cell? w _ hc0
  have hl1 : (1 : Int) ≤ (l.length : Int) := by omega
  have hl2 : ((l.length - 1 : Nat) : Int) = (l.length : Int) - 1 := by omega
  have e1 : (kind == 1) = false := by rw [beq_eq_false_iff_ne]; exact hk1
  have e2 : (kind == 2) = false := by rw [beq_eq_false_iff_ne]; exact hk2
  have h13 : cap ≠ 1 ∨ cap = 1 := by omega
  clear hB h0 hcells hcs hmn hk1 hk2 h13
  have HST := Lib.hid (RoSt.start w)
  obtain ⟨z0, z1, z2⟩ := ndBox_cells HST.out.rbx
  obtain ⟨y0, y1, y2⟩ := ndBox_cells HST.out.nbx
  have hfz := ndBox_free HST.out.rbx
  go_enter Try.func41, Try.ntmps41
  go_wp2_with fail
  all_goals
    refine bodyPost_ret (v := .tuple #[.agg #[.bool false, .slice none 0 0, .slice none 0 0], .int .i64 4]) (by simp [results, Try.results41, go_sem]) rfl ?_
    first | exact no_bad HN.out rfl HST.out.bl | exact no_bad HN.out rfl (sets3_below HST.out.bl (Nat.le_refl _) _ _ _)
set_option maxHeartbeats 1000000 in
theorem refOpen_bad1 (v : Value) (l : List UInt8) (w : World) (hB : Bytes w v l) (h0 : ¬ l.length < 1) (hs : l.length ≠ 1 + 13 * fld l 0 1) : Calls Try.prog 41 #[.int .i64 1, v] w (NoPost 1 l w) := by
  obtain ⟨a, cap, rfl, hcap, hmax, hcells⟩ := hB.open
  unfold maxLen at hmax
  have HN := Lib.hid (show ¬ ndOpens 1 l from fun h => hs (ndOpens_one.1 h).1)
  obtain ⟨bb, oo, rfl, hcs⟩ := hcells (by omega)
  obtain ⟨mn, hmn⟩ : ∃ x, fld l 0 1 = x := ⟨_, rfl⟩
  have hml : mn < 256 := by rw [← hmn]; exact fld_lt l 0 1
  have hc0 : w.cell? ⟨bb, oo, none⟩ = some (.int .u8 (mn : Nat)) := by
    have := hcs 0 (by omega)
    rw [← fld_first l 0 (by omega), hmn] at this
    exact this
  have hbw : bb < w.heap.size := World.block_lt_of_cell? w _ hc0
  have hl1 : (1 : Int) ≤ (l.length : Int) := by omega
  have hl2 : ((l.length - 1 : Nat) : Int) = (l.length : Int) - 1 := by omega
  have e1 : (((l.length - 1 : Nat) : Int) == 13 * (mn : Int)) = false := by rw [beq_eq_false_iff_ne]; omega
  have e2 : (((l.length : Int) - 1) == 13 * (mn : Int)) = false := by rw [beq_eq_false_iff_ne]; omega
  clear hB h0 hcells hcs hmn hs
  have HST := Lib.hid (RoSt.start w)
  obtain ⟨z0, z1, z2⟩ := ndBox_cells HST.out.rbx
  obtain ⟨y0, y1, y2⟩ := ndBox_cells HST.out.nbx
  have hfz := ndBox_free HST.out.rbx
  go_enter Try.func41, Try.ntmps41
  go_wp2_with fail
  all_goals
    refine bodyPost_ret (v := .tuple #[.agg #[.bool false, .slice none 0 0, .slice none 0 0], .int .i64 4]) (by simp [results, Try.results41, go_sem]) rfl ?_
    first | exact no_bad HN.out rfl HST.out.bl | exact no_bad HN.out rfl (sets3_below HST.out.bl (Nat.le_refl _) _ _ _)
set_option maxHeartbeats 1000000 in
theorem refOpen_bad2 (v : Value) (l : List UInt8) (w : World) (hB : Bytes w v l) (h0 : ¬ l.length < 1) (hs : l.length ≠ 1 + 16 * fld l 0 1) : Calls Try.prog 41 #[.int .i64 2, v] w (NoPost 2 l w) := by
  obtain ⟨a, cap, rfl, hcap, hmax, hcells⟩ := hB.open
  unfold maxLen at hmax
  have HN := Lib.hid (show ¬ ndOpens 2 l from fun h => hs (ndOpens_two.1 h).1)
  obtain ⟨bb, oo, rfl, hcs⟩ := hcells (by omega)
  obtain ⟨mn, hmn⟩ : ∃ x, fld l 0 1 = x := ⟨_, rfl⟩
  have hml : mn < 256 := by rw [← hmn]; exact fld_lt l 0 1
  have hc0 : w.cell? ⟨bb, oo, none⟩ = some (.int .u8 (mn : Nat)) := by
    have := hcs 0 (by omega)
    rw [← fld_first l 0 (by omega), hmn] at this
    exact this
  have hbw : bb < w.heap.size := World.block_lt_of_cell? w _ hc0
  have hl1 : (1 : Int) ≤ (l.length : Int) := by omega
  have hl2 : ((l.length - 1 : Nat) : Int) = (l.length : Int) - 1 := by omega
  have e1 : (((l.length - 1 : Nat) : Int) == 16 * (mn : Int)) = false := by rw [beq_eq_false_iff_ne]; omega
  have e2 : (((l.length : Int) - 1) == 16 * (mn : Int)) = false := by rw [beq_eq_false_iff_ne]; omega
  clear hB h0 hcells hcs hmn hs
  have HST := Lib.hid (RoSt.start w)
  obtain ⟨z0, z1, z2⟩ := ndBox_cells HST.out.rbx
  obtain ⟨y0, y1, y2⟩ := ndBox_cells HST.out.nbx
  have hfz := ndBox_free HST.out.rbx
  go_enter Try.func41, Try.ntmps41
  go_wp2_with fail
  all_goals
    refine bodyPost_ret (v := .tuple #[.agg #[.bool false, .slice none 0 0, .slice none 0 0], .int .i64 4]) (by simp [results, Try.results41, go_sem]) rfl ?_
    first | exact no_bad HN.out rfl HST.out.bl | exact no_bad HN.out rfl (sets3_below HST.out.bl (Nat.le_refl _) _ _ _)
set_option maxRecDepth 100000 in
set_option maxHeartbeats 4000000 in
theorem refOpen_1 (v : Value) (l : List UInt8) (w : World) (hB : Bytes w v l) (hll : l.length ≤ 140737488355328) (h0 : ¬ l.length < 1) (hs0 : l.length = 1 + 13 * fld l 0 1) : Calls Try.prog 41 #[.int .i64 1, v] w (NoPost 1 l w) := by
  obtain ⟨a, cap, rfl, hcap, hmax, hcells⟩ := hB.open
  unfold maxLen at hmax
  have HB := Lib.hid hB
  obtain ⟨bb, oo, rfl, hcs⟩ := hcells (by omega)
  obtain ⟨mn, hmn⟩ : ∃ x, fld l 0 1 = x := ⟨_, rfl⟩
  have hml : mn < 256 := by rw [← hmn]; exact fld_lt l 0 1
  have hc0 : w.cell? ⟨bb, oo, none⟩ = some (.int .u8 (mn : Nat)) := by
    have := hcs 0 (by omega)
    rw [← fld_first l 0 (by omega), hmn] at this
    exact this
  have hbw : bb < w.heap.size := World.block_lt_of_cell? w _ hc0
  have hl1 : (1 : Int) ≤ (l.length : Int) := by omega
  have hl2 : ((l.length - 1 : Nat) : Int) = (l.length : Int) - 1 := by omega
  rw [hmn] at hs0
  have HMN := Lib.hid hmn
  have HC0 := Lib.hid hc0
  have HCS := Lib.hid hcs
  have HST := Lib.hid (RoSt.start w)
  have e1 : (((l.length - 1 : Nat) : Int) == 13 * (mn : Int)) = true := by rw [beq_iff_eq]; omega
  have e2 : (((l.length : Int) - 1) == 13 * (mn : Int)) = true := by rw [beq_iff_eq]; omega
  have hs1 : l.length ≤ 1 + 13 * mn := by omega
  have hs2 : 1 + 13 * mn ≤ l.length := by omega
  obtain ⟨i0', hi, hz0, hz1, hz2⟩ := info_parts infoEnt
  clear hB hcells hcs hmn h0 hs0
  by_cases hm0 : mn = 0
  · subst hm0
    have HN := Lib.hid (show ¬ ndOpens 1 l from fun h => by
      have h2 := (ndOpens_one.1 h).2
      rw [HMN.out] at h2
      rw [show qList (ndEnt l) 0 = [] from rfl] at h2
      exact absurd h2 (by decide))
    have HD := Lib.hid (show decide (ndMay true [] []) = false by decide)
    go_enter Try.func41, Try.ntmps41
    go_wp2_with fail
    all_goals
      refine wp_loop_rounds 1 ?_
      rw [rounds_succ]
      go_wp2_with fail
      refine (refMay_any true _ _ [] [] _ (Quads.nil _) (Quads.nil _) (by decide) (by decide)).mono ?_
      rintro e w4 ⟨rfl, hx⟩
      rw [HD.out]
      have HST4 := Lib.hid ((RoSt.start1 w).below hx)
      obtain ⟨z0, z1, z2⟩ := ndBox_cells HST4.out.rbx
      have hfz := ndBox_free HST4.out.rbx
      have hls := HST4.out.size
      clear hx
      go_wp2_with fail
      refine bodyPost_ret (v := .tuple #[.agg #[.bool false, .slice none 0 0, .slice none 0 0], .int .i64 4]) (by simp [results, Try.results41, go_sem, z0, z1, z2]) rfl ?_
      first | exact no_bad HN.out rfl HST4.out.bl | exact no_bad HN.out rfl (sets3_below HST4.out.bl (Nat.le_refl _) _ _ _)
  · have hcap1 : ¬ cap = 1 := by omega
    clear hm0
    go_enter Try.func41, Try.ntmps41
    go_wp2_with fail
    clear e1 e2
    go_loopw [9] (fun i wr => ∃ (k : Nat) (lv : Value), k ≤ mn ∧ i = .int .i64 k ∧ wr.ownsRow w.heap.size 80 4 lv k (qs (qList (ndEnt l) k)) ∧ RoSt w true lv (.slice none 0 0) wr) (fun i _ => mn - (intOf i).toNat)
    case atStart => exact ⟨0, .slice none 0 0, Nat.zero_le _, rfl, World.ownsRow_nil _ _ _ _, RoSt.start1 w⟩
    case round =>
      clear HST
      obtain ⟨k, lv, hk, rfl, hown, hst⟩ := hrel
      have HO := Lib.hid hown
      have HST := Lib.hid hst
      obtain ⟨y0, y1, y2⟩ := ndBox_cells hst.nbx
      have hnl := hst.size
      by_cases hlt : k < mn
      · have t1 : (13 * (k : Int)).toNat = 13 * k := by omega
        have t2 : (13 * (k : Int) + 13).toNat = 13 * k + 13 := by omega
        have u1 : (0 : Int) ≤ 13 * (k : Int) := by omega
        have u2 : 13 * (k : Int) ≤ 13 * (k : Int) + 13 := by omega
        have u3 : 13 * (k : Int) + 13 ≤ ((cap - 1 : Nat) : Int) := by omega
        have u4 : ¬ cap - 1 = 13 * k := by omega
        have u5 : 13 * k + 13 - 13 * k = 13 := by omega
        have u6 : 13 * k + 13 ≤ cap - 1 := by omega
        clear hown hst
        go_wp2_with fail
        have hkl : 13 * k + 13 ≤ l.length - 1 := by omega
        obtain ⟨oq, hoq⟩ : ∃ x, x = oo + 1 + 13 * k := ⟨_, rfl⟩
        obtain ⟨cq, hcq⟩ : ∃ x, x = cap - 1 - 13 * k := ⟨_, rfl⟩
        have hcq1 : 13 ≤ cq := by omega
        have hcq2 : cq ≤ 9223372036854775807 := by omega
        have hx0 : w.cell? ⟨bb, oq, none⟩ = some (.int .u8 ((fld l (1 + 13 * k) 1 : Nat) : Int)) := by
          have := HCS.out (1 + 13 * k) (by omega)
          rw [← fld_first l _ (by omega), ← Nat.add_assoc, ← hoq] at this
          exact this
        have bX1 : Bytes w (.slice (some ⟨bb, oq + 1, none⟩) 4 (cq - 1)) ((l.drop (2 + 13 * k)).take 4) := by
          rw [show oq + 1 = oo + (2 + 13 * k) by omega]
          exact Bytes.cut HB.out (2 + 13 * k) 4 _ (by omega) (by omega) (by unfold maxLen; omega)
        have lX1 : ((l.drop (2 + 13 * k)).take 4).length = 4 := by simp; omega
        have nX1 : numOf ((l.drop (2 + 13 * k)).take 4) = fld l (2 + 13 * k) 4 := numOf_4 lX1
        obtain ⟨X1, hX1⟩ : ∃ y, (l.drop (2 + 13 * k)).take 4 = y := ⟨_, rfl⟩
        rw [hX1] at bX1 nX1
        have bX2 : Bytes w (.slice (some ⟨bb, oq + 5, none⟩) 4 (cq - 5)) ((l.drop (6 + 13 * k)).take 4) := by
          rw [show oq + 5 = oo + (6 + 13 * k) by omega]
          exact Bytes.cut HB.out (6 + 13 * k) 4 _ (by omega) (by omega) (by unfold maxLen; omega)
        have lX2 : ((l.drop (6 + 13 * k)).take 4).length = 4 := by simp; omega
        have nX2 : numOf ((l.drop (6 + 13 * k)).take 4) = fld l (6 + 13 * k) 4 := numOf_4 lX2
        obtain ⟨X2, hX2⟩ : ∃ y, (l.drop (6 + 13 * k)).take 4 = y := ⟨_, rfl⟩
        rw [hX2] at bX2 nX2
        have bX3 : Bytes w (.slice (some ⟨bb, oq + 9, none⟩) 4 (cq - 9)) ((l.drop (10 + 13 * k)).take 4) := by
          rw [show oq + 9 = oo + (10 + 13 * k) by omega]
          exact Bytes.cut HB.out (10 + 13 * k) 4 _ (by omega) (by omega) (by unfold maxLen; omega)
        have lX3 : ((l.drop (10 + 13 * k)).take 4).length = 4 := by simp; omega
        have nX3 : numOf ((l.drop (10 + 13 * k)).take 4) = fld l (10 + 13 * k) 4 := numOf_4 lX3
        obtain ⟨X3, hX3⟩ : ∃ y, (l.drop (10 + 13 * k)).take 4 = y := ⟨_, rfl⟩
        rw [hX3] at bX3 nX3
        have HT := Lib.hid (qList_snoc (ndEnt l) k)
        obtain ⟨x0, hx0e⟩ : ∃ x, fld l (1 + 13 * k) 1 = x := ⟨_, rfl⟩
        obtain ⟨x1, hx1e⟩ : ∃ x, fld l (2 + 13 * k) 4 = x := ⟨_, rfl⟩
        obtain ⟨x2, hx2e⟩ : ∃ x, fld l (6 + 13 * k) 4 = x := ⟨_, rfl⟩
        obtain ⟨x3, hx3e⟩ : ∃ x, fld l (10 + 13 * k) 4 = x := ⟨_, rfl⟩
        have HV := Lib.hid (show ndEnt l k = (((x0 : Nat) : Int), unopn ((x1 : Nat) : Int), unopn ((x2 : Nat) : Int), unopn ((x3 : Nat) : Int)) by unfold ndEnt; rw [hx0e, hx1e, hx2e, hx3e])
        rw [hx1e] at nX1
        obtain ⟨q1, hq1⟩ : ∃ q, unopn ((x1 : Nat) : Int) = q := ⟨_, rfl⟩
        have HN1 := Lib.hid (show unopn ((numOf X1 : Nat) : Int) = q1 by rw [nX1]; exact hq1)
        have BX1 := Lib.hid bX1
        rw [hx2e] at nX2
        obtain ⟨q2, hq2⟩ : ∃ q, unopn ((x2 : Nat) : Int) = q := ⟨_, rfl⟩
        have HN2 := Lib.hid (show unopn ((numOf X2 : Nat) : Int) = q2 by rw [nX2]; exact hq2)
        have BX2 := Lib.hid bX2
        rw [hx3e] at nX3
        obtain ⟨q3, hq3⟩ : ∃ q, unopn ((x3 : Nat) : Int) = q := ⟨_, rfl⟩
        have HN3 := Lib.hid (show unopn ((numOf X3 : Nat) : Int) = q3 by rw [nX3]; exact hq3)
        have BX3 := Lib.hid bX3
        have HV2 := Lib.hid (show ndEnt l k = (((x0 : Nat) : Int), q1, q2, q3) by rw [HV.out, hq1, hq2, hq3])
        have hx256 : x0 < 256 := by rw [← hx0e]; exact fld_lt l _ 1
        rw [hx0e] at hx0
        have C0 := Lib.hid hx0
        have c0r : wr.cell? ⟨bb, oq, none⟩ = some (.int .u8 (x0 : Int)) := (HST.out.bl.cell (p := ⟨bb, oq, none⟩) hbw).trans C0.out
        rw [← hoq, ← hcq]
        clear hoq hcq hkl t1 t2 u1 u2 u3 u4 u5 u6 hx0e hx1e hx2e hx3e HV hx0 bX1 lX1 nX1 hX1 hq1 bX2 lX2 nX2 hX2 hq2 bX3 lX3 nX3 hX3 hq3
        have w1 : (13 : Int) ≤ (cq : Int) := by omega
        have v1 : ¬ cq = 1 := by omega
        have w30 : (5 : Int) ≤ (cq : Int) := by omega
        have v2 : ¬ cq = 5 := by omega
        have w40 : (9 : Int) ≤ (cq : Int) := by omega
        have v3 : ¬ cq = 9 := by omega
        have w50 : (13 : Int) ≤ (cq : Int) := by omega
        have wx0 : IntKind.i64.wrap ((x0 : Nat) : Int) = ((x0 : Nat) : Int) := IntWalk.i64_in _ (by omega)
        refine region_each_tail 18 [some 45, some 46, some 47, some 48, some 49, some 50, some 51, some 52, some 53, some 54, some 55, some 56, some 57, some 58, some 59, some 60, some 61, some 62, some 63, some 64, none] [[], [0], [], [2], [3], [4], [], [6], [7], [], [9], [10], [5, 8, 11], [], [13], [14], [12, 15], [16]]
          [kIs (.pointer (some ⟨w.heap.size + 1, 1, none⟩)), kIs lv, kIs (.slice (some ⟨bb, oq, none⟩) 13 cq), kIs (.pointer (some ⟨bb, oq, none⟩)), kIs (.int .u8 ((x0 : Nat) : Int)), kIs (.int .i64 ((x0 : Nat) : Int)), kIs (.slice (some ⟨bb, oq, none⟩) 13 cq), kIs (.slice (some ⟨bb, oq + 1, none⟩) 4 (cq - 1)), kIs (.int .i64 q1), kIs (.slice (some ⟨bb, oq, none⟩) 13 cq), kIs (.slice (some ⟨bb, oq + 5, none⟩) 4 (cq - 5)), kIs (.int .i64 q2), kIs (.agg #[.int .i64 ((x0 : Nat) : Int), .int .i64 q1, .int .i64 q2]), kIs (.slice (some ⟨bb, oq, none⟩) 13 cq), kIs (.slice (some ⟨bb, oq + 9, none⟩) 4 (cq - 9)), kIs (.int .i64 q3), kIs (.agg #[.int .i64 ((x0 : Nat) : Int), .int .i64 q1, .int .i64 q2, .int .i64 q3]), kHas 1 (qs [(((x0 : Nat) : Int), q1, q2, q3)])]
          (by kernel_rfl) (by kernel_rfl) (by kernel_rfl) (by kernel_rfl) (by kernel_rfl) ?_ ?_
        · simp only [List.take_succ_cons, List.take_zero, obligsD]
          refine ⟨?_, ?_, ?_, ?_, ?_, ?_, ?_, ?_, ?_, ?_, ?_, ?_, ?_, ?_, ?_, ?_, ?_, ?_, trivial⟩
          · intro us w1 _ _
            change Oper.wp _ _ _ _ _ _
            go_simp
            exact ⟨_, rfl, Below.refl _ _, rfl⟩
          · intro us w1 hb hd
            simp only [List.mem_cons, List.not_mem_nil, or_false, forall_eq, List.getD_cons_zero, kIs] at hd
            simp only [putD, List.getD_cons_zero, Act.put, hd]
            have hc := (hb.cell (World.block_lt_of_cell? _ _ y1)).trans y1
            go_simp
            exact ⟨_, rfl, Below.refl _ _, rfl⟩
          · intro us w1 _ _
            change Oper.wp _ _ _ _ _ _
            go_simp
            exact ⟨_, rfl, Below.refl _ _, rfl⟩
          · intro us w1 _ hd
            simp only [List.mem_cons, List.not_mem_nil, or_false, forall_eq, List.getD_cons_zero, List.getD_cons_succ, kIs] at hd
            simp only [putD, List.getD_cons_zero, List.getD_cons_succ, Act.put, hd]
            go_simp
            exact ⟨_, rfl, Below.refl _ _, rfl⟩
          · intro us w1 hb hd
            simp only [List.mem_cons, List.not_mem_nil, or_false, forall_eq, List.getD_cons_zero, List.getD_cons_succ, kIs] at hd
            simp only [putD, List.getD_cons_zero, List.getD_cons_succ, Act.put, hd]
            have hc := (hb.cell (World.block_lt_of_cell? _ _ c0r)).trans c0r
            go_simp
            exact ⟨_, rfl, Below.refl _ _, rfl⟩
          · intro us w1 _ hd
            simp only [List.mem_cons, List.not_mem_nil, or_false, forall_eq, List.getD_cons_zero, List.getD_cons_succ, kIs] at hd
            simp only [putD, List.getD_cons_zero, List.getD_cons_succ, Act.put, hd]
            go_simp
            exact ⟨_, rfl, Below.refl _ _, rfl⟩
          · intro us w1 _ _
            change Oper.wp _ _ _ _ _ _
            go_simp
            exact ⟨_, rfl, Below.refl _ _, rfl⟩
          · intro us w1 _ hd
            simp only [List.mem_cons, List.not_mem_nil, or_false, forall_eq, List.getD_cons_zero, List.getD_cons_succ, kIs] at hd
            simp only [putD, List.getD_cons_zero, List.getD_cons_succ, Act.put, hd]
            go_simp
            exact ⟨_, rfl, Below.refl _ _, rfl⟩
          · intro us w1 hb hd
            simp only [List.mem_cons, List.not_mem_nil, or_false, forall_eq, List.getD_cons_zero, List.getD_cons_succ, kIs] at hd
            simp only [putD, List.getD_cons_zero, List.getD_cons_succ, Act.put, hd]
            go_simp
            refine (refNumber_any _ X1 _ (BX1.out.below (below_step HST.out.bl hb))).mono ?_
            rintro e w2 ⟨rfl, rfl⟩
            rw [HN1.out]
            exact ⟨_, rfl, Below.refl _ _, rfl⟩
          · intro us w1 _ _
            change Oper.wp _ _ _ _ _ _
            go_simp
            exact ⟨_, rfl, Below.refl _ _, rfl⟩
          · intro us w1 _ hd
            simp only [List.mem_cons, List.not_mem_nil, or_false, forall_eq, List.getD_cons_zero, List.getD_cons_succ, kIs] at hd
            simp only [putD, List.getD_cons_zero, List.getD_cons_succ, Act.put, hd]
            go_simp
            exact ⟨_, rfl, Below.refl _ _, rfl⟩
          · intro us w1 hb hd
            simp only [List.mem_cons, List.not_mem_nil, or_false, forall_eq, List.getD_cons_zero, List.getD_cons_succ, kIs] at hd
            simp only [putD, List.getD_cons_zero, List.getD_cons_succ, Act.put, hd]
            go_simp
            refine (refNumber_any _ X2 _ (BX2.out.below (below_step HST.out.bl hb))).mono ?_
            rintro e w2 ⟨rfl, rfl⟩
            rw [HN2.out]
            exact ⟨_, rfl, Below.refl _ _, rfl⟩
          · intro us w1 _ hd
            simp only [List.mem_cons, List.not_mem_nil, or_false, forall_eq_or_imp, forall_eq, List.getD_cons_zero, List.getD_cons_succ, kIs] at hd
            simp only [putD, List.getD_cons_zero, List.getD_cons_succ, Act.put, hd]
            go_simp
            exact ⟨_, rfl, Below.refl _ _, rfl⟩
          · intro us w1 _ _
            change Oper.wp _ _ _ _ _ _
            go_simp
            exact ⟨_, rfl, Below.refl _ _, rfl⟩
          · intro us w1 _ hd
            simp only [List.mem_cons, List.not_mem_nil, or_false, forall_eq, List.getD_cons_zero, List.getD_cons_succ, kIs] at hd
            simp only [putD, List.getD_cons_zero, List.getD_cons_succ, Act.put, hd]
            go_simp
            exact ⟨_, rfl, Below.refl _ _, rfl⟩
          · intro us w1 hb hd
            simp only [List.mem_cons, List.not_mem_nil, or_false, forall_eq, List.getD_cons_zero, List.getD_cons_succ, kIs] at hd
            simp only [putD, List.getD_cons_zero, List.getD_cons_succ, Act.put, hd]
            go_simp
            refine (refNumber_any _ X3 _ (BX3.out.below (below_step HST.out.bl hb))).mono ?_
            rintro e w2 ⟨rfl, rfl⟩
            rw [HN3.out]
            exact ⟨_, rfl, Below.refl _ _, rfl⟩
          · intro us w1 _ hd
            simp only [List.mem_cons, List.not_mem_nil, or_false, forall_eq_or_imp, forall_eq, List.getD_cons_zero, List.getD_cons_succ, kIs] at hd
            simp only [putD, List.getD_cons_zero, List.getD_cons_succ, Act.put, hd]
            go_simp
            exact ⟨_, rfl, Below.refl _ _, rfl⟩
          · intro us w1 hb hd
            simp only [List.mem_cons, List.not_mem_nil, or_false, forall_eq, List.getD_cons_zero, List.getD_cons_succ, kIs] at hd
            simp only [putD, List.getD_cons_zero, List.getD_cons_succ, Act.put, hd]
            go_simp
            exact ⟨_, rfl, below_new (Below.refl _ _) _, has_quad (heap_last rfl)⟩
        · intro us wd hb hp
          have h1 := hp 1 (by decide)
          have h17 := hp 17 (by decide)
          simp only [List.getD_cons_zero, List.getD_cons_succ, kIs] at h1
          have h17' : Has wd (us 17) 1 (qs [(((x0 : Nat) : Int), q1, q2, q3)]) := h17
          obtain ⟨vn, hvn⟩ : ∃ y, us 17 = y := ⟨_, rfl⟩
          rw [hvn] at h17'
          have HN17 := Lib.hid h17'
          rw [show List.range 18 = [0, 1, 2, 3, 4, 5, 6, 7, 8, 9, 10, 11, 12, 13, 14, 15, 16, 17] from rfl]
          simp only [List.drop_succ_cons, List.drop_zero, putD, List.getD_cons_zero, List.getD_cons_succ, Act.put, List.setIfInBounds_toArray, List.set_cons_zero, List.set_cons_succ, h1, hvn]
          have HSTd := Lib.hid (HST.out.below hb)
          have HOd := Lib.hid (own_keep HO.out hb)
          clear hp h1 h17 h17' hvn hb y0 y1 y2
          refine wpList_append_has_at _ rfl (.tmp 46) (.tmp 62) 53 rfl w.heap.size 80 i0' (.agg #[.int .i64 0, .int .i64 0, .int .i64 0, .int .i64 0]) 4 32 Try.underlying53 hi hz0 hz1 hz2 rfl (by decide) lv k (qs (qList (ndEnt l) k)) rfl HOd.out vn 1 (qs [(((x0 : Nat) : Int), q1, q2, q3)]) rfl HN17.out rfl (qs_one _) ?c3 ?c4 ?c5 ?_
          case c3 => unfold maxLen; omega
          case c4 => omega
          case c5 => have := HSTd.out.size; omega
          intro vf wf hof hgf _
          obtain ⟨fa, fc, rfl⟩ := own_shape4 hof
          have HSTf := Lib.hid (HSTd.out.app HOd.out hgf (by decide))
          have HOf := Lib.hid (show wf.ownsRow w.heap.size 80 4 (.slice fa (k + 1) fc) (k + 1) (qs (qList (ndEnt l) (k + 1))) by rw [HT.out, HV2.out, qs_append]; exact hof)
          obtain ⟨n0, n1, n2⟩ := ndBox_cells HSTf.out.nbx
          have hfz := ndBox_free HSTf.out.nbx 1
          have hnf := (Array.getElem?_eq_some_iff.1 HSTf.out.nbx).1
          clear hof hgf
          have HSTg := Lib.hid (HSTf.out.store1 (.slice fa (k + 1) fc))
          have HOg := Lib.hid (own_far HOf.out (grown_setCell _ ⟨w.heap.size + 1, 1, none⟩ (.slice fa (k + 1) fc)) HSTf.out.nbx (by decide))
          go_wp2_with fail
          go_roundw
          case rel => exact ⟨k + 1, _, by omega, by go_num, HOg.out, HSTg.out⟩
          case measure => simp [intOf]; omega
      · obtain rfl : k = mn := by omega
        have hq : Quads wr lv (qList (ndEnt l) k) := by unfold Quads; rw [qList_length]; exact Has.own hown
        have HQ := Lib.hid hq
        have HO' := Lib.hid hown
        clear hown hst hq HO
        go_wp2_with fail
        refine (refMay_any true _ _ (qList (ndEnt l) k) [] _ HQ.out (Quads.nil _) (by rw [qList_length]; omega) (by decide)).mono ?_
        rintro e w4 ⟨rfl, hx⟩
        have HST4 := Lib.hid (HST.out.below hx)
        have HQ4 := Lib.hid (show Quads w4 lv (qList (ndEnt l) k) from Has.below HQ.out hx)
        have HO4 := Lib.hid (own_keep HO'.out hx)
        clear y0 y1 y2 hx HST HQ HO'
        obtain ⟨y0, y1, y2⟩ := ndBox_cells HST4.out.nbx
        obtain ⟨z0, z1, z2⟩ := ndBox_cells HST4.out.rbx
        have hfz := ndBox_free HST4.out.rbx
        have hls := HST4.out.size
        by_cases hM : ndMay true (qList (ndEnt l) k) []
        · rw [decide_eq_true hM]
          have hop : ndOpens 1 l := ndOpens_one.2 (by rw [HMN.out]; exact ⟨by omega, hM⟩)
          have HO1 := Lib.hid (show noLeaf 1 l = true ∧ noCode 1 l = 0 ∧ noEs 1 l = qList (ndEnt l) k ∧ noKs 1 l = [] by
            refine ⟨?_, ?_, ?_, ?_⟩
            · rw [noLeaf, if_pos hop]; rfl
            · rw [noCode, if_pos hop]
            · rw [noEs, if_pos hop, ndEsOf, HMN.out]; rfl
            · rw [noKs, if_pos hop, ndKsOf, HMN.out]; rfl)
          obtain ⟨xa, xl, xc, hf⟩ : ∃ a n c, lv = .slice a n c := by obtain ⟨a, c, h, _⟩ := HQ4.out; exact ⟨_, _, _, h⟩
          subst hf
          clear hM hop
          go_wp2_with fail
          refine bodyPost_ret (v := .tuple #[.agg #[.bool true, .slice xa xl xc, .slice none 0 0], .int .i64 0]) (by simp [results, Try.results41, go_sem, z0, z1, z2]) rfl ?_
          obtain ⟨o1, o2, o3, o4⟩ := HO1.out
          have hb3 := sets3_below HST4.out.bl (Nat.le_refl _) (.bool true) (.slice xa xl xc) (.slice none 0 0)
          refine ⟨.slice xa xl xc, .slice none 0 0, by rw [o1, o2]; rfl, ?_, ?_, hb3⟩
          · rw [o3]; have ho5 := own_far HO4.out (sets3_grown _ _ (.bool true) (.slice xa xl xc) (.slice none 0 0)) HST4.out.rbx (by decide); unfold Quads; rw [qList_length]; exact Has.own ho5
          · rw [o4]; exact Quads.nil _
        · rw [decide_eq_false hM]
          have HN := Lib.hid (show ¬ ndOpens 1 l from fun h => hM (by have := (ndOpens_one.1 h).2; rw [HMN.out] at this; exact this))
          clear hM
          go_wp2_with fail
          refine bodyPost_ret (v := .tuple #[.agg #[.bool false, .slice none 0 0, .slice none 0 0], .int .i64 4]) (by simp [results, Try.results41, go_sem, z0, z1, z2]) rfl ?_
          first | exact no_bad HN.out rfl HST4.out.bl | exact no_bad HN.out rfl (sets3_below HST4.out.bl (Nat.le_refl _) _ _ _)
end Go.Proofs.Ytcmoajbdepohmaa
