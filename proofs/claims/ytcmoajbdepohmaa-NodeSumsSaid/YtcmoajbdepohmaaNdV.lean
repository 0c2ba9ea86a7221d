/- The walk of the law NodeSums (printed by wip/ndv_gen.py). -/
import Derived.Test.YtcmoajbdepohmaaNdK
import Derived.Test.YtcmoajbdepohmaaNdL
import Derived.Test.YtcmoajbdepohmaaNsPlain2
import Derived.Test.YtcmoajbdepohmaaPick
namespace Go.Proofs.Ytcmoajbdepohmaa
open Go.RowKit Go.Oct
/-- some elements of a slice -/
theorem Quads.part {w : World} {b o n cap : Nat} {l : List Quad} (h : Quads w (.slice (some ⟨b, o, none⟩) n cap) l) (i m c : Nat) (hm : i + m ≤ l.length) (hc : m ≤ c) (hcm : c ≤ maxLen) :
    Quads w (.slice (some ⟨b, o + i * 4, none⟩) m c) ((l.drop i).take m) := by
  obtain ⟨a, cp, hv, h1, h2, h3⟩ := h
  have hl : ((l.drop i).take m).length = m := by simp; omega
  unfold Quads
  rw [hl]
  refine ⟨_, c, rfl, hc, hcm, fun hne => ?_⟩
  have hne2 : qs l ≠ [] := by
    intro e
    have h4 := congrArg List.length e
    rw [qs_length, List.length_nil] at h4
    apply hne
    have : m = 0 := by omega
    subst this
    simp [qs]
  obtain ⟨b', o', ha, hcl⟩ := h3 hne2
  simp only [Value.slice.injEq] at hv
  obtain ⟨hv1, _, _⟩ := hv
  rw [ha] at hv1
  simp only [Option.some.injEq, Addr.mk.injEq, and_true] at hv1
  obtain ⟨rfl, rfl⟩ := hv1
  refine ⟨b, o + i * 4, rfl, fun j x hj => ?_⟩
  have hj2 : (qs l)[i * 4 + j]? = some x := by
    rw [qs_take, qs_drop, List.getElem?_take] at hj
    split at hj
    · rw [List.getElem?_drop] at hj; exact hj
    · cases hj
  have := hcl (i * 4 + j) x hj2
  rw [show o + i * 4 + j = o + (i * 4 + j) by omega]
  exact this
theorem Quads.empty (w : World) (a : Option Addr) (c : Nat) (hc : c ≤ maxLen) : Quads w (.slice a 0 c) [] := ⟨a, c, rfl, Nat.zero_le _, hc, fun h => by simp [qs] at h⟩
set_option maxHeartbeats 2000000 in
theorem nodeSums_no (leaf : Bool) (ve vk : Value) (es ks : List Quad) (x : Int) (w : World) (He : Quads w ve es) (Hk : Quads w vk ks) (le : es.length ≤ 4398046511104) (lk : ks.length ≤ 4398046511104) (hM : ¬ ndMay leaf es ks) :
    Calls Try.prog 14 #[.agg #[.bool leaf, ve, vk], .int .i64 x] w fun e w' => e = .returned (.bool true) ∧ Below w.heap.size w w' := by
  obtain ⟨na, nc, rfl⟩ := He.form
  obtain ⟨ma, mc, rfl⟩ := Hk.form
  have HE := Lib.hid He
  have HK := Lib.hid Hk
  have HD := Lib.hid (decide_eq_false hM)
  have hw0 := below_new (Below.refl _ w) (ndBox leaf (.slice na es.length nc) (.slice ma ks.length mc))
  have HX0 := Lib.hid (show (w.alloc (ndBox leaf (.slice na es.length nc) (.slice ma ks.length mc))).heap[w.heap.size]? = some (ndBox leaf (.slice na es.length nc) (.slice ma ks.length mc)) from heap_last rfl)
  clear He Hk hM
  go_enter Try.func14, Try.ntmps14
  go_wp2_with fail
  refine (awake13_any _).mono ?_
  rintro e w1 ⟨rfl, hx⟩
  have hw1 := below_step hw0 hx
  have HX1 := Lib.hid (box_below HX0.out hx)
  obtain ⟨y0, y1, y2⟩ := ndBox_cells HX1.out
  clear hx hw0 HX0
  go_wp2_with fail
  refine (nodeMay_any leaf _ _ es ks _ (Has.below HE.out hw1) (Has.below HK.out hw1) le lk).mono ?_
  rintro e w2 ⟨rfl, hx⟩
  rw [HD.out]
  have hw2 := below_step hw1 hx
  clear hx hw1 HX1 y0 y1 y2
  go_wp2_with fail
  refine (awake13_any _).mono ?_
  rintro e w3 ⟨rfl, hx⟩
  go_wp2_with fail
  go_ret
  exact ⟨rfl, below_step hw2 hx⟩
/-- what stands in the midst of the law: the box of the node, the boxes of the two parts -/
structure SpSt (w : World) (x : Obj) (n5 n6 : Nat) (l5 : Bool) (e5 k5 : Value) (l6 : Bool) (e6 k6 : Value) (W : World) : Prop where
  bx : W.heap[w.heap.size]? = some x
  b5 : W.heap[n5]? = some (ndBox l5 e5 k5)
  b6 : W.heap[n6]? = some (ndBox l6 e6 k6)
  h5 : w.heap.size < n5
  h6 : w.heap.size < n6
  h56 : n5 ≠ n6
  bl : Below w.heap.size w W
theorem SpSt.below {w : World} {x : Obj} {n5 n6 : Nat} {l5 l6 : Bool} {e5 k5 e6 k6 : Value} {W W' : World} (h : SpSt w x n5 n6 l5 e5 k5 l6 e6 k6 W) (k : Below W.heap.size W W') : SpSt w x n5 n6 l5 e5 k5 l6 e6 k6 W' :=
  ⟨box_below h.bx k, box_below h.b5 k, box_below h.b6 k, h.h5, h.h6, h.h56, below_step h.bl k⟩
theorem SpSt.set5 {w : World} {x : Obj} {n5 n6 : Nat} {l5 l6 : Bool} {e5 k5 e6 k6 : Value} {W : World} (h : SpSt w x n5 n6 l5 e5 k5 l6 e6 k6 W) (v : Value) : SpSt w x n5 n6 l5 v k5 l6 e6 k6 (W.setCell ⟨n5, 1, none⟩ v) := by
  refine ⟨?_, ?_, ?_, h.h5, h.h6, h.h56, h.bl.setCell (Nat.le_of_lt h.h5) v⟩
  · exact (Below.heap_setCell _ _ _ _ (Nat.ne_of_lt h.h5)).trans h.bx
  · have := heap_setCell_same W n5 1 _ _ v h.b5
    simpa [ndBox] using this
  · exact (Below.heap_setCell _ _ _ _ (Ne.symm h.h56)).trans h.b6
theorem SpSt.set6 {w : World} {x : Obj} {n5 n6 : Nat} {l5 l6 : Bool} {e5 k5 e6 k6 : Value} {W : World} (h : SpSt w x n5 n6 l5 e5 k5 l6 e6 k6 W) (v : Value) : SpSt w x n5 n6 l5 e5 k5 l6 v k6 (W.setCell ⟨n6, 1, none⟩ v) := by
  refine ⟨?_, ?_, ?_, h.h5, h.h6, h.h56, h.bl.setCell (Nat.le_of_lt h.h6) v⟩
  · exact (Below.heap_setCell _ _ _ _ (Nat.ne_of_lt h.h6)).trans h.bx
  · exact (Below.heap_setCell _ _ _ _ h.h56).trans h.b5
  · have := heap_setCell_same W n6 1 _ _ v h.b6
    simpa [ndBox] using this
theorem SpSt.set5k {w : World} {x : Obj} {n5 n6 : Nat} {l5 l6 : Bool} {e5 k5 e6 k6 : Value} {W : World} (h : SpSt w x n5 n6 l5 e5 k5 l6 e6 k6 W) (v : Value) : SpSt w x n5 n6 l5 e5 v l6 e6 k6 (W.setCell ⟨n5, 2, none⟩ v) := by
  refine ⟨?_, ?_, ?_, h.h5, h.h6, h.h56, h.bl.setCell (Nat.le_of_lt h.h5) v⟩
  · exact (Below.heap_setCell _ _ _ _ (Nat.ne_of_lt h.h5)).trans h.bx
  · have := heap_setCell_same W n5 2 _ _ v h.b5
    simpa [ndBox] using this
  · exact (Below.heap_setCell _ _ _ _ (Ne.symm h.h56)).trans h.b6
theorem SpSt.set6k {w : World} {x : Obj} {n5 n6 : Nat} {l5 l6 : Bool} {e5 k5 e6 k6 : Value} {W : World} (h : SpSt w x n5 n6 l5 e5 k5 l6 e6 k6 W) (v : Value) : SpSt w x n5 n6 l5 e5 k5 l6 e6 v (W.setCell ⟨n6, 2, none⟩ v) := by
  refine ⟨?_, ?_, ?_, h.h5, h.h6, h.h56, h.bl.setCell (Nat.le_of_lt h.h6) v⟩
  · exact (Below.heap_setCell _ _ _ _ (Nat.ne_of_lt h.h6)).trans h.bx
  · exact (Below.heap_setCell _ _ _ _ h.h56).trans h.b5
  · have := heap_setCell_same W n6 2 _ _ v h.b6
    simpa [ndBox] using this
theorem SpSt.start1 {w W : World} {x : Obj} (hx : W.heap[w.heap.size]? = some x) (hb : Below w.heap.size w W) (l5 : Bool) (e5 k5 : Value) :
    SpSt w x W.heap.size (W.heap.size + 1) l5 e5 k5 l5 e5 k5 (((W.alloc (ndBox l5 e5 k5)).alloc (ndBox l5 e5 k5)).drew) := by
  have h := (Array.getElem?_eq_some_iff.1 hx).1
  exact ⟨heap_keep (heap_keep hx _) _, heap_keep (heap_last rfl) _, heap_last (by simp), h, by omega, by omega, (below_new (below_new hb _) _).drew⟩
theorem SpSt.start2 {w W : World} {x : Obj} (hx : W.heap[w.heap.size]? = some x) (hb : Below w.heap.size w W) (l5 : Bool) (e5 k5 : Value) :
    SpSt w x (W.heap.size + 1) W.heap.size l5 e5 k5 l5 e5 k5 (((W.alloc (ndBox l5 e5 k5)).alloc (ndBox l5 e5 k5)).drew) := by
  have h := (Array.getElem?_eq_some_iff.1 hx).1
  exact ⟨heap_keep (heap_keep hx _) _, heap_last (by simp), heap_keep (heap_last rfl) _, by omega, h, by omega, (below_new (below_new hb _) _).drew⟩
theorem sm_leaf {es : List Quad} {k : Nat} (h : ndMay true es []) (ha : ndMay true (es.take k) []) (hb : ndMay true (es.drop k) []) :
    SumsOf (smB true (es.take k) []) (smB true (es.drop k) []) (smB true es []) (smL true (es.take k) []) (smL true (es.drop k) []) (smL true es []) (smS true (es.take k) []) (smS true (es.drop k) []) (smS true es []) := by
  have := sums_leaf ha hb
  simp only [smB, smL, smS, if_pos h, if_pos ha, if_pos hb]
  exact this
theorem sm_inner {ks : List Quad} {k : Nat} (h : ndMay false [] ks) (ha : ndMay false [] (ks.take k)) (hb : ndMay false [] (ks.drop k)) :
    SumsOf (smB false [] (ks.take k)) (smB false [] (ks.drop k)) (smB false [] ks) (smL false [] (ks.take k)) (smL false [] (ks.drop k)) (smL false [] ks) (smS false [] (ks.take k)) (smS false [] (ks.drop k)) (smS false [] ks) := by
  have := sums_inner ha hb
  simp only [smB, smL, smS, if_pos h, if_pos ha, if_pos hb]
  exact this
theorem SpSt.drew {w : World} {x : Obj} {n5 n6 : Nat} {l5 l6 : Bool} {e5 k5 e6 k6 : Value} {W : World} (h : SpSt w x n5 n6 l5 e5 k5 l6 e6 k6 W) : SpSt w x n5 n6 l5 e5 k5 l6 e6 k6 W.drew := h.below (Below.refl _ W).drew
set_option maxRecDepth 100000 in
set_option maxHeartbeats 8000000 in
theorem nodeSums_leaf (ve vk : Value) (es ks : List Quad) (x : Int) (w : World) (wx : (Lit.int .i64 x).wf = true) (He : Quads w ve es) (Hk : Quads w vk ks) (hM : ndMay true es ks) :
    Calls Try.prog 14 #[.agg #[.bool true, ve, vk], .int .i64 x] w fun e w' => e = .returned (.bool true) ∧ Below w.heap.size w w' := by
  have hm : 1 ≤ es.length ∧ es.length ≤ 12 ∧ ks = [] := by
    rcases hM with h | h
    · exact ⟨h.2.2.2.1, h.2.2.2.2.1, h.2.1⟩
    · exact absurd h.1 (by decide)
  obtain ⟨hl1, hl12, rfl⟩ := hm
  obtain ⟨a, cap, rfl, hc1, hc2, hcs⟩ := He.open
  obtain ⟨ma, mc, rfl⟩ := Hk.form
  unfold maxLen at hc2
  obtain ⟨b, o, rfl, hbl, -⟩ := hcs (by omega)
  have hx01 : -9223372036854775808 ≤ x ∧ x ≤ 9223372036854775807 := by
    have hmax : IntKind.i64.max = 9223372036854775807 := rfl
    have hmin : IntKind.i64.min = -9223372036854775808 := rfl
    simp only [Lit.wf, Bool.and_eq_true, decide_eq_true_eq] at wx
    omega
  obtain ⟨hx0, hx1⟩ := hx01
  have p0 := Int.emod_nonneg x (show ((es.length : Int) + 1) ≠ 0 by omega)
  have p1 := Int.emod_lt_of_pos x (show 0 < ((es.length : Int) + 1) by omega)
  obtain ⟨k, hk⟩ := Int.eq_ofNat_of_zero_le p0
  rw [hk] at p1
  have hkl : k ≤ es.length := by omega
  have HKX := Lib.hid (show x % ((es.length : Int) + 1) = ((k : Nat) : Int) from hk)
  have HE := Lib.hid He
  have HK := Lib.hid Hk
  have HMM := Lib.hid hM
  have HD := Lib.hid (decide_eq_true hM)
  have hw0 := below_new (Below.refl _ w) (ndBox true (.slice (some ⟨b, o, none⟩) es.length cap) (.slice ma 0 mc))
  have HX0 := Lib.hid (show (w.alloc (ndBox true (.slice (some ⟨b, o, none⟩) es.length cap) (.slice ma 0 mc))).heap[w.heap.size]? = some (ndBox true (.slice (some ⟨b, o, none⟩) es.length cap) (.slice ma 0 mc)) from heap_last rfl)
  clear He Hk hM wx p0 p1 hk hcs
  simp only [List.length_nil] at *
  go_enter Try.func14, Try.ntmps14
  go_wp2_with fail
  refine (awake13_any _).mono ?_
  rintro e w1 ⟨rfl, hx⟩
  have hw1 := below_step hw0 hx
  have HX1 := Lib.hid (box_below HX0.out hx)
  obtain ⟨y0, y1, y2⟩ := ndBox_cells HX1.out
  clear hx hw0 HX0
  go_wp2_with fail
  refine (nodeMay_any true _ _ _ _ _ (Has.below HE.out hw1) (Has.below HK.out hw1) (by first | omega | decide) (by first | omega | decide)).mono ?_
  rintro e w2 ⟨rfl, hx⟩
  rw [HD.out]
  have hw2 := below_step hw1 hx
  have HX2 := Lib.hid (box_below HX1.out hx)
  clear hx hw1 HX1 y0 y1 y2
  obtain ⟨y0, y1, y2⟩ := ndBox_cells HX2.out
  have hz2 := (Array.getElem?_eq_some_iff.1 HX2.out).1
  have hne := World.new_ne w2 _ y0
  go_wp2_with fail
  go_region_held3 (fun w' => w'.cell? ⟨w.heap.size, 0, none⟩ = some (.bool true))
    (go_keep)
    (first | fail "no arm")
  · have hsp := SpSt.start1 HX2.out hw2 true (.slice none 0 0) (.slice none 0 0)
    obtain ⟨wn, hwn⟩ : ∃ y, y = ((w2.alloc (.cells #[.bool true, .slice none 0 0, .slice none 0 0] 56)).alloc (.cells #[.bool true, .slice none 0 0, .slice none 0 0] 56)).drew := ⟨_, rfl⟩
    obtain ⟨n5, hn5⟩ : ∃ y, y = w2.heap.size := ⟨_, rfl⟩
    obtain ⟨n6, hn6⟩ : ∃ y, y = w2.heap.size + 1 := ⟨_, rfl⟩
    replace hsp : SpSt w (ndBox true (.slice (some ⟨b, o, none⟩) es.length cap) (.slice ma 0 mc)) n5 n6 true (.slice none 0 0) (.slice none 0 0) true (.slice none 0 0) (.slice none 0 0) wn := by rw [hn5, hn6, hwn]; exact hsp
    rw [← hwn, ← hn6, ← hn5]
    have HSP := Lib.hid hsp
    clear hsp hwn hn5 hn6 hne hz2 y0 y1 y2 hw2 HX2
    obtain ⟨y0, y1, y2⟩ := ndBox_cells HSP.out.bx
    have hz2 := (Array.getElem?_eq_some_iff.1 HSP.out.bx).1
    go_wp2_with fail
    refine (pick_any x ((es.length : Int) + 1) _ (by omega) (by omega) hx0 hx1).mono ?_
    rintro e w' ⟨rfl, rfl⟩
    rw [HKX.out]
    obtain ⟨a0, a1, a2⟩ := ndBox_cells HSP.out.b5
    obtain ⟨b0, b1, b2⟩ := ndBox_cells HSP.out.b6
    have g5 := ndBox_free HSP.out.b5 1
    have g6 := ndBox_free HSP.out.b6 1
    have m5 := HSP.out.h5
    have m6 := HSP.out.h6
    have m56 := HSP.out.h56
    have m65 := Ne.symm m56
    have j5 : n5 ≠ w.heap.size := by omega
    have j6 : n6 ≠ w.heap.size := by omega
    have k0 : (0 : Int) ≤ (k : Int) := by omega
    have k1 : (k : Int) ≤ (cap : Int) := by omega
    have k2 : (k : Int) ≤ (es.length : Int) := by omega
    by_cases hck : cap = k
    · obtain rfl : k = cap := hck.symm
      go_wp2_with fail
      go_region_held3 (fun w' => w'.cell? ⟨w.heap.size, 1, none⟩ = some (.slice (some ⟨b, o, none⟩) es.length k))
        (go_keep)
        (first | fail "no arm")
      all_goals
        obtain ⟨wm, hwm⟩ : ∃ y, y = ((wn.setCell ⟨n5, 1, none⟩ (.slice (some ⟨b, o, none⟩) k k)).setCell ⟨n6, 1, none⟩ (.slice (some ⟨b, o, none⟩) 0 0)).drew := ⟨_, rfl⟩
        have HS2 := Lib.hid (show SpSt w (ndBox true (.slice (some ⟨b, o, none⟩) es.length k) (.slice ma 0 mc)) n5 n6 true (.slice (some ⟨b, o, none⟩) k k) (.slice none 0 0) true (.slice (some ⟨b, o, none⟩) 0 0) (.slice none 0 0) wm by rw [hwm]; exact ((HSP.out.set5 (.slice (some ⟨b, o, none⟩) k k)).set6 (.slice (some ⟨b, o, none⟩) 0 0)).drew)
        have HN := Lib.hid HE.out
        have HVA := Lib.hid (show Quads w (.slice (some ⟨b, o, none⟩) k k) (es.take k) by
          have := Quads.part HN.out 0 k k (by omega) (by omega) (by unfold maxLen; omega)
          simpa using this)
        have HVB := Lib.hid (show Quads w (.slice (some ⟨b, o, none⟩) 0 0) (es.drop k) by
          have e1 : es.drop k = [] := List.drop_eq_nil_of_le (by omega)
          rw [e1]; exact Quads.empty _ _ _ (by decide))
        rw [← hwm]
        have lA : (es.take k).length ≤ 12 := by simp; omega
        have lB : (es.drop k).length ≤ 12 := by simp; omega
        clear hwm HSP y0 y1 y2 hz2 a0 a1 a2 b0 b1 b2 g5 g6 m5 m6 m56 m65 j5 j6
        obtain ⟨a0, a1, a2⟩ := ndBox_cells HS2.out.b5
        obtain ⟨b0, b1, b2⟩ := ndBox_cells HS2.out.b6
        by_cases hA : ndMay true (es.take k) []
        · have HDA := Lib.hid (decide_eq_true hA)
          go_wp2_with fail
          ((with_reducible refine (nodeMay_any true _ _ (es.take k) [] _ (Quads.below HVA.out HS2.out.bl) (Quads.nil _) (by first | omega | decide) (by first | omega | decide)).mono ?_))
          rintro e w3 ⟨rfl, hx⟩
          rw [HDA.out]
          have HS3 := Lib.hid (HS2.out.below hx)
          clear hx HS2 a0 a1 a2 b0 b1 b2
          obtain ⟨a0, a1, a2⟩ := ndBox_cells HS3.out.b5
          obtain ⟨b0, b1, b2⟩ := ndBox_cells HS3.out.b6
          by_cases hB : ndMay true (es.drop k) []
          · have HDB := Lib.hid (decide_eq_true hB)
            have HSU := Lib.hid (sm_leaf HMM.out hA hB)
            clear hA hB
            go_wp2_with fail
            ((with_reducible refine (nodeMay_any true _ _ (es.drop k) [] _ (Quads.below HVB.out HS3.out.bl) (Quads.nil _) (by first | omega | decide) (by first | omega | decide)).mono ?_))
            rintro e w4 ⟨rfl, hx⟩
            rw [HDB.out]
            have HS4 := Lib.hid (HS3.out.below hx)
            clear hx HS3 a0 a1 a2 b0 b1 b2
            obtain ⟨a0, a1, a2⟩ := ndBox_cells HS4.out.b5
            obtain ⟨X, hX⟩ : ∃ y, smB true (es.take k) [] = y := ⟨_, rfl⟩
            obtain ⟨Y, hY⟩ : ∃ y, smB true (es.drop k) [] = y := ⟨_, rfl⟩
            obtain ⟨Z, hZ⟩ : ∃ y, smB true es [] = y := ⟨_, rfl⟩
            obtain ⟨L, hL⟩ : ∃ y, smL true (es.take k) [] = y := ⟨_, rfl⟩
            obtain ⟨M, hM⟩ : ∃ y, smL true (es.drop k) [] = y := ⟨_, rfl⟩
            obtain ⟨O, hO⟩ : ∃ y, smL true es [] = y := ⟨_, rfl⟩
            obtain ⟨P, hP⟩ : ∃ y, smS true (es.take k) [] = y := ⟨_, rfl⟩
            obtain ⟨Q, hQ⟩ : ∃ y, smS true (es.drop k) [] = y := ⟨_, rfl⟩
            obtain ⟨A, hAA⟩ : ∃ y, smS true es [] = y := ⟨_, rfl⟩
            have hsu := HSU.out
            rw [hX, hY, hZ, hL, hM, hO, hP, hQ, hAA] at hsu
            obtain ⟨s1, s2, s3, s4, s5, s6, s7, s8, s9⟩ := hsu
            have HX := Lib.hid (show smB true (es.take k) [] = X ∧ smL true (es.take k) [] = L ∧ smS true (es.take k) [] = P from ⟨hX, hL, hP⟩)
            have HY := Lib.hid (show smB true (es.drop k) [] = Y ∧ smL true (es.drop k) [] = M ∧ smS true (es.drop k) [] = Q from ⟨hY, hM, hQ⟩)
            have HZ := Lib.hid (show smB true es [] = Z ∧ smL true es [] = O ∧ smS true es [] = A from ⟨hZ, hO, hAA⟩)
            have HS123 := Lib.hid (show Z = X + Y ∧ A = P + Q ∧ O = (if L < 0 ∨ M < 0 then -1 else L + M) from ⟨s1, s2, s3⟩)
            clear hX hY hZ hL hM hO hP hQ hAA s1 s2 s3 HSU
            go_wp2_with fail
            ((with_reducible refine (nodeSum_any true _ _ (es.take k) [] _ (Quads.below HVA.out HS4.out.bl) (Quads.nil _) (by first | omega | decide) (by first | omega | decide)).mono ?_))
            rintro e w5 ⟨rfl, hx⟩
            rw [HX.out.1, HX.out.2.1, HX.out.2.2]
            have HS5 := Lib.hid (HS4.out.below hx)
            clear hx HS4 a0 a1 a2
            obtain ⟨b0, b1, b2⟩ := ndBox_cells HS5.out.b6
            go_wp2_with fail
            ((with_reducible refine (nodeSum_any true _ _ (es.drop k) [] _ (Quads.below HVB.out HS5.out.bl) (Quads.nil _) (by first | omega | decide) (by first | omega | decide)).mono ?_))
            rintro e w6 ⟨rfl, hx⟩
            rw [HY.out.1, HY.out.2.1, HY.out.2.2]
            have HS6 := Lib.hid (HS5.out.below hx)
            clear hx HS5 b0 b1 b2
            obtain ⟨y0, y1, y2⟩ := ndBox_cells HS6.out.bx
            go_wp2_with fail
            ((with_reducible refine (nodeSum_any true _ _ es [] _ (Quads.below HE.out HS6.out.bl) (Quads.below HK.out HS6.out.bl) (by first | omega | decide) (by first | omega | decide)).mono ?_))
            rintro e w7 ⟨rfl, hx⟩
            rw [HZ.out.1, HZ.out.2.1, HZ.out.2.2]
            have hw7 := below_step HS6.out.bl hx
            clear hx y0 y1 y2 HS6 HX HY HZ
            obtain ⟨s1, s2, s3⟩ := HS123.out
            have u1 := IntWalk.i64_in (X + Y) (by omega)
            have u2 := IntWalk.i64_in (P + Q) (by omega)
            clear HS123
            subst s1
            subst s2
            by_cases h1 : L < 0
            · obtain rfl : L = -1 := by omega
              rw [if_pos (.inl (by decide))] at s3
              subst s3
              go_wp2_with fail
              go_ret
              exact ⟨by simp, hw7⟩
            · have v1 : (L == -1) = false := by rw [beq_eq_false_iff_ne]; omega
              by_cases h2 : M < 0
              · obtain rfl : M = -1 := by omega
                rw [if_pos (.inr (by decide))] at s3
                subst s3
                go_wp2_with fail
                go_ret
                exact ⟨by simp, hw7⟩
              · have v2 : (M == -1) = false := by rw [beq_eq_false_iff_ne]; omega
                rw [if_neg (by omega)] at s3
                subst s3
                have v3 : (L + M == -1) = false := by rw [beq_eq_false_iff_ne]; omega
                have u3 := IntWalk.i64_in (L + M) (by omega)
                go_wp2_with fail
                go_ret
                exact ⟨by simp, hw7⟩
          · have HDB := Lib.hid (decide_eq_false hB)
            clear hA hB
            go_wp2_with fail
            ((with_reducible refine (nodeMay_any true _ _ (es.drop k) [] _ (Quads.below HVB.out HS3.out.bl) (Quads.nil _) (by first | omega | decide) (by first | omega | decide)).mono ?_))
            rintro e w4 ⟨rfl, hx⟩
            rw [HDB.out]
            have hw4 := below_step HS3.out.bl hx
            go_wp2_with fail
            go_ret
            exact ⟨rfl, hw4⟩
        · have HDA := Lib.hid (decide_eq_false hA)
          clear hA
          go_wp2_with fail
          ((with_reducible refine (nodeMay_any true _ _ (es.take k) [] _ (Quads.below HVA.out HS2.out.bl) (Quads.nil _) (by first | omega | decide) (by first | omega | decide)).mono ?_))
          rintro e w3 ⟨rfl, hx⟩
          rw [HDA.out]
          have hw3 := below_step HS2.out.bl hx
          go_wp2_with fail
          go_ret
          exact ⟨rfl, hw3⟩
    · go_wp2_with fail
      go_region_held3 (fun w' => w'.cell? ⟨w.heap.size, 1, none⟩ = some (.slice (some ⟨b, o, none⟩) es.length cap))
        (go_keep)
        (first | fail "no arm")
      all_goals
        obtain ⟨wm, hwm⟩ : ∃ y, y = ((wn.setCell ⟨n5, 1, none⟩ (.slice (some ⟨b, o, none⟩) k k)).setCell ⟨n6, 1, none⟩ (.slice (some ⟨b, o + k * 4, none⟩) (es.length - k) (cap - k))).drew := ⟨_, rfl⟩
        have HS2 := Lib.hid (show SpSt w (ndBox true (.slice (some ⟨b, o, none⟩) es.length cap) (.slice ma 0 mc)) n5 n6 true (.slice (some ⟨b, o, none⟩) k k) (.slice none 0 0) true (.slice (some ⟨b, o + k * 4, none⟩) (es.length - k) (cap - k)) (.slice none 0 0) wm by rw [hwm]; exact ((HSP.out.set5 (.slice (some ⟨b, o, none⟩) k k)).set6 (.slice (some ⟨b, o + k * 4, none⟩) (es.length - k) (cap - k))).drew)
        have HN := Lib.hid HE.out
        have HVA := Lib.hid (show Quads w (.slice (some ⟨b, o, none⟩) k k) (es.take k) by
          have := Quads.part HN.out 0 k k (by omega) (by omega) (by unfold maxLen; omega)
          simpa using this)
        have HVB := Lib.hid (show Quads w (.slice (some ⟨b, o + k * 4, none⟩) (es.length - k) (cap - k)) (es.drop k) by
          have := Quads.part HN.out k (es.length - k) (cap - k) (by omega) (by omega) (by unfold maxLen; omega)
          rw [List.take_of_length_le (by simp)] at this
          exact this)
        rw [← hwm]
        have lA : (es.take k).length ≤ 12 := by simp; omega
        have lB : (es.drop k).length ≤ 12 := by simp; omega
        clear hwm HSP y0 y1 y2 hz2 a0 a1 a2 b0 b1 b2 g5 g6 m5 m6 m56 m65 j5 j6
        obtain ⟨a0, a1, a2⟩ := ndBox_cells HS2.out.b5
        obtain ⟨b0, b1, b2⟩ := ndBox_cells HS2.out.b6
        by_cases hA : ndMay true (es.take k) []
        · have HDA := Lib.hid (decide_eq_true hA)
          go_wp2_with fail
          ((with_reducible refine (nodeMay_any true _ _ (es.take k) [] _ (Quads.below HVA.out HS2.out.bl) (Quads.nil _) (by first | omega | decide) (by first | omega | decide)).mono ?_))
          rintro e w3 ⟨rfl, hx⟩
          rw [HDA.out]
          have HS3 := Lib.hid (HS2.out.below hx)
          clear hx HS2 a0 a1 a2 b0 b1 b2
          obtain ⟨a0, a1, a2⟩ := ndBox_cells HS3.out.b5
          obtain ⟨b0, b1, b2⟩ := ndBox_cells HS3.out.b6
          by_cases hB : ndMay true (es.drop k) []
          · have HDB := Lib.hid (decide_eq_true hB)
            have HSU := Lib.hid (sm_leaf HMM.out hA hB)
            clear hA hB
            go_wp2_with fail
            ((with_reducible refine (nodeMay_any true _ _ (es.drop k) [] _ (Quads.below HVB.out HS3.out.bl) (Quads.nil _) (by first | omega | decide) (by first | omega | decide)).mono ?_))
            rintro e w4 ⟨rfl, hx⟩
            rw [HDB.out]
            have HS4 := Lib.hid (HS3.out.below hx)
            clear hx HS3 a0 a1 a2 b0 b1 b2
            obtain ⟨a0, a1, a2⟩ := ndBox_cells HS4.out.b5
            obtain ⟨X, hX⟩ : ∃ y, smB true (es.take k) [] = y := ⟨_, rfl⟩
            obtain ⟨Y, hY⟩ : ∃ y, smB true (es.drop k) [] = y := ⟨_, rfl⟩
            obtain ⟨Z, hZ⟩ : ∃ y, smB true es [] = y := ⟨_, rfl⟩
            obtain ⟨L, hL⟩ : ∃ y, smL true (es.take k) [] = y := ⟨_, rfl⟩
            obtain ⟨M, hM⟩ : ∃ y, smL true (es.drop k) [] = y := ⟨_, rfl⟩
            obtain ⟨O, hO⟩ : ∃ y, smL true es [] = y := ⟨_, rfl⟩
            obtain ⟨P, hP⟩ : ∃ y, smS true (es.take k) [] = y := ⟨_, rfl⟩
            obtain ⟨Q, hQ⟩ : ∃ y, smS true (es.drop k) [] = y := ⟨_, rfl⟩
            obtain ⟨A, hAA⟩ : ∃ y, smS true es [] = y := ⟨_, rfl⟩
            have hsu := HSU.out
            rw [hX, hY, hZ, hL, hM, hO, hP, hQ, hAA] at hsu
            obtain ⟨s1, s2, s3, s4, s5, s6, s7, s8, s9⟩ := hsu
            have HX := Lib.hid (show smB true (es.take k) [] = X ∧ smL true (es.take k) [] = L ∧ smS true (es.take k) [] = P from ⟨hX, hL, hP⟩)
            have HY := Lib.hid (show smB true (es.drop k) [] = Y ∧ smL true (es.drop k) [] = M ∧ smS true (es.drop k) [] = Q from ⟨hY, hM, hQ⟩)
            have HZ := Lib.hid (show smB true es [] = Z ∧ smL true es [] = O ∧ smS true es [] = A from ⟨hZ, hO, hAA⟩)
            have HS123 := Lib.hid (show Z = X + Y ∧ A = P + Q ∧ O = (if L < 0 ∨ M < 0 then -1 else L + M) from ⟨s1, s2, s3⟩)
            clear hX hY hZ hL hM hO hP hQ hAA s1 s2 s3 HSU
            go_wp2_with fail
            ((with_reducible refine (nodeSum_any true _ _ (es.take k) [] _ (Quads.below HVA.out HS4.out.bl) (Quads.nil _) (by first | omega | decide) (by first | omega | decide)).mono ?_))
            rintro e w5 ⟨rfl, hx⟩
            rw [HX.out.1, HX.out.2.1, HX.out.2.2]
            have HS5 := Lib.hid (HS4.out.below hx)
            clear hx HS4 a0 a1 a2
            obtain ⟨b0, b1, b2⟩ := ndBox_cells HS5.out.b6
            go_wp2_with fail
            ((with_reducible refine (nodeSum_any true _ _ (es.drop k) [] _ (Quads.below HVB.out HS5.out.bl) (Quads.nil _) (by first | omega | decide) (by first | omega | decide)).mono ?_))
            rintro e w6 ⟨rfl, hx⟩
            rw [HY.out.1, HY.out.2.1, HY.out.2.2]
            have HS6 := Lib.hid (HS5.out.below hx)
            clear hx HS5 b0 b1 b2
            obtain ⟨y0, y1, y2⟩ := ndBox_cells HS6.out.bx
            go_wp2_with fail
            ((with_reducible refine (nodeSum_any true _ _ es [] _ (Quads.below HE.out HS6.out.bl) (Quads.below HK.out HS6.out.bl) (by first | omega | decide) (by first | omega | decide)).mono ?_))
            rintro e w7 ⟨rfl, hx⟩
            rw [HZ.out.1, HZ.out.2.1, HZ.out.2.2]
            have hw7 := below_step HS6.out.bl hx
            clear hx y0 y1 y2 HS6 HX HY HZ
            obtain ⟨s1, s2, s3⟩ := HS123.out
            have u1 := IntWalk.i64_in (X + Y) (by omega)
            have u2 := IntWalk.i64_in (P + Q) (by omega)
            clear HS123
            subst s1
            subst s2
            by_cases h1 : L < 0
            · obtain rfl : L = -1 := by omega
              rw [if_pos (.inl (by decide))] at s3
              subst s3
              go_wp2_with fail
              go_ret
              exact ⟨by simp, hw7⟩
            · have v1 : (L == -1) = false := by rw [beq_eq_false_iff_ne]; omega
              by_cases h2 : M < 0
              · obtain rfl : M = -1 := by omega
                rw [if_pos (.inr (by decide))] at s3
                subst s3
                go_wp2_with fail
                go_ret
                exact ⟨by simp, hw7⟩
              · have v2 : (M == -1) = false := by rw [beq_eq_false_iff_ne]; omega
                rw [if_neg (by omega)] at s3
                subst s3
                have v3 : (L + M == -1) = false := by rw [beq_eq_false_iff_ne]; omega
                have u3 := IntWalk.i64_in (L + M) (by omega)
                go_wp2_with fail
                go_ret
                exact ⟨by simp, hw7⟩
          · have HDB := Lib.hid (decide_eq_false hB)
            clear hA hB
            go_wp2_with fail
            ((with_reducible refine (nodeMay_any true _ _ (es.drop k) [] _ (Quads.below HVB.out HS3.out.bl) (Quads.nil _) (by first | omega | decide) (by first | omega | decide)).mono ?_))
            rintro e w4 ⟨rfl, hx⟩
            rw [HDB.out]
            have hw4 := below_step HS3.out.bl hx
            go_wp2_with fail
            go_ret
            exact ⟨rfl, hw4⟩
        · have HDA := Lib.hid (decide_eq_false hA)
          clear hA
          go_wp2_with fail
          ((with_reducible refine (nodeMay_any true _ _ (es.take k) [] _ (Quads.below HVA.out HS2.out.bl) (Quads.nil _) (by first | omega | decide) (by first | omega | decide)).mono ?_))
          rintro e w3 ⟨rfl, hx⟩
          rw [HDA.out]
          have hw3 := below_step HS2.out.bl hx
          go_wp2_with fail
          go_ret
          exact ⟨rfl, hw3⟩
  · have hsp := SpSt.start2 HX2.out hw2 true (.slice none 0 0) (.slice none 0 0)
    obtain ⟨wn, hwn⟩ : ∃ y, y = ((w2.alloc (.cells #[.bool true, .slice none 0 0, .slice none 0 0] 56)).alloc (.cells #[.bool true, .slice none 0 0, .slice none 0 0] 56)).drew := ⟨_, rfl⟩
    obtain ⟨n5, hn5⟩ : ∃ y, y = w2.heap.size + 1 := ⟨_, rfl⟩
    obtain ⟨n6, hn6⟩ : ∃ y, y = w2.heap.size := ⟨_, rfl⟩
    replace hsp : SpSt w (ndBox true (.slice (some ⟨b, o, none⟩) es.length cap) (.slice ma 0 mc)) n5 n6 true (.slice none 0 0) (.slice none 0 0) true (.slice none 0 0) (.slice none 0 0) wn := by rw [hn5, hn6, hwn]; exact hsp
    rw [← hwn, ← hn5, ← hn6]
    have HSP := Lib.hid hsp
    clear hsp hwn hn5 hn6 hne hz2 y0 y1 y2 hw2 HX2
    obtain ⟨y0, y1, y2⟩ := ndBox_cells HSP.out.bx
    have hz2 := (Array.getElem?_eq_some_iff.1 HSP.out.bx).1
    go_wp2_with fail
    refine (pick_any x ((es.length : Int) + 1) _ (by omega) (by omega) hx0 hx1).mono ?_
    rintro e w' ⟨rfl, rfl⟩
    rw [HKX.out]
    obtain ⟨a0, a1, a2⟩ := ndBox_cells HSP.out.b5
    obtain ⟨b0, b1, b2⟩ := ndBox_cells HSP.out.b6
    have g5 := ndBox_free HSP.out.b5 1
    have g6 := ndBox_free HSP.out.b6 1
    have m5 := HSP.out.h5
    have m6 := HSP.out.h6
    have m56 := HSP.out.h56
    have m65 := Ne.symm m56
    have j5 : n5 ≠ w.heap.size := by omega
    have j6 : n6 ≠ w.heap.size := by omega
    have k0 : (0 : Int) ≤ (k : Int) := by omega
    have k1 : (k : Int) ≤ (cap : Int) := by omega
    have k2 : (k : Int) ≤ (es.length : Int) := by omega
    by_cases hck : cap = k
    · obtain rfl : k = cap := hck.symm
      go_wp2_with fail
      go_region_held3 (fun w' => w'.cell? ⟨w.heap.size, 1, none⟩ = some (.slice (some ⟨b, o, none⟩) es.length k))
        (go_keep)
        (first | fail "no arm")
      all_goals
        obtain ⟨wm, hwm⟩ : ∃ y, y = ((wn.setCell ⟨n5, 1, none⟩ (.slice (some ⟨b, o, none⟩) k k)).setCell ⟨n6, 1, none⟩ (.slice (some ⟨b, o, none⟩) 0 0)).drew := ⟨_, rfl⟩
        have HS2 := Lib.hid (show SpSt w (ndBox true (.slice (some ⟨b, o, none⟩) es.length k) (.slice ma 0 mc)) n5 n6 true (.slice (some ⟨b, o, none⟩) k k) (.slice none 0 0) true (.slice (some ⟨b, o, none⟩) 0 0) (.slice none 0 0) wm by rw [hwm]; exact ((HSP.out.set5 (.slice (some ⟨b, o, none⟩) k k)).set6 (.slice (some ⟨b, o, none⟩) 0 0)).drew)
        have HN := Lib.hid HE.out
        have HVA := Lib.hid (show Quads w (.slice (some ⟨b, o, none⟩) k k) (es.take k) by
          have := Quads.part HN.out 0 k k (by omega) (by omega) (by unfold maxLen; omega)
          simpa using this)
        have HVB := Lib.hid (show Quads w (.slice (some ⟨b, o, none⟩) 0 0) (es.drop k) by
          have e1 : es.drop k = [] := List.drop_eq_nil_of_le (by omega)
          rw [e1]; exact Quads.empty _ _ _ (by decide))
        rw [← hwm]
        have lA : (es.take k).length ≤ 12 := by simp; omega
        have lB : (es.drop k).length ≤ 12 := by simp; omega
        clear hwm HSP y0 y1 y2 hz2 a0 a1 a2 b0 b1 b2 g5 g6 m5 m6 m56 m65 j5 j6
        obtain ⟨a0, a1, a2⟩ := ndBox_cells HS2.out.b5
        obtain ⟨b0, b1, b2⟩ := ndBox_cells HS2.out.b6
        by_cases hA : ndMay true (es.take k) []
        · have HDA := Lib.hid (decide_eq_true hA)
          go_wp2_with fail
          ((with_reducible refine (nodeMay_any true _ _ (es.take k) [] _ (Quads.below HVA.out HS2.out.bl) (Quads.nil _) (by first | omega | decide) (by first | omega | decide)).mono ?_))
          rintro e w3 ⟨rfl, hx⟩
          rw [HDA.out]
          have HS3 := Lib.hid (HS2.out.below hx)
          clear hx HS2 a0 a1 a2 b0 b1 b2
          obtain ⟨a0, a1, a2⟩ := ndBox_cells HS3.out.b5
          obtain ⟨b0, b1, b2⟩ := ndBox_cells HS3.out.b6
          by_cases hB : ndMay true (es.drop k) []
          · have HDB := Lib.hid (decide_eq_true hB)
            have HSU := Lib.hid (sm_leaf HMM.out hA hB)
            clear hA hB
            go_wp2_with fail
            ((with_reducible refine (nodeMay_any true _ _ (es.drop k) [] _ (Quads.below HVB.out HS3.out.bl) (Quads.nil _) (by first | omega | decide) (by first | omega | decide)).mono ?_))
            rintro e w4 ⟨rfl, hx⟩
            rw [HDB.out]
            have HS4 := Lib.hid (HS3.out.below hx)
            clear hx HS3 a0 a1 a2 b0 b1 b2
            obtain ⟨a0, a1, a2⟩ := ndBox_cells HS4.out.b5
            obtain ⟨X, hX⟩ : ∃ y, smB true (es.take k) [] = y := ⟨_, rfl⟩
            obtain ⟨Y, hY⟩ : ∃ y, smB true (es.drop k) [] = y := ⟨_, rfl⟩
            obtain ⟨Z, hZ⟩ : ∃ y, smB true es [] = y := ⟨_, rfl⟩
            obtain ⟨L, hL⟩ : ∃ y, smL true (es.take k) [] = y := ⟨_, rfl⟩
            obtain ⟨M, hM⟩ : ∃ y, smL true (es.drop k) [] = y := ⟨_, rfl⟩
            obtain ⟨O, hO⟩ : ∃ y, smL true es [] = y := ⟨_, rfl⟩
            obtain ⟨P, hP⟩ : ∃ y, smS true (es.take k) [] = y := ⟨_, rfl⟩
            obtain ⟨Q, hQ⟩ : ∃ y, smS true (es.drop k) [] = y := ⟨_, rfl⟩
            obtain ⟨A, hAA⟩ : ∃ y, smS true es [] = y := ⟨_, rfl⟩
            have hsu := HSU.out
            rw [hX, hY, hZ, hL, hM, hO, hP, hQ, hAA] at hsu
            obtain ⟨s1, s2, s3, s4, s5, s6, s7, s8, s9⟩ := hsu
            have HX := Lib.hid (show smB true (es.take k) [] = X ∧ smL true (es.take k) [] = L ∧ smS true (es.take k) [] = P from ⟨hX, hL, hP⟩)
            have HY := Lib.hid (show smB true (es.drop k) [] = Y ∧ smL true (es.drop k) [] = M ∧ smS true (es.drop k) [] = Q from ⟨hY, hM, hQ⟩)
            have HZ := Lib.hid (show smB true es [] = Z ∧ smL true es [] = O ∧ smS true es [] = A from ⟨hZ, hO, hAA⟩)
            have HS123 := Lib.hid (show Z = X + Y ∧ A = P + Q ∧ O = (if L < 0 ∨ M < 0 then -1 else L + M) from ⟨s1, s2, s3⟩)
            clear hX hY hZ hL hM hO hP hQ hAA s1 s2 s3 HSU
            go_wp2_with fail
            ((with_reducible refine (nodeSum_any true _ _ (es.take k) [] _ (Quads.below HVA.out HS4.out.bl) (Quads.nil _) (by first | omega | decide) (by first | omega | decide)).mono ?_))
            rintro e w5 ⟨rfl, hx⟩
            rw [HX.out.1, HX.out.2.1, HX.out.2.2]
            have HS5 := Lib.hid (HS4.out.below hx)
            clear hx HS4 a0 a1 a2
            obtain ⟨b0, b1, b2⟩ := ndBox_cells HS5.out.b6
            go_wp2_with fail
            ((with_reducible refine (nodeSum_any true _ _ (es.drop k) [] _ (Quads.below HVB.out HS5.out.bl) (Quads.nil _) (by first | omega | decide) (by first | omega | decide)).mono ?_))
            rintro e w6 ⟨rfl, hx⟩
            rw [HY.out.1, HY.out.2.1, HY.out.2.2]
            have HS6 := Lib.hid (HS5.out.below hx)
            clear hx HS5 b0 b1 b2
            obtain ⟨y0, y1, y2⟩ := ndBox_cells HS6.out.bx
            go_wp2_with fail
            ((with_reducible refine (nodeSum_any true _ _ es [] _ (Quads.below HE.out HS6.out.bl) (Quads.below HK.out HS6.out.bl) (by first | omega | decide) (by first | omega | decide)).mono ?_))
            rintro e w7 ⟨rfl, hx⟩
            rw [HZ.out.1, HZ.out.2.1, HZ.out.2.2]
            have hw7 := below_step HS6.out.bl hx
            clear hx y0 y1 y2 HS6 HX HY HZ
            obtain ⟨s1, s2, s3⟩ := HS123.out
            have u1 := IntWalk.i64_in (X + Y) (by omega)
            have u2 := IntWalk.i64_in (P + Q) (by omega)
            clear HS123
            subst s1
            subst s2
            by_cases h1 : L < 0
            · obtain rfl : L = -1 := by omega
              rw [if_pos (.inl (by decide))] at s3
              subst s3
              go_wp2_with fail
              go_ret
              exact ⟨by simp, hw7⟩
            · have v1 : (L == -1) = false := by rw [beq_eq_false_iff_ne]; omega
              by_cases h2 : M < 0
              · obtain rfl : M = -1 := by omega
                rw [if_pos (.inr (by decide))] at s3
                subst s3
                go_wp2_with fail
                go_ret
                exact ⟨by simp, hw7⟩
              · have v2 : (M == -1) = false := by rw [beq_eq_false_iff_ne]; omega
                rw [if_neg (by omega)] at s3
                subst s3
                have v3 : (L + M == -1) = false := by rw [beq_eq_false_iff_ne]; omega
                have u3 := IntWalk.i64_in (L + M) (by omega)
                go_wp2_with fail
                go_ret
                exact ⟨by simp, hw7⟩
          · have HDB := Lib.hid (decide_eq_false hB)
            clear hA hB
            go_wp2_with fail
            ((with_reducible refine (nodeMay_any true _ _ (es.drop k) [] _ (Quads.below HVB.out HS3.out.bl) (Quads.nil _) (by first | omega | decide) (by first | omega | decide)).mono ?_))
            rintro e w4 ⟨rfl, hx⟩
            rw [HDB.out]
            have hw4 := below_step HS3.out.bl hx
            go_wp2_with fail
            go_ret
            exact ⟨rfl, hw4⟩
        · have HDA := Lib.hid (decide_eq_false hA)
          clear hA
          go_wp2_with fail
          ((with_reducible refine (nodeMay_any true _ _ (es.take k) [] _ (Quads.below HVA.out HS2.out.bl) (Quads.nil _) (by first | omega | decide) (by first | omega | decide)).mono ?_))
          rintro e w3 ⟨rfl, hx⟩
          rw [HDA.out]
          have hw3 := below_step HS2.out.bl hx
          go_wp2_with fail
          go_ret
          exact ⟨rfl, hw3⟩
    · go_wp2_with fail
      go_region_held3 (fun w' => w'.cell? ⟨w.heap.size, 1, none⟩ = some (.slice (some ⟨b, o, none⟩) es.length cap))
        (go_keep)
        (first | fail "no arm")
      all_goals
        obtain ⟨wm, hwm⟩ : ∃ y, y = ((wn.setCell ⟨n5, 1, none⟩ (.slice (some ⟨b, o, none⟩) k k)).setCell ⟨n6, 1, none⟩ (.slice (some ⟨b, o + k * 4, none⟩) (es.length - k) (cap - k))).drew := ⟨_, rfl⟩
        have HS2 := Lib.hid (show SpSt w (ndBox true (.slice (some ⟨b, o, none⟩) es.length cap) (.slice ma 0 mc)) n5 n6 true (.slice (some ⟨b, o, none⟩) k k) (.slice none 0 0) true (.slice (some ⟨b, o + k * 4, none⟩) (es.length - k) (cap - k)) (.slice none 0 0) wm by rw [hwm]; exact ((HSP.out.set5 (.slice (some ⟨b, o, none⟩) k k)).set6 (.slice (some ⟨b, o + k * 4, none⟩) (es.length - k) (cap - k))).drew)
        have HN := Lib.hid HE.out
        have HVA := Lib.hid (show Quads w (.slice (some ⟨b, o, none⟩) k k) (es.take k) by
          have := Quads.part HN.out 0 k k (by omega) (by omega) (by unfold maxLen; omega)
          simpa using this)
        have HVB := Lib.hid (show Quads w (.slice (some ⟨b, o + k * 4, none⟩) (es.length - k) (cap - k)) (es.drop k) by
          have := Quads.part HN.out k (es.length - k) (cap - k) (by omega) (by omega) (by unfold maxLen; omega)
          rw [List.take_of_length_le (by simp)] at this
          exact this)
        rw [← hwm]
        have lA : (es.take k).length ≤ 12 := by simp; omega
        have lB : (es.drop k).length ≤ 12 := by simp; omega
        clear hwm HSP y0 y1 y2 hz2 a0 a1 a2 b0 b1 b2 g5 g6 m5 m6 m56 m65 j5 j6
        obtain ⟨a0, a1, a2⟩ := ndBox_cells HS2.out.b5
        obtain ⟨b0, b1, b2⟩ := ndBox_cells HS2.out.b6
        by_cases hA : ndMay true (es.take k) []
        · have HDA := Lib.hid (decide_eq_true hA)
          go_wp2_with fail
          ((with_reducible refine (nodeMay_any true _ _ (es.take k) [] _ (Quads.below HVA.out HS2.out.bl) (Quads.nil _) (by first | omega | decide) (by first | omega | decide)).mono ?_))
          rintro e w3 ⟨rfl, hx⟩
          rw [HDA.out]
          have HS3 := Lib.hid (HS2.out.below hx)
          clear hx HS2 a0 a1 a2 b0 b1 b2
          obtain ⟨a0, a1, a2⟩ := ndBox_cells HS3.out.b5
          obtain ⟨b0, b1, b2⟩ := ndBox_cells HS3.out.b6
          by_cases hB : ndMay true (es.drop k) []
          · have HDB := Lib.hid (decide_eq_true hB)
            have HSU := Lib.hid (sm_leaf HMM.out hA hB)
            clear hA hB
            go_wp2_with fail
            ((with_reducible refine (nodeMay_any true _ _ (es.drop k) [] _ (Quads.below HVB.out HS3.out.bl) (Quads.nil _) (by first | omega | decide) (by first | omega | decide)).mono ?_))
            rintro e w4 ⟨rfl, hx⟩
            rw [HDB.out]
            have HS4 := Lib.hid (HS3.out.below hx)
            clear hx HS3 a0 a1 a2 b0 b1 b2
            obtain ⟨a0, a1, a2⟩ := ndBox_cells HS4.out.b5
            obtain ⟨X, hX⟩ : ∃ y, smB true (es.take k) [] = y := ⟨_, rfl⟩
            obtain ⟨Y, hY⟩ : ∃ y, smB true (es.drop k) [] = y := ⟨_, rfl⟩
            obtain ⟨Z, hZ⟩ : ∃ y, smB true es [] = y := ⟨_, rfl⟩
            obtain ⟨L, hL⟩ : ∃ y, smL true (es.take k) [] = y := ⟨_, rfl⟩
            obtain ⟨M, hM⟩ : ∃ y, smL true (es.drop k) [] = y := ⟨_, rfl⟩
            obtain ⟨O, hO⟩ : ∃ y, smL true es [] = y := ⟨_, rfl⟩
            obtain ⟨P, hP⟩ : ∃ y, smS true (es.take k) [] = y := ⟨_, rfl⟩
            obtain ⟨Q, hQ⟩ : ∃ y, smS true (es.drop k) [] = y := ⟨_, rfl⟩
            obtain ⟨A, hAA⟩ : ∃ y, smS true es [] = y := ⟨_, rfl⟩
            have hsu := HSU.out
            rw [hX, hY, hZ, hL, hM, hO, hP, hQ, hAA] at hsu
            obtain ⟨s1, s2, s3, s4, s5, s6, s7, s8, s9⟩ := hsu
            have HX := Lib.hid (show smB true (es.take k) [] = X ∧ smL true (es.take k) [] = L ∧ smS true (es.take k) [] = P from ⟨hX, hL, hP⟩)
            have HY := Lib.hid (show smB true (es.drop k) [] = Y ∧ smL true (es.drop k) [] = M ∧ smS true (es.drop k) [] = Q from ⟨hY, hM, hQ⟩)
            have HZ := Lib.hid (show smB true es [] = Z ∧ smL true es [] = O ∧ smS true es [] = A from ⟨hZ, hO, hAA⟩)
            have HS123 := Lib.hid (show Z = X + Y ∧ A = P + Q ∧ O = (if L < 0 ∨ M < 0 then -1 else L + M) from ⟨s1, s2, s3⟩)
            clear hX hY hZ hL hM hO hP hQ hAA s1 s2 s3 HSU
            go_wp2_with fail
            ((with_reducible refine (nodeSum_any true _ _ (es.take k) [] _ (Quads.below HVA.out HS4.out.bl) (Quads.nil _) (by first | omega | decide) (by first | omega | decide)).mono ?_))
            rintro e w5 ⟨rfl, hx⟩
            rw [HX.out.1, HX.out.2.1, HX.out.2.2]
            have HS5 := Lib.hid (HS4.out.below hx)
            clear hx HS4 a0 a1 a2
            obtain ⟨b0, b1, b2⟩ := ndBox_cells HS5.out.b6
            go_wp2_with fail
            ((with_reducible refine (nodeSum_any true _ _ (es.drop k) [] _ (Quads.below HVB.out HS5.out.bl) (Quads.nil _) (by first | omega | decide) (by first | omega | decide)).mono ?_))
            rintro e w6 ⟨rfl, hx⟩
            rw [HY.out.1, HY.out.2.1, HY.out.2.2]
            have HS6 := Lib.hid (HS5.out.below hx)
            clear hx HS5 b0 b1 b2
            obtain ⟨y0, y1, y2⟩ := ndBox_cells HS6.out.bx
            go_wp2_with fail
            ((with_reducible refine (nodeSum_any true _ _ es [] _ (Quads.below HE.out HS6.out.bl) (Quads.below HK.out HS6.out.bl) (by first | omega | decide) (by first | omega | decide)).mono ?_))
            rintro e w7 ⟨rfl, hx⟩
            rw [HZ.out.1, HZ.out.2.1, HZ.out.2.2]
            have hw7 := below_step HS6.out.bl hx
            clear hx y0 y1 y2 HS6 HX HY HZ
            obtain ⟨s1, s2, s3⟩ := HS123.out
            have u1 := IntWalk.i64_in (X + Y) (by omega)
            have u2 := IntWalk.i64_in (P + Q) (by omega)
            clear HS123
            subst s1
            subst s2
            by_cases h1 : L < 0
            · obtain rfl : L = -1 := by omega
              rw [if_pos (.inl (by decide))] at s3
              subst s3
              go_wp2_with fail
              go_ret
              exact ⟨by simp, hw7⟩
            · have v1 : (L == -1) = false := by rw [beq_eq_false_iff_ne]; omega
              by_cases h2 : M < 0
              · obtain rfl : M = -1 := by omega
                rw [if_pos (.inr (by decide))] at s3
                subst s3
                go_wp2_with fail
                go_ret
                exact ⟨by simp, hw7⟩
              · have v2 : (M == -1) = false := by rw [beq_eq_false_iff_ne]; omega
                rw [if_neg (by omega)] at s3
                subst s3
                have v3 : (L + M == -1) = false := by rw [beq_eq_false_iff_ne]; omega
                have u3 := IntWalk.i64_in (L + M) (by omega)
                go_wp2_with fail
                go_ret
                exact ⟨by simp, hw7⟩
          · have HDB := Lib.hid (decide_eq_false hB)
            clear hA hB
            go_wp2_with fail
            ((with_reducible refine (nodeMay_any true _ _ (es.drop k) [] _ (Quads.below HVB.out HS3.out.bl) (Quads.nil _) (by first | omega | decide) (by first | omega | decide)).mono ?_))
            rintro e w4 ⟨rfl, hx⟩
            rw [HDB.out]
            have hw4 := below_step HS3.out.bl hx
            go_wp2_with fail
            go_ret
            exact ⟨rfl, hw4⟩
        · have HDA := Lib.hid (decide_eq_false hA)
          clear hA
          go_wp2_with fail
          ((with_reducible refine (nodeMay_any true _ _ (es.take k) [] _ (Quads.below HVA.out HS2.out.bl) (Quads.nil _) (by first | omega | decide) (by first | omega | decide)).mono ?_))
          rintro e w3 ⟨rfl, hx⟩
          rw [HDA.out]
          have hw3 := below_step HS2.out.bl hx
          go_wp2_with fail
          go_ret
          exact ⟨rfl, hw3⟩
set_option maxRecDepth 100000 in
set_option maxHeartbeats 8000000 in
theorem nodeSums_inner (ve vk : Value) (es ks : List Quad) (x : Int) (w : World) (wx : (Lit.int .i64 x).wf = true) (He : Quads w ve es) (Hk : Quads w vk ks) (hM : ndMay false es ks) :
    Calls Try.prog 14 #[.agg #[.bool false, ve, vk], .int .i64 x] w fun e w' => e = .returned (.bool true) ∧ Below w.heap.size w w' := by
  have hm : 2 ≤ ks.length ∧ ks.length ≤ 12 ∧ es = [] := by
    rcases hM with h | h
    · exact absurd h.1 (by decide)
    · exact ⟨h.2.2.2.1, h.2.2.2.2.1, h.2.1⟩
  obtain ⟨hl1, hl12, rfl⟩ := hm
  obtain ⟨a, cap, rfl, hc1, hc2, hcs⟩ := Hk.open
  obtain ⟨ma, mc, rfl⟩ := He.form
  unfold maxLen at hc2
  obtain ⟨b, o, rfl, hbl, -⟩ := hcs (by omega)
  have hx01 : -9223372036854775808 ≤ x ∧ x ≤ 9223372036854775807 := by
    have hmax : IntKind.i64.max = 9223372036854775807 := rfl
    have hmin : IntKind.i64.min = -9223372036854775808 := rfl
    simp only [Lit.wf, Bool.and_eq_true, decide_eq_true_eq] at wx
    omega
  obtain ⟨hx0, hx1⟩ := hx01
  have p0 := Int.emod_nonneg x (show ((ks.length : Int) + 1) ≠ 0 by omega)
  have p1 := Int.emod_lt_of_pos x (show 0 < ((ks.length : Int) + 1) by omega)
  obtain ⟨k, hk⟩ := Int.eq_ofNat_of_zero_le p0
  rw [hk] at p1
  have hkl : k ≤ ks.length := by omega
  have HKX := Lib.hid (show x % ((ks.length : Int) + 1) = ((k : Nat) : Int) from hk)
  have HE := Lib.hid He
  have HK := Lib.hid Hk
  have HMM := Lib.hid hM
  have HD := Lib.hid (decide_eq_true hM)
  have hw0 := below_new (Below.refl _ w) (ndBox false (.slice ma 0 mc) (.slice (some ⟨b, o, none⟩) ks.length cap))
  have HX0 := Lib.hid (show (w.alloc (ndBox false (.slice ma 0 mc) (.slice (some ⟨b, o, none⟩) ks.length cap))).heap[w.heap.size]? = some (ndBox false (.slice ma 0 mc) (.slice (some ⟨b, o, none⟩) ks.length cap)) from heap_last rfl)
  clear He Hk hM wx p0 p1 hk hcs
  simp only [List.length_nil] at *
  go_enter Try.func14, Try.ntmps14
  go_wp2_with fail
  refine (awake13_any _).mono ?_
  rintro e w1 ⟨rfl, hx⟩
  have hw1 := below_step hw0 hx
  have HX1 := Lib.hid (box_below HX0.out hx)
  obtain ⟨y0, y1, y2⟩ := ndBox_cells HX1.out
  clear hx hw0 HX0
  go_wp2_with fail
  refine (nodeMay_any false _ _ _ _ _ (Has.below HE.out hw1) (Has.below HK.out hw1) (by first | omega | decide) (by first | omega | decide)).mono ?_
  rintro e w2 ⟨rfl, hx⟩
  rw [HD.out]
  have hw2 := below_step hw1 hx
  have HX2 := Lib.hid (box_below HX1.out hx)
  clear hx hw1 HX1 y0 y1 y2
  obtain ⟨y0, y1, y2⟩ := ndBox_cells HX2.out
  have hz2 := (Array.getElem?_eq_some_iff.1 HX2.out).1
  have hne := World.new_ne w2 _ y0
  go_wp2_with fail
  go_region_held3 (fun w' => w'.cell? ⟨w.heap.size, 0, none⟩ = some (.bool false))
    (go_keep)
    (first | fail "no arm")
  · have hsp := SpSt.start1 HX2.out hw2 false (.slice none 0 0) (.slice none 0 0)
    obtain ⟨wn, hwn⟩ : ∃ y, y = ((w2.alloc (.cells #[.bool false, .slice none 0 0, .slice none 0 0] 56)).alloc (.cells #[.bool false, .slice none 0 0, .slice none 0 0] 56)).drew := ⟨_, rfl⟩
    obtain ⟨n5, hn5⟩ : ∃ y, y = w2.heap.size := ⟨_, rfl⟩
    obtain ⟨n6, hn6⟩ : ∃ y, y = w2.heap.size + 1 := ⟨_, rfl⟩
    replace hsp : SpSt w (ndBox false (.slice ma 0 mc) (.slice (some ⟨b, o, none⟩) ks.length cap)) n5 n6 false (.slice none 0 0) (.slice none 0 0) false (.slice none 0 0) (.slice none 0 0) wn := by rw [hn5, hn6, hwn]; exact hsp
    rw [← hwn, ← hn6, ← hn5]
    have HSP := Lib.hid hsp
    clear hsp hwn hn5 hn6 hne hz2 y0 y1 y2 hw2 HX2
    obtain ⟨y0, y1, y2⟩ := ndBox_cells HSP.out.bx
    have hz2 := (Array.getElem?_eq_some_iff.1 HSP.out.bx).1
    go_wp2_with fail
    refine (pick_any x ((ks.length : Int) + 1) _ (by omega) (by omega) hx0 hx1).mono ?_
    rintro e w' ⟨rfl, rfl⟩
    rw [HKX.out]
    obtain ⟨a0, a1, a2⟩ := ndBox_cells HSP.out.b5
    obtain ⟨b0, b1, b2⟩ := ndBox_cells HSP.out.b6
    have g5 := ndBox_free HSP.out.b5 2
    have g6 := ndBox_free HSP.out.b6 2
    have m5 := HSP.out.h5
    have m6 := HSP.out.h6
    have m56 := HSP.out.h56
    have m65 := Ne.symm m56
    have j5 : n5 ≠ w.heap.size := by omega
    have j6 : n6 ≠ w.heap.size := by omega
    have k0 : (0 : Int) ≤ (k : Int) := by omega
    have k1 : (k : Int) ≤ (cap : Int) := by omega
    have k2 : (k : Int) ≤ (ks.length : Int) := by omega
    by_cases hck : cap = k
    · obtain rfl : k = cap := hck.symm
      go_wp2_with fail
      go_region_held3 (fun w' => w'.cell? ⟨w.heap.size, 2, none⟩ = some (.slice (some ⟨b, o, none⟩) ks.length k))
        (go_keep)
        (first | fail "no arm")
      all_goals
        obtain ⟨wm, hwm⟩ : ∃ y, y = ((wn.setCell ⟨n5, 2, none⟩ (.slice (some ⟨b, o, none⟩) k k)).setCell ⟨n6, 2, none⟩ (.slice (some ⟨b, o, none⟩) 0 0)).drew := ⟨_, rfl⟩
        have HS2 := Lib.hid (show SpSt w (ndBox false (.slice ma 0 mc) (.slice (some ⟨b, o, none⟩) ks.length k)) n5 n6 false (.slice none 0 0) (.slice (some ⟨b, o, none⟩) k k) false (.slice none 0 0) (.slice (some ⟨b, o, none⟩) 0 0) wm by rw [hwm]; exact ((HSP.out.set5k (.slice (some ⟨b, o, none⟩) k k)).set6k (.slice (some ⟨b, o, none⟩) 0 0)).drew)
        have HN := Lib.hid HK.out
        have HVA := Lib.hid (show Quads w (.slice (some ⟨b, o, none⟩) k k) (ks.take k) by
          have := Quads.part HN.out 0 k k (by omega) (by omega) (by unfold maxLen; omega)
          simpa using this)
        have HVB := Lib.hid (show Quads w (.slice (some ⟨b, o, none⟩) 0 0) (ks.drop k) by
          have e1 : ks.drop k = [] := List.drop_eq_nil_of_le (by omega)
          rw [e1]; exact Quads.empty _ _ _ (by decide))
        rw [← hwm]
        have lA : (ks.take k).length ≤ 12 := by simp; omega
        have lB : (ks.drop k).length ≤ 12 := by simp; omega
        clear hwm HSP y0 y1 y2 hz2 a0 a1 a2 b0 b1 b2 g5 g6 m5 m6 m56 m65 j5 j6
        obtain ⟨a0, a1, a2⟩ := ndBox_cells HS2.out.b5
        obtain ⟨b0, b1, b2⟩ := ndBox_cells HS2.out.b6
        by_cases hA : ndMay false [] (ks.take k)
        · have HDA := Lib.hid (decide_eq_true hA)
          go_wp2_with fail
          ((with_reducible refine (nodeMay_any false _ _ [] (ks.take k) _ (Quads.nil _) (Quads.below HVA.out HS2.out.bl) (by first | omega | decide) (by first | omega | decide)).mono ?_))
          rintro e w3 ⟨rfl, hx⟩
          rw [HDA.out]
          have HS3 := Lib.hid (HS2.out.below hx)
          clear hx HS2 a0 a1 a2 b0 b1 b2
          obtain ⟨a0, a1, a2⟩ := ndBox_cells HS3.out.b5
          obtain ⟨b0, b1, b2⟩ := ndBox_cells HS3.out.b6
          by_cases hB : ndMay false [] (ks.drop k)
          · have HDB := Lib.hid (decide_eq_true hB)
            have HSU := Lib.hid (sm_inner HMM.out hA hB)
            clear hA hB
            go_wp2_with fail
            ((with_reducible refine (nodeMay_any false _ _ [] (ks.drop k) _ (Quads.nil _) (Quads.below HVB.out HS3.out.bl) (by first | omega | decide) (by first | omega | decide)).mono ?_))
            rintro e w4 ⟨rfl, hx⟩
            rw [HDB.out]
            have HS4 := Lib.hid (HS3.out.below hx)
            clear hx HS3 a0 a1 a2 b0 b1 b2
            obtain ⟨a0, a1, a2⟩ := ndBox_cells HS4.out.b5
            obtain ⟨X, hX⟩ : ∃ y, smB false [] (ks.take k) = y := ⟨_, rfl⟩
            obtain ⟨Y, hY⟩ : ∃ y, smB false [] (ks.drop k) = y := ⟨_, rfl⟩
            obtain ⟨Z, hZ⟩ : ∃ y, smB false [] ks = y := ⟨_, rfl⟩
            obtain ⟨L, hL⟩ : ∃ y, smL false [] (ks.take k) = y := ⟨_, rfl⟩
            obtain ⟨M, hM⟩ : ∃ y, smL false [] (ks.drop k) = y := ⟨_, rfl⟩
            obtain ⟨O, hO⟩ : ∃ y, smL false [] ks = y := ⟨_, rfl⟩
            obtain ⟨P, hP⟩ : ∃ y, smS false [] (ks.take k) = y := ⟨_, rfl⟩
            obtain ⟨Q, hQ⟩ : ∃ y, smS false [] (ks.drop k) = y := ⟨_, rfl⟩
            obtain ⟨A, hAA⟩ : ∃ y, smS false [] ks = y := ⟨_, rfl⟩
            have hsu := HSU.out
            rw [hX, hY, hZ, hL, hM, hO, hP, hQ, hAA] at hsu
            obtain ⟨s1, s2, s3, s4, s5, s6, s7, s8, s9⟩ := hsu
            have HX := Lib.hid (show smB false [] (ks.take k) = X ∧ smL false [] (ks.take k) = L ∧ smS false [] (ks.take k) = P from ⟨hX, hL, hP⟩)
            have HY := Lib.hid (show smB false [] (ks.drop k) = Y ∧ smL false [] (ks.drop k) = M ∧ smS false [] (ks.drop k) = Q from ⟨hY, hM, hQ⟩)
            have HZ := Lib.hid (show smB false [] ks = Z ∧ smL false [] ks = O ∧ smS false [] ks = A from ⟨hZ, hO, hAA⟩)
            have HS123 := Lib.hid (show Z = X + Y ∧ A = P + Q ∧ O = (if L < 0 ∨ M < 0 then -1 else L + M) from ⟨s1, s2, s3⟩)
            clear hX hY hZ hL hM hO hP hQ hAA s1 s2 s3 HSU
            go_wp2_with fail
            ((with_reducible refine (nodeSum_any false _ _ [] (ks.take k) _ (Quads.nil _) (Quads.below HVA.out HS4.out.bl) (by first | omega | decide) (by first | omega | decide)).mono ?_))
            rintro e w5 ⟨rfl, hx⟩
            rw [HX.out.1, HX.out.2.1, HX.out.2.2]
            have HS5 := Lib.hid (HS4.out.below hx)
            clear hx HS4 a0 a1 a2
            obtain ⟨b0, b1, b2⟩ := ndBox_cells HS5.out.b6
            go_wp2_with fail
            ((with_reducible refine (nodeSum_any false _ _ [] (ks.drop k) _ (Quads.nil _) (Quads.below HVB.out HS5.out.bl) (by first | omega | decide) (by first | omega | decide)).mono ?_))
            rintro e w6 ⟨rfl, hx⟩
            rw [HY.out.1, HY.out.2.1, HY.out.2.2]
            have HS6 := Lib.hid (HS5.out.below hx)
            clear hx HS5 b0 b1 b2
            obtain ⟨y0, y1, y2⟩ := ndBox_cells HS6.out.bx
            go_wp2_with fail
            ((with_reducible refine (nodeSum_any false _ _ [] ks _ (Quads.below HE.out HS6.out.bl) (Quads.below HK.out HS6.out.bl) (by first | omega | decide) (by first | omega | decide)).mono ?_))
            rintro e w7 ⟨rfl, hx⟩
            rw [HZ.out.1, HZ.out.2.1, HZ.out.2.2]
            have hw7 := below_step HS6.out.bl hx
            clear hx y0 y1 y2 HS6 HX HY HZ
            obtain ⟨s1, s2, s3⟩ := HS123.out
            have u1 := IntWalk.i64_in (X + Y) (by omega)
            have u2 := IntWalk.i64_in (P + Q) (by omega)
            clear HS123
            subst s1
            subst s2
            by_cases h1 : L < 0
            · obtain rfl : L = -1 := by omega
              rw [if_pos (.inl (by decide))] at s3
              subst s3
              go_wp2_with fail
              go_ret
              exact ⟨by simp, hw7⟩
            · have v1 : (L == -1) = false := by rw [beq_eq_false_iff_ne]; omega
              by_cases h2 : M < 0
              · obtain rfl : M = -1 := by omega
                rw [if_pos (.inr (by decide))] at s3
                subst s3
                go_wp2_with fail
                go_ret
                exact ⟨by simp, hw7⟩
              · have v2 : (M == -1) = false := by rw [beq_eq_false_iff_ne]; omega
                rw [if_neg (by omega)] at s3
                subst s3
                have v3 : (L + M == -1) = false := by rw [beq_eq_false_iff_ne]; omega
                have u3 := IntWalk.i64_in (L + M) (by omega)
                go_wp2_with fail
                go_ret
                exact ⟨by simp, hw7⟩
          · have HDB := Lib.hid (decide_eq_false hB)
            clear hA hB
            go_wp2_with fail
            ((with_reducible refine (nodeMay_any false _ _ [] (ks.drop k) _ (Quads.nil _) (Quads.below HVB.out HS3.out.bl) (by first | omega | decide) (by first | omega | decide)).mono ?_))
            rintro e w4 ⟨rfl, hx⟩
            rw [HDB.out]
            have hw4 := below_step HS3.out.bl hx
            go_wp2_with fail
            go_ret
            exact ⟨rfl, hw4⟩
        · have HDA := Lib.hid (decide_eq_false hA)
          clear hA
          go_wp2_with fail
          ((with_reducible refine (nodeMay_any false _ _ [] (ks.take k) _ (Quads.nil _) (Quads.below HVA.out HS2.out.bl) (by first | omega | decide) (by first | omega | decide)).mono ?_))
          rintro e w3 ⟨rfl, hx⟩
          rw [HDA.out]
          have hw3 := below_step HS2.out.bl hx
          go_wp2_with fail
          go_ret
          exact ⟨rfl, hw3⟩
    · go_wp2_with fail
      go_region_held3 (fun w' => w'.cell? ⟨w.heap.size, 2, none⟩ = some (.slice (some ⟨b, o, none⟩) ks.length cap))
        (go_keep)
        (first | fail "no arm")
      all_goals
        obtain ⟨wm, hwm⟩ : ∃ y, y = ((wn.setCell ⟨n5, 2, none⟩ (.slice (some ⟨b, o, none⟩) k k)).setCell ⟨n6, 2, none⟩ (.slice (some ⟨b, o + k * 4, none⟩) (ks.length - k) (cap - k))).drew := ⟨_, rfl⟩
        have HS2 := Lib.hid (show SpSt w (ndBox false (.slice ma 0 mc) (.slice (some ⟨b, o, none⟩) ks.length cap)) n5 n6 false (.slice none 0 0) (.slice (some ⟨b, o, none⟩) k k) false (.slice none 0 0) (.slice (some ⟨b, o + k * 4, none⟩) (ks.length - k) (cap - k)) wm by rw [hwm]; exact ((HSP.out.set5k (.slice (some ⟨b, o, none⟩) k k)).set6k (.slice (some ⟨b, o + k * 4, none⟩) (ks.length - k) (cap - k))).drew)
        have HN := Lib.hid HK.out
        have HVA := Lib.hid (show Quads w (.slice (some ⟨b, o, none⟩) k k) (ks.take k) by
          have := Quads.part HN.out 0 k k (by omega) (by omega) (by unfold maxLen; omega)
          simpa using this)
        have HVB := Lib.hid (show Quads w (.slice (some ⟨b, o + k * 4, none⟩) (ks.length - k) (cap - k)) (ks.drop k) by
          have := Quads.part HN.out k (ks.length - k) (cap - k) (by omega) (by omega) (by unfold maxLen; omega)
          rw [List.take_of_length_le (by simp)] at this
          exact this)
        rw [← hwm]
        have lA : (ks.take k).length ≤ 12 := by simp; omega
        have lB : (ks.drop k).length ≤ 12 := by simp; omega
        clear hwm HSP y0 y1 y2 hz2 a0 a1 a2 b0 b1 b2 g5 g6 m5 m6 m56 m65 j5 j6
        obtain ⟨a0, a1, a2⟩ := ndBox_cells HS2.out.b5
        obtain ⟨b0, b1, b2⟩ := ndBox_cells HS2.out.b6
        by_cases hA : ndMay false [] (ks.take k)
        · have HDA := Lib.hid (decide_eq_true hA)
          go_wp2_with fail
          ((with_reducible refine (nodeMay_any false _ _ [] (ks.take k) _ (Quads.nil _) (Quads.below HVA.out HS2.out.bl) (by first | omega | decide) (by first | omega | decide)).mono ?_))
          rintro e w3 ⟨rfl, hx⟩
          rw [HDA.out]
          have HS3 := Lib.hid (HS2.out.below hx)
          clear hx HS2 a0 a1 a2 b0 b1 b2
          obtain ⟨a0, a1, a2⟩ := ndBox_cells HS3.out.b5
          obtain ⟨b0, b1, b2⟩ := ndBox_cells HS3.out.b6
          by_cases hB : ndMay false [] (ks.drop k)
          · have HDB := Lib.hid (decide_eq_true hB)
            have HSU := Lib.hid (sm_inner HMM.out hA hB)
            clear hA hB
            go_wp2_with fail
            ((with_reducible refine (nodeMay_any false _ _ [] (ks.drop k) _ (Quads.nil _) (Quads.below HVB.out HS3.out.bl) (by first | omega | decide) (by first | omega | decide)).mono ?_))
            rintro e w4 ⟨rfl, hx⟩
            rw [HDB.out]
            have HS4 := Lib.hid (HS3.out.below hx)
            clear hx HS3 a0 a1 a2 b0 b1 b2
            obtain ⟨a0, a1, a2⟩ := ndBox_cells HS4.out.b5
            obtain ⟨X, hX⟩ : ∃ y, smB false [] (ks.take k) = y := ⟨_, rfl⟩
            obtain ⟨Y, hY⟩ : ∃ y, smB false [] (ks.drop k) = y := ⟨_, rfl⟩
            obtain ⟨Z, hZ⟩ : ∃ y, smB false [] ks = y := ⟨_, rfl⟩
            obtain ⟨L, hL⟩ : ∃ y, smL false [] (ks.take k) = y := ⟨_, rfl⟩
            obtain ⟨M, hM⟩ : ∃ y, smL false [] (ks.drop k) = y := ⟨_, rfl⟩
            obtain ⟨O, hO⟩ : ∃ y, smL false [] ks = y := ⟨_, rfl⟩
            obtain ⟨P, hP⟩ : ∃ y, smS false [] (ks.take k) = y := ⟨_, rfl⟩
            obtain ⟨Q, hQ⟩ : ∃ y, smS false [] (ks.drop k) = y := ⟨_, rfl⟩
            obtain ⟨A, hAA⟩ : ∃ y, smS false [] ks = y := ⟨_, rfl⟩
            have hsu := HSU.out
            rw [hX, hY, hZ, hL, hM, hO, hP, hQ, hAA] at hsu
            obtain ⟨s1, s2, s3, s4, s5, s6, s7, s8, s9⟩ := hsu
            have HX := Lib.hid (show smB false [] (ks.take k) = X ∧ smL false [] (ks.take k) = L ∧ smS false [] (ks.take k) = P from ⟨hX, hL, hP⟩)
            have HY := Lib.hid (show smB false [] (ks.drop k) = Y ∧ smL false [] (ks.drop k) = M ∧ smS false [] (ks.drop k) = Q from ⟨hY, hM, hQ⟩)
            have HZ := Lib.hid (show smB false [] ks = Z ∧ smL false [] ks = O ∧ smS false [] ks = A from ⟨hZ, hO, hAA⟩)
            have HS123 := Lib.hid (show Z = X + Y ∧ A = P + Q ∧ O = (if L < 0 ∨ M < 0 then -1 else L + M) from ⟨s1, s2, s3⟩)
            clear hX hY hZ hL hM hO hP hQ hAA s1 s2 s3 HSU
            go_wp2_with fail
            ((with_reducible refine (nodeSum_any false _ _ [] (ks.take k) _ (Quads.nil _) (Quads.below HVA.out HS4.out.bl) (by first | omega | decide) (by first | omega | decide)).mono ?_))
            rintro e w5 ⟨rfl, hx⟩
            rw [HX.out.1, HX.out.2.1, HX.out.2.2]
            have HS5 := Lib.hid (HS4.out.below hx)
            clear hx HS4 a0 a1 a2
            obtain ⟨b0, b1, b2⟩ := ndBox_cells HS5.out.b6
            go_wp2_with fail
            ((with_reducible refine (nodeSum_any false _ _ [] (ks.drop k) _ (Quads.nil _) (Quads.below HVB.out HS5.out.bl) (by first | omega | decide) (by first | omega | decide)).mono ?_))
            rintro e w6 ⟨rfl, hx⟩
            rw [HY.out.1, HY.out.2.1, HY.out.2.2]
            have HS6 := Lib.hid (HS5.out.below hx)
            clear hx HS5 b0 b1 b2
            obtain ⟨y0, y1, y2⟩ := ndBox_cells HS6.out.bx
            go_wp2_with fail
            ((with_reducible refine (nodeSum_any false _ _ [] ks _ (Quads.below HE.out HS6.out.bl) (Quads.below HK.out HS6.out.bl) (by first | omega | decide) (by first | omega | decide)).mono ?_))
            rintro e w7 ⟨rfl, hx⟩
            rw [HZ.out.1, HZ.out.2.1, HZ.out.2.2]
            have hw7 := below_step HS6.out.bl hx
            clear hx y0 y1 y2 HS6 HX HY HZ
            obtain ⟨s1, s2, s3⟩ := HS123.out
            have u1 := IntWalk.i64_in (X + Y) (by omega)
            have u2 := IntWalk.i64_in (P + Q) (by omega)
            clear HS123
            subst s1
            subst s2
            by_cases h1 : L < 0
            · obtain rfl : L = -1 := by omega
              rw [if_pos (.inl (by decide))] at s3
              subst s3
              go_wp2_with fail
              go_ret
              exact ⟨by simp, hw7⟩
            · have v1 : (L == -1) = false := by rw [beq_eq_false_iff_ne]; omega
              by_cases h2 : M < 0
              · obtain rfl : M = -1 := by omega
                rw [if_pos (.inr (by decide))] at s3
                subst s3
                go_wp2_with fail
                go_ret
                exact ⟨by simp, hw7⟩
              · have v2 : (M == -1) = false := by rw [beq_eq_false_iff_ne]; omega
                rw [if_neg (by omega)] at s3
                subst s3
                have v3 : (L + M == -1) = false := by rw [beq_eq_false_iff_ne]; omega
                have u3 := IntWalk.i64_in (L + M) (by omega)
                go_wp2_with fail
                go_ret
                exact ⟨by simp, hw7⟩
          · have HDB := Lib.hid (decide_eq_false hB)
            clear hA hB
            go_wp2_with fail
            ((with_reducible refine (nodeMay_any false _ _ [] (ks.drop k) _ (Quads.nil _) (Quads.below HVB.out HS3.out.bl) (by first | omega | decide) (by first | omega | decide)).mono ?_))
            rintro e w4 ⟨rfl, hx⟩
            rw [HDB.out]
            have hw4 := below_step HS3.out.bl hx
            go_wp2_with fail
            go_ret
            exact ⟨rfl, hw4⟩
        · have HDA := Lib.hid (decide_eq_false hA)
          clear hA
          go_wp2_with fail
          ((with_reducible refine (nodeMay_any false _ _ [] (ks.take k) _ (Quads.nil _) (Quads.below HVA.out HS2.out.bl) (by first | omega | decide) (by first | omega | decide)).mono ?_))
          rintro e w3 ⟨rfl, hx⟩
          rw [HDA.out]
          have hw3 := below_step HS2.out.bl hx
          go_wp2_with fail
          go_ret
          exact ⟨rfl, hw3⟩
  · have hsp := SpSt.start2 HX2.out hw2 false (.slice none 0 0) (.slice none 0 0)
    obtain ⟨wn, hwn⟩ : ∃ y, y = ((w2.alloc (.cells #[.bool false, .slice none 0 0, .slice none 0 0] 56)).alloc (.cells #[.bool false, .slice none 0 0, .slice none 0 0] 56)).drew := ⟨_, rfl⟩
    obtain ⟨n5, hn5⟩ : ∃ y, y = w2.heap.size + 1 := ⟨_, rfl⟩
    obtain ⟨n6, hn6⟩ : ∃ y, y = w2.heap.size := ⟨_, rfl⟩
    replace hsp : SpSt w (ndBox false (.slice ma 0 mc) (.slice (some ⟨b, o, none⟩) ks.length cap)) n5 n6 false (.slice none 0 0) (.slice none 0 0) false (.slice none 0 0) (.slice none 0 0) wn := by rw [hn5, hn6, hwn]; exact hsp
    rw [← hwn, ← hn5, ← hn6]
    have HSP := Lib.hid hsp
    clear hsp hwn hn5 hn6 hne hz2 y0 y1 y2 hw2 HX2
    obtain ⟨y0, y1, y2⟩ := ndBox_cells HSP.out.bx
    have hz2 := (Array.getElem?_eq_some_iff.1 HSP.out.bx).1
    go_wp2_with fail
    refine (pick_any x ((ks.length : Int) + 1) _ (by omega) (by omega) hx0 hx1).mono ?_
    rintro e w' ⟨rfl, rfl⟩
    rw [HKX.out]
    obtain ⟨a0, a1, a2⟩ := ndBox_cells HSP.out.b5
    obtain ⟨b0, b1, b2⟩ := ndBox_cells HSP.out.b6
    have g5 := ndBox_free HSP.out.b5 2
    have g6 := ndBox_free HSP.out.b6 2
    have m5 := HSP.out.h5
    have m6 := HSP.out.h6
    have m56 := HSP.out.h56
    have m65 := Ne.symm m56
    have j5 : n5 ≠ w.heap.size := by omega
    have j6 : n6 ≠ w.heap.size := by omega
    have k0 : (0 : Int) ≤ (k : Int) := by omega
    have k1 : (k : Int) ≤ (cap : Int) := by omega
    have k2 : (k : Int) ≤ (ks.length : Int) := by omega
    by_cases hck : cap = k
    · obtain rfl : k = cap := hck.symm
      go_wp2_with fail
      go_region_held3 (fun w' => w'.cell? ⟨w.heap.size, 2, none⟩ = some (.slice (some ⟨b, o, none⟩) ks.length k))
        (go_keep)
        (first | fail "no arm")
      all_goals
        obtain ⟨wm, hwm⟩ : ∃ y, y = ((wn.setCell ⟨n5, 2, none⟩ (.slice (some ⟨b, o, none⟩) k k)).setCell ⟨n6, 2, none⟩ (.slice (some ⟨b, o, none⟩) 0 0)).drew := ⟨_, rfl⟩
        have HS2 := Lib.hid (show SpSt w (ndBox false (.slice ma 0 mc) (.slice (some ⟨b, o, none⟩) ks.length k)) n5 n6 false (.slice none 0 0) (.slice (some ⟨b, o, none⟩) k k) false (.slice none 0 0) (.slice (some ⟨b, o, none⟩) 0 0) wm by rw [hwm]; exact ((HSP.out.set5k (.slice (some ⟨b, o, none⟩) k k)).set6k (.slice (some ⟨b, o, none⟩) 0 0)).drew)
        have HN := Lib.hid HK.out
        have HVA := Lib.hid (show Quads w (.slice (some ⟨b, o, none⟩) k k) (ks.take k) by
          have := Quads.part HN.out 0 k k (by omega) (by omega) (by unfold maxLen; omega)
          simpa using this)
        have HVB := Lib.hid (show Quads w (.slice (some ⟨b, o, none⟩) 0 0) (ks.drop k) by
          have e1 : ks.drop k = [] := List.drop_eq_nil_of_le (by omega)
          rw [e1]; exact Quads.empty _ _ _ (by decide))
        rw [← hwm]
        have lA : (ks.take k).length ≤ 12 := by simp; omega
        have lB : (ks.drop k).length ≤ 12 := by simp; omega
        clear hwm HSP y0 y1 y2 hz2 a0 a1 a2 b0 b1 b2 g5 g6 m5 m6 m56 m65 j5 j6
        obtain ⟨a0, a1, a2⟩ := ndBox_cells HS2.out.b5
        obtain ⟨b0, b1, b2⟩ := ndBox_cells HS2.out.b6
        by_cases hA : ndMay false [] (ks.take k)
        · have HDA := Lib.hid (decide_eq_true hA)
          go_wp2_with fail
          ((with_reducible refine (nodeMay_any false _ _ [] (ks.take k) _ (Quads.nil _) (Quads.below HVA.out HS2.out.bl) (by first | omega | decide) (by first | omega | decide)).mono ?_))
          rintro e w3 ⟨rfl, hx⟩
          rw [HDA.out]
          have HS3 := Lib.hid (HS2.out.below hx)
          clear hx HS2 a0 a1 a2 b0 b1 b2
          obtain ⟨a0, a1, a2⟩ := ndBox_cells HS3.out.b5
          obtain ⟨b0, b1, b2⟩ := ndBox_cells HS3.out.b6
          by_cases hB : ndMay false [] (ks.drop k)
          · have HDB := Lib.hid (decide_eq_true hB)
            have HSU := Lib.hid (sm_inner HMM.out hA hB)
            clear hA hB
            go_wp2_with fail
            ((with_reducible refine (nodeMay_any false _ _ [] (ks.drop k) _ (Quads.nil _) (Quads.below HVB.out HS3.out.bl) (by first | omega | decide) (by first | omega | decide)).mono ?_))
            rintro e w4 ⟨rfl, hx⟩
            rw [HDB.out]
            have HS4 := Lib.hid (HS3.out.below hx)
            clear hx HS3 a0 a1 a2 b0 b1 b2
            obtain ⟨a0, a1, a2⟩ := ndBox_cells HS4.out.b5
            obtain ⟨X, hX⟩ : ∃ y, smB false [] (ks.take k) = y := ⟨_, rfl⟩
            obtain ⟨Y, hY⟩ : ∃ y, smB false [] (ks.drop k) = y := ⟨_, rfl⟩
            obtain ⟨Z, hZ⟩ : ∃ y, smB false [] ks = y := ⟨_, rfl⟩
            obtain ⟨L, hL⟩ : ∃ y, smL false [] (ks.take k) = y := ⟨_, rfl⟩
            obtain ⟨M, hM⟩ : ∃ y, smL false [] (ks.drop k) = y := ⟨_, rfl⟩
            obtain ⟨O, hO⟩ : ∃ y, smL false [] ks = y := ⟨_, rfl⟩
            obtain ⟨P, hP⟩ : ∃ y, smS false [] (ks.take k) = y := ⟨_, rfl⟩
            obtain ⟨Q, hQ⟩ : ∃ y, smS false [] (ks.drop k) = y := ⟨_, rfl⟩
            obtain ⟨A, hAA⟩ : ∃ y, smS false [] ks = y := ⟨_, rfl⟩
            have hsu := HSU.out
            rw [hX, hY, hZ, hL, hM, hO, hP, hQ, hAA] at hsu
            obtain ⟨s1, s2, s3, s4, s5, s6, s7, s8, s9⟩ := hsu
            have HX := Lib.hid (show smB false [] (ks.take k) = X ∧ smL false [] (ks.take k) = L ∧ smS false [] (ks.take k) = P from ⟨hX, hL, hP⟩)
            have HY := Lib.hid (show smB false [] (ks.drop k) = Y ∧ smL false [] (ks.drop k) = M ∧ smS false [] (ks.drop k) = Q from ⟨hY, hM, hQ⟩)
            have HZ := Lib.hid (show smB false [] ks = Z ∧ smL false [] ks = O ∧ smS false [] ks = A from ⟨hZ, hO, hAA⟩)
            have HS123 := Lib.hid (show Z = X + Y ∧ A = P + Q ∧ O = (if L < 0 ∨ M < 0 then -1 else L + M) from ⟨s1, s2, s3⟩)
            clear hX hY hZ hL hM hO hP hQ hAA s1 s2 s3 HSU
            go_wp2_with fail
            ((with_reducible refine (nodeSum_any false _ _ [] (ks.take k) _ (Quads.nil _) (Quads.below HVA.out HS4.out.bl) (by first | omega | decide) (by first | omega | decide)).mono ?_))
            rintro e w5 ⟨rfl, hx⟩
            rw [HX.out.1, HX.out.2.1, HX.out.2.2]
            have HS5 := Lib.hid (HS4.out.below hx)
            clear hx HS4 a0 a1 a2
            obtain ⟨b0, b1, b2⟩ := ndBox_cells HS5.out.b6
            go_wp2_with fail
            ((with_reducible refine (nodeSum_any false _ _ [] (ks.drop k) _ (Quads.nil _) (Quads.below HVB.out HS5.out.bl) (by first | omega | decide) (by first | omega | decide)).mono ?_))
            rintro e w6 ⟨rfl, hx⟩
            rw [HY.out.1, HY.out.2.1, HY.out.2.2]
            have HS6 := Lib.hid (HS5.out.below hx)
            clear hx HS5 b0 b1 b2
            obtain ⟨y0, y1, y2⟩ := ndBox_cells HS6.out.bx
            go_wp2_with fail
            ((with_reducible refine (nodeSum_any false _ _ [] ks _ (Quads.below HE.out HS6.out.bl) (Quads.below HK.out HS6.out.bl) (by first | omega | decide) (by first | omega | decide)).mono ?_))
            rintro e w7 ⟨rfl, hx⟩
            rw [HZ.out.1, HZ.out.2.1, HZ.out.2.2]
            have hw7 := below_step HS6.out.bl hx
            clear hx y0 y1 y2 HS6 HX HY HZ
            obtain ⟨s1, s2, s3⟩ := HS123.out
            have u1 := IntWalk.i64_in (X + Y) (by omega)
            have u2 := IntWalk.i64_in (P + Q) (by omega)
            clear HS123
            subst s1
            subst s2
            by_cases h1 : L < 0
            · obtain rfl : L = -1 := by omega
              rw [if_pos (.inl (by decide))] at s3
              subst s3
              go_wp2_with fail
              go_ret
              exact ⟨by simp, hw7⟩
            · have v1 : (L == -1) = false := by rw [beq_eq_false_iff_ne]; omega
              by_cases h2 : M < 0
              · obtain rfl : M = -1 := by omega
                rw [if_pos (.inr (by decide))] at s3
                subst s3
                go_wp2_with fail
                go_ret
                exact ⟨by simp, hw7⟩
              · have v2 : (M == -1) = false := by rw [beq_eq_false_iff_ne]; omega
                rw [if_neg (by omega)] at s3
                subst s3
                have v3 : (L + M == -1) = false := by rw [beq_eq_false_iff_ne]; omega
                have u3 := IntWalk.i64_in (L + M) (by omega)
                go_wp2_with fail
                go_ret
                exact ⟨by simp, hw7⟩
          · have HDB := Lib.hid (decide_eq_false hB)
            clear hA hB
            go_wp2_with fail
            ((with_reducible refine (nodeMay_any false _ _ [] (ks.drop k) _ (Quads.nil _) (Quads.below HVB.out HS3.out.bl) (by first | omega | decide) (by first | omega | decide)).mono ?_))
            rintro e w4 ⟨rfl, hx⟩
            rw [HDB.out]
            have hw4 := below_step HS3.out.bl hx
            go_wp2_with fail
            go_ret
            exact ⟨rfl, hw4⟩
        · have HDA := Lib.hid (decide_eq_false hA)
          clear hA
          go_wp2_with fail
          ((with_reducible refine (nodeMay_any false _ _ [] (ks.take k) _ (Quads.nil _) (Quads.below HVA.out HS2.out.bl) (by first | omega | decide) (by first | omega | decide)).mono ?_))
          rintro e w3 ⟨rfl, hx⟩
          rw [HDA.out]
          have hw3 := below_step HS2.out.bl hx
          go_wp2_with fail
          go_ret
          exact ⟨rfl, hw3⟩
    · go_wp2_with fail
      go_region_held3 (fun w' => w'.cell? ⟨w.heap.size, 2, none⟩ = some (.slice (some ⟨b, o, none⟩) ks.length cap))
        (go_keep)
        (first | fail "no arm")
      all_goals
        obtain ⟨wm, hwm⟩ : ∃ y, y = ((wn.setCell ⟨n5, 2, none⟩ (.slice (some ⟨b, o, none⟩) k k)).setCell ⟨n6, 2, none⟩ (.slice (some ⟨b, o + k * 4, none⟩) (ks.length - k) (cap - k))).drew := ⟨_, rfl⟩
        have HS2 := Lib.hid (show SpSt w (ndBox false (.slice ma 0 mc) (.slice (some ⟨b, o, none⟩) ks.length cap)) n5 n6 false (.slice none 0 0) (.slice (some ⟨b, o, none⟩) k k) false (.slice none 0 0) (.slice (some ⟨b, o + k * 4, none⟩) (ks.length - k) (cap - k)) wm by rw [hwm]; exact ((HSP.out.set5k (.slice (some ⟨b, o, none⟩) k k)).set6k (.slice (some ⟨b, o + k * 4, none⟩) (ks.length - k) (cap - k))).drew)
        have HN := Lib.hid HK.out
        have HVA := Lib.hid (show Quads w (.slice (some ⟨b, o, none⟩) k k) (ks.take k) by
          have := Quads.part HN.out 0 k k (by omega) (by omega) (by unfold maxLen; omega)
          simpa using this)
        have HVB := Lib.hid (show Quads w (.slice (some ⟨b, o + k * 4, none⟩) (ks.length - k) (cap - k)) (ks.drop k) by
          have := Quads.part HN.out k (ks.length - k) (cap - k) (by omega) (by omega) (by unfold maxLen; omega)
          rw [List.take_of_length_le (by simp)] at this
          exact this)
        rw [← hwm]
        have lA : (ks.take k).length ≤ 12 := by simp; omega
        have lB : (ks.drop k).length ≤ 12 := by simp; omega
        clear hwm HSP y0 y1 y2 hz2 a0 a1 a2 b0 b1 b2 g5 g6 m5 m6 m56 m65 j5 j6
        obtain ⟨a0, a1, a2⟩ := ndBox_cells HS2.out.b5
        obtain ⟨b0, b1, b2⟩ := ndBox_cells HS2.out.b6
        by_cases hA : ndMay false [] (ks.take k)
        · have HDA := Lib.hid (decide_eq_true hA)
          go_wp2_with fail
          ((with_reducible refine (nodeMay_any false _ _ [] (ks.take k) _ (Quads.nil _) (Quads.below HVA.out HS2.out.bl) (by first | omega | decide) (by first | omega | decide)).mono ?_))
          rintro e w3 ⟨rfl, hx⟩
          rw [HDA.out]
          have HS3 := Lib.hid (HS2.out.below hx)
          clear hx HS2 a0 a1 a2 b0 b1 b2
          obtain ⟨a0, a1, a2⟩ := ndBox_cells HS3.out.b5
          obtain ⟨b0, b1, b2⟩ := ndBox_cells HS3.out.b6
          by_cases hB : ndMay false [] (ks.drop k)
          · have HDB := Lib.hid (decide_eq_true hB)
            have HSU := Lib.hid (sm_inner HMM.out hA hB)
            clear hA hB
            go_wp2_with fail
            ((with_reducible refine (nodeMay_any false _ _ [] (ks.drop k) _ (Quads.nil _) (Quads.below HVB.out HS3.out.bl) (by first | omega | decide) (by first | omega | decide)).mono ?_))
            rintro e w4 ⟨rfl, hx⟩
            rw [HDB.out]
            have HS4 := Lib.hid (HS3.out.below hx)
            clear hx HS3 a0 a1 a2 b0 b1 b2
            obtain ⟨a0, a1, a2⟩ := ndBox_cells HS4.out.b5
            obtain ⟨X, hX⟩ : ∃ y, smB false [] (ks.take k) = y := ⟨_, rfl⟩
            obtain ⟨Y, hY⟩ : ∃ y, smB false [] (ks.drop k) = y := ⟨_, rfl⟩
            obtain ⟨Z, hZ⟩ : ∃ y, smB false [] ks = y := ⟨_, rfl⟩
            obtain ⟨L, hL⟩ : ∃ y, smL false [] (ks.take k) = y := ⟨_, rfl⟩
            obtain ⟨M, hM⟩ : ∃ y, smL false [] (ks.drop k) = y := ⟨_, rfl⟩
            obtain ⟨O, hO⟩ : ∃ y, smL false [] ks = y := ⟨_, rfl⟩
            obtain ⟨P, hP⟩ : ∃ y, smS false [] (ks.take k) = y := ⟨_, rfl⟩
            obtain ⟨Q, hQ⟩ : ∃ y, smS false [] (ks.drop k) = y := ⟨_, rfl⟩
            obtain ⟨A, hAA⟩ : ∃ y, smS false [] ks = y := ⟨_, rfl⟩
            have hsu := HSU.out
            rw [hX, hY, hZ, hL, hM, hO, hP, hQ, hAA] at hsu
            obtain ⟨s1, s2, s3, s4, s5, s6, s7, s8, s9⟩ := hsu
            have HX := Lib.hid (show smB false [] (ks.take k) = X ∧ smL false [] (ks.take k) = L ∧ smS false [] (ks.take k) = P from ⟨hX, hL, hP⟩)
            have HY := Lib.hid (show smB false [] (ks.drop k) = Y ∧ smL false [] (ks.drop k) = M ∧ smS false [] (ks.drop k) = Q from ⟨hY, hM, hQ⟩)
            have HZ := Lib.hid (show smB false [] ks = Z ∧ smL false [] ks = O ∧ smS false [] ks = A from ⟨hZ, hO, hAA⟩)
            have HS123 := Lib.hid (show Z = X + Y ∧ A = P + Q ∧ O = (if L < 0 ∨ M < 0 then -1 else L + M) from ⟨s1, s2, s3⟩)
            clear hX hY hZ hL hM hO hP hQ hAA s1 s2 s3 HSU
            go_wp2_with fail
            ((with_reducible refine (nodeSum_any false _ _ [] (ks.take k) _ (Quads.nil _) (Quads.below HVA.out HS4.out.bl) (by first | omega | decide) (by first | omega | decide)).mono ?_))
            rintro e w5 ⟨rfl, hx⟩
            rw [HX.out.1, HX.out.2.1, HX.out.2.2]
            have HS5 := Lib.hid (HS4.out.below hx)
            clear hx HS4 a0 a1 a2
            obtain ⟨b0, b1, b2⟩ := ndBox_cells HS5.out.b6
            go_wp2_with fail
            ((with_reducible refine (nodeSum_any false _ _ [] (ks.drop k) _ (Quads.nil _) (Quads.below HVB.out HS5.out.bl) (by first | omega | decide) (by first | omega | decide)).mono ?_))
            rintro e w6 ⟨rfl, hx⟩
            rw [HY.out.1, HY.out.2.1, HY.out.2.2]
            have HS6 := Lib.hid (HS5.out.below hx)
            clear hx HS5 b0 b1 b2
            obtain ⟨y0, y1, y2⟩ := ndBox_cells HS6.out.bx
            go_wp2_with fail
            ((with_reducible refine (nodeSum_any false _ _ [] ks _ (Quads.below HE.out HS6.out.bl) (Quads.below HK.out HS6.out.bl) (by first | omega | decide) (by first | omega | decide)).mono ?_))
            rintro e w7 ⟨rfl, hx⟩
            rw [HZ.out.1, HZ.out.2.1, HZ.out.2.2]
            have hw7 := below_step HS6.out.bl hx
            clear hx y0 y1 y2 HS6 HX HY HZ
            obtain ⟨s1, s2, s3⟩ := HS123.out
            have u1 := IntWalk.i64_in (X + Y) (by omega)
            have u2 := IntWalk.i64_in (P + Q) (by omega)
            clear HS123
            subst s1
            subst s2
            by_cases h1 : L < 0
            · obtain rfl : L = -1 := by omega
              rw [if_pos (.inl (by decide))] at s3
              subst s3
              go_wp2_with fail
              go_ret
              exact ⟨by simp, hw7⟩
            · have v1 : (L == -1) = false := by rw [beq_eq_false_iff_ne]; omega
              by_cases h2 : M < 0
              · obtain rfl : M = -1 := by omega
                rw [if_pos (.inr (by decide))] at s3
                subst s3
                go_wp2_with fail
                go_ret
                exact ⟨by simp, hw7⟩
              · have v2 : (M == -1) = false := by rw [beq_eq_false_iff_ne]; omega
                rw [if_neg (by omega)] at s3
                subst s3
                have v3 : (L + M == -1) = false := by rw [beq_eq_false_iff_ne]; omega
                have u3 := IntWalk.i64_in (L + M) (by omega)
                go_wp2_with fail
                go_ret
                exact ⟨by simp, hw7⟩
          · have HDB := Lib.hid (decide_eq_false hB)
            clear hA hB
            go_wp2_with fail
            ((with_reducible refine (nodeMay_any false _ _ [] (ks.drop k) _ (Quads.nil _) (Quads.below HVB.out HS3.out.bl) (by first | omega | decide) (by first | omega | decide)).mono ?_))
            rintro e w4 ⟨rfl, hx⟩
            rw [HDB.out]
            have hw4 := below_step HS3.out.bl hx
            go_wp2_with fail
            go_ret
            exact ⟨rfl, hw4⟩
        · have HDA := Lib.hid (decide_eq_false hA)
          clear hA
          go_wp2_with fail
          ((with_reducible refine (nodeMay_any false _ _ [] (ks.take k) _ (Quads.nil _) (Quads.below HVA.out HS2.out.bl) (by first | omega | decide) (by first | omega | decide)).mono ?_))
          rintro e w3 ⟨rfl, hx⟩
          rw [HDA.out]
          have hw3 := below_step HS2.out.bl hx
          go_wp2_with fail
          go_ret
          exact ⟨rfl, hw3⟩
theorem nodeSums_walk (leaf : Bool) (ve vk : Value) (es ks : List Quad) (x : Int) (w : World) (He : Quads w ve es) (Hk : Quads w vk ks) (le : es.length ≤ 4398046511104) (lk : ks.length ≤ 4398046511104) (wx : (Lit.int .i64 x).wf = true) :
    Calls Try.prog 14 #[.agg #[.bool leaf, ve, vk], .int .i64 x] w fun e w' => e = .returned (.bool true) ∧ Below w.heap.size w w' := by
  by_cases hM : ndMay leaf es ks
  · cases leaf
    · exact nodeSums_inner ve vk es ks x w wx He Hk hM
    · exact nodeSums_leaf ve vk es ks x w wx He Hk hM
  · exact nodeSums_no leaf ve vk es ks x w He Hk le lk hM
end Go.Proofs.Ytcmoajbdepohmaa
