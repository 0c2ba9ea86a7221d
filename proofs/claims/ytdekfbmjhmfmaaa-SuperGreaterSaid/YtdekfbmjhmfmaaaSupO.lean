/- The walk of the law SuperGreater. -/
import Derived.Test.YtdekfbmjhmfmaaaSupM
import Derived.Deep.DeepCutAuto
import Derived.Deep.OwnRows
namespace Go.Proofs.Ytdekfbmjhmfmaaa
open Go.RowKit Go.Oct

/-- one at its place, the other at the other place -/
def twoAt (p : Nat) (X Y : List UInt8) : List UInt8 := if p = 0 then X ++ Y else Y ++ X
theorem twoAt_len (p : Nat) {X Y : List UInt8} (hX : X.length = 64) (hY : Y.length = 64) : (twoAt p X Y).length = 128 := by
  unfold twoAt; split <;> simp [hX, hY]
theorem twoAt_first {p q : Nat} (h : p = 0 ∧ q = 64 ∨ p = 64 ∧ q = 0) {X Y : List UInt8} (hX : X.length = 64) (hY : Y.length = 64) {i : Nat} (hi : i < 64) (b : UInt8) : (twoAt p X Y).set (p + i) b = twoAt p (X.set i b) Y := by
  unfold twoAt
  rcases h with ⟨rfl, rfl⟩ | ⟨rfl, rfl⟩
  · rw [if_pos rfl, if_pos rfl, Nat.zero_add]; exact set_first hX hi b
  · rw [if_neg (by decide), if_neg (by decide)]; exact set_second hY b
theorem twoAt_second {p q : Nat} (h : p = 0 ∧ q = 64 ∨ p = 64 ∧ q = 0) {X Y : List UInt8} (hX : X.length = 64) (hY : Y.length = 64) {i : Nat} (hi : i < 64) (b : UInt8) : (twoAt p X Y).set (q + i) b = twoAt p X (Y.set i b) := by
  unfold twoAt
  rcases h with ⟨rfl, rfl⟩ | ⟨rfl, rfl⟩
  · rw [if_pos rfl, if_pos rfl]; exact set_second hX b
  · rw [if_neg (by decide), if_neg (by decide), Nat.zero_add]; exact set_first hY hi b
/-- the one with the greater number counts -/
theorem greater_counts {A B : List UInt8} (hA : A.length = 64) (hB : B.length = 64) {g r c t o g' r' c' t' o' : Int} (oA : Opens A g r c t o) (oB : Opens B g' r' c' t' o') {p q : Nat} (hp : (p : Int) = 64 * (g % 2)) (hq : (q : Int) = 64 * (g' % 2))
    (hpq : p = 0 ∧ q = 64 ∨ p = 64 ∧ q = 0) : (g < g' → Counts (twoAt p A B) g' r' c' t' o') ∧ (g' < g → Counts (twoAt p A B) g r c t o) := by
  have fA := (opens_fld oA).1
  have fB := (opens_fld oB).1
  unfold twoAt
  rcases hpq with ⟨rfl, rfl⟩ | ⟨rfl, rfl⟩
  · rw [if_pos rfl]
    exact ⟨fun h => counts_second hA hB oB (by omega) (fun _ => by omega), fun h => counts_first hA hB oA (by omega) (fun h2 => by have := h2.2.2; omega)⟩
  · rw [if_neg (by decide)]
    exact ⟨fun h => counts_first hB hA oB (by omega) (fun h2 => by have := h2.2.2; omega), fun h => counts_second hB hA oA (by omega) (fun _ => by omega)⟩
/-- where each stands at the other's place none counts -/
theorem turned_none {A B : List UInt8} (hA : A.length = 64) (hB : B.length = 64) {g r c t o g' r' c' t' o' : Int} (oA : Opens A g r c t o) (oB : Opens B g' r' c' t' o') {p q : Nat} (hp : (p : Int) = 64 * (g % 2)) (hq : (q : Int) = 64 * (g' % 2))
    (hpq : p = 0 ∧ q = 64 ∨ p = 64 ∧ q = 0) : bst (twoAt p B A) 2 = none := by
  have fA := (opens_fld oA).1
  have fB := (opens_fld oB).1
  unfold twoAt
  rcases hpq with ⟨rfl, rfl⟩ | ⟨rfl, rfl⟩
  · rw [if_pos rfl]
    exact bst2_none hB hA (fun h => by have := h.2; omega) (fun h => by have := h.2; omega)
  · rw [if_neg (by decide)]
    exact bst2_none hA hB (fun h => by have := h.2; omega) (fun h => by have := h.2; omega)
theorem zero_own (w : World) (base : Nat) (h : base ≤ w.heap.size) : (w.alloc (.cells (madeCells #[.int .u8 0] 128) 5)).ownsRow base 5 1 (.slice (some ⟨w.heap.size, 0, none⟩) 128 128) 128 (bs (List.replicate 128 0)) := by
  have e : (madeCells #[Value.int .u8 0] 128).toList = bs (List.replicate 128 0) := by rw [toList_madeCells_one]; rfl
  have hs : (madeCells #[Value.int .u8 0] 128).size = 128 * 1 := by rw [← Array.length_toList, e, bs_length, List.length_replicate]
  have := World.ownsRow_lit (size := 1) (e := 5) w (madeCells #[.int .u8 0] 128) 128 h (by decide) hs
  rwa [e] at this
set_option maxRecDepth 100000 in
set_option maxHeartbeats 8000000 in
theorem superGreater_walk (g r c t o g' r' c' t' o' : Int) (w : World) (_hw : ∀ z ∈ [g, r, c, t, o], (Lit.int .i64 z).wf = true) (_hw' : ∀ z ∈ [g', r', c', t', o'], (Lit.int .i64 z).wf = true) :
    Calls Try.prog 14 #[.agg #[.int .i64 g, .int .i64 r, .int .i64 c, .int .i64 t, .int .i64 o], .agg #[.int .i64 g', .int .i64 r', .int .i64 c', .int .i64 t', .int .i64 o']] w fun e w' => e = .returned (.bool true) ∧ Below w.heap.size w w' := by
  clear _hw _hw'
  by_cases hok : supMay g r c t o ∧ supMay g' r' c' t' o' ∧ ¬ g % 2 = g' % 2
  · obtain ⟨hA, hB, hpar⟩ := hok
    have hgb : 1 ≤ g ∧ g ≤ 1099511627776 := ⟨hA.1, hA.2.1⟩
    have hgb' : 1 ≤ g' ∧ g' ≤ 1099511627776 := ⟨hB.1, hB.2.1⟩
    obtain ⟨hg1, hg2⟩ := hgb
    obtain ⟨hg3, hg4⟩ := hgb'
    have HCA := Lib.hid (show supCode g r c t o = 0 by rw [supCode, if_pos hA])
    have HCB := Lib.hid (show supCode g' r' c' t' o' = 0 by rw [supCode, if_pos hB])
    have oa := supOf_pack hA
    have ob := supOf_pack hB
    have hla := supPack_len hA
    have hlb := supPack_len hB
    obtain ⟨A, hPA⟩ : ∃ A, supPack g r c t o = A := ⟨_, rfl⟩
    obtain ⟨B, hPB⟩ : ∃ B, supPack g' r' c' t' o' = B := ⟨_, rfl⟩
    rw [hPA] at oa hla
    rw [hPB] at ob hlb
    have HPA := Lib.hid hPA
    have HPB := Lib.hid hPB
    have HLA := Lib.hid hla
    have HLB := Lib.hid hlb
    have HA := Lib.hid (show Opens A g r c t o from oa)
    have HB := Lib.hid (show Opens B g' r' c' t' o' from ob)
    obtain ⟨p, hp⟩ : ∃ p : Nat, (p : Int) = 64 * (g % 2) := ⟨(64 * (g % 2)).toNat, by omega⟩
    obtain ⟨q, hq⟩ : ∃ q : Nat, (q : Int) = 64 * (g' % 2) := ⟨(64 * (g' % 2)).toNat, by omega⟩
    have hpq : p = 0 ∧ q = 64 ∨ p = 64 ∧ q = 0 := by omega
    have HPP := Lib.hid hp
    have HQQ := Lib.hid hq
    have HPQ := Lib.hid hpq
    have hpl : p ≤ 64 := by omega
    have hql : q ≤ 64 := by omega
    have hparb : (g % 2 == g' % 2) = false := by rw [beq_eq_false_iff_ne]; exact hpar
    clear oa ob hla hlb hPA hPB hA hB hp hq hpq hpar
    go_enter Try.func14, Try.ntmps14
    go_wp2_with fail
    refine (superPack_any g r c t o _).mono ?_
    rintro e w1 ⟨va, rfl, hna, hx⟩
    rw [HPA.out, HLA.out] at hna
    rw [HCA.out]
    obtain ⟨ga, ca, rfl⟩ := Joins.ownsRow_form hna (by decide)
    have OA1 := Lib.hid hna
    have hba := box_below (heap_keep (heap_last (o := supBox g r c t o) rfl) (supBox g' r' c' t' o')) hx
    have hbb := box_below (heap_last (w := w.alloc (supBox g r c t o)) (o := supBox g' r' c' t' o') (sz1 _ _).symm) hx
    have hw1 : Below w.heap.size w w1 := (below_new (below_new (Below.refl _ _) _) _).trans (hx.mono (by simp; omega))
    have BA1 := Lib.hid hba
    have BB1 := Lib.hid hbb
    obtain ⟨y0, y1, y2, y3, y4⟩ := supBox_cells hbb
    clear hna hx hba hbb
    go_wp2_with fail
    refine (superPack_any g' r' c' t' o' _).mono ?_
    rintro e w2 ⟨vb, rfl, hnb, hx⟩
    rw [HPB.out, HLB.out] at hnb
    rw [HCB.out]
    obtain ⟨gb, cb, rfl⟩ := Joins.ownsRow_form hnb (by decide)
    have OB2 := Lib.hid hnb
    have OA2 := Lib.hid (own_keep OA1.out hx)
    have BA2 := Lib.hid (box_below BA1.out hx)
    have BB2 := Lib.hid (box_below BB1.out hx)
    have hw2 := below_step hw1 hx
    clear hnb hx y0 y1 y2 y3 y4 hw1 OA1 BA1 BB1
    go_wp2_with fail
    refine (awake16_any _).mono ?_
    rintro e w3 ⟨rfl, hx⟩
    have OB3 := Lib.hid (own_keep OB2.out hx)
    have OA3 := Lib.hid (own_keep OA2.out hx)
    have BA3 := Lib.hid (box_below BA2.out hx)
    have BB3 := Lib.hid (box_below BB2.out hx)
    have hw3 := below_step hw2 hx
    obtain ⟨x0, x1, x2, x3, x4⟩ := supBox_cells BA3.out
    obtain ⟨y0, y1, y2, y3, y4⟩ := supBox_cells BB3.out
    have hga : ga < w3.heap.size := (OA3.out.lt ga rfl).2
    have hgbl : gb < w3.heap.size := (OB3.out.lt gb rfl).2
    have hcaA : 64 ≤ ca := (own_cap OA3.out).1
    have hcaB : 64 ≤ cb := (own_cap OB3.out).1
    have hl0 := (Array.getElem?_eq_some_iff.1 BA3.out).1
    have hl1 := (Array.getElem?_eq_some_iff.1 BB3.out).1
    clear hx hw2 OB2 OA2 BA2 BB2
    go_wp2_with fail
    have hmk : ∀ w : World, (Instr.makeSlice 24 (.int .i64 128) (.int .i64 128)).run Try.prog w = .ok (.slice (some ⟨w.heap.size, 0, none⟩) 128 128) (w.alloc (.cells (madeCells #[.int .u8 0] 128) 5)) := fun w =>
      run_make_row' 24 5 (.int .u8 0) 1 Try.underlying24 infoU8 rfl .i64 .i64 128 (by decide) (by decide) w
    go_cut [9, 10] (fun s9 s10 wx => ∃ gf gt : Nat, gf ≠ gt ∧ s9 = .slice (some ⟨gf, 0, none⟩) 128 128 ∧ s10 = .slice (some ⟨gt, 0, none⟩) 128 128 ∧ wx.ownsRow w3.heap.size 5 1 (.slice (some ⟨gf, 0, none⟩) 128 128) 128 (bs (List.replicate 128 0)) ∧ wx.ownsRow w3.heap.size 5 1 (.slice (some ⟨gt, 0, none⟩) 128 128) 128 (bs (List.replicate 128 0)) ∧ Below w3.heap.size w3 wx)
    case first =>
      go_region
      all_goals
        go_wp2_with fail
        go_meet
        have hz1 := ((zero_own w3 w3.heap.size (Nat.le_refl _)).alloc (.cells (madeCells #[.int .u8 0] 128) 5)).drew
        have hz2 := (zero_own (w3.alloc (.cells (madeCells #[.int .u8 0] 128) 5)) w3.heap.size (by simp)).drew
        have hz3 := (below_new (below_new (Below.refl w3.heap.size w3) (.cells (madeCells #[.int .u8 0] 128) 5)) (.cells (madeCells #[.int .u8 0] 128) 5)).drew
        rw [sz1] at hz2
        first
          | exact ⟨w3.heap.size, w3.heap.size + 1, by omega, rfl, rfl, hz1, hz2, hz3⟩
          | exact ⟨w3.heap.size + 1, w3.heap.size, by omega, rfl, rfl, hz2, hz1, hz3⟩
    case rest =>
      clear hmk
      obtain ⟨w4, rfl⟩ : ∃ x : World, x = wc := ⟨_, rfl⟩
      obtain ⟨gf, gt, hne, rfl, rfl, hof, hot, hx4⟩ := hcut
      have OF4 := Lib.hid (show w4.ownsRow w3.heap.size 5 1 (.slice (some ⟨gf, 0, none⟩) 128 128) 128 (bs (twoAt p (padB A 0) (padB B 0))) by rw [padB_zero, padB_zero]; unfold twoAt; split <;> exact hof)
      have OT4 := Lib.hid (show w4.ownsRow w3.heap.size 5 1 (.slice (some ⟨gt, 0, none⟩) 128 128) 128 (bs (twoAt p (padB B 0) (padB A 0))) by rw [padB_zero, padB_zero]; unfold twoAt; split <;> exact hot)
      clear hof hot
      go_wp2_with fail
      go_loopw [11] (fun i wr => ∃ k : Nat, k ≤ 64 ∧ i = .int .i64 k ∧ wr.ownsRow w3.heap.size 5 1 (.slice (some ⟨gf, 0, none⟩) 128 128) 128 (bs (twoAt p (padB A k) (padB B k))) ∧ wr.ownsRow w3.heap.size 5 1 (.slice (some ⟨gt, 0, none⟩) 128 128) 128 (bs (twoAt p (padB B k) (padB A k))) ∧ Below w3.heap.size w3 wr) (fun i _ => 64 - (intOf i).toNat)
      case atStart => exact ⟨0, by decide, rfl, OF4.out, OT4.out, hx4⟩
      case round =>
        clear OF4 OT4 hx4
        obtain ⟨k, hk, rfl, hof, hot, hnx⟩ := hrel
        have OFr := Lib.hid hof
        have OTr := Lib.hid hot
        clear hof hot
        by_cases hlt : k < 64
        · have hAl : k < A.length := by rw [HLA.out]; exact hlt
          have hBl : k < B.length := by rw [HLB.out]; exact hlt
          have cA := OA3.out.cellAt k (by omega)
          rw [bs_get A k hAl] at cA
          have cB := OB3.out.cellAt k (by omega)
          rw [bs_get B k hBl] at cB
          have HSA := Lib.hid (padB_set hAl hlt)
          have HSB := Lib.hid (padB_set hBl hlt)
          obtain ⟨xa, hxa⟩ : ∃ x, x = A[k] := ⟨_, rfl⟩
          obtain ⟨xb, hxb⟩ : ∃ x, x = B[k] := ⟨_, rfl⟩
          rw [← hxa] at cA HSA
          rw [← hxb] at cB HSB
          have dA : wr.cell? ⟨ga, k, none⟩ = some (.int .u8 (xa.toNat : Int)) := (hnx.cell hga).trans cA
          have dB : wr.cell? ⟨gb, k, none⟩ = some (.int .u8 (xb.toNat : Int)) := (hnx.cell hgbl).trans cB
          have dg : wr.cell? ⟨w.heap.size, 0, none⟩ = some (.int .i64 g) := (hnx.cell hl0).trans x0
          have dg' : wr.cell? ⟨w.heap.size + 1, 0, none⟩ = some (.int .i64 g') := (hnx.cell hl1).trans y0
          have hpo := HPQ.out
          have q0 : (0 : Int) ≤ (k : Int) := by omega
          have q1 : (k : Int) < 64 := by omega
          have q3 : (p : Int) + (k : Int) < 128 := by omega
          have q4 : (0 : Int) ≤ (p : Int) + (k : Int) := by omega
          have q5 : (q : Int) + (k : Int) < 128 := by omega
          have q6 : (0 : Int) ≤ (q : Int) + (k : Int) := by omega
          have hwp : IntKind.i64.wrap ((p : Int) + (k : Int)) = ((p + k : Nat) : Int) := by rw [IntWalk.i64_in _ (by omega)]; omega
          have hwq : IntKind.i64.wrap ((q : Int) + (k : Int)) = ((q + k : Nat) : Int) := by rw [IntWalk.i64_in _ (by omega)]; omega
          have ht1 : ((p : Int) + (k : Int)).toNat = p + k := by omega
          have ht2 : ((q : Int) + (k : Int)).toNat = q + k := by omega
          have hpk : p + k < 128 := by omega
          have hqk : q + k < 128 := by omega
          have hpqne : ¬ p + k = q + k := by omega
          have hpqne' : ¬ q + k = p + k := by omega
          have hlen1 := twoAt_len p (padB_len A k (by omega)) (padB_len B k (by omega))
          have hlen2 := twoAt_len p (padB_len B k (by omega)) (padB_len A k (by omega))
          have cell1 : ∃ u, wr.cell? ⟨gf, p + k, none⟩ = some u := ⟨_, (OFr.out.cellAt (p + k) (by omega)).trans (bs_get _ (p + k) (by rw [hlen1]; omega))⟩
          have cell2 : ∃ u, wr.cell? ⟨gf, q + k, none⟩ = some u := ⟨_, (OFr.out.cellAt (q + k) (by omega)).trans (bs_get _ (q + k) (by rw [hlen1]; omega))⟩
          have cell3 : ∃ u, wr.cell? ⟨gt, p + k, none⟩ = some u := ⟨_, (OTr.out.cellAt (p + k) (by omega)).trans (bs_get _ (p + k) (by rw [hlen2]; omega))⟩
          have cell4 : ∃ u, wr.cell? ⟨gt, q + k, none⟩ = some u := ⟨_, (OTr.out.cellAt (q + k) (by omega)).trans (bs_get _ (q + k) (by rw [hlen2]; omega))⟩
          obtain ⟨u1, hu1⟩ := cell1
          obtain ⟨u2, hu2⟩ := cell2
          obtain ⟨u3, hu3⟩ := cell3
          obtain ⟨u4, hu4⟩ := cell4
          have f1 := OFr.out.frozenAt (p + k)
          have f2 := OFr.out.frozenAt (q + k)
          have f3 := OTr.out.frozenAt (p + k)
          have f4 := OTr.out.frozenAt (q + k)
          have hgf3 : w3.heap.size ≤ gf := (OFr.out.lt gf rfl).1
          have hgt3 : w3.heap.size ≤ gt := (OTr.out.lt gt rfl).1
          have n1 : ¬ ga = gf := by omega
          have n2 : ¬ gb = gf := by omega
          have n3 : ¬ ga = gt := by omega
          have n4 : ¬ gb = gt := by omega
          have n5 : ¬ w.heap.size = gf := by omega
          have n6 : ¬ w.heap.size + 1 = gf := by omega
          have n7 : ¬ gt = gf := fun e => hne e.symm
          have m1 : ¬ gf = ga := by omega
          have m2 : ¬ gf = gb := by omega
          have m3 : ¬ gt = ga := by omega
          have m4 : ¬ gt = gb := by omega
          have m5 : ¬ gf = w.heap.size := by omega
          have m6 : ¬ gf = w.heap.size + 1 := by omega
          have m7 : ¬ gt = w.heap.size := by omega
          have m8 : ¬ gt = w.heap.size + 1 := by omega
          have n8 : ¬ w.heap.size = gt := by omega
          have n9 : ¬ w.heap.size + 1 = gt := by omega
          have CA := Lib.hid cA
          have CB := Lib.hid cB
          clear hxa hxb cA cB hlen1 hlen2 hpo
          go_wp2_with fail
          go_region_held3 (fun w' => w'.cell? ⟨w.heap.size, 0, none⟩ = some (.int .i64 g) ∧ w'.cell? ⟨w.heap.size + 1, 0, none⟩ = some (.int .i64 g') ∧ w'.cell? ⟨ga, k, none⟩ = some (.int .u8 (xa.toNat : Int)) ∧ w'.cell? ⟨gb, k, none⟩ = some (.int .u8 (xb.toNat : Int)))
            (go_keep)
            (first
              | (go_at_call 36
                 refine (place_any _ _).mono ?_
                 rintro e w' ⟨rfl, rfl⟩
                 first | rw [← HPP.out] | rw [← HQQ.out])
              | fail "no arm")
          have hln1 := padB_len A k (by omega)
          have hln2 := padB_len B k (by omega)
          have hln3 := padB_len A (k + 1) (by omega)
          have hln4 := padB_len B (k + 1) (by omega)
          obtain ⟨s1, t1⟩ := OFr.out.stored (p + k) (.int .u8 (xa.toNat : Int))
          rw [← bs_set, twoAt_first HPQ.out hln1 hln2 hlt, HSA.out] at s1
          obtain ⟨s2, t2⟩ := s1.stored (q + k) (.int .u8 (xb.toNat : Int))
          rw [← bs_set, twoAt_second HPQ.out hln3 hln2 hlt, HSB.out] at s2
          have OF5 := Lib.hid s2.drew
          have OT5 := Lib.hid (own_grown (own_grown OTr.out t1 n7) t2 n7).drew
          have hn5 := ((hnx.setCell hgf3 (.int .u8 (xa.toNat : Int)) (p := ⟨gf, p + k, none⟩)).setCell hgf3 (.int .u8 (xb.toNat : Int)) (p := ⟨gf, q + k, none⟩)).drew
          clear s1 t1 s2 t2 hln1 hln2 hu1 hu2 hu3 hu4 f1 f2 f3 f4 dA dB dg dg' hnx OFr OTr
          generalize ((wr.setCell ⟨gf, p + k, none⟩ (.int .u8 (xa.toNat : Int))).setCell ⟨gf, q + k, none⟩ (.int .u8 (xb.toNat : Int))).drew = w6 at OF5 OT5 hn5 ⊢
          have dA : w6.cell? ⟨ga, k, none⟩ = some (.int .u8 (xa.toNat : Int)) := (hn5.cell hga).trans CA.out
          have dB : w6.cell? ⟨gb, k, none⟩ = some (.int .u8 (xb.toNat : Int)) := (hn5.cell hgbl).trans CB.out
          have dg : w6.cell? ⟨w.heap.size, 0, none⟩ = some (.int .i64 g) := (hn5.cell hl0).trans x0
          have dg' : w6.cell? ⟨w.heap.size + 1, 0, none⟩ = some (.int .i64 g') := (hn5.cell hl1).trans y0
          have hlen2 := twoAt_len p (padB_len B k (by omega)) (padB_len A k (by omega))
          have cell3 : ∃ u, w6.cell? ⟨gt, p + k, none⟩ = some u := ⟨_, (OT5.out.cellAt (p + k) (by omega)).trans (bs_get _ (p + k) (by rw [hlen2]; omega))⟩
          have cell4 : ∃ u, w6.cell? ⟨gt, q + k, none⟩ = some u := ⟨_, (OT5.out.cellAt (q + k) (by omega)).trans (bs_get _ (q + k) (by rw [hlen2]; omega))⟩
          obtain ⟨u3, hu3⟩ := cell3
          obtain ⟨u4, hu4⟩ := cell4
          have f3 := OT5.out.frozenAt (p + k)
          have f4 := OT5.out.frozenAt (q + k)
          clear hlen2
          go_wp2_with fail
          go_region_held3 (fun w' => w'.cell? ⟨w.heap.size, 0, none⟩ = some (.int .i64 g) ∧ w'.cell? ⟨w.heap.size + 1, 0, none⟩ = some (.int .i64 g') ∧ w'.cell? ⟨ga, k, none⟩ = some (.int .u8 (xa.toNat : Int)) ∧ w'.cell? ⟨gb, k, none⟩ = some (.int .u8 (xb.toNat : Int)))
            (go_keep)
            (first
              | (go_at_call 36
                 refine (place_any _ _).mono ?_
                 rintro e w' ⟨rfl, rfl⟩
                 first | rw [← HPP.out] | rw [← HQQ.out])
              | fail "no arm")
          have hln1 := padB_len A k (by omega)
          have hln2 := padB_len B k (by omega)
          obtain ⟨s1, t1⟩ := OT5.out.stored (q + k) (.int .u8 (xa.toNat : Int))
          rw [← bs_set, twoAt_second HPQ.out hln2 hln1 hlt, HSA.out] at s1
          obtain ⟨s2, t2⟩ := s1.stored (p + k) (.int .u8 (xb.toNat : Int))
          rw [← bs_set, twoAt_first HPQ.out hln2 hln3 hlt, HSB.out] at s2
          have OT7 := Lib.hid s2.drew
          have OF7 := Lib.hid (own_grown (own_grown OF5.out t1 hne) t2 hne).drew
          have hn7 := ((hn5.setCell hgt3 (.int .u8 (xa.toNat : Int)) (p := ⟨gt, q + k, none⟩)).setCell hgt3 (.int .u8 (xb.toNat : Int)) (p := ⟨gt, p + k, none⟩)).drew
          clear s1 t1 s2 t2 hln1 hln2 hln3 hln4 hu3 hu4 f3 f4 dA dB dg dg' hn5 OF5 OT5
          generalize ((w6.setCell ⟨gt, q + k, none⟩ (.int .u8 (xa.toNat : Int))).setCell ⟨gt, p + k, none⟩ (.int .u8 (xb.toNat : Int))).drew = w8 at OF7 OT7 hn7 ⊢
          go_wp2_with fail
          go_roundw
          case rel => exact ⟨k + 1, by omega, by go_num, OF7.out, OT7.out, hn7⟩
          case measure => simp [intOf]; omega
        · obtain rfl : k = 64 := by omega
          have hof := OFr.out
          have hot := OTr.out
          rw [padB_full HLA.out, padB_full HLB.out] at hof hot
          have OF9 := Lib.hid hof
          have OT9 := Lib.hid hot
          have BA9 := Lib.hid (box_below BA3.out hnx)
          have BB9 := Lib.hid (box_below BB3.out hnx)
          have hw9 : Below w.heap.size w wr := below_step hw3 hnx
          clear hof hot OFr OTr BA3 BB3 OA3 OB3 x0 x1 x2 x3 x4 y0 y1 y2 y3 y4
          rcases Int.lt_trichotomy g g' with hgg | hgg | hgg
          · have hng : ¬ g' < g := by omega
            have HCT := Lib.hid ((greater_counts HLA.out HLB.out HA.out HB.out HPP.out HQQ.out HPQ.out).1 hgg)
            obtain ⟨M, hM⟩ : ∃ M : List UInt8, M = twoAt p A B := ⟨_, rfl⟩
            obtain ⟨N, hN⟩ : ∃ N : List UInt8, N = twoAt p B A := ⟨_, rfl⟩
            have hml : M.length = 128 := by rw [hM]; exact twoAt_len p HLA.out HLB.out
            have hnl : N.length = 128 := by rw [hN]; exact twoAt_len p HLB.out HLA.out
            have HBM := Lib.hid (show Bytes wr (.slice (some ⟨gf, 0, none⟩) 128 128) M by unfold Bytes; rw [hml, hM]; exact Has.own OF9.out)
            have HBN := Lib.hid (show Bytes wr (.slice (some ⟨gt, 0, none⟩) 128 128) N by unfold Bytes; rw [hnl, hN]; exact Has.own OT9.out)
            have HNN := Lib.hid (show bst N 2 = none by rw [hN]; exact turned_none HLA.out HLB.out HA.out HB.out HPP.out HQQ.out HPQ.out)
            rw [← hM] at HCT
            clear hM hN hml hnl OF9 OT9
            go_wp2_with fail
            refine (superNewest_any _ M _ HBM.out).mono ?_
            rintro e w10 ⟨rfl, hx⟩
            rw [HCT.out.1, HCT.out.2.1, HCT.out.2.2.1, HCT.out.2.2.2.1, HCT.out.2.2.2.2.1, HCT.out.2.2.2.2.2]
            have BA10 := Lib.hid (box_below BA9.out hx)
            have BB10 := Lib.hid (box_below BB9.out hx)
            have HBN10 := Lib.hid ((HBN.out.below hx).alloc (supBox g' r' c' t' o'))
            have hw10 := below_step hw9 hx
            clear hx hw9 BA9 BB9 HBM HBN HCT
            go_wp2_with fail
            refine (superNewest_any _ N _ HBN10.out).mono ?_
            rintro e w11 ⟨he, hx⟩
            rw [HNN.out] at he
            have he2 : e = .returned (.tuple #[.agg #[.int .i64 0, .int .i64 0, .int .i64 0, .int .i64 0, .int .i64 0], .bool false]) := he
            subst he2
            have BS11 := Lib.hid (box_below (heap_last (o := supBox g' r' c' t' o') rfl) hx)
            have BA11 := Lib.hid (box_below (heap_keep BA10.out (supBox g' r' c' t' o')) hx)
            have BB11 := Lib.hid (box_below (heap_keep BB10.out (supBox g' r' c' t' o')) hx)
            have hw11 : Below w.heap.size w w11 := (below_new hw10 _).trans (hx.mono (by have := hw10.size; simp; omega))
            obtain ⟨s0, s1, s2, s3, s4⟩ := supBox_cells BS11.out
            obtain ⟨x0, x1, x2, x3, x4⟩ := supBox_cells BA11.out
            obtain ⟨y0, y1, y2, y3, y4⟩ := supBox_cells BB11.out
            have hs0 := (Array.getElem?_eq_some_iff.1 BS11.out).1
            have hs1 := (Array.getElem?_eq_some_iff.1 BA11.out).1
            have hs2 := (Array.getElem?_eq_some_iff.1 BB11.out).1
            clear hx he hw10 BA10 BB10 HBN10 HNN
            go_wp2_with fail
            go_ret
            exact ⟨rfl, below_new (below_new hw11 _) _⟩
          · exact absurd hparb (by rw [hgg]; simp)
          · have hng : ¬ g < g' := by omega
            have HCT := Lib.hid ((greater_counts HLA.out HLB.out HA.out HB.out HPP.out HQQ.out HPQ.out).2 hgg)
            obtain ⟨M, hM⟩ : ∃ M : List UInt8, M = twoAt p A B := ⟨_, rfl⟩
            obtain ⟨N, hN⟩ : ∃ N : List UInt8, N = twoAt p B A := ⟨_, rfl⟩
            have hml : M.length = 128 := by rw [hM]; exact twoAt_len p HLA.out HLB.out
            have hnl : N.length = 128 := by rw [hN]; exact twoAt_len p HLB.out HLA.out
            have HBM := Lib.hid (show Bytes wr (.slice (some ⟨gf, 0, none⟩) 128 128) M by unfold Bytes; rw [hml, hM]; exact Has.own OF9.out)
            have HBN := Lib.hid (show Bytes wr (.slice (some ⟨gt, 0, none⟩) 128 128) N by unfold Bytes; rw [hnl, hN]; exact Has.own OT9.out)
            have HNN := Lib.hid (show bst N 2 = none by rw [hN]; exact turned_none HLA.out HLB.out HA.out HB.out HPP.out HQQ.out HPQ.out)
            rw [← hM] at HCT
            clear hM hN hml hnl OF9 OT9
            go_wp2_with fail
            refine (superNewest_any _ M _ HBM.out).mono ?_
            rintro e w10 ⟨rfl, hx⟩
            rw [HCT.out.1, HCT.out.2.1, HCT.out.2.2.1, HCT.out.2.2.2.1, HCT.out.2.2.2.2.1, HCT.out.2.2.2.2.2]
            have BA10 := Lib.hid (box_below BA9.out hx)
            have BB10 := Lib.hid (box_below BB9.out hx)
            have HBN10 := Lib.hid ((HBN.out.below hx).alloc (supBox g r c t o))
            have hw10 := below_step hw9 hx
            clear hx hw9 BA9 BB9 HBM HBN HCT
            go_wp2_with fail
            refine (superNewest_any _ N _ HBN10.out).mono ?_
            rintro e w11 ⟨he, hx⟩
            rw [HNN.out] at he
            have he2 : e = .returned (.tuple #[.agg #[.int .i64 0, .int .i64 0, .int .i64 0, .int .i64 0, .int .i64 0], .bool false]) := he
            subst he2
            have BS11 := Lib.hid (box_below (heap_last (o := supBox g r c t o) rfl) hx)
            have BA11 := Lib.hid (box_below (heap_keep BA10.out (supBox g r c t o)) hx)
            have BB11 := Lib.hid (box_below (heap_keep BB10.out (supBox g r c t o)) hx)
            have hw11 : Below w.heap.size w w11 := (below_new hw10 _).trans (hx.mono (by have := hw10.size; simp; omega))
            obtain ⟨s0, s1, s2, s3, s4⟩ := supBox_cells BS11.out
            obtain ⟨x0, x1, x2, x3, x4⟩ := supBox_cells BA11.out
            obtain ⟨y0, y1, y2, y3, y4⟩ := supBox_cells BB11.out
            have hs0 := (Array.getElem?_eq_some_iff.1 BS11.out).1
            have hs1 := (Array.getElem?_eq_some_iff.1 BA11.out).1
            have hs2 := (Array.getElem?_eq_some_iff.1 BB11.out).1
            clear hx he hw10 BA10 BB10 HBN10 HNN
            go_wp2_with fail
            go_ret
            exact ⟨rfl, below_new (below_new hw11 _) _⟩
  · by_cases hA : supMay g r c t o
    · have hgb : 1 ≤ g ∧ g ≤ 1099511627776 := ⟨hA.1, hA.2.1⟩
      obtain ⟨hg1, hg2⟩ := hgb
      have HCA := Lib.hid (show supCode g r c t o = 0 by rw [supCode, if_pos hA])
      by_cases hB : supMay g' r' c' t' o'
      · have hgb' : 1 ≤ g' ∧ g' ≤ 1099511627776 := ⟨hB.1, hB.2.1⟩
        obtain ⟨hg3, hg4⟩ := hgb'
        have HCB := Lib.hid (show supCode g' r' c' t' o' = 0 by rw [supCode, if_pos hB])
        have hpar : (g % 2 == g' % 2) = true := by
          rw [beq_iff_eq]
          apply Classical.byContradiction
          intro h
          exact hok ⟨hA, hB, h⟩
        clear hok hA hB
        go_enter Try.func14, Try.ntmps14
        go_wp2_with fail
        refine (superPack_any g r c t o _).mono ?_
        rintro e w1 ⟨va, rfl, -, hx⟩
        rw [HCA.out]
        have hba := box_below (heap_keep (heap_last (o := supBox g r c t o) rfl) (supBox g' r' c' t' o')) hx
        have hbb := box_below (heap_last (w := w.alloc (supBox g r c t o)) (o := supBox g' r' c' t' o') (sz1 _ _).symm) hx
        have hw1 : Below w.heap.size w w1 := (below_new (below_new (Below.refl _ _) _) _).trans (hx.mono (by simp; omega))
        obtain ⟨y0, y1, y2, y3, y4⟩ := supBox_cells hbb
        have BA1 := Lib.hid hba
        have BB1 := Lib.hid hbb
        clear hx hba hbb
        go_wp2_with fail
        refine (superPack_any g' r' c' t' o' _).mono ?_
        rintro e w2 ⟨vb, rfl, -, hx⟩
        rw [HCB.out]
        have BA2 := Lib.hid (box_below BA1.out hx)
        have BB2 := Lib.hid (box_below BB1.out hx)
        have hw2 := below_step hw1 hx
        clear hx hw1 y0 y1 y2 y3 y4 BA1 BB1
        go_wp2_with fail
        refine (awake16_any _).mono ?_
        rintro e w3 ⟨rfl, hx⟩
        obtain ⟨x0, x1, x2, x3, x4⟩ := supBox_cells (box_below BA2.out hx)
        obtain ⟨y0, y1, y2, y3, y4⟩ := supBox_cells (box_below BB2.out hx)
        have hw3 := below_step hw2 hx
        clear hx hw2 BA2 BB2
        go_wp2_with fail
        refine (awake16_any _).mono ?_
        rintro e w4 ⟨rfl, hx⟩
        go_wp2_with fail
        go_ret
        exact ⟨rfl, below_step hw3 hx⟩
      · have HCB := Lib.hid (show supCode g' r' c' t' o' = 1 by rw [supCode, if_neg hB])
        clear hok hA hB
        go_enter Try.func14, Try.ntmps14
        go_wp2_with fail
        refine (superPack_any g r c t o _).mono ?_
        rintro e w1 ⟨va, rfl, -, hx⟩
        rw [HCA.out]
        have hba := box_below (heap_keep (heap_last (o := supBox g r c t o) rfl) (supBox g' r' c' t' o')) hx
        have hbb := box_below (heap_last (w := w.alloc (supBox g r c t o)) (o := supBox g' r' c' t' o') (sz1 _ _).symm) hx
        have hw1 : Below w.heap.size w w1 := (below_new (below_new (Below.refl _ _) _) _).trans (hx.mono (by simp; omega))
        obtain ⟨y0, y1, y2, y3, y4⟩ := supBox_cells hbb
        have BA1 := Lib.hid hba
        have BB1 := Lib.hid hbb
        clear hx hba hbb
        go_wp2_with fail
        refine (superPack_any g' r' c' t' o' _).mono ?_
        rintro e w2 ⟨vb, rfl, -, hx⟩
        rw [HCB.out]
        have BA2 := Lib.hid (box_below BA1.out hx)
        have BB2 := Lib.hid (box_below BB1.out hx)
        have hw2 := below_step hw1 hx
        clear hx hw1 y0 y1 y2 y3 y4 BA1 BB1
        go_wp2_with fail
        refine (awake16_any _).mono ?_
        rintro e w3 ⟨rfl, hx⟩
        obtain ⟨x0, x1, x2, x3, x4⟩ := supBox_cells (box_below BA2.out hx)
        obtain ⟨y0, y1, y2, y3, y4⟩ := supBox_cells (box_below BB2.out hx)
        have hw3 := below_step hw2 hx
        clear hx hw2 BA2 BB2
        go_wp2_with fail
        refine (awake16_any _).mono ?_
        rintro e w4 ⟨rfl, hx⟩
        go_wp2_with fail
        go_ret
        exact ⟨rfl, below_step hw3 hx⟩
    · have HCA := Lib.hid (show supCode g r c t o = 1 by rw [supCode, if_neg hA])
      clear hok hA
      go_enter Try.func14, Try.ntmps14
      go_wp2_with fail
      refine (superPack_any g r c t o _).mono ?_
      rintro e w1 ⟨va, rfl, -, hx⟩
      rw [HCA.out]
      have hba := box_below (heap_keep (heap_last (o := supBox g r c t o) rfl) (supBox g' r' c' t' o')) hx
      have hbb := box_below (heap_last (w := w.alloc (supBox g r c t o)) (o := supBox g' r' c' t' o') (sz1 _ _).symm) hx
      have hw1 : Below w.heap.size w w1 := (below_new (below_new (Below.refl _ _) _) _).trans (hx.mono (by simp; omega))
      obtain ⟨y0, y1, y2, y3, y4⟩ := supBox_cells hbb
      have BA1 := Lib.hid hba
      have BB1 := Lib.hid hbb
      clear hx hba hbb
      go_wp2_with fail
      refine (superPack_any g' r' c' t' o' _).mono ?_
      rintro e w2 ⟨vb, rfl, -, hx⟩
      have BA2 := Lib.hid (box_below BA1.out hx)
      have BB2 := Lib.hid (box_below BB1.out hx)
      have hw2 := below_step hw1 hx
      clear hx hw1 y0 y1 y2 y3 y4 BA1 BB1
      go_wp2_with fail
      refine (awake16_any _).mono ?_
      rintro e w3 ⟨rfl, hx⟩
      obtain ⟨x0, x1, x2, x3, x4⟩ := supBox_cells (box_below BA2.out hx)
      obtain ⟨y0, y1, y2, y3, y4⟩ := supBox_cells (box_below BB2.out hx)
      have hw3 := below_step hw2 hx
      clear hx hw2 BA2 BB2
      go_wp2_with fail
      refine (awake16_any _).mono ?_
      rintro e w4 ⟨rfl, hx⟩
      go_wp2_with fail
      go_ret
      exact ⟨rfl, below_step hw3 hx⟩
end Go.Proofs.Ytdekfbmjhmfmaaa
