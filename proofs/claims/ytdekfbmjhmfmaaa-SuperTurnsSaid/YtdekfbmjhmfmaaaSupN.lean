/- The walk of the law SuperTurns. -/
import Derived.Test.YtdekfbmjhmfmaaaSupM
import Derived.Deep.DeepCutAuto
namespace Go.Proofs.Ytdekfbmjhmfmaaa
open Go.RowKit Go.Oct

theorem sets_cell {w : World} {a : Addr} {b : Nat} {x : Option Value} (h : w.cell? a = x) (hne : a.block ≠ b) (v0 v1 v2 v3 v4 : Value) :
    (((((w.setCell ⟨b, 0, none⟩ v0).setCell ⟨b, 1, none⟩ v1).setCell ⟨b, 2, none⟩ v2).setCell ⟨b, 3, none⟩ v3).setCell ⟨b, 4, none⟩ v4).cell? a = x := by
  have hs : ∀ i, (⟨b, i, none⟩ : Addr) ≠ a := fun i e => hne (congrArg Addr.block e).symm
  have ha : ∀ i, a ≠ (⟨b, i, none⟩ : Addr) := fun i e => hne (congrArg Addr.block e)
  have one : ∀ (W : World) (i : Nat) (v : Value), (W.setCell ⟨b, i, none⟩ v).cell? a = W.cell? a := fun W i v => by
    first
      | exact World.cell?_setCell_other _ _ _ _ (hs i)
      | exact World.cell?_setCell_other _ _ _ _ (ha i)
  rw [one, one, one, one, one, h]

set_option maxRecDepth 100000 in
set_option maxHeartbeats 8000000 in
theorem superTurns_walk (g r c t o g' r' c' t' o' : Int) (v2 : Value) (J : List UInt8) (w : World) (_hw : ∀ z ∈ [g, r, c, t, o], (Lit.int .i64 z).wf = true) (_hw' : ∀ z ∈ [g', r', c', t', o'], (Lit.int .i64 z).wf = true) (BJ : Bytes w v2 J) (_nJ : J.length ≤ 140737488351232) :
    Calls Try.prog 13 #[.agg #[.int .i64 g, .int .i64 r, .int .i64 c, .int .i64 t, .int .i64 o], .agg #[.int .i64 g', .int .i64 r', .int .i64 c', .int .i64 t', .int .i64 o'], v2] w fun e w' => e = .returned (.bool true) ∧ Below w.heap.size w w' := by
  obtain ⟨aj, cj, rfl, hcj, hmj, hcells⟩ := BJ.open
  unfold maxLen at hmj
  clear _hw _hw' _nJ
  by_cases hA : supMay g r c t o
  · have hgb : 1 ≤ g ∧ g ≤ 1099511627776 := ⟨hA.1, hA.2.1⟩
    obtain ⟨hg1, hg2⟩ := hgb
    have HCA := Lib.hid (show supCode g r c t o = 0 by rw [supCode, if_pos hA])
    by_cases hB : supMay (g + 1) r' c' t' o'
    · have HCB := Lib.hid (show supCode (g + 1) r' c' t' o' = 0 by rw [supCode, if_pos hB])
      obtain ⟨a0, a1, a2, a3, a4, a5⟩ := supOf_pack hA
      obtain ⟨b0, b1, b2, b3, b4, b5⟩ := supOf_pack hB
      have hla := supPack_len hA
      have hlb := supPack_len hB
      obtain ⟨A, hPA⟩ : ∃ A, supPack g r c t o = A := ⟨_, rfl⟩
      obtain ⟨B, hPB⟩ : ∃ B, supPack (g + 1) r' c' t' o' = B := ⟨_, rfl⟩
      rw [hPA] at a0 a1 a2 a3 a4 a5 hla
      rw [hPB] at b0 b1 b2 b3 b4 b5 hlb
      have HPA := Lib.hid hPA
      have HPB := Lib.hid hPB
      have HLA := Lib.hid hla
      have HLB := Lib.hid hlb
      have HA := Lib.hid (And.intro a0 (And.intro a1 (And.intro a2 (And.intro a3 (And.intro a4 a5)))))
      have HB := Lib.hid (And.intro b0 (And.intro b1 (And.intro b2 (And.intro b3 (And.intro b4 b5)))))
      clear a0 a1 a2 a3 a4 a5 b0 b1 b2 b3 b4 b5 hPA hPB hla hlb hA hB
      by_cases hpar : g % 2 = 0
      · have HQA := Lib.hid (show 64 * (g % 2) = 0 by omega)
        have HQB := Lib.hid (show 64 * ((g + 1) % 2) = 64 by omega)
        clear hpar
        go_enter Try.func13, Try.ntmps13
        go_wp2_with fail
        refine (superPack_any g r c t o _).mono ?_
        rintro e w1 ⟨va, rfl, hna, hx⟩
        have hbel_w1 : Below w.heap.size w w1 := (below_new (below_new (Below.refl w.heap.size w) _) _).trans (hx.mono (by first | omega | (simp; done) | (simp; omega)))
        have hz_w1 : w.heap.size + 2 ≤ w1.heap.size := by have hz := hx.size; first | omega | (simp only [sz1] at hz; omega)
        have B3 := Lib.hid (show w1.heap[w.heap.size]? = some (supBox g r c t o) from box_below (heap_keep (heap_last (o := supBox g r c t o) rfl) _) hx)
        have B4 := Lib.hid (show w1.heap[w.heap.size + 1]? = some (supBox (g + 1) r' c' t' o') from box_below (heap_last (o := supBox (g + 1) r' c' t' o') (by simp only [sz1])) hx)
        clear hx 
        have hl_B3 := (Array.getElem?_eq_some_iff.1 B3.out).1
        have hl_B4 := (Array.getElem?_eq_some_iff.1 B4.out).1
        rw [HCA.out]
        rw [HPA.out, HLA.out] at hna
        obtain ⟨ga, ca, hf⟩ := Joins.ownsRow_form hna (by decide)
        subst hf
        have OA := Lib.hid hna
        have hga : ga < w1.heap.size := (hna.lt ga rfl).2
        clear hna
        obtain ⟨yB4_0, yB4_1, yB4_2, yB4_3, yB4_4⟩ := supBox_cells B4.out
        go_wp2_with fail
        refine (superPack_any (g + 1) r' c' t' o' _).mono ?_
        rintro e w2 ⟨vb, rfl, hnb, hx⟩
        clear yB4_0 yB4_1 yB4_2 yB4_3 yB4_4
        have hbel_w2 : Below w.heap.size w w2 := hbel_w1.trans (hx.mono (by have := hbel_w1.size; first | omega | (simp; omega)))
        have hz_w2 : w1.heap.size + 0 ≤ w2.heap.size := by have hz := hx.size; first | omega | (simp only [sz1] at hz; omega)
        have B3' := Lib.hid (box_below B3.out hx)
        have B4' := Lib.hid (box_below B4.out hx)
        have OA' := Lib.hid (own_keep OA.out hx)
        clear hx B3 B4 OA hbel_w1
        have B3 := B3'
        have B4 := B4'
        have OA := OA'
        clear B3' B4' OA'
        clear hl_B3 hl_B4
        have hl_B3 := (Array.getElem?_eq_some_iff.1 B3.out).1
        have hl_B4 := (Array.getElem?_eq_some_iff.1 B4.out).1
        rw [HCB.out]
        rw [HPB.out, HLB.out] at hnb
        obtain ⟨gb, cb, hf⟩ := Joins.ownsRow_form hnb (by decide)
        subst hf
        have OB := Lib.hid hnb
        have hgb : gb < w2.heap.size := (hnb.lt gb rfl).2
        clear hnb
        go_wp2_with fail
        refine (awake16_any _).mono ?_
        rintro e w3 ⟨rfl, hx⟩
        have hbel_w3 : Below w.heap.size w w3 := hbel_w2.trans (hx.mono (by have := hbel_w2.size; first | omega | (simp; omega)))
        have hz_w3 : w2.heap.size + 0 ≤ w3.heap.size := by have hz := hx.size; first | omega | (simp only [sz1] at hz; omega)
        have B3' := Lib.hid (box_below B3.out hx)
        have B4' := Lib.hid (box_below B4.out hx)
        have OA' := Lib.hid (own_keep OA.out hx)
        have OB' := Lib.hid (own_keep OB.out hx)
        clear hx B3 B4 OA OB hbel_w2
        have B3 := B3'
        have B4 := B4'
        have OA := OA'
        have OB := OB'
        clear B3' B4' OA' OB'
        clear hl_B3 hl_B4
        have hl_B3 := (Array.getElem?_eq_some_iff.1 B3.out).1
        have hl_B4 := (Array.getElem?_eq_some_iff.1 B4.out).1
        obtain ⟨i0, hi, hz0, hz1, hz2⟩ := info_parts infoU8
        go_wp2_with (at_make; refine wpList_make_full _ rfl _ _ 24 rfl w.heap.size 5 i0 (.int .u8 0) 1 Try.underlying24 hi hz0 hz1 .i64 .i64 _ _ 128 rfl rfl rfl rfl (by rw [hz2]; decide) (by decide) ?c2 ?_)
        case c2 => omega
        intro w4 hown hgrow
        have hx := below_none hgrow
        have hof : w4.ownsRow w.heap.size 5 1 (.slice (some ⟨w3.heap.size, 0, none⟩) 128 128) 128 (bs (List.replicate 64 0 ++ List.replicate 64 0)) := by rw [show bs (List.replicate 64 0 ++ List.replicate 64 0) = (madeCells #[Value.int .u8 0] 128).toList by rw [toList_madeCells_one]; rfl]; exact hown
        clear hown hgrow hi hz0 hz1 hz2
        have hbel_w4 : Below w.heap.size w w4 := hbel_w3.trans (hx.mono (by have := hbel_w3.size; first | omega | (simp; omega)))
        have hz_w4 : w3.heap.size + 0 ≤ w4.heap.size := by have hz := hx.size; first | omega | (simp only [sz1] at hz; omega)
        have B3' := Lib.hid (box_below B3.out hx)
        have B4' := Lib.hid (box_below B4.out hx)
        have OA' := Lib.hid (own_keep OA.out hx)
        have OB' := Lib.hid (own_keep OB.out hx)
        clear hx B3 B4 OA OB hbel_w3
        have B3 := B3'
        have B4 := B4'
        have OA := OA'
        have OB := OB'
        clear B3' B4' OA' OB'
        clear hl_B3 hl_B4
        have hl_B3 := (Array.getElem?_eq_some_iff.1 B3.out).1
        have hl_B4 := (Array.getElem?_eq_some_iff.1 B4.out).1
        obtain ⟨gf, hgf⟩ : ∃ gf, gf = w3.heap.size := ⟨_, rfl⟩
        rw [← hgf] at hof ⊢
        have hgaf : ga ≠ gf := by omega
        have hgbf : gb ≠ gf := by omega
        have hg0f : w.heap.size + 1 < gf := by omega
        have OF := Lib.hid hof
        clear hof hgf
        clear hl_B3 hl_B4
        go_wp2_with fail
        go_loopw [12] (fun i wr => ∃ k : Nat, k ≤ 64 ∧ i = .int .i64 k ∧ wr.ownsRow w.heap.size 5 1 (.slice (some ⟨gf, 0, none⟩) 128 128) 128 (bs (padB A (k) ++ padB J (k))) ∧ w4.grownBy wr (some gf)) (fun i _ => 64 - (intOf i).toNat)
        case atStart => exact ⟨0, by decide, rfl, by rw [padB_zero, padB_zero]; exact OF.out, World.grownBy.refl _ _⟩
        case round =>
          obtain ⟨k, hk, rfl, hown, hgr⟩ := hrel
          have OFr := Lib.hid hown
          have B3r := Lib.hid (box_grown B3.out hgr (by intro e; have := Option.some.inj e; omega))
          have B4r := Lib.hid (box_grown B4.out hgr (by intro e; have := Option.some.inj e; omega))
          have OAr := Lib.hid (own_grown OA.out hgr hgaf)
          have OBr := Lib.hid (own_grown OB.out hgr hgbf)
          have hnx := below_row hbel_w4 hgr (by intro r e; have := Option.some.inj e; omega)
          have HBW4 := Lib.hid hbel_w4
          clear hown B3 B4 OA OB OF hbel_w4
          by_cases hlt : k < 64
          · have hAl : k < A.length := by rw [HLA.out]; exact hlt
            have cA := OAr.out.cellAt k (by omega)
            rw [bs_get A k hAl] at cA
            have HSA := Lib.hid (padB_set hAl hlt)
            obtain ⟨x, hx⟩ : ∃ x, x = A[k] := ⟨_, rfl⟩
            rw [← hx] at cA HSA
            clear hx
            obtain ⟨y0, -, -, -, -⟩ := supBox_cells B3r.out
            have q0 : (0 : Int) ≤ (k : Int) := by omega
            have q1 : (k : Int) < 64 := by omega
            have q2 : (k : Int) < 128 := by omega
            have hwr : IntKind.i64.wrap (k : Int) = (k : Int) := IntWalk.i64_in _ (by omega)
            have q3 : (k : Int) < 128 := q2
            have q4 : (0 : Int) ≤ (k : Int) := q0
            go_wp2_with fail
            refine region_each_tail 11 [some 50, some 51, some 52, some 53, some 54, some 55, some 56, some 57, some 58, some 59, some 60, none] [[], [], [1], [2], [], [3, 4], [], [], [6, 7], [8], [0, 5]]
              [kIs (.slice (some ⟨gf, 0, none⟩) 128 128), kIs (.pointer (some ⟨w.heap.size, 0, none⟩)), kIs (.int .i64 g), kIs (.int .i64 0), kIs (.int .i64 k), kIs (.int .i64 (k : Int)), kIs (.slice (some ⟨ga, 0, none⟩) 64 ca), kIs (.int .i64 k), kIs (.pointer (some ⟨ga, k, none⟩)), kIs (.int .u8 (x.toNat : Int)), kIs (.pointer (some ⟨gf, k, none⟩))]
              (by kernel_rfl) (by kernel_rfl) (by kernel_rfl) (by kernel_rfl) (by kernel_rfl) ?_ ?_
            · simp only [List.take_succ_cons, List.take_zero, obligsD]
              refine ⟨?_, ?_, ?_, ?_, ?_, ?_, ?_, ?_, ?_, ?_, ?_, trivial⟩
              · intro us w1 _ _
                change Oper.wp _ _ _ _ _ _
                go_simp
                exact ⟨_, rfl, Below.refl _ _, rfl⟩
              · intro us w1 _ _
                change Oper.wp _ _ _ _ _ _
                go_simp
                exact ⟨_, rfl, Below.refl _ _, rfl⟩
              · intro us w1 hb hd
                simp only [List.mem_cons, List.not_mem_nil, or_false, forall_eq, List.getD_cons_zero, List.getD_cons_succ, kIs] at hd
                simp only [putD, List.getD_cons_zero, List.getD_cons_succ, Act.put, hd]
                have d0 := (hb.cell (World.block_lt_of_cell? _ _ y0)).trans y0
                go_simp
                exact ⟨_, rfl, Below.refl _ _, rfl⟩
              · intro us w1 hb hd
                simp only [List.mem_cons, List.not_mem_nil, or_false, forall_eq, List.getD_cons_zero, List.getD_cons_succ, kIs] at hd
                simp only [putD, List.getD_cons_zero, List.getD_cons_succ, Act.put, hd]
                go_simp
                refine (place_is g 0 HQA.out _).mono ?_
                rintro e w99 ⟨rfl, hb2⟩
                exact ⟨_, rfl, hb2, rfl⟩
              · intro us w1 _ _
                change Oper.wp _ _ _ _ _ _
                go_simp
                exact ⟨_, rfl, Below.refl _ _, rfl⟩
              · intro us w1 hb hd
                simp only [List.mem_cons, List.not_mem_nil, or_false, forall_eq_or_imp, forall_eq, List.getD_cons_zero, List.getD_cons_succ, kIs] at hd
                simp only [putD, List.getD_cons_zero, List.getD_cons_succ, Act.put, hd]
                go_simp
                exact ⟨_, rfl, Below.refl _ _, by first | rfl | (simp only [kIs]; done) | (simp only [kIs]; rw [hwr])⟩
              · intro us w1 _ _
                change Oper.wp _ _ _ _ _ _
                go_simp
                exact ⟨_, rfl, Below.refl _ _, rfl⟩
              · intro us w1 _ _
                change Oper.wp _ _ _ _ _ _
                go_simp
                exact ⟨_, rfl, Below.refl _ _, rfl⟩
              · intro us w1 hb hd
                simp only [List.mem_cons, List.not_mem_nil, or_false, forall_eq_or_imp, forall_eq, List.getD_cons_zero, List.getD_cons_succ, kIs] at hd
                simp only [putD, List.getD_cons_zero, List.getD_cons_succ, Act.put, hd]
                go_simp
                exact ⟨_, rfl, Below.refl _ _, rfl⟩
              · intro us w1 hb hd
                simp only [List.mem_cons, List.not_mem_nil, or_false, forall_eq, List.getD_cons_zero, List.getD_cons_succ, kIs] at hd
                simp only [putD, List.getD_cons_zero, List.getD_cons_succ, Act.put, hd]
                have d0 := (hb.cell (World.block_lt_of_cell? _ _ cA)).trans cA
                go_simp
                exact ⟨_, rfl, Below.refl _ _, rfl⟩
              · intro us w1 hb hd
                simp only [List.mem_cons, List.not_mem_nil, or_false, forall_eq_or_imp, forall_eq, List.getD_cons_zero, List.getD_cons_succ, kIs] at hd
                simp only [putD, List.getD_cons_zero, List.getD_cons_succ, Act.put, hd]
                go_simp
                exact ⟨_, rfl, Below.refl _ _, rfl⟩
            intro us_w5 w5 hb hp
            have h9 := hp 9 (by simp)
            have h10 := hp 10 (by simp)
            simp only [List.getD_cons_zero, List.getD_cons_succ, kIs] at h9 h10
            rw [show List.range 11 = [0, 1, 2, 3, 4, 5, 6, 7, 8, 9, 10] from rfl]
            simp only [List.drop_succ_cons, List.drop_zero, putD, List.getD_cons_zero, List.getD_cons_succ, Act.put, List.setIfInBounds_toArray, List.set_cons_zero, List.set_cons_succ, h9, h10]
            clear hp h9 h10
            have OF5 := Lib.hid (own_keep OFr.out hb)
            have hLl : (padB A (k) ++ padB J (k)).length = 128 := by rw [List.length_append, padB_len _ _ (by omega), padB_len _ _ (by omega)]
            have cF := OF5.out.cellAt (k) (by omega)
            rw [bs_get (padB A (k) ++ padB J (k)) (k) (by rw [hLl]; omega)] at cF
            have hfF := OF5.out.frozenAt (k)
            have hgl5 := (OF5.out.lt gf rfl).2
            obtain ⟨u, hu⟩ : ∃ u, (padB A (k) ++ padB J (k))[k]'(by rw [hLl]; omega) = u := ⟨_, rfl⟩
            rw [hu] at cF
            clear hu
            obtain ⟨hst, hgs⟩ := OF5.out.stored (k) (.int .u8 (x.toNat : Int))
            rw [← bs_set, set_first (padB_len _ _ (by omega)) (by omega), HSA.out] at hst
            have OS := Lib.hid hst
            have GS := Lib.hid hgs
            clear hst hgs hLl
            have hgr5 : w4.grownBy (w5.setCell ⟨gf, k, none⟩ (.int .u8 (x.toNat : Int))) (some gf) := (hgr.trans (below_grownBy hb _)).trans GS.out
            have HG5 := Lib.hid hgr5
            clear hgr5 y0 cA hwr q3 q4
            by_cases hJ : k < J.length
            · have hJc := hcells (by omega)
              obtain ⟨bj, oj, rfl, hcs⟩ := hJc
              have hjw := hcs k hJ
              have hbj := World.block_lt_of_cell? w _ hjw
              have HSJ := Lib.hid (padB_set hJ hlt)
              obtain ⟨z, hz⟩ : ∃ z, z = J[k] := ⟨_, rfl⟩
              rw [← hz] at hjw HSJ
              have HJW := Lib.hid hjw
              clear hz hjw hcs
              have q5 : (k : Int) < (J.length : Int) := by omega
              go_wp2_with fail
              have hnx6 := below_row HBW4.out HG5.out (by intro r e; have := Option.some.inj e; omega)
              have OF6 := Lib.hid OS.out
              have B46 := Lib.hid (box_grown (box_below B4r.out hb) GS.out (by intro e; have := Option.some.inj e; omega))
              generalize w5.setCell ⟨gf, k, none⟩ (.int .u8 (x.toNat : Int)) = w6 at OF6 B46 HG5 hnx6 OS GS ⊢
              have cJ := (hnx6.cell (p := ⟨bj, oj + k, none⟩) hbj).trans HJW.out
              obtain ⟨y0, -, -, -, -⟩ := supBox_cells B46.out
              clear cF hfF hgl5 OF5 OS GS hb
              have hwr : IntKind.i64.wrap (64 + (k : Int)) = ((64 + k : Nat) : Int) := by rw [IntWalk.i64_in _ (by omega)]; omega
              have q3 : (64 : Int) + (k : Int) < 128 := by omega
              have q4 : (0 : Int) ≤ 64 + (k : Int) := by omega
              refine region_each_tail 11 [some 65, some 66, some 67, some 68, some 69, some 70, some 71, some 72, some 73, some 74, some 75, none] [[], [], [1], [2], [], [3, 4], [], [], [6, 7], [8], [0, 5]]
                [kIs (.slice (some ⟨gf, 0, none⟩) 128 128), kIs (.pointer (some ⟨w.heap.size + 1, 0, none⟩)), kIs (.int .i64 (g + 1)), kIs (.int .i64 64), kIs (.int .i64 k), kIs (.int .i64 ((64 + k : Nat) : Int)), kIs (.slice (some ⟨bj, oj, none⟩) J.length cj), kIs (.int .i64 k), kIs (.pointer (some ⟨bj, oj + k, none⟩)), kIs (.int .u8 (z.toNat : Int)), kIs (.pointer (some ⟨gf, 64 + k, none⟩))]
                (by kernel_rfl) (by kernel_rfl) (by kernel_rfl) (by kernel_rfl) (by kernel_rfl) ?_ ?_
              · simp only [List.take_succ_cons, List.take_zero, obligsD]
                refine ⟨?_, ?_, ?_, ?_, ?_, ?_, ?_, ?_, ?_, ?_, ?_, trivial⟩
                · intro us w1 _ _
                  change Oper.wp _ _ _ _ _ _
                  go_simp
                  exact ⟨_, rfl, Below.refl _ _, rfl⟩
                · intro us w1 _ _
                  change Oper.wp _ _ _ _ _ _
                  go_simp
                  exact ⟨_, rfl, Below.refl _ _, rfl⟩
                · intro us w1 hb hd
                  simp only [List.mem_cons, List.not_mem_nil, or_false, forall_eq, List.getD_cons_zero, List.getD_cons_succ, kIs] at hd
                  simp only [putD, List.getD_cons_zero, List.getD_cons_succ, Act.put, hd]
                  have d0 := (hb.cell (World.block_lt_of_cell? _ _ y0)).trans y0
                  go_simp
                  exact ⟨_, rfl, Below.refl _ _, rfl⟩
                · intro us w1 hb hd
                  simp only [List.mem_cons, List.not_mem_nil, or_false, forall_eq, List.getD_cons_zero, List.getD_cons_succ, kIs] at hd
                  simp only [putD, List.getD_cons_zero, List.getD_cons_succ, Act.put, hd]
                  go_simp
                  refine (place_is (g + 1) 64 HQB.out _).mono ?_
                  rintro e w99 ⟨rfl, hb2⟩
                  exact ⟨_, rfl, hb2, rfl⟩
                · intro us w1 _ _
                  change Oper.wp _ _ _ _ _ _
                  go_simp
                  exact ⟨_, rfl, Below.refl _ _, rfl⟩
                · intro us w1 hb hd
                  simp only [List.mem_cons, List.not_mem_nil, or_false, forall_eq_or_imp, forall_eq, List.getD_cons_zero, List.getD_cons_succ, kIs] at hd
                  simp only [putD, List.getD_cons_zero, List.getD_cons_succ, Act.put, hd]
                  go_simp
                  exact ⟨_, rfl, Below.refl _ _, by first | rfl | (simp only [kIs]; done) | (simp only [kIs]; rw [hwr])⟩
                · intro us w1 _ _
                  change Oper.wp _ _ _ _ _ _
                  go_simp
                  exact ⟨_, rfl, Below.refl _ _, rfl⟩
                · intro us w1 _ _
                  change Oper.wp _ _ _ _ _ _
                  go_simp
                  exact ⟨_, rfl, Below.refl _ _, rfl⟩
                · intro us w1 hb hd
                  simp only [List.mem_cons, List.not_mem_nil, or_false, forall_eq_or_imp, forall_eq, List.getD_cons_zero, List.getD_cons_succ, kIs] at hd
                  simp only [putD, List.getD_cons_zero, List.getD_cons_succ, Act.put, hd]
                  go_simp
                  exact ⟨_, rfl, Below.refl _ _, rfl⟩
                · intro us w1 hb hd
                  simp only [List.mem_cons, List.not_mem_nil, or_false, forall_eq, List.getD_cons_zero, List.getD_cons_succ, kIs] at hd
                  simp only [putD, List.getD_cons_zero, List.getD_cons_succ, Act.put, hd]
                  have d0 := (hb.cell (World.block_lt_of_cell? _ _ cJ)).trans cJ
                  go_simp
                  exact ⟨_, rfl, Below.refl _ _, rfl⟩
                · intro us w1 hb hd
                  simp only [List.mem_cons, List.not_mem_nil, or_false, forall_eq_or_imp, forall_eq, List.getD_cons_zero, List.getD_cons_succ, kIs] at hd
                  simp only [putD, List.getD_cons_zero, List.getD_cons_succ, Act.put, hd]
                  go_simp
                  exact ⟨_, rfl, Below.refl _ _, rfl⟩
              intro us_w7 w7 hb hp
              have h9 := hp 9 (by simp)
              have h10 := hp 10 (by simp)
              simp only [List.getD_cons_zero, List.getD_cons_succ, kIs] at h9 h10
              rw [show List.range 11 = [0, 1, 2, 3, 4, 5, 6, 7, 8, 9, 10] from rfl]
              simp only [List.drop_succ_cons, List.drop_zero, putD, List.getD_cons_zero, List.getD_cons_succ, Act.put, List.setIfInBounds_toArray, List.set_cons_zero, List.set_cons_succ, h9, h10]
              clear hp h9 h10
              have OF5 := Lib.hid (own_keep OF6.out hb)
              have hLl : (padB A (k + 1) ++ padB J k).length = 128 := by rw [List.length_append, padB_len _ _ (by omega), padB_len _ _ (by omega)]
              have cF := OF5.out.cellAt (64 + k) (by omega)
              rw [bs_get (padB A (k + 1) ++ padB J k) (64 + k) (by rw [hLl]; omega)] at cF
              have hfF := OF5.out.frozenAt (64 + k)
              have hgl5 := (OF5.out.lt gf rfl).2
              obtain ⟨u, hu⟩ : ∃ u, (padB A (k + 1) ++ padB J k)[64 + k]'(by rw [hLl]; omega) = u := ⟨_, rfl⟩
              rw [hu] at cF
              clear hu
              obtain ⟨hst, hgs⟩ := OF5.out.stored (64 + k) (.int .u8 (z.toNat : Int))
              rw [← bs_set, set_second (padB_len _ _ (by omega)), HSJ.out] at hst
              have OS := Lib.hid hst
              have GS := Lib.hid hgs
              clear hst hgs hLl
              go_wp2_with fail
              go_roundw
              case rel => exact ⟨k + 1, by omega, by go_num, OS.out, (HG5.out.trans (below_grownBy hb _)).trans GS.out⟩
              case measure => simp [intOf]; omega
            · have HJS := Lib.hid (padB_stay (X := J) (i := k) (by omega))
              have q5 : (J.length : Int) ≤ (k : Int) := by omega
              go_wp2_with fail
              go_roundw
              case rel => exact ⟨k + 1, by omega, by go_num, by rw [HJS.out]; exact OS.out, HG5.out⟩
              case measure => simp [intOf]; omega
          · obtain ⟨w8, rfl⟩ : ∃ x : World, x = wr := ⟨_, rfl⟩
            obtain rfl : k = 64 := by omega
            obtain ⟨Y, hY⟩ : ∃ Y, padB J 64 = Y := ⟨_, rfl⟩
            have hYl : Y.length = 64 := by rw [← hY]; exact padB_len J 64 (by decide)
            have hfin := OFr.out
            rw [padB_full HLA.out, hY] at hfin
            have OFX := Lib.hid hfin
            have HYL := Lib.hid hYl
            clear hfin OFr hY hYl OAr hgr hlt hcells
            have hb8 : Bytes w8 (.slice (some ⟨gf, 0, none⟩) 128 128) (A ++ Y) := by unfold Bytes; rw [List.length_append, HLA.out, HYL.out]; exact Has.own OFX.out
            have HB8 := Lib.hid hb8
            clear hb8
            obtain ⟨M, hM⟩ : ∃ M : List UInt8, M = A ++ Y := ⟨_, rfl⟩
            rw [← hM] at HB8
            have HM := Lib.hid hM
            clear hM
            obtain ⟨m0, hm0⟩ : ∃ x, bval M (bst M 2) 8 6 = x := ⟨_, rfl⟩
            obtain ⟨m1, hm1⟩ : ∃ x, bval M (bst M 2) 14 4 = x := ⟨_, rfl⟩
            obtain ⟨m2, hm2⟩ : ∃ x, bval M (bst M 2) 18 1 = x := ⟨_, rfl⟩
            obtain ⟨m3, hm3⟩ : ∃ x, bval M (bst M 2) 19 4 = x := ⟨_, rfl⟩
            obtain ⟨m4, hm4⟩ : ∃ x, bval M (bst M 2) 23 4 = x := ⟨_, rfl⟩
            obtain ⟨fb, hfb⟩ : ∃ x, (bst M 2).isSome = x := ⟨_, rfl⟩
            have HMS := Lib.hid (And.intro hm0 (And.intro hm1 (And.intro hm2 (And.intro hm3 (And.intro hm4 hfb)))))
            clear hm0 hm1 hm2 hm3 hm4 hfb
            go_wp2_with fail
            refine (superNewest_any _ M _ HB8.out).mono ?_
            rintro e w9 ⟨rfl, hx⟩
            have hbel_w9 : Below w.heap.size w w9 := hnx.trans (hx.mono (by have := hnx.size; first | omega | (simp; omega)))
            have hz_w9 : w8.heap.size + 0 ≤ w9.heap.size := by have hz := hx.size; first | omega | (simp only [sz1] at hz; omega)
            have B3r' := Lib.hid (box_below B3r.out hx)
            have B4r' := Lib.hid (box_below B4r.out hx)
            have OBr' := Lib.hid (own_keep OBr.out hx)
            have OFX' := Lib.hid (own_keep OFX.out hx)
            clear hx B3r B4r OBr OFX hnx
            have B3r := B3r'
            have B4r := B4r'
            have OBr := OBr'
            have OFX := OFX'
            clear B3r' B4r' OBr' OFX'
            have hl_B3r := (Array.getElem?_eq_some_iff.1 B3r.out).1
            have hl_B4r := (Array.getElem?_eq_some_iff.1 B4r.out).1
            rw [HMS.out.1, HMS.out.2.1, HMS.out.2.2.1, HMS.out.2.2.2.1, HMS.out.2.2.2.2.1, HMS.out.2.2.2.2.2]
            clear HB8
            go_wp2_with fail
            obtain ⟨w10, hset⟩ : ∃ x, x = (w9.alloc (.cells #[.int .i64 m0, .int .i64 m1, .int .i64 m2, .int .i64 m3, .int .i64 m4] 23)) := ⟨_, rfl⟩
            rw [← hset]
            have hx : Below (w9.alloc (supBox m0 m1 m2 m3 m4)).heap.size (w9.alloc (supBox m0 m1 m2 m3 m4)) w10 := by rw [hset]; exact Below.refl _ _
            clear hset
            have hbel_w10 : Below w.heap.size w w10 := (below_new hbel_w9 _).trans (hx.mono (by have := hbel_w9.size; first | omega | (simp; omega)))
            have hz_w10 : w9.heap.size + 1 ≤ w10.heap.size := by have hz := hx.size; first | omega | (simp only [sz1] at hz; omega)
            have B3r' := Lib.hid (box_below (heap_keep B3r.out _) hx)
            have B4r' := Lib.hid (box_below (heap_keep B4r.out _) hx)
            have OBr' := Lib.hid (own_keep (World.ownsRow.alloc OBr.out _) hx)
            have OFX' := Lib.hid (own_keep (World.ownsRow.alloc OFX.out _) hx)
            have B13 := Lib.hid (show w10.heap[w9.heap.size]? = some (supBox m0 m1 m2 m3 m4) from box_below (heap_last (o := supBox m0 m1 m2 m3 m4) rfl) hx)
            clear hx B3r B4r OBr OFX hbel_w9
            have B3r := B3r'
            have B4r := B4r'
            have OBr := OBr'
            have OFX := OFX'
            clear B3r' B4r' OBr' OFX'
            clear hl_B3r hl_B4r
            have hl_B3r := (Array.getElem?_eq_some_iff.1 B3r.out).1
            have hl_B4r := (Array.getElem?_eq_some_iff.1 B4r.out).1
            have hl_B13 := (Array.getElem?_eq_some_iff.1 B13.out).1
            have hb10 : Bytes w10 (.slice (some ⟨gf, 0, none⟩) 128 128) M := by unfold Bytes; rw [HM.out, List.length_append, HLA.out, HYL.out]; exact Has.own OFX.out
            have hpt := part_bytes hb10 1 (by decide) (by decide) (by decide)
            rw [HM.out, part1 HLA.out HYL.out] at hpt
            have HPT := Lib.hid (show Bytes w10 (.slice (some ⟨gf, 64, none⟩) 64 64) Y from hpt)
            clear hb10 hpt
            obtain ⟨KY, hKY⟩ : ∃ x, supOpen Y = x := ⟨_, rfl⟩
            have HKY := Lib.hid hKY
            clear hKY
            obtain ⟨yB4r_0, yB4r_1, yB4r_2, yB4r_3, yB4r_4⟩ := supBox_cells B4r.out
            have hs1 : IntKind.i64.wrap ((64 : Int) + 64) = 128 := by rw [IntWalk.i64_in _ (by decide)]; rfl
            have hs2 : IntKind.i64.wrap (128 : Int) = 128 := IntWalk.i64_in _ (by decide)
            have hs3 : IntKind.i64.wrap (64 : Int) = 64 := IntWalk.i64_in _ (by decide)
            go_cut [15, 16] (fun s15 s16 wx => ∃ g15 : Nat, s15 = .pointer (some ⟨g15, 0, none⟩) ∧ s16 = .int .i64 (KY : Nat) ∧ w10.heap.size ≤ g15 ∧ wx.heap[g15]? = some (supBox (supOf Y 8 6 : Nat) (supOf Y 14 4 : Nat) (supOf Y 18 1 : Nat) (supOf Y 19 4 : Nat) (supOf Y 23 4 : Nat)) ∧ Below w10.heap.size w10 wx)
            case first =>
              go_region_held3 (fun w' => w'.cell? ⟨w.heap.size + 1, 0, none⟩ = some (.int .i64 (g + 1)))
                (first | with_reducible exact k1 | with_reducible exact k3 _ _ _ _ _ | go_keep)
                (first
                  | (go_at_call 36
                     refine (place_any (g + 1) _).mono ?_
                     rintro e w' ⟨rfl, rfl⟩
                     rw [HQB.out])
                  | (go_at_call 22
                     refine (superOpen_any _ Y _ (HPT.out.below (by first | exact ((Below.refl _ w10).alloc (Nat.le_refl _) (supBox 0 0 0 0 0)).drew | exact (Below.refl _ w10).drew))).mono ?_
                     rintro e w11 ⟨rfl, hx⟩
                     rw [HKY.out]
                     first
                       | (have kb : w11.heap[w10.heap.size]? = some (supBox 0 0 0 0 0) := box_below (w := (w10.alloc (supBox 0 0 0 0 0)).drew) (heap_alloc_new w10 _) hx
                          have hx10 : Below w10.heap.size w10 w11 := (below_new (Below.refl _ w10) (supBox 0 0 0 0 0)).drew.trans (hx.mono (show w10.heap.size ≤ (w10.alloc (supBox 0 0 0 0 0)).heap.size by rw [sz1]; omega))
                          obtain ⟨z0, z1, z2, z3, z4⟩ := supBox_cells kb
                          have hfz := supBox_free kb
                          have hls := (Array.getElem?_eq_some_iff.1 kb).1
                          have KB := Lib.hid kb
                          have HX11 := Lib.hid hx10
                          clear kb hx hx10)
                       | (have HX11 := Lib.hid (show Below w10.heap.size w10 w11 from (Below.refl _ w10).drew.trans hx)
                          clear hx)
                       | fail "no way"
                     have k1 : w11.cell? ⟨w.heap.size + 1, 0, none⟩ = some (.int .i64 (g + 1)) := (HX11.out.cell (show w.heap.size + 1 < w10.heap.size from hl_B4r)).trans yB4r_0
                     have k3 := sets_cell k1 (show (⟨w.heap.size + 1, 0, none⟩ : Addr).block ≠ w10.heap.size from by show w.heap.size + 1 ≠ w10.heap.size; omega))
                  | fail "no arm")
              all_goals
                go_wp2_with fail
                go_meet
                first
                  | exact ⟨_, rfl, rfl, HX11.out.size, heap_alloc_new _ _, below_new HX11.out _⟩
                  | exact ⟨_, rfl, rfl, Nat.le_refl _, supBox_set KB.out _ _ _ _ _, sets_below HX11.out (Nat.le_refl _) _ _ _ _ _⟩
            case rest =>
              clear hs1 hs2 hs3
              obtain ⟨w11, rfl⟩ : ∃ x : World, x = wc := ⟨_, rfl⟩
              obtain ⟨g15, rfl, rfl, -, -, hx⟩ := hcut
              clear HPT hk
              clear yB4r_0 yB4r_1 yB4r_2 yB4r_3 yB4r_4
              have hbel_w11 : Below w.heap.size w w11 := hbel_w10.trans (hx.mono (by have := hbel_w10.size; first | omega | (simp; omega)))
              have hz_w11 : w10.heap.size + 0 ≤ w11.heap.size := by have hz := hx.size; first | omega | (simp only [sz1] at hz; omega)
              have B3r' := Lib.hid (box_below B3r.out hx)
              have B4r' := Lib.hid (box_below B4r.out hx)
              have OBr' := Lib.hid (own_keep OBr.out hx)
              have OFX' := Lib.hid (own_keep OFX.out hx)
              have B13' := Lib.hid (box_below B13.out hx)
              clear hx B3r B4r OBr OFX B13 hbel_w10
              have B3r := B3r'
              have B4r := B4r'
              have OBr := OBr'
              have OFX := OFX'
              have B13 := B13'
              clear B3r' B4r' OBr' OFX' B13'
              clear hl_B3r hl_B4r hl_B13
              have hl_B3r := (Array.getElem?_eq_some_iff.1 B3r.out).1
              have hl_B4r := (Array.getElem?_eq_some_iff.1 B4r.out).1
              have hl_B13 := (Array.getElem?_eq_some_iff.1 B13.out).1
              by_cases hKY0 : KY = 0
              · subst hKY0
                clear HMS HKY HM
                go_wp2_with fail
                go_loopw [17] (fun i wr => ∃ k : Nat, k ≤ 64 ∧ i = .int .i64 k ∧ wr.ownsRow w.heap.size 5 1 (.slice (some ⟨gf, 0, none⟩) 128 128) 128 (bs (A ++ overB Y B (k))) ∧ w11.grownBy wr (some gf)) (fun i _ => 64 - (intOf i).toNat)
                case atStart => exact ⟨0, by decide, rfl, by rw [overB_zero]; exact OFX.out, World.grownBy.refl _ _⟩
                case round =>
                  obtain ⟨k, hk, rfl, hown, hgr⟩ := hrel
                  have OFr := Lib.hid hown
                  have B4s := Lib.hid (box_grown B4r.out hgr (by intro e; have := Option.some.inj e; omega))
                  have OBs := Lib.hid (own_grown OBr.out hgr hgbf)
                  have hnx := below_row hbel_w11 hgr (by intro r e; have := Option.some.inj e; omega)
                  clear hown B3r B4r OBr OFX B13 hbel_w11
                  by_cases hlt : k < 64
                  · have hBl : k < B.length := by rw [HLB.out]; exact hlt
                    have cB := OBs.out.cellAt k (by omega)
                    rw [bs_get B k hBl] at cB
                    have HSB := Lib.hid (overB_set HYL.out HLB.out hlt)
                    obtain ⟨x, hx⟩ : ∃ x, x = B[k] := ⟨_, rfl⟩
                    rw [← hx] at cB HSB
                    clear hx
                    obtain ⟨y0, -, -, -, -⟩ := supBox_cells B4s.out
                    have q0 : (0 : Int) ≤ (k : Int) := by omega
                    have q1 : (k : Int) < 64 := by omega
                    have q2 : (k : Int) < 128 := by omega
                    have hwr : IntKind.i64.wrap (64 + (k : Int)) = ((64 + k : Nat) : Int) := by rw [IntWalk.i64_in _ (by omega)]; omega
                    have q3 : (64 : Int) + (k : Int) < 128 := by omega
                    have q4 : (0 : Int) ≤ 64 + (k : Int) := by omega
                    go_wp2_with fail
                    refine region_each_tail 11 [some 109, some 110, some 111, some 112, some 113, some 114, some 115, some 116, some 117, some 118, some 119, none] [[], [], [1], [2], [], [3, 4], [], [], [6, 7], [8], [0, 5]]
                      [kIs (.slice (some ⟨gf, 0, none⟩) 128 128), kIs (.pointer (some ⟨w.heap.size + 1, 0, none⟩)), kIs (.int .i64 (g + 1)), kIs (.int .i64 64), kIs (.int .i64 k), kIs (.int .i64 ((64 + k : Nat) : Int)), kIs (.slice (some ⟨gb, 0, none⟩) 64 cb), kIs (.int .i64 k), kIs (.pointer (some ⟨gb, k, none⟩)), kIs (.int .u8 (x.toNat : Int)), kIs (.pointer (some ⟨gf, 64 + k, none⟩))]
                      (by kernel_rfl) (by kernel_rfl) (by kernel_rfl) (by kernel_rfl) (by kernel_rfl) ?_ ?_
                    · simp only [List.take_succ_cons, List.take_zero, obligsD]
                      refine ⟨?_, ?_, ?_, ?_, ?_, ?_, ?_, ?_, ?_, ?_, ?_, trivial⟩
                      · intro us w1 _ _
                        change Oper.wp _ _ _ _ _ _
                        go_simp
                        exact ⟨_, rfl, Below.refl _ _, rfl⟩
                      · intro us w1 _ _
                        change Oper.wp _ _ _ _ _ _
                        go_simp
                        exact ⟨_, rfl, Below.refl _ _, rfl⟩
                      · intro us w1 hb hd
                        simp only [List.mem_cons, List.not_mem_nil, or_false, forall_eq, List.getD_cons_zero, List.getD_cons_succ, kIs] at hd
                        simp only [putD, List.getD_cons_zero, List.getD_cons_succ, Act.put, hd]
                        have d0 := (hb.cell (World.block_lt_of_cell? _ _ y0)).trans y0
                        go_simp
                        exact ⟨_, rfl, Below.refl _ _, rfl⟩
                      · intro us w1 hb hd
                        simp only [List.mem_cons, List.not_mem_nil, or_false, forall_eq, List.getD_cons_zero, List.getD_cons_succ, kIs] at hd
                        simp only [putD, List.getD_cons_zero, List.getD_cons_succ, Act.put, hd]
                        go_simp
                        refine (place_is (g + 1) 64 HQB.out _).mono ?_
                        rintro e w99 ⟨rfl, hb2⟩
                        exact ⟨_, rfl, hb2, rfl⟩
                      · intro us w1 _ _
                        change Oper.wp _ _ _ _ _ _
                        go_simp
                        exact ⟨_, rfl, Below.refl _ _, rfl⟩
                      · intro us w1 hb hd
                        simp only [List.mem_cons, List.not_mem_nil, or_false, forall_eq_or_imp, forall_eq, List.getD_cons_zero, List.getD_cons_succ, kIs] at hd
                        simp only [putD, List.getD_cons_zero, List.getD_cons_succ, Act.put, hd]
                        go_simp
                        exact ⟨_, rfl, Below.refl _ _, by first | rfl | (simp only [kIs]; done) | (simp only [kIs]; rw [hwr])⟩
                      · intro us w1 _ _
                        change Oper.wp _ _ _ _ _ _
                        go_simp
                        exact ⟨_, rfl, Below.refl _ _, rfl⟩
                      · intro us w1 _ _
                        change Oper.wp _ _ _ _ _ _
                        go_simp
                        exact ⟨_, rfl, Below.refl _ _, rfl⟩
                      · intro us w1 hb hd
                        simp only [List.mem_cons, List.not_mem_nil, or_false, forall_eq_or_imp, forall_eq, List.getD_cons_zero, List.getD_cons_succ, kIs] at hd
                        simp only [putD, List.getD_cons_zero, List.getD_cons_succ, Act.put, hd]
                        go_simp
                        exact ⟨_, rfl, Below.refl _ _, rfl⟩
                      · intro us w1 hb hd
                        simp only [List.mem_cons, List.not_mem_nil, or_false, forall_eq, List.getD_cons_zero, List.getD_cons_succ, kIs] at hd
                        simp only [putD, List.getD_cons_zero, List.getD_cons_succ, Act.put, hd]
                        have d0 := (hb.cell (World.block_lt_of_cell? _ _ cB)).trans cB
                        go_simp
                        exact ⟨_, rfl, Below.refl _ _, rfl⟩
                      · intro us w1 hb hd
                        simp only [List.mem_cons, List.not_mem_nil, or_false, forall_eq_or_imp, forall_eq, List.getD_cons_zero, List.getD_cons_succ, kIs] at hd
                        simp only [putD, List.getD_cons_zero, List.getD_cons_succ, Act.put, hd]
                        go_simp
                        exact ⟨_, rfl, Below.refl _ _, rfl⟩
                    intro us_w12 w12 hb hp
                    have h9 := hp 9 (by simp)
                    have h10 := hp 10 (by simp)
                    simp only [List.getD_cons_zero, List.getD_cons_succ, kIs] at h9 h10
                    rw [show List.range 11 = [0, 1, 2, 3, 4, 5, 6, 7, 8, 9, 10] from rfl]
                    simp only [List.drop_succ_cons, List.drop_zero, putD, List.getD_cons_zero, List.getD_cons_succ, Act.put, List.setIfInBounds_toArray, List.set_cons_zero, List.set_cons_succ, h9, h10]
                    clear hp h9 h10
                    have OF5 := Lib.hid (own_keep OFr.out hb)
                    have hLl : (A ++ overB Y B (k)).length = 128 := by rw [List.length_append, HLA.out, overB_len HYL.out HLB.out _ (by omega)]
                    have cF := OF5.out.cellAt (64 + k) (by omega)
                    rw [bs_get (A ++ overB Y B (k)) (64 + k) (by rw [hLl]; omega)] at cF
                    have hfF := OF5.out.frozenAt (64 + k)
                    have hgl5 := (OF5.out.lt gf rfl).2
                    obtain ⟨u, hu⟩ : ∃ u, (A ++ overB Y B (k))[64 + k]'(by rw [hLl]; omega) = u := ⟨_, rfl⟩
                    rw [hu] at cF
                    clear hu
                    obtain ⟨hst, hgs⟩ := OF5.out.stored (64 + k) (.int .u8 (x.toNat : Int))
                    rw [← bs_set, set_second HLA.out, HSB.out] at hst
                    have OS := Lib.hid hst
                    have GS := Lib.hid hgs
                    clear hst hgs hLl
                    go_wp2_with fail
                    go_roundw
                    case rel => exact ⟨k + 1, by omega, by go_num, OS.out, (hgr.trans (below_grownBy hb _)).trans GS.out⟩
                    case measure => simp [intOf]; omega
                  · obtain ⟨w13, rfl⟩ : ∃ x : World, x = wr := ⟨_, rfl⟩
                    obtain rfl : k = 64 := by omega
                    have hfin := OFr.out
                    rw [overB_full HYL.out HLB.out] at hfin
                    have OFY := Lib.hid hfin
                    clear hfin OFr OBs hgr hlt hk
                    have hb13 : Bytes w13 (.slice (some ⟨gf, 0, none⟩) 128 128) (A ++ B) := by unfold Bytes; rw [List.length_append, HLA.out, HLB.out]; exact Has.own OFY.out
                    have hct : Counts (A ++ B) (g + 1) r' c' t' o' := by
                      have hq := HQA.out
                      have ha := (opens_fld HA.out).1
                      have hbb := (opens_fld HB.out).1
                      exact counts_second HLA.out HLB.out HB.out (by omega) (fun _ => by omega)
                    obtain ⟨M2, hM2⟩ : ∃ M2 : List UInt8, M2 = A ++ B := ⟨_, rfl⟩
                    rw [← hM2] at hb13 hct
                    clear hM2
                    have HB13 := Lib.hid hb13
                    have HCT := Lib.hid hct
                    clear hb13 hct
                    go_wp2_with fail
                    refine (superNewest_any _ M2 _ HB13.out).mono ?_
                    rintro e w14 ⟨rfl, hx⟩
                    have hbel_w14 : Below w.heap.size w w14 := hnx.trans (hx.mono (by have := hnx.size; first | omega | (simp; omega)))
                    have hz_w14 : w13.heap.size + 0 ≤ w14.heap.size := by have hz := hx.size; first | omega | (simp only [sz1] at hz; omega)
                    have B4s' := Lib.hid (box_below B4s.out hx)
                    have OFY' := Lib.hid (own_keep OFY.out hx)
                    clear hx B4s OFY hnx
                    have B4s := B4s'
                    have OFY := OFY'
                    clear B4s' OFY'
                    have hl_B4s := (Array.getElem?_eq_some_iff.1 B4s.out).1
                    rw [HCT.out.1, HCT.out.2.1, HCT.out.2.2.1, HCT.out.2.2.2.1, HCT.out.2.2.2.2.1, HCT.out.2.2.2.2.2]
                    clear HB13 HCT
                    obtain ⟨yB4s_0, yB4s_1, yB4s_2, yB4s_3, yB4s_4⟩ := supBox_cells B4s.out
                    go_wp2_with fail
                    go_ret
                    exact ⟨rfl, below_new hbel_w14 _⟩
              · have hc : Counts M g r c t o := by
                  rw [HM.out]
                  have hq := HQA.out
                  exact counts_first HLA.out HYL.out HA.out (by omega) (fun h => hKY0 (HKY.out.symm.trans h.1))
                obtain ⟨c0, c1, c2, c3, c4, c5⟩ := hc
                rw [HMS.out.1] at c0
                rw [HMS.out.2.1] at c1
                rw [HMS.out.2.2.1] at c2
                rw [HMS.out.2.2.2.1] at c3
                rw [HMS.out.2.2.2.2.1] at c4
                rw [HMS.out.2.2.2.2.2] at c5
                subst c5
                have b13 := B13.out
                rw [c0, c1, c2, c3, c4] at b13
                clear B13 c0 c1 c2 c3 c4
                have B13 := Lib.hid b13
                clear b13
                have hKY1 : ¬ ((KY : Int) = 0) := by omega
                obtain ⟨yB13_0, yB13_1, yB13_2, yB13_3, yB13_4⟩ := supBox_cells B13.out
                obtain ⟨yB3r_0, yB3r_1, yB3r_2, yB3r_3, yB3r_4⟩ := supBox_cells B3r.out
                clear HMS HKY HM
                go_wp2_with fail
                go_loopw [17] (fun i wr => ∃ k : Nat, k ≤ 64 ∧ i = .int .i64 k ∧ wr.ownsRow w.heap.size 5 1 (.slice (some ⟨gf, 0, none⟩) 128 128) 128 (bs (A ++ overB Y B (k))) ∧ w11.grownBy wr (some gf)) (fun i _ => 64 - (intOf i).toNat)
                case atStart => exact ⟨0, by decide, rfl, by rw [overB_zero]; exact OFX.out, World.grownBy.refl _ _⟩
                case round =>
                  obtain ⟨k, hk, rfl, hown, hgr⟩ := hrel
                  have OFr := Lib.hid hown
                  have B4s := Lib.hid (box_grown B4r.out hgr (by intro e; have := Option.some.inj e; omega))
                  have OBs := Lib.hid (own_grown OBr.out hgr hgbf)
                  have hnx := below_row hbel_w11 hgr (by intro r e; have := Option.some.inj e; omega)
                  clear hown B3r B4r OBr OFX B13 hbel_w11
                  by_cases hlt : k < 64
                  · have hBl : k < B.length := by rw [HLB.out]; exact hlt
                    have cB := OBs.out.cellAt k (by omega)
                    rw [bs_get B k hBl] at cB
                    have HSB := Lib.hid (overB_set HYL.out HLB.out hlt)
                    obtain ⟨x, hx⟩ : ∃ x, x = B[k] := ⟨_, rfl⟩
                    rw [← hx] at cB HSB
                    clear hx
                    obtain ⟨y0, -, -, -, -⟩ := supBox_cells B4s.out
                    have q0 : (0 : Int) ≤ (k : Int) := by omega
                    have q1 : (k : Int) < 64 := by omega
                    have q2 : (k : Int) < 128 := by omega
                    have hwr : IntKind.i64.wrap (64 + (k : Int)) = ((64 + k : Nat) : Int) := by rw [IntWalk.i64_in _ (by omega)]; omega
                    have q3 : (64 : Int) + (k : Int) < 128 := by omega
                    have q4 : (0 : Int) ≤ 64 + (k : Int) := by omega
                    go_wp2_with fail
                    refine region_each_tail 11 [some 109, some 110, some 111, some 112, some 113, some 114, some 115, some 116, some 117, some 118, some 119, none] [[], [], [1], [2], [], [3, 4], [], [], [6, 7], [8], [0, 5]]
                      [kIs (.slice (some ⟨gf, 0, none⟩) 128 128), kIs (.pointer (some ⟨w.heap.size + 1, 0, none⟩)), kIs (.int .i64 (g + 1)), kIs (.int .i64 64), kIs (.int .i64 k), kIs (.int .i64 ((64 + k : Nat) : Int)), kIs (.slice (some ⟨gb, 0, none⟩) 64 cb), kIs (.int .i64 k), kIs (.pointer (some ⟨gb, k, none⟩)), kIs (.int .u8 (x.toNat : Int)), kIs (.pointer (some ⟨gf, 64 + k, none⟩))]
                      (by kernel_rfl) (by kernel_rfl) (by kernel_rfl) (by kernel_rfl) (by kernel_rfl) ?_ ?_
                    · simp only [List.take_succ_cons, List.take_zero, obligsD]
                      refine ⟨?_, ?_, ?_, ?_, ?_, ?_, ?_, ?_, ?_, ?_, ?_, trivial⟩
                      · intro us w1 _ _
                        change Oper.wp _ _ _ _ _ _
                        go_simp
                        exact ⟨_, rfl, Below.refl _ _, rfl⟩
                      · intro us w1 _ _
                        change Oper.wp _ _ _ _ _ _
                        go_simp
                        exact ⟨_, rfl, Below.refl _ _, rfl⟩
                      · intro us w1 hb hd
                        simp only [List.mem_cons, List.not_mem_nil, or_false, forall_eq, List.getD_cons_zero, List.getD_cons_succ, kIs] at hd
                        simp only [putD, List.getD_cons_zero, List.getD_cons_succ, Act.put, hd]
                        have d0 := (hb.cell (World.block_lt_of_cell? _ _ y0)).trans y0
                        go_simp
                        exact ⟨_, rfl, Below.refl _ _, rfl⟩
                      · intro us w1 hb hd
                        simp only [List.mem_cons, List.not_mem_nil, or_false, forall_eq, List.getD_cons_zero, List.getD_cons_succ, kIs] at hd
                        simp only [putD, List.getD_cons_zero, List.getD_cons_succ, Act.put, hd]
                        go_simp
                        refine (place_is (g + 1) 64 HQB.out _).mono ?_
                        rintro e w99 ⟨rfl, hb2⟩
                        exact ⟨_, rfl, hb2, rfl⟩
                      · intro us w1 _ _
                        change Oper.wp _ _ _ _ _ _
                        go_simp
                        exact ⟨_, rfl, Below.refl _ _, rfl⟩
                      · intro us w1 hb hd
                        simp only [List.mem_cons, List.not_mem_nil, or_false, forall_eq_or_imp, forall_eq, List.getD_cons_zero, List.getD_cons_succ, kIs] at hd
                        simp only [putD, List.getD_cons_zero, List.getD_cons_succ, Act.put, hd]
                        go_simp
                        exact ⟨_, rfl, Below.refl _ _, by first | rfl | (simp only [kIs]; done) | (simp only [kIs]; rw [hwr])⟩
                      · intro us w1 _ _
                        change Oper.wp _ _ _ _ _ _
                        go_simp
                        exact ⟨_, rfl, Below.refl _ _, rfl⟩
                      · intro us w1 _ _
                        change Oper.wp _ _ _ _ _ _
                        go_simp
                        exact ⟨_, rfl, Below.refl _ _, rfl⟩
                      · intro us w1 hb hd
                        simp only [List.mem_cons, List.not_mem_nil, or_false, forall_eq_or_imp, forall_eq, List.getD_cons_zero, List.getD_cons_succ, kIs] at hd
                        simp only [putD, List.getD_cons_zero, List.getD_cons_succ, Act.put, hd]
                        go_simp
                        exact ⟨_, rfl, Below.refl _ _, rfl⟩
                      · intro us w1 hb hd
                        simp only [List.mem_cons, List.not_mem_nil, or_false, forall_eq, List.getD_cons_zero, List.getD_cons_succ, kIs] at hd
                        simp only [putD, List.getD_cons_zero, List.getD_cons_succ, Act.put, hd]
                        have d0 := (hb.cell (World.block_lt_of_cell? _ _ cB)).trans cB
                        go_simp
                        exact ⟨_, rfl, Below.refl _ _, rfl⟩
                      · intro us w1 hb hd
                        simp only [List.mem_cons, List.not_mem_nil, or_false, forall_eq_or_imp, forall_eq, List.getD_cons_zero, List.getD_cons_succ, kIs] at hd
                        simp only [putD, List.getD_cons_zero, List.getD_cons_succ, Act.put, hd]
                        go_simp
                        exact ⟨_, rfl, Below.refl _ _, rfl⟩
                    intro us_w12 w12 hb hp
                    have h9 := hp 9 (by simp)
                    have h10 := hp 10 (by simp)
                    simp only [List.getD_cons_zero, List.getD_cons_succ, kIs] at h9 h10
                    rw [show List.range 11 = [0, 1, 2, 3, 4, 5, 6, 7, 8, 9, 10] from rfl]
                    simp only [List.drop_succ_cons, List.drop_zero, putD, List.getD_cons_zero, List.getD_cons_succ, Act.put, List.setIfInBounds_toArray, List.set_cons_zero, List.set_cons_succ, h9, h10]
                    clear hp h9 h10
                    have OF5 := Lib.hid (own_keep OFr.out hb)
                    have hLl : (A ++ overB Y B (k)).length = 128 := by rw [List.length_append, HLA.out, overB_len HYL.out HLB.out _ (by omega)]
                    have cF := OF5.out.cellAt (64 + k) (by omega)
                    rw [bs_get (A ++ overB Y B (k)) (64 + k) (by rw [hLl]; omega)] at cF
                    have hfF := OF5.out.frozenAt (64 + k)
                    have hgl5 := (OF5.out.lt gf rfl).2
                    obtain ⟨u, hu⟩ : ∃ u, (A ++ overB Y B (k))[64 + k]'(by rw [hLl]; omega) = u := ⟨_, rfl⟩
                    rw [hu] at cF
                    clear hu
                    obtain ⟨hst, hgs⟩ := OF5.out.stored (64 + k) (.int .u8 (x.toNat : Int))
                    rw [← bs_set, set_second HLA.out, HSB.out] at hst
                    have OS := Lib.hid hst
                    have GS := Lib.hid hgs
                    clear hst hgs hLl
                    go_wp2_with fail
                    go_roundw
                    case rel => exact ⟨k + 1, by omega, by go_num, OS.out, (hgr.trans (below_grownBy hb _)).trans GS.out⟩
                    case measure => simp [intOf]; omega
                  · obtain ⟨w13, rfl⟩ : ∃ x : World, x = wr := ⟨_, rfl⟩
                    obtain rfl : k = 64 := by omega
                    have hfin := OFr.out
                    rw [overB_full HYL.out HLB.out] at hfin
                    have OFY := Lib.hid hfin
                    clear hfin OFr OBs hgr hlt hk
                    have hb13 : Bytes w13 (.slice (some ⟨gf, 0, none⟩) 128 128) (A ++ B) := by unfold Bytes; rw [List.length_append, HLA.out, HLB.out]; exact Has.own OFY.out
                    have hct : Counts (A ++ B) (g + 1) r' c' t' o' := by
                      have hq := HQA.out
                      have ha := (opens_fld HA.out).1
                      have hbb := (opens_fld HB.out).1
                      exact counts_second HLA.out HLB.out HB.out (by omega) (fun _ => by omega)
                    obtain ⟨M2, hM2⟩ : ∃ M2 : List UInt8, M2 = A ++ B := ⟨_, rfl⟩
                    rw [← hM2] at hb13 hct
                    clear hM2
                    have HB13 := Lib.hid hb13
                    have HCT := Lib.hid hct
                    clear hb13 hct
                    go_wp2_with fail
                    refine (superNewest_any _ M2 _ HB13.out).mono ?_
                    rintro e w14 ⟨rfl, hx⟩
                    have hbel_w14 : Below w.heap.size w w14 := hnx.trans (hx.mono (by have := hnx.size; first | omega | (simp; omega)))
                    have hz_w14 : w13.heap.size + 0 ≤ w14.heap.size := by have hz := hx.size; first | omega | (simp only [sz1] at hz; omega)
                    have B4s' := Lib.hid (box_below B4s.out hx)
                    have OFY' := Lib.hid (own_keep OFY.out hx)
                    clear hx B4s OFY hnx
                    have B4s := B4s'
                    have OFY := OFY'
                    clear B4s' OFY'
                    have hl_B4s := (Array.getElem?_eq_some_iff.1 B4s.out).1
                    rw [HCT.out.1, HCT.out.2.1, HCT.out.2.2.1, HCT.out.2.2.2.1, HCT.out.2.2.2.2.1, HCT.out.2.2.2.2.2]
                    clear HB13 HCT
                    obtain ⟨yB4s_0, yB4s_1, yB4s_2, yB4s_3, yB4s_4⟩ := supBox_cells B4s.out
                    go_wp2_with fail
                    go_ret
                    exact ⟨rfl, below_new hbel_w14 _⟩
      · have HQA := Lib.hid (show 64 * (g % 2) = 64 by omega)
        have HQB := Lib.hid (show 64 * ((g + 1) % 2) = 0 by omega)
        clear hpar
        go_enter Try.func13, Try.ntmps13
        go_wp2_with fail
        refine (superPack_any g r c t o _).mono ?_
        rintro e w1 ⟨va, rfl, hna, hx⟩
        have hbel_w1 : Below w.heap.size w w1 := (below_new (below_new (Below.refl w.heap.size w) _) _).trans (hx.mono (by first | omega | (simp; done) | (simp; omega)))
        have hz_w1 : w.heap.size + 2 ≤ w1.heap.size := by have hz := hx.size; first | omega | (simp only [sz1] at hz; omega)
        have B3 := Lib.hid (show w1.heap[w.heap.size]? = some (supBox g r c t o) from box_below (heap_keep (heap_last (o := supBox g r c t o) rfl) _) hx)
        have B4 := Lib.hid (show w1.heap[w.heap.size + 1]? = some (supBox (g + 1) r' c' t' o') from box_below (heap_last (o := supBox (g + 1) r' c' t' o') (by simp only [sz1])) hx)
        clear hx 
        have hl_B3 := (Array.getElem?_eq_some_iff.1 B3.out).1
        have hl_B4 := (Array.getElem?_eq_some_iff.1 B4.out).1
        rw [HCA.out]
        rw [HPA.out, HLA.out] at hna
        obtain ⟨ga, ca, hf⟩ := Joins.ownsRow_form hna (by decide)
        subst hf
        have OA := Lib.hid hna
        have hga : ga < w1.heap.size := (hna.lt ga rfl).2
        clear hna
        obtain ⟨yB4_0, yB4_1, yB4_2, yB4_3, yB4_4⟩ := supBox_cells B4.out
        go_wp2_with fail
        refine (superPack_any (g + 1) r' c' t' o' _).mono ?_
        rintro e w2 ⟨vb, rfl, hnb, hx⟩
        clear yB4_0 yB4_1 yB4_2 yB4_3 yB4_4
        have hbel_w2 : Below w.heap.size w w2 := hbel_w1.trans (hx.mono (by have := hbel_w1.size; first | omega | (simp; omega)))
        have hz_w2 : w1.heap.size + 0 ≤ w2.heap.size := by have hz := hx.size; first | omega | (simp only [sz1] at hz; omega)
        have B3' := Lib.hid (box_below B3.out hx)
        have B4' := Lib.hid (box_below B4.out hx)
        have OA' := Lib.hid (own_keep OA.out hx)
        clear hx B3 B4 OA hbel_w1
        have B3 := B3'
        have B4 := B4'
        have OA := OA'
        clear B3' B4' OA'
        clear hl_B3 hl_B4
        have hl_B3 := (Array.getElem?_eq_some_iff.1 B3.out).1
        have hl_B4 := (Array.getElem?_eq_some_iff.1 B4.out).1
        rw [HCB.out]
        rw [HPB.out, HLB.out] at hnb
        obtain ⟨gb, cb, hf⟩ := Joins.ownsRow_form hnb (by decide)
        subst hf
        have OB := Lib.hid hnb
        have hgb : gb < w2.heap.size := (hnb.lt gb rfl).2
        clear hnb
        go_wp2_with fail
        refine (awake16_any _).mono ?_
        rintro e w3 ⟨rfl, hx⟩
        have hbel_w3 : Below w.heap.size w w3 := hbel_w2.trans (hx.mono (by have := hbel_w2.size; first | omega | (simp; omega)))
        have hz_w3 : w2.heap.size + 0 ≤ w3.heap.size := by have hz := hx.size; first | omega | (simp only [sz1] at hz; omega)
        have B3' := Lib.hid (box_below B3.out hx)
        have B4' := Lib.hid (box_below B4.out hx)
        have OA' := Lib.hid (own_keep OA.out hx)
        have OB' := Lib.hid (own_keep OB.out hx)
        clear hx B3 B4 OA OB hbel_w2
        have B3 := B3'
        have B4 := B4'
        have OA := OA'
        have OB := OB'
        clear B3' B4' OA' OB'
        clear hl_B3 hl_B4
        have hl_B3 := (Array.getElem?_eq_some_iff.1 B3.out).1
        have hl_B4 := (Array.getElem?_eq_some_iff.1 B4.out).1
        obtain ⟨i0, hi, hz0, hz1, hz2⟩ := info_parts infoU8
        go_wp2_with (at_make; refine wpList_make_full _ rfl _ _ 24 rfl w.heap.size 5 i0 (.int .u8 0) 1 Try.underlying24 hi hz0 hz1 .i64 .i64 _ _ 128 rfl rfl rfl rfl (by rw [hz2]; decide) (by decide) ?c2 ?_)
        case c2 => omega
        intro w4 hown hgrow
        have hx := below_none hgrow
        have hof : w4.ownsRow w.heap.size 5 1 (.slice (some ⟨w3.heap.size, 0, none⟩) 128 128) 128 (bs (List.replicate 64 0 ++ List.replicate 64 0)) := by rw [show bs (List.replicate 64 0 ++ List.replicate 64 0) = (madeCells #[Value.int .u8 0] 128).toList by rw [toList_madeCells_one]; rfl]; exact hown
        clear hown hgrow hi hz0 hz1 hz2
        have hbel_w4 : Below w.heap.size w w4 := hbel_w3.trans (hx.mono (by have := hbel_w3.size; first | omega | (simp; omega)))
        have hz_w4 : w3.heap.size + 0 ≤ w4.heap.size := by have hz := hx.size; first | omega | (simp only [sz1] at hz; omega)
        have B3' := Lib.hid (box_below B3.out hx)
        have B4' := Lib.hid (box_below B4.out hx)
        have OA' := Lib.hid (own_keep OA.out hx)
        have OB' := Lib.hid (own_keep OB.out hx)
        clear hx B3 B4 OA OB hbel_w3
        have B3 := B3'
        have B4 := B4'
        have OA := OA'
        have OB := OB'
        clear B3' B4' OA' OB'
        clear hl_B3 hl_B4
        have hl_B3 := (Array.getElem?_eq_some_iff.1 B3.out).1
        have hl_B4 := (Array.getElem?_eq_some_iff.1 B4.out).1
        obtain ⟨gf, hgf⟩ : ∃ gf, gf = w3.heap.size := ⟨_, rfl⟩
        rw [← hgf] at hof ⊢
        have hgaf : ga ≠ gf := by omega
        have hgbf : gb ≠ gf := by omega
        have hg0f : w.heap.size + 1 < gf := by omega
        have OF := Lib.hid hof
        clear hof hgf
        clear hl_B3 hl_B4
        go_wp2_with fail
        go_loopw [12] (fun i wr => ∃ k : Nat, k ≤ 64 ∧ i = .int .i64 k ∧ wr.ownsRow w.heap.size 5 1 (.slice (some ⟨gf, 0, none⟩) 128 128) 128 (bs (padB J (k) ++ padB A (k))) ∧ w4.grownBy wr (some gf)) (fun i _ => 64 - (intOf i).toNat)
        case atStart => exact ⟨0, by decide, rfl, by rw [padB_zero, padB_zero]; exact OF.out, World.grownBy.refl _ _⟩
        case round =>
          obtain ⟨k, hk, rfl, hown, hgr⟩ := hrel
          have OFr := Lib.hid hown
          have B3r := Lib.hid (box_grown B3.out hgr (by intro e; have := Option.some.inj e; omega))
          have B4r := Lib.hid (box_grown B4.out hgr (by intro e; have := Option.some.inj e; omega))
          have OAr := Lib.hid (own_grown OA.out hgr hgaf)
          have OBr := Lib.hid (own_grown OB.out hgr hgbf)
          have hnx := below_row hbel_w4 hgr (by intro r e; have := Option.some.inj e; omega)
          have HBW4 := Lib.hid hbel_w4
          clear hown B3 B4 OA OB OF hbel_w4
          by_cases hlt : k < 64
          · have hAl : k < A.length := by rw [HLA.out]; exact hlt
            have cA := OAr.out.cellAt k (by omega)
            rw [bs_get A k hAl] at cA
            have HSA := Lib.hid (padB_set hAl hlt)
            obtain ⟨x, hx⟩ : ∃ x, x = A[k] := ⟨_, rfl⟩
            rw [← hx] at cA HSA
            clear hx
            obtain ⟨y0, -, -, -, -⟩ := supBox_cells B3r.out
            have q0 : (0 : Int) ≤ (k : Int) := by omega
            have q1 : (k : Int) < 64 := by omega
            have q2 : (k : Int) < 128 := by omega
            have hwr : IntKind.i64.wrap (64 + (k : Int)) = ((64 + k : Nat) : Int) := by rw [IntWalk.i64_in _ (by omega)]; omega
            have q3 : (64 : Int) + (k : Int) < 128 := by omega
            have q4 : (0 : Int) ≤ 64 + (k : Int) := by omega
            go_wp2_with fail
            refine region_each_tail 11 [some 50, some 51, some 52, some 53, some 54, some 55, some 56, some 57, some 58, some 59, some 60, none] [[], [], [1], [2], [], [3, 4], [], [], [6, 7], [8], [0, 5]]
              [kIs (.slice (some ⟨gf, 0, none⟩) 128 128), kIs (.pointer (some ⟨w.heap.size, 0, none⟩)), kIs (.int .i64 g), kIs (.int .i64 64), kIs (.int .i64 k), kIs (.int .i64 ((64 + k : Nat) : Int)), kIs (.slice (some ⟨ga, 0, none⟩) 64 ca), kIs (.int .i64 k), kIs (.pointer (some ⟨ga, k, none⟩)), kIs (.int .u8 (x.toNat : Int)), kIs (.pointer (some ⟨gf, 64 + k, none⟩))]
              (by kernel_rfl) (by kernel_rfl) (by kernel_rfl) (by kernel_rfl) (by kernel_rfl) ?_ ?_
            · simp only [List.take_succ_cons, List.take_zero, obligsD]
              refine ⟨?_, ?_, ?_, ?_, ?_, ?_, ?_, ?_, ?_, ?_, ?_, trivial⟩
              · intro us w1 _ _
                change Oper.wp _ _ _ _ _ _
                go_simp
                exact ⟨_, rfl, Below.refl _ _, rfl⟩
              · intro us w1 _ _
                change Oper.wp _ _ _ _ _ _
                go_simp
                exact ⟨_, rfl, Below.refl _ _, rfl⟩
              · intro us w1 hb hd
                simp only [List.mem_cons, List.not_mem_nil, or_false, forall_eq, List.getD_cons_zero, List.getD_cons_succ, kIs] at hd
                simp only [putD, List.getD_cons_zero, List.getD_cons_succ, Act.put, hd]
                have d0 := (hb.cell (World.block_lt_of_cell? _ _ y0)).trans y0
                go_simp
                exact ⟨_, rfl, Below.refl _ _, rfl⟩
              · intro us w1 hb hd
                simp only [List.mem_cons, List.not_mem_nil, or_false, forall_eq, List.getD_cons_zero, List.getD_cons_succ, kIs] at hd
                simp only [putD, List.getD_cons_zero, List.getD_cons_succ, Act.put, hd]
                go_simp
                refine (place_is g 64 HQA.out _).mono ?_
                rintro e w99 ⟨rfl, hb2⟩
                exact ⟨_, rfl, hb2, rfl⟩
              · intro us w1 _ _
                change Oper.wp _ _ _ _ _ _
                go_simp
                exact ⟨_, rfl, Below.refl _ _, rfl⟩
              · intro us w1 hb hd
                simp only [List.mem_cons, List.not_mem_nil, or_false, forall_eq_or_imp, forall_eq, List.getD_cons_zero, List.getD_cons_succ, kIs] at hd
                simp only [putD, List.getD_cons_zero, List.getD_cons_succ, Act.put, hd]
                go_simp
                exact ⟨_, rfl, Below.refl _ _, by first | rfl | (simp only [kIs]; done) | (simp only [kIs]; rw [hwr])⟩
              · intro us w1 _ _
                change Oper.wp _ _ _ _ _ _
                go_simp
                exact ⟨_, rfl, Below.refl _ _, rfl⟩
              · intro us w1 _ _
                change Oper.wp _ _ _ _ _ _
                go_simp
                exact ⟨_, rfl, Below.refl _ _, rfl⟩
              · intro us w1 hb hd
                simp only [List.mem_cons, List.not_mem_nil, or_false, forall_eq_or_imp, forall_eq, List.getD_cons_zero, List.getD_cons_succ, kIs] at hd
                simp only [putD, List.getD_cons_zero, List.getD_cons_succ, Act.put, hd]
                go_simp
                exact ⟨_, rfl, Below.refl _ _, rfl⟩
              · intro us w1 hb hd
                simp only [List.mem_cons, List.not_mem_nil, or_false, forall_eq, List.getD_cons_zero, List.getD_cons_succ, kIs] at hd
                simp only [putD, List.getD_cons_zero, List.getD_cons_succ, Act.put, hd]
                have d0 := (hb.cell (World.block_lt_of_cell? _ _ cA)).trans cA
                go_simp
                exact ⟨_, rfl, Below.refl _ _, rfl⟩
              · intro us w1 hb hd
                simp only [List.mem_cons, List.not_mem_nil, or_false, forall_eq_or_imp, forall_eq, List.getD_cons_zero, List.getD_cons_succ, kIs] at hd
                simp only [putD, List.getD_cons_zero, List.getD_cons_succ, Act.put, hd]
                go_simp
                exact ⟨_, rfl, Below.refl _ _, rfl⟩
            intro us_w5 w5 hb hp
            have h9 := hp 9 (by simp)
            have h10 := hp 10 (by simp)
            simp only [List.getD_cons_zero, List.getD_cons_succ, kIs] at h9 h10
            rw [show List.range 11 = [0, 1, 2, 3, 4, 5, 6, 7, 8, 9, 10] from rfl]
            simp only [List.drop_succ_cons, List.drop_zero, putD, List.getD_cons_zero, List.getD_cons_succ, Act.put, List.setIfInBounds_toArray, List.set_cons_zero, List.set_cons_succ, h9, h10]
            clear hp h9 h10
            have OF5 := Lib.hid (own_keep OFr.out hb)
            have hLl : (padB J (k) ++ padB A (k)).length = 128 := by rw [List.length_append, padB_len _ _ (by omega), padB_len _ _ (by omega)]
            have cF := OF5.out.cellAt (64 + k) (by omega)
            rw [bs_get (padB J (k) ++ padB A (k)) (64 + k) (by rw [hLl]; omega)] at cF
            have hfF := OF5.out.frozenAt (64 + k)
            have hgl5 := (OF5.out.lt gf rfl).2
            obtain ⟨u, hu⟩ : ∃ u, (padB J (k) ++ padB A (k))[64 + k]'(by rw [hLl]; omega) = u := ⟨_, rfl⟩
            rw [hu] at cF
            clear hu
            obtain ⟨hst, hgs⟩ := OF5.out.stored (64 + k) (.int .u8 (x.toNat : Int))
            rw [← bs_set, set_second (padB_len _ _ (by omega)), HSA.out] at hst
            have OS := Lib.hid hst
            have GS := Lib.hid hgs
            clear hst hgs hLl
            have hgr5 : w4.grownBy (w5.setCell ⟨gf, 64 + k, none⟩ (.int .u8 (x.toNat : Int))) (some gf) := (hgr.trans (below_grownBy hb _)).trans GS.out
            have HG5 := Lib.hid hgr5
            clear hgr5 y0 cA hwr q3 q4
            by_cases hJ : k < J.length
            · have hJc := hcells (by omega)
              obtain ⟨bj, oj, rfl, hcs⟩ := hJc
              have hjw := hcs k hJ
              have hbj := World.block_lt_of_cell? w _ hjw
              have HSJ := Lib.hid (padB_set hJ hlt)
              obtain ⟨z, hz⟩ : ∃ z, z = J[k] := ⟨_, rfl⟩
              rw [← hz] at hjw HSJ
              have HJW := Lib.hid hjw
              clear hz hjw hcs
              have q5 : (k : Int) < (J.length : Int) := by omega
              go_wp2_with fail
              have hnx6 := below_row HBW4.out HG5.out (by intro r e; have := Option.some.inj e; omega)
              have OF6 := Lib.hid OS.out
              have B46 := Lib.hid (box_grown (box_below B4r.out hb) GS.out (by intro e; have := Option.some.inj e; omega))
              generalize w5.setCell ⟨gf, 64 + k, none⟩ (.int .u8 (x.toNat : Int)) = w6 at OF6 B46 HG5 hnx6 OS GS ⊢
              have cJ := (hnx6.cell (p := ⟨bj, oj + k, none⟩) hbj).trans HJW.out
              obtain ⟨y0, -, -, -, -⟩ := supBox_cells B46.out
              clear cF hfF hgl5 OF5 OS GS hb
              have hwr : IntKind.i64.wrap (k : Int) = (k : Int) := IntWalk.i64_in _ (by omega)
              have q3 : (k : Int) < 128 := q2
              have q4 : (0 : Int) ≤ (k : Int) := q0
              refine region_each_tail 11 [some 65, some 66, some 67, some 68, some 69, some 70, some 71, some 72, some 73, some 74, some 75, none] [[], [], [1], [2], [], [3, 4], [], [], [6, 7], [8], [0, 5]]
                [kIs (.slice (some ⟨gf, 0, none⟩) 128 128), kIs (.pointer (some ⟨w.heap.size + 1, 0, none⟩)), kIs (.int .i64 (g + 1)), kIs (.int .i64 0), kIs (.int .i64 k), kIs (.int .i64 (k : Int)), kIs (.slice (some ⟨bj, oj, none⟩) J.length cj), kIs (.int .i64 k), kIs (.pointer (some ⟨bj, oj + k, none⟩)), kIs (.int .u8 (z.toNat : Int)), kIs (.pointer (some ⟨gf, k, none⟩))]
                (by kernel_rfl) (by kernel_rfl) (by kernel_rfl) (by kernel_rfl) (by kernel_rfl) ?_ ?_
              · simp only [List.take_succ_cons, List.take_zero, obligsD]
                refine ⟨?_, ?_, ?_, ?_, ?_, ?_, ?_, ?_, ?_, ?_, ?_, trivial⟩
                · intro us w1 _ _
                  change Oper.wp _ _ _ _ _ _
                  go_simp
                  exact ⟨_, rfl, Below.refl _ _, rfl⟩
                · intro us w1 _ _
                  change Oper.wp _ _ _ _ _ _
                  go_simp
                  exact ⟨_, rfl, Below.refl _ _, rfl⟩
                · intro us w1 hb hd
                  simp only [List.mem_cons, List.not_mem_nil, or_false, forall_eq, List.getD_cons_zero, List.getD_cons_succ, kIs] at hd
                  simp only [putD, List.getD_cons_zero, List.getD_cons_succ, Act.put, hd]
                  have d0 := (hb.cell (World.block_lt_of_cell? _ _ y0)).trans y0
                  go_simp
                  exact ⟨_, rfl, Below.refl _ _, rfl⟩
                · intro us w1 hb hd
                  simp only [List.mem_cons, List.not_mem_nil, or_false, forall_eq, List.getD_cons_zero, List.getD_cons_succ, kIs] at hd
                  simp only [putD, List.getD_cons_zero, List.getD_cons_succ, Act.put, hd]
                  go_simp
                  refine (place_is (g + 1) 0 HQB.out _).mono ?_
                  rintro e w99 ⟨rfl, hb2⟩
                  exact ⟨_, rfl, hb2, rfl⟩
                · intro us w1 _ _
                  change Oper.wp _ _ _ _ _ _
                  go_simp
                  exact ⟨_, rfl, Below.refl _ _, rfl⟩
                · intro us w1 hb hd
                  simp only [List.mem_cons, List.not_mem_nil, or_false, forall_eq_or_imp, forall_eq, List.getD_cons_zero, List.getD_cons_succ, kIs] at hd
                  simp only [putD, List.getD_cons_zero, List.getD_cons_succ, Act.put, hd]
                  go_simp
                  exact ⟨_, rfl, Below.refl _ _, by first | rfl | (simp only [kIs]; done) | (simp only [kIs]; rw [hwr])⟩
                · intro us w1 _ _
                  change Oper.wp _ _ _ _ _ _
                  go_simp
                  exact ⟨_, rfl, Below.refl _ _, rfl⟩
                · intro us w1 _ _
                  change Oper.wp _ _ _ _ _ _
                  go_simp
                  exact ⟨_, rfl, Below.refl _ _, rfl⟩
                · intro us w1 hb hd
                  simp only [List.mem_cons, List.not_mem_nil, or_false, forall_eq_or_imp, forall_eq, List.getD_cons_zero, List.getD_cons_succ, kIs] at hd
                  simp only [putD, List.getD_cons_zero, List.getD_cons_succ, Act.put, hd]
                  go_simp
                  exact ⟨_, rfl, Below.refl _ _, rfl⟩
                · intro us w1 hb hd
                  simp only [List.mem_cons, List.not_mem_nil, or_false, forall_eq, List.getD_cons_zero, List.getD_cons_succ, kIs] at hd
                  simp only [putD, List.getD_cons_zero, List.getD_cons_succ, Act.put, hd]
                  have d0 := (hb.cell (World.block_lt_of_cell? _ _ cJ)).trans cJ
                  go_simp
                  exact ⟨_, rfl, Below.refl _ _, rfl⟩
                · intro us w1 hb hd
                  simp only [List.mem_cons, List.not_mem_nil, or_false, forall_eq_or_imp, forall_eq, List.getD_cons_zero, List.getD_cons_succ, kIs] at hd
                  simp only [putD, List.getD_cons_zero, List.getD_cons_succ, Act.put, hd]
                  go_simp
                  exact ⟨_, rfl, Below.refl _ _, rfl⟩
              intro us_w7 w7 hb hp
              have h9 := hp 9 (by simp)
              have h10 := hp 10 (by simp)
              simp only [List.getD_cons_zero, List.getD_cons_succ, kIs] at h9 h10
              rw [show List.range 11 = [0, 1, 2, 3, 4, 5, 6, 7, 8, 9, 10] from rfl]
              simp only [List.drop_succ_cons, List.drop_zero, putD, List.getD_cons_zero, List.getD_cons_succ, Act.put, List.setIfInBounds_toArray, List.set_cons_zero, List.set_cons_succ, h9, h10]
              clear hp h9 h10
              have OF5 := Lib.hid (own_keep OF6.out hb)
              have hLl : (padB J k ++ padB A (k + 1)).length = 128 := by rw [List.length_append, padB_len _ _ (by omega), padB_len _ _ (by omega)]
              have cF := OF5.out.cellAt (k) (by omega)
              rw [bs_get (padB J k ++ padB A (k + 1)) (k) (by rw [hLl]; omega)] at cF
              have hfF := OF5.out.frozenAt (k)
              have hgl5 := (OF5.out.lt gf rfl).2
              obtain ⟨u, hu⟩ : ∃ u, (padB J k ++ padB A (k + 1))[k]'(by rw [hLl]; omega) = u := ⟨_, rfl⟩
              rw [hu] at cF
              clear hu
              obtain ⟨hst, hgs⟩ := OF5.out.stored (k) (.int .u8 (z.toNat : Int))
              rw [← bs_set, set_first (padB_len _ _ (by omega)) (by omega), HSJ.out] at hst
              have OS := Lib.hid hst
              have GS := Lib.hid hgs
              clear hst hgs hLl
              go_wp2_with fail
              go_roundw
              case rel => exact ⟨k + 1, by omega, by go_num, OS.out, (HG5.out.trans (below_grownBy hb _)).trans GS.out⟩
              case measure => simp [intOf]; omega
            · have HJS := Lib.hid (padB_stay (X := J) (i := k) (by omega))
              have q5 : (J.length : Int) ≤ (k : Int) := by omega
              go_wp2_with fail
              go_roundw
              case rel => exact ⟨k + 1, by omega, by go_num, by rw [HJS.out]; exact OS.out, HG5.out⟩
              case measure => simp [intOf]; omega
          · obtain ⟨w8, rfl⟩ : ∃ x : World, x = wr := ⟨_, rfl⟩
            obtain rfl : k = 64 := by omega
            obtain ⟨Y, hY⟩ : ∃ Y, padB J 64 = Y := ⟨_, rfl⟩
            have hYl : Y.length = 64 := by rw [← hY]; exact padB_len J 64 (by decide)
            have hfin := OFr.out
            rw [padB_full HLA.out, hY] at hfin
            have OFX := Lib.hid hfin
            have HYL := Lib.hid hYl
            clear hfin OFr hY hYl OAr hgr hlt hcells
            have hb8 : Bytes w8 (.slice (some ⟨gf, 0, none⟩) 128 128) (Y ++ A) := by unfold Bytes; rw [List.length_append, HYL.out, HLA.out]; exact Has.own OFX.out
            have HB8 := Lib.hid hb8
            clear hb8
            obtain ⟨M, hM⟩ : ∃ M : List UInt8, M = Y ++ A := ⟨_, rfl⟩
            rw [← hM] at HB8
            have HM := Lib.hid hM
            clear hM
            obtain ⟨m0, hm0⟩ : ∃ x, bval M (bst M 2) 8 6 = x := ⟨_, rfl⟩
            obtain ⟨m1, hm1⟩ : ∃ x, bval M (bst M 2) 14 4 = x := ⟨_, rfl⟩
            obtain ⟨m2, hm2⟩ : ∃ x, bval M (bst M 2) 18 1 = x := ⟨_, rfl⟩
            obtain ⟨m3, hm3⟩ : ∃ x, bval M (bst M 2) 19 4 = x := ⟨_, rfl⟩
            obtain ⟨m4, hm4⟩ : ∃ x, bval M (bst M 2) 23 4 = x := ⟨_, rfl⟩
            obtain ⟨fb, hfb⟩ : ∃ x, (bst M 2).isSome = x := ⟨_, rfl⟩
            have HMS := Lib.hid (And.intro hm0 (And.intro hm1 (And.intro hm2 (And.intro hm3 (And.intro hm4 hfb)))))
            clear hm0 hm1 hm2 hm3 hm4 hfb
            go_wp2_with fail
            refine (superNewest_any _ M _ HB8.out).mono ?_
            rintro e w9 ⟨rfl, hx⟩
            have hbel_w9 : Below w.heap.size w w9 := hnx.trans (hx.mono (by have := hnx.size; first | omega | (simp; omega)))
            have hz_w9 : w8.heap.size + 0 ≤ w9.heap.size := by have hz := hx.size; first | omega | (simp only [sz1] at hz; omega)
            have B3r' := Lib.hid (box_below B3r.out hx)
            have B4r' := Lib.hid (box_below B4r.out hx)
            have OBr' := Lib.hid (own_keep OBr.out hx)
            have OFX' := Lib.hid (own_keep OFX.out hx)
            clear hx B3r B4r OBr OFX hnx
            have B3r := B3r'
            have B4r := B4r'
            have OBr := OBr'
            have OFX := OFX'
            clear B3r' B4r' OBr' OFX'
            have hl_B3r := (Array.getElem?_eq_some_iff.1 B3r.out).1
            have hl_B4r := (Array.getElem?_eq_some_iff.1 B4r.out).1
            rw [HMS.out.1, HMS.out.2.1, HMS.out.2.2.1, HMS.out.2.2.2.1, HMS.out.2.2.2.2.1, HMS.out.2.2.2.2.2]
            clear HB8
            go_wp2_with fail
            obtain ⟨w10, hset⟩ : ∃ x, x = (w9.alloc (.cells #[.int .i64 m0, .int .i64 m1, .int .i64 m2, .int .i64 m3, .int .i64 m4] 23)) := ⟨_, rfl⟩
            rw [← hset]
            have hx : Below (w9.alloc (supBox m0 m1 m2 m3 m4)).heap.size (w9.alloc (supBox m0 m1 m2 m3 m4)) w10 := by rw [hset]; exact Below.refl _ _
            clear hset
            have hbel_w10 : Below w.heap.size w w10 := (below_new hbel_w9 _).trans (hx.mono (by have := hbel_w9.size; first | omega | (simp; omega)))
            have hz_w10 : w9.heap.size + 1 ≤ w10.heap.size := by have hz := hx.size; first | omega | (simp only [sz1] at hz; omega)
            have B3r' := Lib.hid (box_below (heap_keep B3r.out _) hx)
            have B4r' := Lib.hid (box_below (heap_keep B4r.out _) hx)
            have OBr' := Lib.hid (own_keep (World.ownsRow.alloc OBr.out _) hx)
            have OFX' := Lib.hid (own_keep (World.ownsRow.alloc OFX.out _) hx)
            have B13 := Lib.hid (show w10.heap[w9.heap.size]? = some (supBox m0 m1 m2 m3 m4) from box_below (heap_last (o := supBox m0 m1 m2 m3 m4) rfl) hx)
            clear hx B3r B4r OBr OFX hbel_w9
            have B3r := B3r'
            have B4r := B4r'
            have OBr := OBr'
            have OFX := OFX'
            clear B3r' B4r' OBr' OFX'
            clear hl_B3r hl_B4r
            have hl_B3r := (Array.getElem?_eq_some_iff.1 B3r.out).1
            have hl_B4r := (Array.getElem?_eq_some_iff.1 B4r.out).1
            have hl_B13 := (Array.getElem?_eq_some_iff.1 B13.out).1
            have hb10 : Bytes w10 (.slice (some ⟨gf, 0, none⟩) 128 128) M := by unfold Bytes; rw [HM.out, List.length_append, HYL.out, HLA.out]; exact Has.own OFX.out
            have hpt := part_bytes hb10 0 (by decide) (by decide) (by decide)
            rw [HM.out, part0 HYL.out] at hpt
            have HPT := Lib.hid (show Bytes w10 (.slice (some ⟨gf, 0, none⟩) 64 128) Y from hpt)
            clear hb10 hpt
            obtain ⟨KY, hKY⟩ : ∃ x, supOpen Y = x := ⟨_, rfl⟩
            have HKY := Lib.hid hKY
            clear hKY
            obtain ⟨yB4r_0, yB4r_1, yB4r_2, yB4r_3, yB4r_4⟩ := supBox_cells B4r.out
            have hs1 : IntKind.i64.wrap ((0 : Int) + 64) = 64 := by rw [IntWalk.i64_in _ (by decide)]; rfl
            have hs2 : IntKind.i64.wrap (64 : Int) = 64 := IntWalk.i64_in _ (by decide)
            have hs3 : IntKind.i64.wrap (0 : Int) = 0 := IntWalk.i64_in _ (by decide)
            go_cut [15, 16] (fun s15 s16 wx => ∃ g15 : Nat, s15 = .pointer (some ⟨g15, 0, none⟩) ∧ s16 = .int .i64 (KY : Nat) ∧ w10.heap.size ≤ g15 ∧ wx.heap[g15]? = some (supBox (supOf Y 8 6 : Nat) (supOf Y 14 4 : Nat) (supOf Y 18 1 : Nat) (supOf Y 19 4 : Nat) (supOf Y 23 4 : Nat)) ∧ Below w10.heap.size w10 wx)
            case first =>
              go_region_held3 (fun w' => w'.cell? ⟨w.heap.size + 1, 0, none⟩ = some (.int .i64 (g + 1)))
                (first | with_reducible exact k1 | with_reducible exact k3 _ _ _ _ _ | go_keep)
                (first
                  | (go_at_call 36
                     refine (place_any (g + 1) _).mono ?_
                     rintro e w' ⟨rfl, rfl⟩
                     rw [HQB.out])
                  | (go_at_call 22
                     refine (superOpen_any _ Y _ (HPT.out.below (by first | exact ((Below.refl _ w10).alloc (Nat.le_refl _) (supBox 0 0 0 0 0)).drew | exact (Below.refl _ w10).drew))).mono ?_
                     rintro e w11 ⟨rfl, hx⟩
                     rw [HKY.out]
                     first
                       | (have kb : w11.heap[w10.heap.size]? = some (supBox 0 0 0 0 0) := box_below (w := (w10.alloc (supBox 0 0 0 0 0)).drew) (heap_alloc_new w10 _) hx
                          have hx10 : Below w10.heap.size w10 w11 := (below_new (Below.refl _ w10) (supBox 0 0 0 0 0)).drew.trans (hx.mono (show w10.heap.size ≤ (w10.alloc (supBox 0 0 0 0 0)).heap.size by rw [sz1]; omega))
                          obtain ⟨z0, z1, z2, z3, z4⟩ := supBox_cells kb
                          have hfz := supBox_free kb
                          have hls := (Array.getElem?_eq_some_iff.1 kb).1
                          have KB := Lib.hid kb
                          have HX11 := Lib.hid hx10
                          clear kb hx hx10)
                       | (have HX11 := Lib.hid (show Below w10.heap.size w10 w11 from (Below.refl _ w10).drew.trans hx)
                          clear hx)
                       | fail "no way"
                     have k1 : w11.cell? ⟨w.heap.size + 1, 0, none⟩ = some (.int .i64 (g + 1)) := (HX11.out.cell (show w.heap.size + 1 < w10.heap.size from hl_B4r)).trans yB4r_0
                     have k3 := sets_cell k1 (show (⟨w.heap.size + 1, 0, none⟩ : Addr).block ≠ w10.heap.size from by show w.heap.size + 1 ≠ w10.heap.size; omega))
                  | fail "no arm")
              all_goals
                go_wp2_with fail
                go_meet
                first
                  | exact ⟨_, rfl, rfl, HX11.out.size, heap_alloc_new _ _, below_new HX11.out _⟩
                  | exact ⟨_, rfl, rfl, Nat.le_refl _, supBox_set KB.out _ _ _ _ _, sets_below HX11.out (Nat.le_refl _) _ _ _ _ _⟩
            case rest =>
              clear hs1 hs2 hs3
              obtain ⟨w11, rfl⟩ : ∃ x : World, x = wc := ⟨_, rfl⟩
              obtain ⟨g15, rfl, rfl, -, -, hx⟩ := hcut
              clear HPT hk
              clear yB4r_0 yB4r_1 yB4r_2 yB4r_3 yB4r_4
              have hbel_w11 : Below w.heap.size w w11 := hbel_w10.trans (hx.mono (by have := hbel_w10.size; first | omega | (simp; omega)))
              have hz_w11 : w10.heap.size + 0 ≤ w11.heap.size := by have hz := hx.size; first | omega | (simp only [sz1] at hz; omega)
              have B3r' := Lib.hid (box_below B3r.out hx)
              have B4r' := Lib.hid (box_below B4r.out hx)
              have OBr' := Lib.hid (own_keep OBr.out hx)
              have OFX' := Lib.hid (own_keep OFX.out hx)
              have B13' := Lib.hid (box_below B13.out hx)
              clear hx B3r B4r OBr OFX B13 hbel_w10
              have B3r := B3r'
              have B4r := B4r'
              have OBr := OBr'
              have OFX := OFX'
              have B13 := B13'
              clear B3r' B4r' OBr' OFX' B13'
              clear hl_B3r hl_B4r hl_B13
              have hl_B3r := (Array.getElem?_eq_some_iff.1 B3r.out).1
              have hl_B4r := (Array.getElem?_eq_some_iff.1 B4r.out).1
              have hl_B13 := (Array.getElem?_eq_some_iff.1 B13.out).1
              by_cases hKY0 : KY = 0
              · subst hKY0
                clear HMS HKY HM
                go_wp2_with fail
                go_loopw [17] (fun i wr => ∃ k : Nat, k ≤ 64 ∧ i = .int .i64 k ∧ wr.ownsRow w.heap.size 5 1 (.slice (some ⟨gf, 0, none⟩) 128 128) 128 (bs (overB Y B (k) ++ A)) ∧ w11.grownBy wr (some gf)) (fun i _ => 64 - (intOf i).toNat)
                case atStart => exact ⟨0, by decide, rfl, by rw [overB_zero]; exact OFX.out, World.grownBy.refl _ _⟩
                case round =>
                  obtain ⟨k, hk, rfl, hown, hgr⟩ := hrel
                  have OFr := Lib.hid hown
                  have B4s := Lib.hid (box_grown B4r.out hgr (by intro e; have := Option.some.inj e; omega))
                  have OBs := Lib.hid (own_grown OBr.out hgr hgbf)
                  have hnx := below_row hbel_w11 hgr (by intro r e; have := Option.some.inj e; omega)
                  clear hown B3r B4r OBr OFX B13 hbel_w11
                  by_cases hlt : k < 64
                  · have hBl : k < B.length := by rw [HLB.out]; exact hlt
                    have cB := OBs.out.cellAt k (by omega)
                    rw [bs_get B k hBl] at cB
                    have HSB := Lib.hid (overB_set HYL.out HLB.out hlt)
                    obtain ⟨x, hx⟩ : ∃ x, x = B[k] := ⟨_, rfl⟩
                    rw [← hx] at cB HSB
                    clear hx
                    obtain ⟨y0, -, -, -, -⟩ := supBox_cells B4s.out
                    have q0 : (0 : Int) ≤ (k : Int) := by omega
                    have q1 : (k : Int) < 64 := by omega
                    have q2 : (k : Int) < 128 := by omega
                    have hwr : IntKind.i64.wrap (k : Int) = (k : Int) := IntWalk.i64_in _ (by omega)
                    have q3 : (k : Int) < 128 := q2
                    have q4 : (0 : Int) ≤ (k : Int) := q0
                    go_wp2_with fail
                    refine region_each_tail 11 [some 109, some 110, some 111, some 112, some 113, some 114, some 115, some 116, some 117, some 118, some 119, none] [[], [], [1], [2], [], [3, 4], [], [], [6, 7], [8], [0, 5]]
                      [kIs (.slice (some ⟨gf, 0, none⟩) 128 128), kIs (.pointer (some ⟨w.heap.size + 1, 0, none⟩)), kIs (.int .i64 (g + 1)), kIs (.int .i64 0), kIs (.int .i64 k), kIs (.int .i64 (k : Int)), kIs (.slice (some ⟨gb, 0, none⟩) 64 cb), kIs (.int .i64 k), kIs (.pointer (some ⟨gb, k, none⟩)), kIs (.int .u8 (x.toNat : Int)), kIs (.pointer (some ⟨gf, k, none⟩))]
                      (by kernel_rfl) (by kernel_rfl) (by kernel_rfl) (by kernel_rfl) (by kernel_rfl) ?_ ?_
                    · simp only [List.take_succ_cons, List.take_zero, obligsD]
                      refine ⟨?_, ?_, ?_, ?_, ?_, ?_, ?_, ?_, ?_, ?_, ?_, trivial⟩
                      · intro us w1 _ _
                        change Oper.wp _ _ _ _ _ _
                        go_simp
                        exact ⟨_, rfl, Below.refl _ _, rfl⟩
                      · intro us w1 _ _
                        change Oper.wp _ _ _ _ _ _
                        go_simp
                        exact ⟨_, rfl, Below.refl _ _, rfl⟩
                      · intro us w1 hb hd
                        simp only [List.mem_cons, List.not_mem_nil, or_false, forall_eq, List.getD_cons_zero, List.getD_cons_succ, kIs] at hd
                        simp only [putD, List.getD_cons_zero, List.getD_cons_succ, Act.put, hd]
                        have d0 := (hb.cell (World.block_lt_of_cell? _ _ y0)).trans y0
                        go_simp
                        exact ⟨_, rfl, Below.refl _ _, rfl⟩
                      · intro us w1 hb hd
                        simp only [List.mem_cons, List.not_mem_nil, or_false, forall_eq, List.getD_cons_zero, List.getD_cons_succ, kIs] at hd
                        simp only [putD, List.getD_cons_zero, List.getD_cons_succ, Act.put, hd]
                        go_simp
                        refine (place_is (g + 1) 0 HQB.out _).mono ?_
                        rintro e w99 ⟨rfl, hb2⟩
                        exact ⟨_, rfl, hb2, rfl⟩
                      · intro us w1 _ _
                        change Oper.wp _ _ _ _ _ _
                        go_simp
                        exact ⟨_, rfl, Below.refl _ _, rfl⟩
                      · intro us w1 hb hd
                        simp only [List.mem_cons, List.not_mem_nil, or_false, forall_eq_or_imp, forall_eq, List.getD_cons_zero, List.getD_cons_succ, kIs] at hd
                        simp only [putD, List.getD_cons_zero, List.getD_cons_succ, Act.put, hd]
                        go_simp
                        exact ⟨_, rfl, Below.refl _ _, by first | rfl | (simp only [kIs]; done) | (simp only [kIs]; rw [hwr])⟩
                      · intro us w1 _ _
                        change Oper.wp _ _ _ _ _ _
                        go_simp
                        exact ⟨_, rfl, Below.refl _ _, rfl⟩
                      · intro us w1 _ _
                        change Oper.wp _ _ _ _ _ _
                        go_simp
                        exact ⟨_, rfl, Below.refl _ _, rfl⟩
                      · intro us w1 hb hd
                        simp only [List.mem_cons, List.not_mem_nil, or_false, forall_eq_or_imp, forall_eq, List.getD_cons_zero, List.getD_cons_succ, kIs] at hd
                        simp only [putD, List.getD_cons_zero, List.getD_cons_succ, Act.put, hd]
                        go_simp
                        exact ⟨_, rfl, Below.refl _ _, rfl⟩
                      · intro us w1 hb hd
                        simp only [List.mem_cons, List.not_mem_nil, or_false, forall_eq, List.getD_cons_zero, List.getD_cons_succ, kIs] at hd
                        simp only [putD, List.getD_cons_zero, List.getD_cons_succ, Act.put, hd]
                        have d0 := (hb.cell (World.block_lt_of_cell? _ _ cB)).trans cB
                        go_simp
                        exact ⟨_, rfl, Below.refl _ _, rfl⟩
                      · intro us w1 hb hd
                        simp only [List.mem_cons, List.not_mem_nil, or_false, forall_eq_or_imp, forall_eq, List.getD_cons_zero, List.getD_cons_succ, kIs] at hd
                        simp only [putD, List.getD_cons_zero, List.getD_cons_succ, Act.put, hd]
                        go_simp
                        exact ⟨_, rfl, Below.refl _ _, rfl⟩
                    intro us_w12 w12 hb hp
                    have h9 := hp 9 (by simp)
                    have h10 := hp 10 (by simp)
                    simp only [List.getD_cons_zero, List.getD_cons_succ, kIs] at h9 h10
                    rw [show List.range 11 = [0, 1, 2, 3, 4, 5, 6, 7, 8, 9, 10] from rfl]
                    simp only [List.drop_succ_cons, List.drop_zero, putD, List.getD_cons_zero, List.getD_cons_succ, Act.put, List.setIfInBounds_toArray, List.set_cons_zero, List.set_cons_succ, h9, h10]
                    clear hp h9 h10
                    have OF5 := Lib.hid (own_keep OFr.out hb)
                    have hLl : (overB Y B (k) ++ A).length = 128 := by rw [List.length_append, HLA.out, overB_len HYL.out HLB.out _ (by omega)]
                    have cF := OF5.out.cellAt (k) (by omega)
                    rw [bs_get (overB Y B (k) ++ A) (k) (by rw [hLl]; omega)] at cF
                    have hfF := OF5.out.frozenAt (k)
                    have hgl5 := (OF5.out.lt gf rfl).2
                    obtain ⟨u, hu⟩ : ∃ u, (overB Y B (k) ++ A)[k]'(by rw [hLl]; omega) = u := ⟨_, rfl⟩
                    rw [hu] at cF
                    clear hu
                    obtain ⟨hst, hgs⟩ := OF5.out.stored (k) (.int .u8 (x.toNat : Int))
                    rw [← bs_set, set_first (overB_len HYL.out HLB.out _ (by omega)) (by omega), HSB.out] at hst
                    have OS := Lib.hid hst
                    have GS := Lib.hid hgs
                    clear hst hgs hLl
                    go_wp2_with fail
                    go_roundw
                    case rel => exact ⟨k + 1, by omega, by go_num, OS.out, (hgr.trans (below_grownBy hb _)).trans GS.out⟩
                    case measure => simp [intOf]; omega
                  · obtain ⟨w13, rfl⟩ : ∃ x : World, x = wr := ⟨_, rfl⟩
                    obtain rfl : k = 64 := by omega
                    have hfin := OFr.out
                    rw [overB_full HYL.out HLB.out] at hfin
                    have OFY := Lib.hid hfin
                    clear hfin OFr OBs hgr hlt hk
                    have hb13 : Bytes w13 (.slice (some ⟨gf, 0, none⟩) 128 128) (B ++ A) := by unfold Bytes; rw [List.length_append, HLB.out, HLA.out]; exact Has.own OFY.out
                    have hct : Counts (B ++ A) (g + 1) r' c' t' o' := by
                      have hq := HQA.out
                      have ha := (opens_fld HA.out).1
                      have hbb := (opens_fld HB.out).1
                      exact counts_first HLB.out HLA.out HB.out (by omega) (fun h => by have := h.2.2; omega)
                    obtain ⟨M2, hM2⟩ : ∃ M2 : List UInt8, M2 = B ++ A := ⟨_, rfl⟩
                    rw [← hM2] at hb13 hct
                    clear hM2
                    have HB13 := Lib.hid hb13
                    have HCT := Lib.hid hct
                    clear hb13 hct
                    go_wp2_with fail
                    refine (superNewest_any _ M2 _ HB13.out).mono ?_
                    rintro e w14 ⟨rfl, hx⟩
                    have hbel_w14 : Below w.heap.size w w14 := hnx.trans (hx.mono (by have := hnx.size; first | omega | (simp; omega)))
                    have hz_w14 : w13.heap.size + 0 ≤ w14.heap.size := by have hz := hx.size; first | omega | (simp only [sz1] at hz; omega)
                    have B4s' := Lib.hid (box_below B4s.out hx)
                    have OFY' := Lib.hid (own_keep OFY.out hx)
                    clear hx B4s OFY hnx
                    have B4s := B4s'
                    have OFY := OFY'
                    clear B4s' OFY'
                    have hl_B4s := (Array.getElem?_eq_some_iff.1 B4s.out).1
                    rw [HCT.out.1, HCT.out.2.1, HCT.out.2.2.1, HCT.out.2.2.2.1, HCT.out.2.2.2.2.1, HCT.out.2.2.2.2.2]
                    clear HB13 HCT
                    obtain ⟨yB4s_0, yB4s_1, yB4s_2, yB4s_3, yB4s_4⟩ := supBox_cells B4s.out
                    go_wp2_with fail
                    go_ret
                    exact ⟨rfl, below_new hbel_w14 _⟩
              · have hc : Counts M g r c t o := by
                  rw [HM.out]
                  have hq := HQA.out
                  exact counts_second HYL.out HLA.out HA.out (by omega) (fun h => absurd (HKY.out.symm.trans h.1) hKY0)
                obtain ⟨c0, c1, c2, c3, c4, c5⟩ := hc
                rw [HMS.out.1] at c0
                rw [HMS.out.2.1] at c1
                rw [HMS.out.2.2.1] at c2
                rw [HMS.out.2.2.2.1] at c3
                rw [HMS.out.2.2.2.2.1] at c4
                rw [HMS.out.2.2.2.2.2] at c5
                subst c5
                have b13 := B13.out
                rw [c0, c1, c2, c3, c4] at b13
                clear B13 c0 c1 c2 c3 c4
                have B13 := Lib.hid b13
                clear b13
                have hKY1 : ¬ ((KY : Int) = 0) := by omega
                obtain ⟨yB13_0, yB13_1, yB13_2, yB13_3, yB13_4⟩ := supBox_cells B13.out
                obtain ⟨yB3r_0, yB3r_1, yB3r_2, yB3r_3, yB3r_4⟩ := supBox_cells B3r.out
                clear HMS HKY HM
                go_wp2_with fail
                go_loopw [17] (fun i wr => ∃ k : Nat, k ≤ 64 ∧ i = .int .i64 k ∧ wr.ownsRow w.heap.size 5 1 (.slice (some ⟨gf, 0, none⟩) 128 128) 128 (bs (overB Y B (k) ++ A)) ∧ w11.grownBy wr (some gf)) (fun i _ => 64 - (intOf i).toNat)
                case atStart => exact ⟨0, by decide, rfl, by rw [overB_zero]; exact OFX.out, World.grownBy.refl _ _⟩
                case round =>
                  obtain ⟨k, hk, rfl, hown, hgr⟩ := hrel
                  have OFr := Lib.hid hown
                  have B4s := Lib.hid (box_grown B4r.out hgr (by intro e; have := Option.some.inj e; omega))
                  have OBs := Lib.hid (own_grown OBr.out hgr hgbf)
                  have hnx := below_row hbel_w11 hgr (by intro r e; have := Option.some.inj e; omega)
                  clear hown B3r B4r OBr OFX B13 hbel_w11
                  by_cases hlt : k < 64
                  · have hBl : k < B.length := by rw [HLB.out]; exact hlt
                    have cB := OBs.out.cellAt k (by omega)
                    rw [bs_get B k hBl] at cB
                    have HSB := Lib.hid (overB_set HYL.out HLB.out hlt)
                    obtain ⟨x, hx⟩ : ∃ x, x = B[k] := ⟨_, rfl⟩
                    rw [← hx] at cB HSB
                    clear hx
                    obtain ⟨y0, -, -, -, -⟩ := supBox_cells B4s.out
                    have q0 : (0 : Int) ≤ (k : Int) := by omega
                    have q1 : (k : Int) < 64 := by omega
                    have q2 : (k : Int) < 128 := by omega
                    have hwr : IntKind.i64.wrap (k : Int) = (k : Int) := IntWalk.i64_in _ (by omega)
                    have q3 : (k : Int) < 128 := q2
                    have q4 : (0 : Int) ≤ (k : Int) := q0
                    go_wp2_with fail
                    refine region_each_tail 11 [some 109, some 110, some 111, some 112, some 113, some 114, some 115, some 116, some 117, some 118, some 119, none] [[], [], [1], [2], [], [3, 4], [], [], [6, 7], [8], [0, 5]]
                      [kIs (.slice (some ⟨gf, 0, none⟩) 128 128), kIs (.pointer (some ⟨w.heap.size + 1, 0, none⟩)), kIs (.int .i64 (g + 1)), kIs (.int .i64 0), kIs (.int .i64 k), kIs (.int .i64 (k : Int)), kIs (.slice (some ⟨gb, 0, none⟩) 64 cb), kIs (.int .i64 k), kIs (.pointer (some ⟨gb, k, none⟩)), kIs (.int .u8 (x.toNat : Int)), kIs (.pointer (some ⟨gf, k, none⟩))]
                      (by kernel_rfl) (by kernel_rfl) (by kernel_rfl) (by kernel_rfl) (by kernel_rfl) ?_ ?_
                    · simp only [List.take_succ_cons, List.take_zero, obligsD]
                      refine ⟨?_, ?_, ?_, ?_, ?_, ?_, ?_, ?_, ?_, ?_, ?_, trivial⟩
                      · intro us w1 _ _
                        change Oper.wp _ _ _ _ _ _
                        go_simp
                        exact ⟨_, rfl, Below.refl _ _, rfl⟩
                      · intro us w1 _ _
                        change Oper.wp _ _ _ _ _ _
                        go_simp
                        exact ⟨_, rfl, Below.refl _ _, rfl⟩
                      · intro us w1 hb hd
                        simp only [List.mem_cons, List.not_mem_nil, or_false, forall_eq, List.getD_cons_zero, List.getD_cons_succ, kIs] at hd
                        simp only [putD, List.getD_cons_zero, List.getD_cons_succ, Act.put, hd]
                        have d0 := (hb.cell (World.block_lt_of_cell? _ _ y0)).trans y0
                        go_simp
                        exact ⟨_, rfl, Below.refl _ _, rfl⟩
                      · intro us w1 hb hd
                        simp only [List.mem_cons, List.not_mem_nil, or_false, forall_eq, List.getD_cons_zero, List.getD_cons_succ, kIs] at hd
                        simp only [putD, List.getD_cons_zero, List.getD_cons_succ, Act.put, hd]
                        go_simp
                        refine (place_is (g + 1) 0 HQB.out _).mono ?_
                        rintro e w99 ⟨rfl, hb2⟩
                        exact ⟨_, rfl, hb2, rfl⟩
                      · intro us w1 _ _
                        change Oper.wp _ _ _ _ _ _
                        go_simp
                        exact ⟨_, rfl, Below.refl _ _, rfl⟩
                      · intro us w1 hb hd
                        simp only [List.mem_cons, List.not_mem_nil, or_false, forall_eq_or_imp, forall_eq, List.getD_cons_zero, List.getD_cons_succ, kIs] at hd
                        simp only [putD, List.getD_cons_zero, List.getD_cons_succ, Act.put, hd]
                        go_simp
                        exact ⟨_, rfl, Below.refl _ _, by first | rfl | (simp only [kIs]; done) | (simp only [kIs]; rw [hwr])⟩
                      · intro us w1 _ _
                        change Oper.wp _ _ _ _ _ _
                        go_simp
                        exact ⟨_, rfl, Below.refl _ _, rfl⟩
                      · intro us w1 _ _
                        change Oper.wp _ _ _ _ _ _
                        go_simp
                        exact ⟨_, rfl, Below.refl _ _, rfl⟩
                      · intro us w1 hb hd
                        simp only [List.mem_cons, List.not_mem_nil, or_false, forall_eq_or_imp, forall_eq, List.getD_cons_zero, List.getD_cons_succ, kIs] at hd
                        simp only [putD, List.getD_cons_zero, List.getD_cons_succ, Act.put, hd]
                        go_simp
                        exact ⟨_, rfl, Below.refl _ _, rfl⟩
                      · intro us w1 hb hd
                        simp only [List.mem_cons, List.not_mem_nil, or_false, forall_eq, List.getD_cons_zero, List.getD_cons_succ, kIs] at hd
                        simp only [putD, List.getD_cons_zero, List.getD_cons_succ, Act.put, hd]
                        have d0 := (hb.cell (World.block_lt_of_cell? _ _ cB)).trans cB
                        go_simp
                        exact ⟨_, rfl, Below.refl _ _, rfl⟩
                      · intro us w1 hb hd
                        simp only [List.mem_cons, List.not_mem_nil, or_false, forall_eq_or_imp, forall_eq, List.getD_cons_zero, List.getD_cons_succ, kIs] at hd
                        simp only [putD, List.getD_cons_zero, List.getD_cons_succ, Act.put, hd]
                        go_simp
                        exact ⟨_, rfl, Below.refl _ _, rfl⟩
                    intro us_w12 w12 hb hp
                    have h9 := hp 9 (by simp)
                    have h10 := hp 10 (by simp)
                    simp only [List.getD_cons_zero, List.getD_cons_succ, kIs] at h9 h10
                    rw [show List.range 11 = [0, 1, 2, 3, 4, 5, 6, 7, 8, 9, 10] from rfl]
                    simp only [List.drop_succ_cons, List.drop_zero, putD, List.getD_cons_zero, List.getD_cons_succ, Act.put, List.setIfInBounds_toArray, List.set_cons_zero, List.set_cons_succ, h9, h10]
                    clear hp h9 h10
                    have OF5 := Lib.hid (own_keep OFr.out hb)
                    have hLl : (overB Y B (k) ++ A).length = 128 := by rw [List.length_append, HLA.out, overB_len HYL.out HLB.out _ (by omega)]
                    have cF := OF5.out.cellAt (k) (by omega)
                    rw [bs_get (overB Y B (k) ++ A) (k) (by rw [hLl]; omega)] at cF
                    have hfF := OF5.out.frozenAt (k)
                    have hgl5 := (OF5.out.lt gf rfl).2
                    obtain ⟨u, hu⟩ : ∃ u, (overB Y B (k) ++ A)[k]'(by rw [hLl]; omega) = u := ⟨_, rfl⟩
                    rw [hu] at cF
                    clear hu
                    obtain ⟨hst, hgs⟩ := OF5.out.stored (k) (.int .u8 (x.toNat : Int))
                    rw [← bs_set, set_first (overB_len HYL.out HLB.out _ (by omega)) (by omega), HSB.out] at hst
                    have OS := Lib.hid hst
                    have GS := Lib.hid hgs
                    clear hst hgs hLl
                    go_wp2_with fail
                    go_roundw
                    case rel => exact ⟨k + 1, by omega, by go_num, OS.out, (hgr.trans (below_grownBy hb _)).trans GS.out⟩
                    case measure => simp [intOf]; omega
                  · obtain ⟨w13, rfl⟩ : ∃ x : World, x = wr := ⟨_, rfl⟩
                    obtain rfl : k = 64 := by omega
                    have hfin := OFr.out
                    rw [overB_full HYL.out HLB.out] at hfin
                    have OFY := Lib.hid hfin
                    clear hfin OFr OBs hgr hlt hk
                    have hb13 : Bytes w13 (.slice (some ⟨gf, 0, none⟩) 128 128) (B ++ A) := by unfold Bytes; rw [List.length_append, HLB.out, HLA.out]; exact Has.own OFY.out
                    have hct : Counts (B ++ A) (g + 1) r' c' t' o' := by
                      have hq := HQA.out
                      have ha := (opens_fld HA.out).1
                      have hbb := (opens_fld HB.out).1
                      exact counts_first HLB.out HLA.out HB.out (by omega) (fun h => by have := h.2.2; omega)
                    obtain ⟨M2, hM2⟩ : ∃ M2 : List UInt8, M2 = B ++ A := ⟨_, rfl⟩
                    rw [← hM2] at hb13 hct
                    clear hM2
                    have HB13 := Lib.hid hb13
                    have HCT := Lib.hid hct
                    clear hb13 hct
                    go_wp2_with fail
                    refine (superNewest_any _ M2 _ HB13.out).mono ?_
                    rintro e w14 ⟨rfl, hx⟩
                    have hbel_w14 : Below w.heap.size w w14 := hnx.trans (hx.mono (by have := hnx.size; first | omega | (simp; omega)))
                    have hz_w14 : w13.heap.size + 0 ≤ w14.heap.size := by have hz := hx.size; first | omega | (simp only [sz1] at hz; omega)
                    have B4s' := Lib.hid (box_below B4s.out hx)
                    have OFY' := Lib.hid (own_keep OFY.out hx)
                    clear hx B4s OFY hnx
                    have B4s := B4s'
                    have OFY := OFY'
                    clear B4s' OFY'
                    have hl_B4s := (Array.getElem?_eq_some_iff.1 B4s.out).1
                    rw [HCT.out.1, HCT.out.2.1, HCT.out.2.2.1, HCT.out.2.2.2.1, HCT.out.2.2.2.2.1, HCT.out.2.2.2.2.2]
                    clear HB13 HCT
                    obtain ⟨yB4s_0, yB4s_1, yB4s_2, yB4s_3, yB4s_4⟩ := supBox_cells B4s.out
                    go_wp2_with fail
                    go_ret
                    exact ⟨rfl, below_new hbel_w14 _⟩
    · have HCB := Lib.hid (show supCode (g + 1) r' c' t' o' = 1 by rw [supCode, if_neg hB])
      clear hA hB
      go_enter Try.func13, Try.ntmps13
      go_wp2_with fail
      refine (superPack_any g r c t o _).mono ?_
      rintro e w1 ⟨va, rfl, hna, hx⟩
      have hbel_w1 : Below w.heap.size w w1 := (below_new (below_new (Below.refl w.heap.size w) _) _).trans (hx.mono (by first | omega | (simp; done) | (simp; omega)))
      have hz_w1 : w.heap.size + 2 ≤ w1.heap.size := by have hz := hx.size; first | omega | (simp only [sz1] at hz; omega)
      have B3 := Lib.hid (show w1.heap[w.heap.size]? = some (supBox g r c t o) from box_below (heap_keep (heap_last (o := supBox g r c t o) rfl) _) hx)
      have B4 := Lib.hid (show w1.heap[w.heap.size + 1]? = some (supBox (g + 1) r' c' t' o') from box_below (heap_last (o := supBox (g + 1) r' c' t' o') (by simp only [sz1])) hx)
      clear hx 
      have hl_B3 := (Array.getElem?_eq_some_iff.1 B3.out).1
      have hl_B4 := (Array.getElem?_eq_some_iff.1 B4.out).1
      rw [HCA.out]
      clear hna
      obtain ⟨yB4_0, yB4_1, yB4_2, yB4_3, yB4_4⟩ := supBox_cells B4.out
      go_wp2_with fail
      refine (superPack_any (g + 1) r' c' t' o' _).mono ?_
      rintro e w2 ⟨vb, rfl, hnb, hx⟩
      clear yB4_0 yB4_1 yB4_2 yB4_3 yB4_4
      have hbel_w2 : Below w.heap.size w w2 := hbel_w1.trans (hx.mono (by have := hbel_w1.size; first | omega | (simp; omega)))
      have hz_w2 : w1.heap.size + 0 ≤ w2.heap.size := by have hz := hx.size; first | omega | (simp only [sz1] at hz; omega)
      have B3' := Lib.hid (box_below B3.out hx)
      have B4' := Lib.hid (box_below B4.out hx)
      clear hx B3 B4 hbel_w1
      have B3 := B3'
      have B4 := B4'
      clear B3' B4'
      clear hl_B3 hl_B4
      have hl_B3 := (Array.getElem?_eq_some_iff.1 B3.out).1
      have hl_B4 := (Array.getElem?_eq_some_iff.1 B4.out).1
      rw [HCB.out]
      clear hnb
      go_wp2_with fail
      refine (awake16_any _).mono ?_
      rintro e w3 ⟨rfl, hx⟩
      have hbel_w3 : Below w.heap.size w w3 := hbel_w2.trans (hx.mono (by have := hbel_w2.size; first | omega | (simp; omega)))
      have hz_w3 : w2.heap.size + 0 ≤ w3.heap.size := by have hz := hx.size; first | omega | (simp only [sz1] at hz; omega)
      have B3' := Lib.hid (box_below B3.out hx)
      have B4' := Lib.hid (box_below B4.out hx)
      clear hx B3 B4 hbel_w2
      have B3 := B3'
      have B4 := B4'
      clear B3' B4'
      clear hl_B3 hl_B4
      have hl_B3 := (Array.getElem?_eq_some_iff.1 B3.out).1
      have hl_B4 := (Array.getElem?_eq_some_iff.1 B4.out).1
      go_wp2_with fail
      refine (awake16_any _).mono ?_
      rintro e w4 ⟨rfl, hx⟩
      have hbel_w4 : Below w.heap.size w w4 := hbel_w3.trans (hx.mono (by have := hbel_w3.size; first | omega | (simp; omega)))
      have hz_w4 : w3.heap.size + 0 ≤ w4.heap.size := by have hz := hx.size; first | omega | (simp only [sz1] at hz; omega)
      have B3' := Lib.hid (box_below B3.out hx)
      have B4' := Lib.hid (box_below B4.out hx)
      clear hx B3 B4 hbel_w3
      have B3 := B3'
      have B4 := B4'
      clear B3' B4'
      clear hl_B3 hl_B4
      have hl_B3 := (Array.getElem?_eq_some_iff.1 B3.out).1
      have hl_B4 := (Array.getElem?_eq_some_iff.1 B4.out).1
      go_wp2_with fail
      go_ret
      exact ⟨rfl, hbel_w4⟩
  · have HCA := Lib.hid (show supCode g r c t o = 1 by rw [supCode, if_neg hA])
    clear hA
    go_enter Try.func13, Try.ntmps13
    go_wp2_with fail
    refine (superPack_any g r c t o _).mono ?_
    rintro e w1 ⟨va, rfl, hna, hx⟩
    have hbel_w1 : Below w.heap.size w w1 := (below_new (below_new (Below.refl w.heap.size w) _) _).trans (hx.mono (by first | omega | (simp; done) | (simp; omega)))
    have hz_w1 : w.heap.size + 2 ≤ w1.heap.size := by have hz := hx.size; first | omega | (simp only [sz1] at hz; omega)
    have B3 := Lib.hid (show w1.heap[w.heap.size]? = some (supBox g r c t o) from box_below (heap_keep (heap_last (o := supBox g r c t o) rfl) _) hx)
    have B4 := Lib.hid (show w1.heap[w.heap.size + 1]? = some (supBox (wrap64 (g + 1)) r' c' t' o') from box_below (heap_last (o := supBox (wrap64 (g + 1)) r' c' t' o') (by simp only [sz1])) hx)
    clear hx 
    have hl_B3 := (Array.getElem?_eq_some_iff.1 B3.out).1
    have hl_B4 := (Array.getElem?_eq_some_iff.1 B4.out).1
    rw [HCA.out]
    clear hna
    obtain ⟨yB4_0, yB4_1, yB4_2, yB4_3, yB4_4⟩ := supBox_cells B4.out
    go_wp2_with fail
    refine (superPack_any (wrap64 (g + 1)) r' c' t' o' _).mono ?_
    rintro e w2 ⟨vb, rfl, hnb, hx⟩
    clear yB4_0 yB4_1 yB4_2 yB4_3 yB4_4
    have hbel_w2 : Below w.heap.size w w2 := hbel_w1.trans (hx.mono (by have := hbel_w1.size; first | omega | (simp; omega)))
    have hz_w2 : w1.heap.size + 0 ≤ w2.heap.size := by have hz := hx.size; first | omega | (simp only [sz1] at hz; omega)
    have B3' := Lib.hid (box_below B3.out hx)
    have B4' := Lib.hid (box_below B4.out hx)
    clear hx B3 B4 hbel_w1
    have B3 := B3'
    have B4 := B4'
    clear B3' B4'
    clear hl_B3 hl_B4
    have hl_B3 := (Array.getElem?_eq_some_iff.1 B3.out).1
    have hl_B4 := (Array.getElem?_eq_some_iff.1 B4.out).1
    clear hnb
    go_wp2_with fail
    refine (awake16_any _).mono ?_
    rintro e w3 ⟨rfl, hx⟩
    have hbel_w3 : Below w.heap.size w w3 := hbel_w2.trans (hx.mono (by have := hbel_w2.size; first | omega | (simp; omega)))
    have hz_w3 : w2.heap.size + 0 ≤ w3.heap.size := by have hz := hx.size; first | omega | (simp only [sz1] at hz; omega)
    have B3' := Lib.hid (box_below B3.out hx)
    have B4' := Lib.hid (box_below B4.out hx)
    clear hx B3 B4 hbel_w2
    have B3 := B3'
    have B4 := B4'
    clear B3' B4'
    clear hl_B3 hl_B4
    have hl_B3 := (Array.getElem?_eq_some_iff.1 B3.out).1
    have hl_B4 := (Array.getElem?_eq_some_iff.1 B4.out).1
    go_wp2_with fail
    refine (awake16_any _).mono ?_
    rintro e w4 ⟨rfl, hx⟩
    have hbel_w4 : Below w.heap.size w w4 := hbel_w3.trans (hx.mono (by have := hbel_w3.size; first | omega | (simp; omega)))
    have hz_w4 : w3.heap.size + 0 ≤ w4.heap.size := by have hz := hx.size; first | omega | (simp only [sz1] at hz; omega)
    have B3' := Lib.hid (box_below B3.out hx)
    have B4' := Lib.hid (box_below B4.out hx)
    clear hx B3 B4 hbel_w3
    have B3 := B3'
    have B4 := B4'
    clear B3' B4'
    clear hl_B3 hl_B4
    have hl_B3 := (Array.getElem?_eq_some_iff.1 B3.out).1
    have hl_B4 := (Array.getElem?_eq_some_iff.1 B4.out).1
    go_wp2_with fail
    go_ret
    exact ⟨rfl, hbel_w4⟩
end Go.Proofs.Ytdekfbmjhmfmaaa
