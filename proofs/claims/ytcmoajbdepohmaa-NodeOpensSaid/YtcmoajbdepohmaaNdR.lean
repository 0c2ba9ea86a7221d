/- Layer 13: octavoref13.Open of an inner node (printed by wip/ndp_gen.py). -/
import Derived.Test.YtcmoajbdepohmaaNdP
namespace Go.Proofs.Ytcmoajbdepohmaa
open Go.RowKit Go.Oct
set_option maxRecDepth 100000 in
set_option maxHeartbeats 4000000 in
theorem refOpen_2 (v : Value) (l : List UInt8) (w : World) (hB : Bytes w v l) (hll : l.length ≤ 140737488355328) (h0 : ¬ l.length < 1) (hs0 : l.length = 1 + 16 * fld l 0 1) : Calls Try.prog 41 #[.int .i64 2, v] w (NoPost 2 l w) := by
  obtain ⟨a, cap, rfl, hcap, hmax, hcells⟩ := hB.open
  unfold maxLen at hmax
  have HB := Lib.hid hB
  obtain ⟨bb, oo, rfl, hcs⟩ := hcells (by omega)
  obtain ⟨mn, hmn⟩ : ∃ x, fld l 0 1 = x := ⟨_, rfl⟩
  have hml : mn < 256 := by rw [← hmn]; exact fld_lt l 0 1
  have hc0 : w.cell? ⟨bb, oo, none⟩ = some (.int .u8 (mn : Nat)) := by
    have := hcs 0 (by omega)
    rw [← fld_first l 0 (by omega), hmn] at this
    exact this
  have hbw : bb < w.heap.size := World.block_lt_of_cell? w _ hc0
  have hl1 : (1 : Int) ≤ (l.length : Int) := by omega
  have hl2 : ((l.length - 1 : Nat) : Int) = (l.length : Int) - 1 := by omega
  rw [hmn] at hs0
  have HMN := Lib.hid hmn
  have HC0 := Lib.hid hc0
  have HCS := Lib.hid hcs
  have HST := Lib.hid (RoSt.start w)
  have e1 : (((l.length - 1 : Nat) : Int) == 16 * (mn : Int)) = true := by rw [beq_iff_eq]; omega
  have e2 : (((l.length : Int) - 1) == 16 * (mn : Int)) = true := by rw [beq_iff_eq]; omega
  have hs1 : l.length ≤ 1 + 16 * mn := by omega
  have hs2 : 1 + 16 * mn ≤ l.length := by omega
  obtain ⟨i0', hi, hz0, hz1, hz2⟩ := info_parts infoKid
  clear hB hcells hcs hmn h0 hs0
  by_cases hm0 : mn = 0
  · subst hm0
    have HN := Lib.hid (show ¬ ndOpens 2 l from fun h => by
      have h2 := (ndOpens_two.1 h).2
      rw [HMN.out] at h2
      rw [show qList (ndKid l) 0 = [] from rfl] at h2
      exact absurd h2 (by decide))
    have HD := Lib.hid (show decide (ndMay false [] []) = false by decide)
    go_enter Try.func41, Try.ntmps41
    go_wp2_with fail
    all_goals
      refine wp_loop_rounds 1 ?_
      rw [rounds_succ]
      go_wp2_with fail
      refine (refMay_any false _ _ [] [] _ (Quads.nil _) (Quads.nil _) (by decide) (by decide)).mono ?_
      rintro e w4 ⟨rfl, hx⟩
      rw [HD.out]
      have HST4 := Lib.hid (HST.out.below hx)
      obtain ⟨z0, z1, z2⟩ := ndBox_cells HST4.out.rbx
      have hfz := ndBox_free HST4.out.rbx
      have hls := HST4.out.size
      clear hx
      go_wp2_with fail
      refine bodyPost_ret (v := .tuple #[.agg #[.bool false, .slice none 0 0, .slice none 0 0], .int .i64 4]) (by simp [results, Try.results41, go_sem, z0, z1, z2]) rfl ?_
      first | exact no_bad HN.out rfl HST4.out.bl | exact no_bad HN.out rfl (sets3_below HST4.out.bl (Nat.le_refl _) _ _ _)
  · have hcap1 : ¬ cap = 1 := by omega
    clear hm0
    go_enter Try.func41, Try.ntmps41
    go_wp2_with fail
    clear e1 e2
    go_loopw [11] (fun i wr => ∃ (k : Nat) (lv : Value), k ≤ mn ∧ i = .int .i64 k ∧ wr.ownsRow w.heap.size 82 4 lv k (qs (qList (ndKid l) k)) ∧ RoSt w false (.slice none 0 0) lv wr) (fun i _ => mn - (intOf i).toNat)
    case atStart => exact ⟨0, .slice none 0 0, Nat.zero_le _, rfl, World.ownsRow_nil _ _ _ _, HST.out⟩
    case round =>
      clear HST
      obtain ⟨k, lv, hk, rfl, hown, hst⟩ := hrel
      have HO := Lib.hid hown
      have HST := Lib.hid hst
      obtain ⟨y0, y1, y2⟩ := ndBox_cells hst.nbx
      have hnl := hst.size
      by_cases hlt : k < mn
      · have t1 : (16 * (k : Int)).toNat = 16 * k := by omega
        have t2 : (16 * (k : Int) + 16).toNat = 16 * k + 16 := by omega
        have u1 : (0 : Int) ≤ 16 * (k : Int) := by omega
        have u2 : 16 * (k : Int) ≤ 16 * (k : Int) + 16 := by omega
        have u3 : 16 * (k : Int) + 16 ≤ ((cap - 1 : Nat) : Int) := by omega
        have u4 : ¬ cap - 1 = 16 * k := by omega
        have u5 : 16 * k + 16 - 16 * k = 16 := by omega
        have u6 : 16 * k + 16 ≤ cap - 1 := by omega
        clear hown hst
        go_wp2_with fail
        have hkl : 16 * k + 16 ≤ l.length - 1 := by omega
        obtain ⟨oq, hoq⟩ : ∃ x, x = oo + 1 + 16 * k := ⟨_, rfl⟩
        obtain ⟨cq, hcq⟩ : ∃ x, x = cap - 1 - 16 * k := ⟨_, rfl⟩
        have hcq1 : 16 ≤ cq := by omega
        have hcq2 : cq ≤ 9223372036854775807 := by omega
        have bX0 : Bytes w (.slice (some ⟨bb, oq, none⟩) 4 cq) ((l.drop (1 + 16 * k)).take 4) := by
          rw [show oq = oo + (1 + 16 * k) by omega]
          exact Bytes.cut HB.out (1 + 16 * k) 4 _ (by omega) (by omega) (by unfold maxLen; omega)
        have lX0 : ((l.drop (1 + 16 * k)).take 4).length = 4 := by simp; omega
        have nX0 : numOf ((l.drop (1 + 16 * k)).take 4) = fld l (1 + 16 * k) 4 := numOf_4 lX0
        obtain ⟨X0, hX0⟩ : ∃ y, (l.drop (1 + 16 * k)).take 4 = y := ⟨_, rfl⟩
        rw [hX0] at bX0 nX0
        have bX1 : Bytes w (.slice (some ⟨bb, oq + 4, none⟩) 4 (cq - 4)) ((l.drop (5 + 16 * k)).take 4) := by
          rw [show oq + 4 = oo + (5 + 16 * k) by omega]
          exact Bytes.cut HB.out (5 + 16 * k) 4 _ (by omega) (by omega) (by unfold maxLen; omega)
        have lX1 : ((l.drop (5 + 16 * k)).take 4).length = 4 := by simp; omega
        have nX1 : numOf ((l.drop (5 + 16 * k)).take 4) = fld l (5 + 16 * k) 4 := numOf_4 lX1
        obtain ⟨X1, hX1⟩ : ∃ y, (l.drop (5 + 16 * k)).take 4 = y := ⟨_, rfl⟩
        rw [hX1] at bX1 nX1
        have bX2 : Bytes w (.slice (some ⟨bb, oq + 8, none⟩) 4 (cq - 8)) ((l.drop (9 + 16 * k)).take 4) := by
          rw [show oq + 8 = oo + (9 + 16 * k) by omega]
          exact Bytes.cut HB.out (9 + 16 * k) 4 _ (by omega) (by omega) (by unfold maxLen; omega)
        have lX2 : ((l.drop (9 + 16 * k)).take 4).length = 4 := by simp; omega
        have nX2 : numOf ((l.drop (9 + 16 * k)).take 4) = fld l (9 + 16 * k) 4 := numOf_4 lX2
        obtain ⟨X2, hX2⟩ : ∃ y, (l.drop (9 + 16 * k)).take 4 = y := ⟨_, rfl⟩
        rw [hX2] at bX2 nX2
        have bX3 : Bytes w (.slice (some ⟨bb, oq + 12, none⟩) 4 (cq - 12)) ((l.drop (13 + 16 * k)).take 4) := by
          rw [show oq + 12 = oo + (13 + 16 * k) by omega]
          exact Bytes.cut HB.out (13 + 16 * k) 4 _ (by omega) (by omega) (by unfold maxLen; omega)
        have lX3 : ((l.drop (13 + 16 * k)).take 4).length = 4 := by simp; omega
        have nX3 : numOf ((l.drop (13 + 16 * k)).take 4) = fld l (13 + 16 * k) 4 := numOf_4 lX3
        obtain ⟨X3, hX3⟩ : ∃ y, (l.drop (13 + 16 * k)).take 4 = y := ⟨_, rfl⟩
        rw [hX3] at bX3 nX3
        have HT := Lib.hid (qList_snoc (ndKid l) k)
        obtain ⟨x0, hx0e⟩ : ∃ x, fld l (1 + 16 * k) 4 = x := ⟨_, rfl⟩
        obtain ⟨x1, hx1e⟩ : ∃ x, fld l (5 + 16 * k) 4 = x := ⟨_, rfl⟩
        obtain ⟨x2, hx2e⟩ : ∃ x, fld l (9 + 16 * k) 4 = x := ⟨_, rfl⟩
        obtain ⟨x3, hx3e⟩ : ∃ x, fld l (13 + 16 * k) 4 = x := ⟨_, rfl⟩
        have HV := Lib.hid (show ndKid l k = (unopn ((x0 : Nat) : Int), unopn ((x1 : Nat) : Int), unopn ((x2 : Nat) : Int), unopn ((x3 : Nat) : Int)) by unfold ndKid; rw [hx0e, hx1e, hx2e, hx3e])
        rw [hx0e] at nX0
        obtain ⟨q0, hq0⟩ : ∃ q, unopn ((x0 : Nat) : Int) = q := ⟨_, rfl⟩
        have HN0 := Lib.hid (show unopn ((numOf X0 : Nat) : Int) = q0 by rw [nX0]; exact hq0)
        have BX0 := Lib.hid bX0
        rw [hx1e] at nX1
        obtain ⟨q1, hq1⟩ : ∃ q, unopn ((x1 : Nat) : Int) = q := ⟨_, rfl⟩
        have HN1 := Lib.hid (show unopn ((numOf X1 : Nat) : Int) = q1 by rw [nX1]; exact hq1)
        have BX1 := Lib.hid bX1
        rw [hx2e] at nX2
        obtain ⟨q2, hq2⟩ : ∃ q, unopn ((x2 : Nat) : Int) = q := ⟨_, rfl⟩
        have HN2 := Lib.hid (show unopn ((numOf X2 : Nat) : Int) = q2 by rw [nX2]; exact hq2)
        have BX2 := Lib.hid bX2
        rw [hx3e] at nX3
        obtain ⟨q3, hq3⟩ : ∃ q, unopn ((x3 : Nat) : Int) = q := ⟨_, rfl⟩
        have HN3 := Lib.hid (show unopn ((numOf X3 : Nat) : Int) = q3 by rw [nX3]; exact hq3)
        have BX3 := Lib.hid bX3
        have HV2 := Lib.hid (show ndKid l k = (q0, q1, q2, q3) by rw [HV.out, hq0, hq1, hq2, hq3])
        rw [← hoq, ← hcq]
        clear hoq hcq hkl t1 t2 u1 u2 u3 u4 u5 u6 hx0e hx1e hx2e hx3e HV bX0 lX0 nX0 hX0 hq0 bX1 lX1 nX1 hX1 hq1 bX2 lX2 nX2 hX2 hq2 bX3 lX3 nX3 hX3 hq3
        have w1 : (16 : Int) ≤ (cq : Int) := by omega
        have w20 : (4 : Int) ≤ (cq : Int) := by omega
        have v1 : ¬ cq = 4 := by omega
        have w30 : (8 : Int) ≤ (cq : Int) := by omega
        have v2 : ¬ cq = 8 := by omega
        have w40 : (12 : Int) ≤ (cq : Int) := by omega
        have v3 : ¬ cq = 12 := by omega
        have w50 : (16 : Int) ≤ (cq : Int) := by omega
        go_region_law
          (first
            | (go_simp
               go_at_call 51
               ((with_reducible refine (refNumber_any _ X0 _ ?hx).mono ?_))
               case hx => exact BX0.out.below HST.out.bl.drew
               rintro e w' ⟨rfl, rfl⟩
               rw [HN0.out])
            | (go_simp
               go_at_call 51
               ((with_reducible refine (refNumber_any _ X1 _ ?hx).mono ?_))
               case hx => exact BX1.out.below HST.out.bl.drew
               rintro e w' ⟨rfl, rfl⟩
               rw [HN1.out])
            | (go_simp
               go_at_call 51
               ((with_reducible refine (refNumber_any _ X2 _ ?hx).mono ?_))
               case hx => exact BX2.out.below HST.out.bl.drew
               rintro e w' ⟨rfl, rfl⟩
               rw [HN2.out])
            | (go_simp
               go_at_call 51
               ((with_reducible refine (refNumber_any _ X3 _ ?hx).mono ?_))
               case hx => exact BX3.out.below HST.out.bl.drew
               rintro e w' ⟨rfl, rfl⟩
               rw [HN3.out])
            | (rw [if_pos (by rfl)]
               refine oper_append_has_at _ (.tmp 87) (.tmp 101) 54 rfl w.heap.size 82 i0' (.agg #[.int .i64 0, .int .i64 0, .int .i64 0, .int .i64 0]) 4 32 Try.underlying54 hi hz0 hz1 hz2 rfl (by decide) lv k (qs (qList (ndKid l) k)) rfl ?c1 (.slice (some ⟨wr.heap.size, 0, none⟩) 1 1) 1 (qs [(q0, q1, q2, q3)]) rfl ?c2 rfl (qs_one _) ?c3 ?c4 ?c5 ?_
               case c1 => first | exact HO.out.alloc _ | exact (HO.out.alloc _).drew | fail "c1"
               case c2 => first | exact has_quad (heap_last rfl) | exact has_quad (heap_last_d rfl) | fail "c2"
               case c3 => first | (unfold maxLen; omega) | fail "c3"
               case c4 => first | omega | fail "c4"
               case c5 => first | (have := HST.out.size; simp; omega) | fail "c5"
               intro vf wf hof hgf _
               obtain ⟨fa, fc, rfl⟩ := own_shape4 hof
               have HSTf := Lib.hid (show RoSt w false (.slice none 0 0) lv wf by first | exact (HST.out.alloc _).app (HO.out.alloc _) hgf (by decide) | exact (HST.out.alloc _).drew.app (HO.out.alloc _).drew hgf (by decide) | exact (HST.out.drew.alloc _).app (HO.out.drew.alloc _) hgf (by decide) | fail "STf")
               have HOf := Lib.hid (show wf.ownsRow w.heap.size 82 4 (.slice fa (k + 1) fc) (k + 1) (qs (qList (ndKid l) (k + 1))) by rw [HT.out, HV2.out, qs_append]; exact hof)
               obtain ⟨n0, n1, n2⟩ := ndBox_cells HSTf.out.nbx
               have hfz := ndBox_free HSTf.out.nbx 2
               have hnf := (Array.getElem?_eq_some_iff.1 HSTf.out.nbx).1
               clear hof hgf)
            | fail "no arm")
        all_goals
          have HSTg := Lib.hid (HSTf.out.store2 (.slice fa (k + 1) fc))
          have HOg := Lib.hid (own_far HOf.out (grown_setCell _ ⟨w.heap.size + 1, 2, none⟩ (.slice fa (k + 1) fc)) HSTf.out.nbx (by decide))
          clear n0 n1 n2 hfz y0 y1 y2
          go_wp2_with fail
          go_roundw
          case rel => exact ⟨k + 1, _, by omega, by go_num, HOg.out, HSTg.out⟩
          case measure => simp [intOf]; omega
      · obtain rfl : k = mn := by omega
        have hq : Quads wr lv (qList (ndKid l) k) := by unfold Quads; rw [qList_length]; exact Has.own hown
        have HQ := Lib.hid hq
        have HO' := Lib.hid hown
        clear hown hst hq HO
        go_wp2_with fail
        refine (refMay_any false _ _ [] (qList (ndKid l) k) _ (Quads.nil _) HQ.out (by decide) (by rw [qList_length]; omega)).mono ?_
        rintro e w4 ⟨rfl, hx⟩
        have HST4 := Lib.hid (HST.out.below hx)
        have HQ4 := Lib.hid (show Quads w4 lv (qList (ndKid l) k) from Has.below HQ.out hx)
        have HO4 := Lib.hid (own_keep HO'.out hx)
        clear y0 y1 y2 hx HST HQ HO'
        obtain ⟨y0, y1, y2⟩ := ndBox_cells HST4.out.nbx
        obtain ⟨z0, z1, z2⟩ := ndBox_cells HST4.out.rbx
        have hfz := ndBox_free HST4.out.rbx
        have hls := HST4.out.size
        by_cases hM : ndMay false [] (qList (ndKid l) k)
        · rw [decide_eq_true hM]
          have hop : ndOpens 2 l := ndOpens_two.2 (by rw [HMN.out]; exact ⟨by omega, hM⟩)
          have HO1 := Lib.hid (show noLeaf 2 l = false ∧ noCode 2 l = 0 ∧ noEs 2 l = [] ∧ noKs 2 l = qList (ndKid l) k by
            refine ⟨?_, ?_, ?_, ?_⟩
            · rw [noLeaf, if_pos hop]; rfl
            · rw [noCode, if_pos hop]
            · rw [noEs, if_pos hop, ndEsOf, HMN.out]; rfl
            · rw [noKs, if_pos hop, ndKsOf, HMN.out]; rfl)
          obtain ⟨xa, xl, xc, hf⟩ : ∃ a n c, lv = .slice a n c := by obtain ⟨a, c, h, _⟩ := HQ4.out; exact ⟨_, _, _, h⟩
          subst hf
          clear hM hop
          go_wp2_with fail
          refine bodyPost_ret (v := .tuple #[.agg #[.bool false, .slice none 0 0, .slice xa xl xc], .int .i64 0]) (by simp [results, Try.results41, go_sem, z0, z1, z2]) rfl ?_
          obtain ⟨o1, o2, o3, o4⟩ := HO1.out
          have hb3 := sets3_below HST4.out.bl (Nat.le_refl _) (.bool false) (.slice none 0 0) (.slice xa xl xc)
          refine ⟨.slice none 0 0, .slice xa xl xc, by rw [o1, o2]; rfl, ?_, ?_, hb3⟩
          · rw [o3]; exact Quads.nil _
          · rw [o4]; have ho5 := own_far HO4.out (sets3_grown _ _ (.bool false) (.slice none 0 0) (.slice xa xl xc)) HST4.out.rbx (by decide); unfold Quads; rw [qList_length]; exact Has.own ho5
        · rw [decide_eq_false hM]
          have HN := Lib.hid (show ¬ ndOpens 2 l from fun h => hM (by have := (ndOpens_two.1 h).2; rw [HMN.out] at this; exact this))
          clear hM
          go_wp2_with fail
          refine bodyPost_ret (v := .tuple #[.agg #[.bool false, .slice none 0 0, .slice none 0 0], .int .i64 4]) (by simp [results, Try.results41, go_sem, z0, z1, z2]) rfl ?_
          first | exact no_bad HN.out rfl HST4.out.bl | exact no_bad HN.out rfl (sets3_below HST4.out.bl (Nat.le_refl _) _ _ _)
/-- octavoref13.Open -/
theorem refOpen_any (kind : Int) (v : Value) (l : List UInt8) (w : World) (hB : Bytes w v l) (hll : l.length ≤ 140737488355328) : Calls Try.prog 41 #[.int .i64 kind, v] w (NoPost kind l w) := by
  by_cases h0 : l.length < 1
  · exact refOpen_short kind v l w hB h0
  · by_cases h1 : kind = 1
    · subst h1
      by_cases hs : l.length = 1 + 13 * fld l 0 1
      · exact refOpen_1 v l w hB hll h0 hs
      · exact refOpen_bad1 v l w hB h0 hs
    · by_cases h2 : kind = 2
      · subst h2
        by_cases hs : l.length = 1 + 16 * fld l 0 1
        · exact refOpen_2 v l w hB hll h0 hs
        · exact refOpen_bad2 v l w hB h0 hs
      · exact refOpen_kind kind v l w hB h1 h2 h0
end Go.Proofs.Ytcmoajbdepohmaa
