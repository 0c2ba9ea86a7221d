/- The walk of the law PastRuns. -/
import Derived.Test.YtdofdegicdkhlaaRunP
import Derived.Test.YtdofdegicdkhlaaPastO
import Derived.RegionTactic
import Derived.BigRegion
import Derived.Deep.DeepCutAuto
namespace Go.Proofs.Ytdofdegicdkhlaa
open Go.RowKit Go.Oct
set_option maxRecDepth 100000 in
set_option maxHeartbeats 8000000 in
theorem pastRuns_walk (x1 x2 : Int) (vst : Value) (ss : List Int) (most : Int) (w : World) (_hw : ∀ z ∈ [x1, x2], (Lit.int .i64 z).wf = true) (hS : IntsOf w vst ss) (hsb : ∀ z ∈ ss, -9223372036854775808 ≤ z ∧ z ≤ 9223372036854775807) (wm : (Lit.int .i64 most).wf = true) :
    Calls Try.prog 11 #[.agg #[.int .i64 x1, .int .i64 x2], vst, .int .i64 most] w fun e w' => e = .returned (.bool true) ∧ Below w.heap.size w w' := by
  obtain ⟨d0, d1⟩ := i64_wf_bounds wm
  obtain ⟨m, hm⟩ : ∃ m : Nat, most % 16 = (m : Int) := ⟨(most % 16).toNat, by omega⟩
  have m16 : m < 16 := by omega
  have HM := Lib.hid hm
  obtain ⟨mo, hmo⟩ : ∃ mo : Nat, mo = m + 1 := ⟨_, rfl⟩
  have HMO := Lib.hid (show (1 : Int) + (m : Int) = (mo : Int) by omega)
  have mo1 : 1 ≤ mo := by omega
  have mo16 : mo ≤ 16 := by omega
  obtain ⟨ast, cst, rfl, hst1, hst2, hcs⟩ := hS.open
  unfold maxLen at hst2
  have HCS := Lib.hid hcs
  have HSB := Lib.hid hsb
  clear hm hmo wm hS hcs hsb
  by_cases hV : verMay (x1, x2)
  · have hmy : pastMay [(x1, x2)] 0 := ⟨by omega, by simp, by simp, by simp, fun v hv => by simp at hv; rw [hv]; exact hV⟩
    have HMY := Lib.hid (decide_eq_true hmy)
    have HMY2 := Lib.hid hmy
    clear hV hmy
    go_enter Try.func11, Try.ntmps11
    go_wp2_with fail
    refine (pick_any most 16 _ (by decide) (by decide) (by omega) (by omega)).mono ?_
    rintro e w' ⟨rfl, rfl⟩
    rw [HM.out]
    go_wp2_with fail
    rw [HMO.out]
    obtain ⟨w3, hw3e⟩ : ∃ x, x = ((w.alloc (verBox x1 x2)).alloc (.cells #[.int .i64 x1, .int .i64 x2] 41)).alloc (pastBox (.slice (some ⟨w.heap.size + 1, 0, none⟩) 1 1) 0) := ⟨_, rfl⟩
    have hF : w3.heap[w.heap.size]? = some (verBox x1 x2) := by rw [hw3e]; exact heap_keep (heap_keep (heap_last rfl) _) _
    have hL : w3.heap[w.heap.size + 1]? = some (.cells #[.int .i64 x1, .int .i64 x2] 41 (0, 0)) := by rw [hw3e]; exact heap_keep (heap_last (sz1 _ _).symm) _
    have hP : w3.heap[w.heap.size + 2]? = some (pastBox (.slice (some ⟨w.heap.size + 1, 0, none⟩) 1 1) 0) := by rw [hw3e]; exact heap_last (by rw [sz1, sz1])
    have hw3 : Below w.heap.size w w3 := by rw [hw3e]; exact below_new (below_new (below_new (Below.refl _ _) _) _) _
    unfold verBox pastBox at hw3e
    rw [← hw3e]
    have HF := Lib.hid hF
    have HL := Lib.hid hL
    have HP := Lib.hid hP
    clear hF hL hP hw3e
    refine (awake17_any _).mono ?_
    rintro e w4 ⟨rfl, hx⟩
    have HF4 := Lib.hid (box_below HF.out hx)
    have HL4 := Lib.hid (box_below HL.out hx)
    have HP4 := Lib.hid (box_below HP.out hx)
    have hw4 := below_step hw3 hx
    obtain ⟨p0, p1⟩ := pastBox_cells HP4.out
    have hv4 : Vers w4 (.slice (some ⟨w.heap.size + 1, 0, none⟩) 1 1) [(x1, x2)] := vers_block (l := [(x1, x2)]) HL4.out rfl (show 1 ≤ maxLen by decide)
    have HV4 := Lib.hid hv4
    clear hx hw3 HF HL HP hv4
    go_wp2_with fail
    refine (pastMay_any _ [(x1, x2)] 0 _ HV4.out).mono ?_
    rintro e w5 ⟨rfl, hx⟩
    rw [HMY.out]
    have HF5 := Lib.hid (box_below HF4.out hx)
    have HL5 := Lib.hid (box_below HL4.out hx)
    have HP5 := Lib.hid (box_below HP4.out hx)
    have hw5 := below_step hw4 hx
    obtain ⟨f0, f1⟩ := verBox_cells HF5.out
    have hlF := (Array.getElem?_eq_some_iff.1 HF5.out).1
    have hlP := (Array.getElem?_eq_some_iff.1 HP5.out).1
    clear hx hw4 HF4 HL4 HP4 p0 p1 HV4
    go_wp2_with fail
    go_cut [8, 9, 10] (fun s8 s9 s10 wx => ∃ gb ga nb : Nat, gb ≠ ga ∧ gb ≠ nb ∧ ga ≠ nb ∧ w5.heap.size ≤ gb ∧ w5.heap.size ≤ ga ∧ w5.heap.size ≤ nb ∧ s8 = .slice (some ⟨gb, 0, none⟩) 0 0 ∧ s9 = .slice (some ⟨ga, 0, none⟩) 0 0 ∧ s10 = .pointer (some ⟨nb, 0, none⟩) ∧
      OffRow wx 41 2 (.slice (some ⟨gb, 0, none⟩) 0 0) 0 [] (some gb) ∧ OffRow wx 41 2 (.slice (some ⟨ga, 0, none⟩) 0 0) 0 [] (some ga) ∧ wx.heap[nb]? = some (verBox x1 x2) ∧ Below w5.heap.size w5 wx)
    case first =>
      have k01 : ∀ o1, (w5.alloc o1).cell? ⟨w.heap.size, 0, none⟩ = some (.int .i64 x1) := fun o1 => ((below_new (Below.refl w5.heap.size w5) o1).cell hlF).trans f0
      have k02 : ∀ o1 o2, ((w5.alloc o1).alloc o2).cell? ⟨w.heap.size, 0, none⟩ = some (.int .i64 x1) := fun o1 o2 => ((below_new (below_new (Below.refl w5.heap.size w5) o1) o2).cell hlF).trans f0
      have k03 : ∀ o1 o2 o3, (((w5.alloc o1).alloc o2).alloc o3).cell? ⟨w.heap.size, 0, none⟩ = some (.int .i64 x1) := fun o1 o2 o3 => ((below_new (below_new (below_new (Below.refl w5.heap.size w5) o1) o2) o3).cell hlF).trans f0
      have k11 : ∀ o1, (w5.alloc o1).cell? ⟨w.heap.size, 1, none⟩ = some (.int .i64 x2) := fun o1 => ((below_new (Below.refl w5.heap.size w5) o1).cell hlF).trans f1
      have k12 : ∀ o1 o2, ((w5.alloc o1).alloc o2).cell? ⟨w.heap.size, 1, none⟩ = some (.int .i64 x2) := fun o1 o2 => ((below_new (below_new (Below.refl w5.heap.size w5) o1) o2).cell hlF).trans f1
      have k13 : ∀ o1 o2 o3, (((w5.alloc o1).alloc o2).alloc o3).cell? ⟨w.heap.size, 1, none⟩ = some (.int .i64 x2) := fun o1 o2 o3 => ((below_new (below_new (below_new (Below.refl w5.heap.size w5) o1) o2) o3).cell hlF).trans f1
      go_region
      all_goals
        go_wp2_with fail
        go_meet
        refine ⟨_, _, _, ?_, ?_, ?_, ?_, ?_, ?_, rfl, rfl, rfl, ?_, ?_, ?_, (below_new (below_new (below_new (Below.refl w5.heap.size w5) _) _) _).drew⟩
        all_goals first
          | omega
          | exact (heap3 w5 _ _ _).1
          | exact (heap3 w5 _ _ _).2.1
          | exact (heap3 w5 _ _ _).2.2
          | exact off_at (heap3 w5 _ _ _).1
          | exact off_at (heap3 w5 _ _ _).2.1
          | exact off_at (heap3 w5 _ _ _).2.2
    case rest =>
      obtain ⟨w6, rfl⟩ : ∃ x : World, x = wc := ⟨_, rfl⟩
      obtain ⟨gb, ga, nb, hn1, hn2, hn3, hb1, hb2, hb3, rfl, rfl, rfl, hob, hoa, hnb, hx6⟩ := hcut
      have hst : RunSt w (w.heap.size + 2) nb [] [] (x1, x2) [(x1, x2)] 0 (some ⟨w.heap.size + 1, 0, none⟩) (some ⟨gb, 0, none⟩) (some ⟨ga, 0, none⟩) 1 0 0 (some (w.heap.size + 1)) (some gb) (some ga) w6 := by
        have hsz := hw5.size
        refine ⟨box_below HP5.out hx6, hnb, .inr ⟨w.heap.size + 1, 0, 1, _, rfl, rfl, box_below HL5.out hx6, Nat.le_refl _, by decide, rfl⟩, hob, hoa, ⟨rfl, rfl⟩, HMY2.out, ⟨by omega, by omega, by omega⟩, ?_, ?_, ?_, ?_, ?_, ?_, below_step hw5 hx6⟩
        · intro i hi; have := Option.some.inj hi; omega
        · intro i hi; have := Option.some.inj hi; omega
        · intro i hi; have := Option.some.inj hi; omega
        · intro i hi hj; have := Option.some.inj hi; have := Option.some.inj hj; omega
        · intro i hi hj; have := Option.some.inj hi; have := Option.some.inj hj; omega
        · intro i hi hj; have := Option.some.inj hi; have := Option.some.inj hj; omega
      obtain ⟨pb, hpb⟩ : ∃ p, p = w.heap.size + 2 := ⟨_, rfl⟩
      rw [show w.heap.size + 1 + 1 = pb by omega]
      rw [← hpb] at hst
      have HST0 := Lib.hid hst
      clear hst hpb hx6 hnb hoa hob hw5 HF5 HL5 HP5 f0 f1 hlF hlP
      go_wp2_with fail
      go_loopw [8, 9, 11] (fun vb va i wr => ∃ (k : Nat) (lb la l : List Ver) (now : Ver) (c : Int) (ap ab aa : Option Addr) (cp cb ca : Nat) (rp rb ra : Option Nat), k ≤ ss.length ∧ i = .int .i64 k ∧ vb = .slice ab lb.length cb ∧ va = .slice aa la.length ca ∧ RunSt w pb nb lb la now l c ap ab aa cp cb ca rp rb ra wr) (fun _ _ i _ => ss.length - (intOf i).toNat)
      case atStart => exact ⟨0, [], [], [(x1, x2)], (x1, x2), 0, _, _, _, _, _, _, _, _, _, Nat.zero_le _, rfl, rfl, rfl, HST0.out⟩
      case round =>
        clear HST0
        obtain ⟨k, lb, la, l, now, c, ap, ab, aa, cp, cb, ca, rp, rb, ra, hk, rfl, rfl, rfl, hst⟩ := hrel
        have HST := Lib.hid hst
        by_cases hlt : k < ss.length
        · by_cases h120 : k < 120
          · obtain ⟨bs, os, rfl, hbs, hsc⟩ := HCS.out (by omega)
            have cs0 := (hst.bl.cell (p := ⟨bs, os + k, none⟩) hbs).trans (hsc k hlt)
            have hsb := HSB.out ss[k] (List.getElem_mem _)
            obtain ⟨s, hs⟩ : ∃ s, ss[k] = s := ⟨_, rfl⟩
            rw [hs] at cs0 hsb
            obtain ⟨sb0, sb1⟩ := hsb
            obtain ⟨r, hr⟩ : ∃ r : Nat, s % 4 = (r : Int) := ⟨(s % 4).toNat, by omega⟩
            have hr4 : r < 4 := by omega
            have HRR := Lib.hid hr
            have hll := stacked_len hst.st
            have hc := hst.st.2
            have hl16 : l.length ≤ 16 := hst.my.2.2.2.1
            obtain ⟨y1, y2⟩ := now
            obtain ⟨p0, p1⟩ := pastBox_cells hst.pbx
            obtain ⟨n0, n1⟩ := verBox_cells hst.nbx
            have hpl := (Array.getElem?_eq_some_iff.1 hst.pbx).1
            have hnl := (Array.getElem?_eq_some_iff.1 hst.nbx).1
            have hsl : bs < wr.heap.size := by have := hst.bl.size; omega
            have r0 : (0 : Int) ≤ (k : Int) := by omega
            have r1 : (k : Int) < (ss.length : Int) := by omega
            have HLL := Lib.hid hll
            have HCC := Lib.hid hc
            have hc16 : c ≤ 16 := by omega
            have hc0 : 0 ≤ c := by omega
            clear hsc hs hr hll hc hst
            go_wp2_with fail
            refine (pick_any s 4 _ (by decide) (by decide) sb0 sb1).mono ?_
            rintro e w' ⟨rfl, rfl⟩
            rw [HRR.out]
            -- THE ROUND
            have hqp : wr.heap.size ≠ pb := by omega
            have hqn : wr.heap.size ≠ nb := by omega
            by_cases hr0 : r = 0
            · have e0 : ((r : Int) == 0) = true := by rw [beq_iff_eq]; omega
              clear hr0
              go_wp2_with fail
              refine (pastUndo_any _ l c _ (HST.out.vp.alloc _).vers (by omega) (by omega)).mono ?_
              rintro e w7 ⟨v7, rfl, hn7, hx⟩
              rcases List.eq_nil_or_concat lb with hlb | ⟨l0, b, hlb⟩
              · subst hlb
                obtain ⟨t1, t2, t3⟩ := undo_no HST.out.st HST.out.my
                rw [t2] at hn7
                have T1 := Lib.hid t1
                have T3 := Lib.hid t3
                obtain ⟨a7, c7, hf⟩ := hn7.form
                subst hf
                have h7 := (HST.out.below ((Below.refl _ _).alloc (Nat.le_refl _) (pastBox (.slice ap l.length cp) c))).below hx
                have hq7 := box_below (heap_last (o := pastBox (.slice ap l.length cp) c) rfl) hx
                have hg8 := grown2 w7 wr.heap.size (.slice a7 0 c7) (.int .i64 0)
                have h8 := h7.kept hg8 (by omega) (by omega) (fun i hi => by have := HST.out.vp.lt i hi; omega) (fun i hi => by have := HST.out.ob.lt i hi; omega) (fun i hi => by have := HST.out.oa.lt i hi; omega) (by have := HST.out.bl.size; omega)
                have H8 := Lib.hid h8
                obtain ⟨q0, q1⟩ := pastBox_cells hq7
                have hql := (Array.getElem?_eq_some_iff.1 hq7).1
                have hqf := pastBox_free hq7
                rw [T1.out, T3.out]
                clear t1 t2 t3 hn7 h7 hg8 h8 hx p0 p1 n0 n1 cs0 hq7 T1 T3
                go_wp2_with fail
                clear q0 q1 hql hqf
                generalize (w7.setCell ⟨wr.heap.size, 0, none⟩ (.slice a7 0 c7)).setCell ⟨wr.heap.size, 1, none⟩ (.int .i64 0) = w8 at H8 ⊢
                obtain ⟨Q, hQ⟩ : ∃ Q, Q = wr.heap.size := ⟨_, rfl⟩
                rw [← hQ]
                clear hQ
                have HVN := Lib.hid (H8.out.vp.vers)
                have HNW := Lib.hid (show nowOf (l) (c) = (y1, y2) from stacked_now H8.out.st H8.out.my)
                have HMN := Lib.hid (decide_eq_true H8.out.my)
                have hlN := stacked_len H8.out.st
                have h16N : (l).length ≤ 16 := H8.out.my.2.2.2.1
                have W15 := Lib.hid (show IntKind.i64.wrap (1) = 1 from IntWalk.i64_in _ (by omega))
                have W18 := Lib.hid (show IntKind.i64.wrap (1 + ((la).length : Int)) = 1 + ((la).length : Int) from IntWalk.i64_in _ (by omega))
                have HCM := Lib.hid (show (((l).length : Int) != 1 + ((la).length : Int)) = false by rw [bne_eq_false_iff_eq]; (try simp only [List.length_nil] at hlN); omega)
                obtain ⟨p0N, p1N⟩ := pastBox_cells H8.out.pbx
                obtain ⟨n0N, n1N⟩ := verBox_cells H8.out.nbx
                have hplN := (Array.getElem?_eq_some_iff.1 H8.out.pbx).1
                have hnlN := (Array.getElem?_eq_some_iff.1 H8.out.nbx).1
                clear hlN h16N
                refine region_each 21 [some 139, some 140, some 141, some 142, some 143, some 144, some 145, some 146, some 147, some 148, some 149, some 150, some 151, some 152, some 153, some 154, some 155, some 156, some 157, some 158, some 159] [[], [0], [], [1, 2], [3], [4], [5, 4], [6, 4], [4, 7], [8], [9], [10, 9], [11, 9], [9], [13, 9], [14, 9], [9], [16, 9], [15, 17, 9], [12, 18, 9], [9, 19]]
                  [kIs (.agg #[.slice ap (l).length cp, .int .i64 (c)]), kIs (.agg #[.int .i64 y1, .int .i64 y2]), kIs (.agg #[.int .i64 y1, .int .i64 y2]), kIs (.bool false), kIs (.bool false), kIs (.agg #[.slice ap (l).length cp, .int .i64 (c)]), kIs (.bool true), kIs (.bool false), kIs (.bool false), kIs (.bool false), kIs (.pointer (some ⟨pb, 0, none⟩)), kIs (.slice ap (l).length cp), kIs (.int .i64 ((l).length : Nat)), kIs (.slice ab (([] : List Ver)).length cb), kIs (.int .i64 ((([] : List Ver)).length : Nat)), kIs (.int .i64 (1)), kIs (.slice aa (la).length ca), kIs (.int .i64 ((la).length : Nat)), kIs (.int .i64 (1 + ((la).length : Int))), kIs (.bool false), kIs (.bool false)]
                  (by kernel_rfl) (by kernel_rfl) (by kernel_rfl) (by kernel_rfl) ?_ ?_
                · simp only [obligsD]
                  refine ⟨?_, ?_, ?_, ?_, ?_, ?_, ?_, ?_, ?_, ?_, ?_, ?_, ?_, ?_, ?_, ?_, ?_, ?_, ?_, ?_, ?_, trivial⟩
                  · intro us w1 hb _
                    simp only [putD]
                    have d0 := (hb.cell hplN).trans p0N
                    have d1 := (hb.cell hplN).trans p1N
                    go_simp
                    exact ⟨_, rfl, Below.refl _ _, by first | rfl | (simp only [kIs]; done) | (simp only [kIs]; rw [W15.out]) | (simp only [kIs]; rw [W18.out])⟩
                  · intro us w1 hb hd
                    simp only [List.mem_cons, List.not_mem_nil, or_false, forall_eq, List.getD_cons_zero, kIs] at hd
                    simp only [putD, List.getD_cons_zero, Act.put, hd]
                    go_simp
                    refine (pastNow_any _ (l) (c) _ (Vers.below HVN.out hb)).mono ?_
                    rintro e w99 ⟨rfl, hb2⟩
                    rw [HNW.out]
                    exact ⟨_, rfl, hb2, rfl⟩
                  · intro us w1 hb _
                    simp only [putD]
                    have d0 := (hb.cell hnlN).trans n0N
                    have d1 := (hb.cell hnlN).trans n1N
                    go_simp
                    exact ⟨_, rfl, Below.refl _ _, by first | rfl | (simp only [kIs]; done) | (simp only [kIs]; rw [W15.out]) | (simp only [kIs]; rw [W18.out])⟩
                  · intro us w1 hb hd
                    simp only [List.mem_cons, List.not_mem_nil, or_false, forall_eq_or_imp, forall_eq, List.getD_cons_zero, List.getD_cons_succ, kIs] at hd
                    simp only [putD, List.getD_cons_zero, List.getD_cons_succ, Act.put, hd]
                    go_simp
                    exact ⟨_, rfl, Below.refl _ _, by first | rfl | (simp only [kIs]; done) | (simp only [kIs]; rw [W15.out]) | (simp only [kIs]; rw [W18.out])⟩
                  · intro us w1 hb hd
                    simp only [List.mem_cons, List.not_mem_nil, or_false, forall_eq, List.getD_cons_zero, List.getD_cons_succ, kIs] at hd
                    simp only [putD, List.getD_cons_zero, List.getD_cons_succ, Act.put, hd]
                    go_simp
                    exact ⟨_, rfl, Below.refl _ _, by first | rfl | (simp only [kIs]; done) | (simp only [kIs]; rw [W15.out]) | (simp only [kIs]; rw [W18.out])⟩
                  · intro us w1 hb hd
                    simp only [List.mem_cons, List.not_mem_nil, or_false, forall_eq, List.getD_cons_zero, List.getD_cons_succ, kIs] at hd
                    refine ⟨fun _ => ?_, fun h => (h (by simp [hd])).elim⟩
                    simp only [putD, List.getD_cons_zero, List.getD_cons_succ, Act.put, hd]
                    have d0 := (hb.cell hplN).trans p0N
                    have d1 := (hb.cell hplN).trans p1N
                    go_simp
                    exact ⟨_, rfl, Below.refl _ _, by first | rfl | (simp only [kIs]; done) | (simp only [kIs]; rw [W15.out]) | (simp only [kIs]; rw [W18.out])⟩
                  · intro us w1 hb hd
                    simp only [List.mem_cons, List.not_mem_nil, or_false, forall_eq_or_imp, forall_eq, List.getD_cons_zero, List.getD_cons_succ, kIs] at hd
                    refine ⟨fun _ => ?_, fun h => (h (by simp [hd])).elim⟩
                    simp only [putD, List.getD_cons_zero, List.getD_cons_succ, Act.put, hd]
                    go_simp
                    refine (pastMay_any _ (l) (c) _ (Vers.below HVN.out hb)).mono ?_
                    rintro e w99 ⟨rfl, hb2⟩
                    rw [HMN.out]
                    exact ⟨_, rfl, hb2, rfl⟩
                  · intro us w1 hb hd
                    simp only [List.mem_cons, List.not_mem_nil, or_false, forall_eq_or_imp, forall_eq, List.getD_cons_zero, List.getD_cons_succ, kIs] at hd
                    refine ⟨fun _ => ?_, fun h => (h (by simp [hd])).elim⟩
                    simp only [putD, List.getD_cons_zero, List.getD_cons_succ, Act.put, hd]
                    go_simp
                    exact ⟨_, rfl, Below.refl _ _, by first | rfl | (simp only [kIs]; done) | (simp only [kIs]; rw [W15.out]) | (simp only [kIs]; rw [W18.out])⟩
                  · intro us w1 hb hd
                    simp only [List.mem_cons, List.not_mem_nil, or_false, forall_eq_or_imp, forall_eq, List.getD_cons_zero, List.getD_cons_succ, kIs] at hd
                    simp only [putD, List.getD_cons_zero, List.getD_cons_succ, Act.put, hd]
                    go_simp
                    exact ⟨_, rfl, Below.refl _ _, by first | rfl | (simp only [kIs]; done) | (simp only [kIs]; rw [W15.out]) | (simp only [kIs]; rw [W18.out])⟩
                  · intro us w1 hb hd
                    simp only [List.mem_cons, List.not_mem_nil, or_false, forall_eq, List.getD_cons_zero, List.getD_cons_succ, kIs] at hd
                    simp only [putD, List.getD_cons_zero, List.getD_cons_succ, Act.put, hd]
                    go_simp
                    exact ⟨_, rfl, Below.refl _ _, by first | rfl | (simp only [kIs]; done) | (simp only [kIs]; rw [W15.out]) | (simp only [kIs]; rw [W18.out])⟩
                  · intro us w1 hb hd
                    simp only [List.mem_cons, List.not_mem_nil, or_false, forall_eq, List.getD_cons_zero, List.getD_cons_succ, kIs] at hd
                    refine ⟨fun _ => ?_, fun h => (h (by simp [hd])).elim⟩
                    simp only [putD, List.getD_cons_zero, List.getD_cons_succ, Act.put, hd]
                    go_simp
                    exact ⟨_, rfl, Below.refl _ _, by first | rfl | (simp only [kIs]; done) | (simp only [kIs]; rw [W15.out]) | (simp only [kIs]; rw [W18.out])⟩
                  · intro us w1 hb hd
                    simp only [List.mem_cons, List.not_mem_nil, or_false, forall_eq_or_imp, forall_eq, List.getD_cons_zero, List.getD_cons_succ, kIs] at hd
                    refine ⟨fun _ => ?_, fun h => (h (by simp [hd])).elim⟩
                    simp only [putD, List.getD_cons_zero, List.getD_cons_succ, Act.put, hd]
                    have d0 := (hb.cell hplN).trans p0N
                    go_simp
                    exact ⟨_, rfl, Below.refl _ _, by first | rfl | (simp only [kIs]; done) | (simp only [kIs]; rw [W15.out]) | (simp only [kIs]; rw [W18.out])⟩
                  · intro us w1 hb hd
                    simp only [List.mem_cons, List.not_mem_nil, or_false, forall_eq_or_imp, forall_eq, List.getD_cons_zero, List.getD_cons_succ, kIs] at hd
                    refine ⟨fun _ => ?_, fun h => (h (by simp [hd])).elim⟩
                    simp only [putD, List.getD_cons_zero, List.getD_cons_succ, Act.put, hd]
                    go_simp
                    exact ⟨_, rfl, Below.refl _ _, by first | rfl | (simp only [kIs]; done) | (simp only [kIs]; rw [W15.out]) | (simp only [kIs]; rw [W18.out])⟩
                  · intro us w1 hb hd
                    simp only [List.mem_cons, List.not_mem_nil, or_false, forall_eq, List.getD_cons_zero, List.getD_cons_succ, kIs] at hd
                    refine ⟨fun _ => ?_, fun h => (h (by simp [hd])).elim⟩
                    simp only [putD, List.getD_cons_zero, List.getD_cons_succ, Act.put, hd]
                    go_simp
                    exact ⟨_, rfl, Below.refl _ _, by first | rfl | (simp only [kIs]; done) | (simp only [kIs]; rw [W15.out]) | (simp only [kIs]; rw [W18.out])⟩
                  · intro us w1 hb hd
                    simp only [List.mem_cons, List.not_mem_nil, or_false, forall_eq_or_imp, forall_eq, List.getD_cons_zero, List.getD_cons_succ, kIs] at hd
                    refine ⟨fun _ => ?_, fun h => (h (by simp [hd])).elim⟩
                    simp only [putD, List.getD_cons_zero, List.getD_cons_succ, Act.put, hd]
                    go_simp
                    exact ⟨_, rfl, Below.refl _ _, by first | rfl | (simp only [kIs]; done) | (simp only [kIs]; rw [W15.out]) | (simp only [kIs]; rw [W18.out])⟩
                  · intro us w1 hb hd
                    simp only [List.mem_cons, List.not_mem_nil, or_false, forall_eq_or_imp, forall_eq, List.getD_cons_zero, List.getD_cons_succ, kIs] at hd
                    refine ⟨fun _ => ?_, fun h => (h (by simp [hd])).elim⟩
                    simp only [putD, List.getD_cons_zero, List.getD_cons_succ, Act.put, hd]
                    go_simp
                    exact ⟨_, rfl, Below.refl _ _, by first | rfl | (simp only [kIs]; done) | (simp only [kIs]; rw [W15.out]) | (simp only [kIs]; rw [W18.out])⟩
                  · intro us w1 hb hd
                    simp only [List.mem_cons, List.not_mem_nil, or_false, forall_eq, List.getD_cons_zero, List.getD_cons_succ, kIs] at hd
                    refine ⟨fun _ => ?_, fun h => (h (by simp [hd])).elim⟩
                    simp only [putD, List.getD_cons_zero, List.getD_cons_succ, Act.put, hd]
                    go_simp
                    exact ⟨_, rfl, Below.refl _ _, by first | rfl | (simp only [kIs]; done) | (simp only [kIs]; rw [W15.out]) | (simp only [kIs]; rw [W18.out])⟩
                  · intro us w1 hb hd
                    simp only [List.mem_cons, List.not_mem_nil, or_false, forall_eq_or_imp, forall_eq, List.getD_cons_zero, List.getD_cons_succ, kIs] at hd
                    refine ⟨fun _ => ?_, fun h => (h (by simp [hd])).elim⟩
                    simp only [putD, List.getD_cons_zero, List.getD_cons_succ, Act.put, hd]
                    go_simp
                    exact ⟨_, rfl, Below.refl _ _, by first | rfl | (simp only [kIs]; done) | (simp only [kIs]; rw [W15.out]) | (simp only [kIs]; rw [W18.out])⟩
                  · intro us w1 hb hd
                    simp only [List.mem_cons, List.not_mem_nil, or_false, forall_eq_or_imp, forall_eq, List.getD_cons_zero, List.getD_cons_succ, kIs] at hd
                    refine ⟨fun _ => ?_, fun h => (h (by simp [hd])).elim⟩
                    simp only [putD, List.getD_cons_zero, List.getD_cons_succ, Act.put, hd]
                    go_simp
                    exact ⟨_, rfl, Below.refl _ _, by first | rfl | (simp only [kIs]; done) | (simp only [kIs]; rw [W15.out]) | (simp only [kIs]; rw [W18.out])⟩
                  · intro us w1 hb hd
                    simp only [List.mem_cons, List.not_mem_nil, or_false, forall_eq_or_imp, forall_eq, List.getD_cons_zero, List.getD_cons_succ, kIs] at hd
                    refine ⟨fun _ => ?_, fun h => (h (by simp [hd])).elim⟩
                    simp only [putD, List.getD_cons_zero, List.getD_cons_succ, Act.put, hd]
                    have hcm := HCM.out
                    go_simp
                    exact ⟨_, rfl, Below.refl _ _, by first | rfl | (simp only [kIs]; done) | (simp only [kIs]; rw [W15.out]) | (simp only [kIs]; rw [W18.out])⟩
                  · intro us w1 hb hd
                    simp only [List.mem_cons, List.not_mem_nil, or_false, forall_eq_or_imp, forall_eq, List.getD_cons_zero, List.getD_cons_succ, kIs] at hd
                    simp only [putD, List.getD_cons_zero, List.getD_cons_succ, Act.put, hd]
                    go_simp
                    exact ⟨_, rfl, Below.refl _ _, by first | rfl | (simp only [kIs]; done) | (simp only [kIs]; rw [W15.out]) | (simp only [kIs]; rw [W18.out])⟩
                intro us w20 hb hp
                have h20 := hp 20 (by simp)
                simp only [List.getD_cons_zero, List.getD_cons_succ, kIs] at h20
                rw [show List.range 21 = [0, 1, 2, 3, 4, 5, 6, 7, 8, 9, 10, 11, 12, 13, 14, 15, 16, 17, 18, 19, 20] from rfl]
                simp only [putD, List.getD_cons_zero, List.getD_cons_succ, Act.put, List.setIfInBounds_toArray, List.set_cons_zero, List.set_cons_succ, h20]
                clear hp h20 p0N p1N n0N n1N HVN HNW HMN W15 W18 HCM hplN hnlN
                have HE := Lib.hid (H8.out.below hb)
                clear hb H8
                go_wp2_with fail
                go_roundw
                case rel => exact ⟨k + 1, ([] : List Ver), la, l, (y1, y2), c, _, _, _, _, _, _, _, _, _, by omega, by go_num, rfl, rfl, HE.out⟩
                case measure => simp [intOf]; omega
              · obtain ⟨n, hn⟩ : ∃ n, n = l0.length := ⟨_, rfl⟩
                have hln : lb.length = n + 1 := by rw [hlb, hn]; simp
                have hst9 := HST.out.st
                rw [hlb, List.concat_eq_append] at hst9
                obtain ⟨t1, t2, t3⟩ := undo_yes hst9 HST.out.my
                rw [t2] at hn7
                have T1 := Lib.hid t1
                have T3 := Lib.hid t3
                have HS9 := Lib.hid (stacked_back hst9)
                have hxx : Below wr.heap.size wr w7 := below_step ((Below.refl _ _).alloc (Nat.le_refl _) _) hx
                have hq7 := box_below (heap_last (o := pastBox (.slice ap l.length cp) c) rfl) hx
                obtain ⟨aq, cq, rq, hf, h8⟩ := Mid.of (c2 := c - 1) HST.out hxx hq7 (Nat.le_refl _) (hn7.wider (by simp)) (new_apart hn7 (by simp)) rfl
                subst hf
                have H8 := Lib.hid h8
                obtain ⟨q0, q1⟩ := pastBox_cells hq7
                have hql := (Array.getElem?_eq_some_iff.1 hq7).1
                have hqf := pastBox_free hq7
                obtain ⟨m0, m1⟩ := verBox_cells h8.nbx
                obtain ⟨n0, n1⟩ := verBox_cells (box_below HST.out.nbx hxx)
                have g0 : (0 : Int) < (n : Int) + 1 := by omega
                obtain ⟨i0', hi, hz0, hz1, hz2⟩ := info_parts infoVer
                have hl16' : la.length < 16 ∧ lb.length < 16 := by
                  have hh := stacked_len HST.out.st
                  constructor <;> omega
                have hn16 : n < 16 := by omega
                rw [T1.out, T3.out, hln]
                clear t1 t2 t3 hst9 h8 hn7 hx hxx p0 p1 cs0 hq7 T1 T3
                go_wp2_with (at_builtin; go_loud (refine wpList_append_off _ rfl (.tmp 89) (.tmp 91) 37 rfl 41 i0' (.agg #[.int .i64 0, .int .i64 0]) 2 16 Try.underlying37 hi hz0 hz1 hz2 rfl (by decide) _ _ (vs la) ra rfl (OffRow.alloc H8.out.oa _) _ 1 1 (vs [(y1, y2)]) rfl rfl (ver_news (heap_last (by first | rfl | rw [setCell_size, setCell_size]))) (vs_one _) ?c3 ?c4 ?_))
                case c3 => unfold maxLen; omega
                case c4 => omega
                intro v9 w9 r9 ho9 hg9 hr9
                have hr9' := by simpa only [sz1, setCell_size] using hr9
                obtain ⟨a9, c9, l9, hl9, rfl, h9⟩ := Mid.ahead (H8.out.below ((Below.refl _ _).alloc (Nat.le_refl _) _)) ho9 hg9 (by simpa only [sz1, setCell_size] using hr9)
                have HL9 := Lib.hid hl9
                have H9 := Lib.hid h9
                clear q0 q1 hql hqf m0 m1 n0 n1 H8 ho9 hg9 hr9 hl9 h9
                obtain ⟨g, o, cap, hf, hcap, -⟩ := H9.out.ob.shape (by omega)
                simp only [Value.slice.injEq, true_and] at hf
                obtain ⟨rfl, rfl⟩ := hf
                have hob := H9.out.ob
                obtain ⟨b0, b1⟩ := off_cells hob n (by omega)
                have hgl := World.block_lt_of_cell? _ _ b0
                have hb : ∀ h, lb[n]'h = b := by subst hlb; subst hn; intro h; simp
                rw [hb] at b0 b1
                obtain ⟨z1, z2⟩ := b
                simp only at b0 b1
                have HO9 := Lib.hid (show OffRow w9 41 2 (.slice (some ⟨g, o, none⟩) l0.length cb) l0.length (vs l0) rb by
                  have := OffRow.front hob n (by omega)
                  rwa [← vs_take, show lb.take n = l0 by subst hlb; subst hn; simp, hn] at this)
                have h10 := (H9.out.cutB HO9.out).stand z1 z2
                have hmy : pastMay l (c - 1) := by
                  have hc' := HCC.out
                  have hl' := HLL.out
                  exact ⟨by omega, by omega, HST.out.my.2.2⟩
                have H11 := Lib.hid (h10.done (by rw [HL9.out]; exact HS9.out) hmy)
                obtain ⟨n0, n1⟩ := verBox_cells H9.out.nbx
                obtain ⟨p0, p1⟩ := pastBox_cells h10.pbx
                obtain ⟨q0, q1⟩ := pastBox_cells H9.out.qbx
                obtain ⟨q2, q3⟩ := pastBox_cells h10.qbx
                have hql := (Array.getElem?_eq_some_iff.1 h10.qbx).1
                have hnl9 := (Array.getElem?_eq_some_iff.1 H9.out.nbx).1
                have hpl9 := (Array.getElem?_eq_some_iff.1 h10.pbx).1
                have hnf := verBox_free H9.out.nbx
                have hpf := pastBox_free h10.pbx
                have hpn1 := H9.out.pn.1
                have hw := IntWalk.i64_in (n : Int) (by omega)
                have ht : ((n : Int)).toNat = n := by omega
                have hz8 : (n : Int) ≤ (cb : Int) := by omega
                have hz9 : ¬ (cb = 0) := by omega
                clear hob hb hlb h10 hmy
                subst hn
                go_wp2_with fail
                clear n0 n1 p0 p1 q0 q1 q2 q3 hql hnl9 hpl9 hnf hpf hpn1 hw ht hz8 hz9 b0 b1 H9 HL9 HO9 HS9
                generalize ((((w9.setCell ⟨nb, 0, none⟩ (.int .i64 z1)).setCell ⟨nb, 1, none⟩ (.int .i64 z2)).setCell ⟨pb, 0, none⟩ (.slice aq l.length cq)).setCell ⟨pb, 1, none⟩ (.int .i64 (c - 1))) = w11 at H11 ⊢
                obtain ⟨Q, hQ⟩ : ∃ Q, Q = wr.heap.size := ⟨_, rfl⟩
                rw [← hQ]
                clear hQ
                have HVN := Lib.hid (H11.out.vp.vers)
                have HNW := Lib.hid (show nowOf (l) (c - 1) = (z1, z2) from stacked_now H11.out.st H11.out.my)
                have HMN := Lib.hid (decide_eq_true H11.out.my)
                have hlN := stacked_len H11.out.st
                have h16N : (l).length ≤ 16 := H11.out.my.2.2.2.1
                have W15 := Lib.hid (show IntKind.i64.wrap (((l0).length : Int) + 1) = ((l0).length : Int) + 1 from IntWalk.i64_in _ (by omega))
                have W18 := Lib.hid (show IntKind.i64.wrap (((l0).length : Int) + 1 + ((l9).length : Int)) = ((l0).length : Int) + 1 + ((l9).length : Int) from IntWalk.i64_in _ (by omega))
                have HCM := Lib.hid (show (((l).length : Int) != ((l0).length : Int) + 1 + ((l9).length : Int)) = false by rw [bne_eq_false_iff_eq]; (try simp only [List.length_nil] at hlN); omega)
                obtain ⟨p0N, p1N⟩ := pastBox_cells H11.out.pbx
                obtain ⟨n0N, n1N⟩ := verBox_cells H11.out.nbx
                have hplN := (Array.getElem?_eq_some_iff.1 H11.out.pbx).1
                have hnlN := (Array.getElem?_eq_some_iff.1 H11.out.nbx).1
                clear hlN h16N
                refine region_each 21 [some 139, some 140, some 141, some 142, some 143, some 144, some 145, some 146, some 147, some 148, some 149, some 150, some 151, some 152, some 153, some 154, some 155, some 156, some 157, some 158, some 159] [[], [0], [], [1, 2], [3], [4], [5, 4], [6, 4], [4, 7], [8], [9], [10, 9], [11, 9], [9], [13, 9], [14, 9], [9], [16, 9], [15, 17, 9], [12, 18, 9], [9, 19]]
                  [kIs (.agg #[.slice aq (l).length cq, .int .i64 (c - 1)]), kIs (.agg #[.int .i64 z1, .int .i64 z2]), kIs (.agg #[.int .i64 z1, .int .i64 z2]), kIs (.bool false), kIs (.bool false), kIs (.agg #[.slice aq (l).length cq, .int .i64 (c - 1)]), kIs (.bool true), kIs (.bool false), kIs (.bool false), kIs (.bool false), kIs (.pointer (some ⟨pb, 0, none⟩)), kIs (.slice aq (l).length cq), kIs (.int .i64 ((l).length : Nat)), kIs (.slice (some ⟨g, o, none⟩) (l0).length cb), kIs (.int .i64 ((l0).length : Nat)), kIs (.int .i64 (((l0).length : Int) + 1)), kIs (.slice a9 (l9).length c9), kIs (.int .i64 ((l9).length : Nat)), kIs (.int .i64 (((l0).length : Int) + 1 + ((l9).length : Int))), kIs (.bool false), kIs (.bool false)]
                  (by kernel_rfl) (by kernel_rfl) (by kernel_rfl) (by kernel_rfl) ?_ ?_
                · simp only [obligsD]
                  refine ⟨?_, ?_, ?_, ?_, ?_, ?_, ?_, ?_, ?_, ?_, ?_, ?_, ?_, ?_, ?_, ?_, ?_, ?_, ?_, ?_, ?_, trivial⟩
                  · intro us w1 hb _
                    simp only [putD]
                    have d0 := (hb.cell hplN).trans p0N
                    have d1 := (hb.cell hplN).trans p1N
                    go_simp
                    exact ⟨_, rfl, Below.refl _ _, by first | rfl | (simp only [kIs]; done) | (simp only [kIs]; rw [W15.out]) | (simp only [kIs]; rw [W18.out])⟩
                  · intro us w1 hb hd
                    simp only [List.mem_cons, List.not_mem_nil, or_false, forall_eq, List.getD_cons_zero, kIs] at hd
                    simp only [putD, List.getD_cons_zero, Act.put, hd]
                    go_simp
                    refine (pastNow_any _ (l) (c - 1) _ (Vers.below HVN.out hb)).mono ?_
                    rintro e w99 ⟨rfl, hb2⟩
                    rw [HNW.out]
                    exact ⟨_, rfl, hb2, rfl⟩
                  · intro us w1 hb _
                    simp only [putD]
                    have d0 := (hb.cell hnlN).trans n0N
                    have d1 := (hb.cell hnlN).trans n1N
                    go_simp
                    exact ⟨_, rfl, Below.refl _ _, by first | rfl | (simp only [kIs]; done) | (simp only [kIs]; rw [W15.out]) | (simp only [kIs]; rw [W18.out])⟩
                  · intro us w1 hb hd
                    simp only [List.mem_cons, List.not_mem_nil, or_false, forall_eq_or_imp, forall_eq, List.getD_cons_zero, List.getD_cons_succ, kIs] at hd
                    simp only [putD, List.getD_cons_zero, List.getD_cons_succ, Act.put, hd]
                    go_simp
                    exact ⟨_, rfl, Below.refl _ _, by first | rfl | (simp only [kIs]; done) | (simp only [kIs]; rw [W15.out]) | (simp only [kIs]; rw [W18.out])⟩
                  · intro us w1 hb hd
                    simp only [List.mem_cons, List.not_mem_nil, or_false, forall_eq, List.getD_cons_zero, List.getD_cons_succ, kIs] at hd
                    simp only [putD, List.getD_cons_zero, List.getD_cons_succ, Act.put, hd]
                    go_simp
                    exact ⟨_, rfl, Below.refl _ _, by first | rfl | (simp only [kIs]; done) | (simp only [kIs]; rw [W15.out]) | (simp only [kIs]; rw [W18.out])⟩
                  · intro us w1 hb hd
                    simp only [List.mem_cons, List.not_mem_nil, or_false, forall_eq, List.getD_cons_zero, List.getD_cons_succ, kIs] at hd
                    refine ⟨fun _ => ?_, fun h => (h (by simp [hd])).elim⟩
                    simp only [putD, List.getD_cons_zero, List.getD_cons_succ, Act.put, hd]
                    have d0 := (hb.cell hplN).trans p0N
                    have d1 := (hb.cell hplN).trans p1N
                    go_simp
                    exact ⟨_, rfl, Below.refl _ _, by first | rfl | (simp only [kIs]; done) | (simp only [kIs]; rw [W15.out]) | (simp only [kIs]; rw [W18.out])⟩
                  · intro us w1 hb hd
                    simp only [List.mem_cons, List.not_mem_nil, or_false, forall_eq_or_imp, forall_eq, List.getD_cons_zero, List.getD_cons_succ, kIs] at hd
                    refine ⟨fun _ => ?_, fun h => (h (by simp [hd])).elim⟩
                    simp only [putD, List.getD_cons_zero, List.getD_cons_succ, Act.put, hd]
                    go_simp
                    refine (pastMay_any _ (l) (c - 1) _ (Vers.below HVN.out hb)).mono ?_
                    rintro e w99 ⟨rfl, hb2⟩
                    rw [HMN.out]
                    exact ⟨_, rfl, hb2, rfl⟩
                  · intro us w1 hb hd
                    simp only [List.mem_cons, List.not_mem_nil, or_false, forall_eq_or_imp, forall_eq, List.getD_cons_zero, List.getD_cons_succ, kIs] at hd
                    refine ⟨fun _ => ?_, fun h => (h (by simp [hd])).elim⟩
                    simp only [putD, List.getD_cons_zero, List.getD_cons_succ, Act.put, hd]
                    go_simp
                    exact ⟨_, rfl, Below.refl _ _, by first | rfl | (simp only [kIs]; done) | (simp only [kIs]; rw [W15.out]) | (simp only [kIs]; rw [W18.out])⟩
                  · intro us w1 hb hd
                    simp only [List.mem_cons, List.not_mem_nil, or_false, forall_eq_or_imp, forall_eq, List.getD_cons_zero, List.getD_cons_succ, kIs] at hd
                    simp only [putD, List.getD_cons_zero, List.getD_cons_succ, Act.put, hd]
                    go_simp
                    exact ⟨_, rfl, Below.refl _ _, by first | rfl | (simp only [kIs]; done) | (simp only [kIs]; rw [W15.out]) | (simp only [kIs]; rw [W18.out])⟩
                  · intro us w1 hb hd
                    simp only [List.mem_cons, List.not_mem_nil, or_false, forall_eq, List.getD_cons_zero, List.getD_cons_succ, kIs] at hd
                    simp only [putD, List.getD_cons_zero, List.getD_cons_succ, Act.put, hd]
                    go_simp
                    exact ⟨_, rfl, Below.refl _ _, by first | rfl | (simp only [kIs]; done) | (simp only [kIs]; rw [W15.out]) | (simp only [kIs]; rw [W18.out])⟩
                  · intro us w1 hb hd
                    simp only [List.mem_cons, List.not_mem_nil, or_false, forall_eq, List.getD_cons_zero, List.getD_cons_succ, kIs] at hd
                    refine ⟨fun _ => ?_, fun h => (h (by simp [hd])).elim⟩
                    simp only [putD, List.getD_cons_zero, List.getD_cons_succ, Act.put, hd]
                    go_simp
                    exact ⟨_, rfl, Below.refl _ _, by first | rfl | (simp only [kIs]; done) | (simp only [kIs]; rw [W15.out]) | (simp only [kIs]; rw [W18.out])⟩
                  · intro us w1 hb hd
                    simp only [List.mem_cons, List.not_mem_nil, or_false, forall_eq_or_imp, forall_eq, List.getD_cons_zero, List.getD_cons_succ, kIs] at hd
                    refine ⟨fun _ => ?_, fun h => (h (by simp [hd])).elim⟩
                    simp only [putD, List.getD_cons_zero, List.getD_cons_succ, Act.put, hd]
                    have d0 := (hb.cell hplN).trans p0N
                    go_simp
                    exact ⟨_, rfl, Below.refl _ _, by first | rfl | (simp only [kIs]; done) | (simp only [kIs]; rw [W15.out]) | (simp only [kIs]; rw [W18.out])⟩
                  · intro us w1 hb hd
                    simp only [List.mem_cons, List.not_mem_nil, or_false, forall_eq_or_imp, forall_eq, List.getD_cons_zero, List.getD_cons_succ, kIs] at hd
                    refine ⟨fun _ => ?_, fun h => (h (by simp [hd])).elim⟩
                    simp only [putD, List.getD_cons_zero, List.getD_cons_succ, Act.put, hd]
                    go_simp
                    exact ⟨_, rfl, Below.refl _ _, by first | rfl | (simp only [kIs]; done) | (simp only [kIs]; rw [W15.out]) | (simp only [kIs]; rw [W18.out])⟩
                  · intro us w1 hb hd
                    simp only [List.mem_cons, List.not_mem_nil, or_false, forall_eq, List.getD_cons_zero, List.getD_cons_succ, kIs] at hd
                    refine ⟨fun _ => ?_, fun h => (h (by simp [hd])).elim⟩
                    simp only [putD, List.getD_cons_zero, List.getD_cons_succ, Act.put, hd]
                    go_simp
                    exact ⟨_, rfl, Below.refl _ _, by first | rfl | (simp only [kIs]; done) | (simp only [kIs]; rw [W15.out]) | (simp only [kIs]; rw [W18.out])⟩
                  · intro us w1 hb hd
                    simp only [List.mem_cons, List.not_mem_nil, or_false, forall_eq_or_imp, forall_eq, List.getD_cons_zero, List.getD_cons_succ, kIs] at hd
                    refine ⟨fun _ => ?_, fun h => (h (by simp [hd])).elim⟩
                    simp only [putD, List.getD_cons_zero, List.getD_cons_succ, Act.put, hd]
                    go_simp
                    exact ⟨_, rfl, Below.refl _ _, by first | rfl | (simp only [kIs]; done) | (simp only [kIs]; rw [W15.out]) | (simp only [kIs]; rw [W18.out])⟩
                  · intro us w1 hb hd
                    simp only [List.mem_cons, List.not_mem_nil, or_false, forall_eq_or_imp, forall_eq, List.getD_cons_zero, List.getD_cons_succ, kIs] at hd
                    refine ⟨fun _ => ?_, fun h => (h (by simp [hd])).elim⟩
                    simp only [putD, List.getD_cons_zero, List.getD_cons_succ, Act.put, hd]
                    go_simp
                    exact ⟨_, rfl, Below.refl _ _, by first | rfl | (simp only [kIs]; done) | (simp only [kIs]; rw [W15.out]) | (simp only [kIs]; rw [W18.out])⟩
                  · intro us w1 hb hd
                    simp only [List.mem_cons, List.not_mem_nil, or_false, forall_eq, List.getD_cons_zero, List.getD_cons_succ, kIs] at hd
                    refine ⟨fun _ => ?_, fun h => (h (by simp [hd])).elim⟩
                    simp only [putD, List.getD_cons_zero, List.getD_cons_succ, Act.put, hd]
                    go_simp
                    exact ⟨_, rfl, Below.refl _ _, by first | rfl | (simp only [kIs]; done) | (simp only [kIs]; rw [W15.out]) | (simp only [kIs]; rw [W18.out])⟩
                  · intro us w1 hb hd
                    simp only [List.mem_cons, List.not_mem_nil, or_false, forall_eq_or_imp, forall_eq, List.getD_cons_zero, List.getD_cons_succ, kIs] at hd
                    refine ⟨fun _ => ?_, fun h => (h (by simp [hd])).elim⟩
                    simp only [putD, List.getD_cons_zero, List.getD_cons_succ, Act.put, hd]
                    go_simp
                    exact ⟨_, rfl, Below.refl _ _, by first | rfl | (simp only [kIs]; done) | (simp only [kIs]; rw [W15.out]) | (simp only [kIs]; rw [W18.out])⟩
                  · intro us w1 hb hd
                    simp only [List.mem_cons, List.not_mem_nil, or_false, forall_eq_or_imp, forall_eq, List.getD_cons_zero, List.getD_cons_succ, kIs] at hd
                    refine ⟨fun _ => ?_, fun h => (h (by simp [hd])).elim⟩
                    simp only [putD, List.getD_cons_zero, List.getD_cons_succ, Act.put, hd]
                    go_simp
                    exact ⟨_, rfl, Below.refl _ _, by first | rfl | (simp only [kIs]; done) | (simp only [kIs]; rw [W15.out]) | (simp only [kIs]; rw [W18.out])⟩
                  · intro us w1 hb hd
                    simp only [List.mem_cons, List.not_mem_nil, or_false, forall_eq_or_imp, forall_eq, List.getD_cons_zero, List.getD_cons_succ, kIs] at hd
                    refine ⟨fun _ => ?_, fun h => (h (by simp [hd])).elim⟩
                    simp only [putD, List.getD_cons_zero, List.getD_cons_succ, Act.put, hd]
                    have hcm := HCM.out
                    go_simp
                    exact ⟨_, rfl, Below.refl _ _, by first | rfl | (simp only [kIs]; done) | (simp only [kIs]; rw [W15.out]) | (simp only [kIs]; rw [W18.out])⟩
                  · intro us w1 hb hd
                    simp only [List.mem_cons, List.not_mem_nil, or_false, forall_eq_or_imp, forall_eq, List.getD_cons_zero, List.getD_cons_succ, kIs] at hd
                    simp only [putD, List.getD_cons_zero, List.getD_cons_succ, Act.put, hd]
                    go_simp
                    exact ⟨_, rfl, Below.refl _ _, by first | rfl | (simp only [kIs]; done) | (simp only [kIs]; rw [W15.out]) | (simp only [kIs]; rw [W18.out])⟩
                intro us w20 hb hp
                have h20 := hp 20 (by simp)
                simp only [List.getD_cons_zero, List.getD_cons_succ, kIs] at h20
                rw [show List.range 21 = [0, 1, 2, 3, 4, 5, 6, 7, 8, 9, 10, 11, 12, 13, 14, 15, 16, 17, 18, 19, 20] from rfl]
                simp only [putD, List.getD_cons_zero, List.getD_cons_succ, Act.put, List.setIfInBounds_toArray, List.set_cons_zero, List.set_cons_succ, h20]
                clear hp h20 p0N p1N n0N n1N HVN HNW HMN W15 W18 HCM hplN hnlN
                have HE := Lib.hid (H11.out.below hb)
                clear hb H11
                go_wp2_with fail
                go_roundw
                case rel => exact ⟨k + 1, l0, l9, l, (z1, z2), c - 1, _, _, _, _, _, _, _, _, _, by omega, by go_num, rfl, rfl, HE.out⟩
                case measure => simp [intOf]; omega
            · have ne0 : ((r : Int) == 0) = false := by rw [beq_eq_false_iff_ne]; omega
              by_cases hr1 : r = 1
              · have e1 : ((r : Int) == 1) = true := by rw [beq_iff_eq]; omega
                clear hr1
                go_wp2_with fail
                refine (pastRedo_any _ l c _ (HST.out.vp.alloc _).vers (by omega)).mono ?_
                rintro e w7 ⟨v7, rfl, hn7, hx⟩
                rcases List.eq_nil_or_concat la with hlb | ⟨l0, b, hlb⟩
                · subst hlb
                  obtain ⟨t1, t2, t3⟩ := redo_no HST.out.st HST.out.my
                  rw [t2] at hn7
                  have T1 := Lib.hid t1
                  have T3 := Lib.hid t3
                  obtain ⟨a7, c7, hf⟩ := hn7.form
                  subst hf
                  have h7 := (HST.out.below ((Below.refl _ _).alloc (Nat.le_refl _) (pastBox (.slice ap l.length cp) c))).below hx
                  have hq7 := box_below (heap_last (o := pastBox (.slice ap l.length cp) c) rfl) hx
                  have hg8 := grown2 w7 wr.heap.size (.slice a7 0 c7) (.int .i64 0)
                  have h8 := h7.kept hg8 (by omega) (by omega) (fun i hi => by have := HST.out.vp.lt i hi; omega) (fun i hi => by have := HST.out.ob.lt i hi; omega) (fun i hi => by have := HST.out.oa.lt i hi; omega) (by have := HST.out.bl.size; omega)
                  have H8 := Lib.hid h8
                  obtain ⟨q0, q1⟩ := pastBox_cells hq7
                  have hql := (Array.getElem?_eq_some_iff.1 hq7).1
                  have hqf := pastBox_free hq7
                  rw [T1.out, T3.out]
                  clear t1 t2 t3 hn7 h7 hg8 h8 hx p0 p1 n0 n1 cs0 hq7 T1 T3
                  go_wp2_with fail
                  clear q0 q1 hql hqf
                  generalize (w7.setCell ⟨wr.heap.size, 0, none⟩ (.slice a7 0 c7)).setCell ⟨wr.heap.size, 1, none⟩ (.int .i64 0) = w8 at H8 ⊢
                  obtain ⟨Q, hQ⟩ : ∃ Q, Q = wr.heap.size := ⟨_, rfl⟩
                  rw [← hQ]
                  clear hQ
                  have HVN := Lib.hid (H8.out.vp.vers)
                  have HNW := Lib.hid (show nowOf (l) (c) = (y1, y2) from stacked_now H8.out.st H8.out.my)
                  have HMN := Lib.hid (decide_eq_true H8.out.my)
                  have hlN := stacked_len H8.out.st
                  have h16N : (l).length ≤ 16 := H8.out.my.2.2.2.1
                  have W15 := Lib.hid (show IntKind.i64.wrap (((lb).length : Int) + 1) = ((lb).length : Int) + 1 from IntWalk.i64_in _ (by omega))
                  have W18 := Lib.hid (show IntKind.i64.wrap (((lb).length : Int) + 1) = ((lb).length : Int) + 1 from IntWalk.i64_in _ (by omega))
                  have HCM := Lib.hid (show (((l).length : Int) != ((lb).length : Int) + 1) = false by rw [bne_eq_false_iff_eq]; (try simp only [List.length_nil] at hlN); omega)
                  obtain ⟨p0N, p1N⟩ := pastBox_cells H8.out.pbx
                  obtain ⟨n0N, n1N⟩ := verBox_cells H8.out.nbx
                  have hplN := (Array.getElem?_eq_some_iff.1 H8.out.pbx).1
                  have hnlN := (Array.getElem?_eq_some_iff.1 H8.out.nbx).1
                  clear hlN h16N
                  refine region_each 21 [some 139, some 140, some 141, some 142, some 143, some 144, some 145, some 146, some 147, some 148, some 149, some 150, some 151, some 152, some 153, some 154, some 155, some 156, some 157, some 158, some 159] [[], [0], [], [1, 2], [3], [4], [5, 4], [6, 4], [4, 7], [8], [9], [10, 9], [11, 9], [9], [13, 9], [14, 9], [9], [16, 9], [15, 17, 9], [12, 18, 9], [9, 19]]
                    [kIs (.agg #[.slice ap (l).length cp, .int .i64 (c)]), kIs (.agg #[.int .i64 y1, .int .i64 y2]), kIs (.agg #[.int .i64 y1, .int .i64 y2]), kIs (.bool false), kIs (.bool false), kIs (.agg #[.slice ap (l).length cp, .int .i64 (c)]), kIs (.bool true), kIs (.bool false), kIs (.bool false), kIs (.bool false), kIs (.pointer (some ⟨pb, 0, none⟩)), kIs (.slice ap (l).length cp), kIs (.int .i64 ((l).length : Nat)), kIs (.slice ab (lb).length cb), kIs (.int .i64 ((lb).length : Nat)), kIs (.int .i64 (((lb).length : Int) + 1)), kIs (.slice aa (([] : List Ver)).length ca), kIs (.int .i64 ((([] : List Ver)).length : Nat)), kIs (.int .i64 (((lb).length : Int) + 1)), kIs (.bool false), kIs (.bool false)]
                    (by kernel_rfl) (by kernel_rfl) (by kernel_rfl) (by kernel_rfl) ?_ ?_
                  · simp only [obligsD]
                    refine ⟨?_, ?_, ?_, ?_, ?_, ?_, ?_, ?_, ?_, ?_, ?_, ?_, ?_, ?_, ?_, ?_, ?_, ?_, ?_, ?_, ?_, trivial⟩
                    · intro us w1 hb _
                      simp only [putD]
                      have d0 := (hb.cell hplN).trans p0N
                      have d1 := (hb.cell hplN).trans p1N
                      go_simp
                      exact ⟨_, rfl, Below.refl _ _, by first | rfl | (simp only [kIs]; done) | (simp only [kIs]; rw [W15.out]) | (simp only [kIs]; rw [W18.out])⟩
                    · intro us w1 hb hd
                      simp only [List.mem_cons, List.not_mem_nil, or_false, forall_eq, List.getD_cons_zero, kIs] at hd
                      simp only [putD, List.getD_cons_zero, Act.put, hd]
                      go_simp
                      refine (pastNow_any _ (l) (c) _ (Vers.below HVN.out hb)).mono ?_
                      rintro e w99 ⟨rfl, hb2⟩
                      rw [HNW.out]
                      exact ⟨_, rfl, hb2, rfl⟩
                    · intro us w1 hb _
                      simp only [putD]
                      have d0 := (hb.cell hnlN).trans n0N
                      have d1 := (hb.cell hnlN).trans n1N
                      go_simp
                      exact ⟨_, rfl, Below.refl _ _, by first | rfl | (simp only [kIs]; done) | (simp only [kIs]; rw [W15.out]) | (simp only [kIs]; rw [W18.out])⟩
                    · intro us w1 hb hd
                      simp only [List.mem_cons, List.not_mem_nil, or_false, forall_eq_or_imp, forall_eq, List.getD_cons_zero, List.getD_cons_succ, kIs] at hd
                      simp only [putD, List.getD_cons_zero, List.getD_cons_succ, Act.put, hd]
                      go_simp
                      exact ⟨_, rfl, Below.refl _ _, by first | rfl | (simp only [kIs]; done) | (simp only [kIs]; rw [W15.out]) | (simp only [kIs]; rw [W18.out])⟩
                    · intro us w1 hb hd
                      simp only [List.mem_cons, List.not_mem_nil, or_false, forall_eq, List.getD_cons_zero, List.getD_cons_succ, kIs] at hd
                      simp only [putD, List.getD_cons_zero, List.getD_cons_succ, Act.put, hd]
                      go_simp
                      exact ⟨_, rfl, Below.refl _ _, by first | rfl | (simp only [kIs]; done) | (simp only [kIs]; rw [W15.out]) | (simp only [kIs]; rw [W18.out])⟩
                    · intro us w1 hb hd
                      simp only [List.mem_cons, List.not_mem_nil, or_false, forall_eq, List.getD_cons_zero, List.getD_cons_succ, kIs] at hd
                      refine ⟨fun _ => ?_, fun h => (h (by simp [hd])).elim⟩
                      simp only [putD, List.getD_cons_zero, List.getD_cons_succ, Act.put, hd]
                      have d0 := (hb.cell hplN).trans p0N
                      have d1 := (hb.cell hplN).trans p1N
                      go_simp
                      exact ⟨_, rfl, Below.refl _ _, by first | rfl | (simp only [kIs]; done) | (simp only [kIs]; rw [W15.out]) | (simp only [kIs]; rw [W18.out])⟩
                    · intro us w1 hb hd
                      simp only [List.mem_cons, List.not_mem_nil, or_false, forall_eq_or_imp, forall_eq, List.getD_cons_zero, List.getD_cons_succ, kIs] at hd
                      refine ⟨fun _ => ?_, fun h => (h (by simp [hd])).elim⟩
                      simp only [putD, List.getD_cons_zero, List.getD_cons_succ, Act.put, hd]
                      go_simp
                      refine (pastMay_any _ (l) (c) _ (Vers.below HVN.out hb)).mono ?_
                      rintro e w99 ⟨rfl, hb2⟩
                      rw [HMN.out]
                      exact ⟨_, rfl, hb2, rfl⟩
                    · intro us w1 hb hd
                      simp only [List.mem_cons, List.not_mem_nil, or_false, forall_eq_or_imp, forall_eq, List.getD_cons_zero, List.getD_cons_succ, kIs] at hd
                      refine ⟨fun _ => ?_, fun h => (h (by simp [hd])).elim⟩
                      simp only [putD, List.getD_cons_zero, List.getD_cons_succ, Act.put, hd]
                      go_simp
                      exact ⟨_, rfl, Below.refl _ _, by first | rfl | (simp only [kIs]; done) | (simp only [kIs]; rw [W15.out]) | (simp only [kIs]; rw [W18.out])⟩
                    · intro us w1 hb hd
                      simp only [List.mem_cons, List.not_mem_nil, or_false, forall_eq_or_imp, forall_eq, List.getD_cons_zero, List.getD_cons_succ, kIs] at hd
                      simp only [putD, List.getD_cons_zero, List.getD_cons_succ, Act.put, hd]
                      go_simp
                      exact ⟨_, rfl, Below.refl _ _, by first | rfl | (simp only [kIs]; done) | (simp only [kIs]; rw [W15.out]) | (simp only [kIs]; rw [W18.out])⟩
                    · intro us w1 hb hd
                      simp only [List.mem_cons, List.not_mem_nil, or_false, forall_eq, List.getD_cons_zero, List.getD_cons_succ, kIs] at hd
                      simp only [putD, List.getD_cons_zero, List.getD_cons_succ, Act.put, hd]
                      go_simp
                      exact ⟨_, rfl, Below.refl _ _, by first | rfl | (simp only [kIs]; done) | (simp only [kIs]; rw [W15.out]) | (simp only [kIs]; rw [W18.out])⟩
                    · intro us w1 hb hd
                      simp only [List.mem_cons, List.not_mem_nil, or_false, forall_eq, List.getD_cons_zero, List.getD_cons_succ, kIs] at hd
                      refine ⟨fun _ => ?_, fun h => (h (by simp [hd])).elim⟩
                      simp only [putD, List.getD_cons_zero, List.getD_cons_succ, Act.put, hd]
                      go_simp
                      exact ⟨_, rfl, Below.refl _ _, by first | rfl | (simp only [kIs]; done) | (simp only [kIs]; rw [W15.out]) | (simp only [kIs]; rw [W18.out])⟩
                    · intro us w1 hb hd
                      simp only [List.mem_cons, List.not_mem_nil, or_false, forall_eq_or_imp, forall_eq, List.getD_cons_zero, List.getD_cons_succ, kIs] at hd
                      refine ⟨fun _ => ?_, fun h => (h (by simp [hd])).elim⟩
                      simp only [putD, List.getD_cons_zero, List.getD_cons_succ, Act.put, hd]
                      have d0 := (hb.cell hplN).trans p0N
                      go_simp
                      exact ⟨_, rfl, Below.refl _ _, by first | rfl | (simp only [kIs]; done) | (simp only [kIs]; rw [W15.out]) | (simp only [kIs]; rw [W18.out])⟩
                    · intro us w1 hb hd
                      simp only [List.mem_cons, List.not_mem_nil, or_false, forall_eq_or_imp, forall_eq, List.getD_cons_zero, List.getD_cons_succ, kIs] at hd
                      refine ⟨fun _ => ?_, fun h => (h (by simp [hd])).elim⟩
                      simp only [putD, List.getD_cons_zero, List.getD_cons_succ, Act.put, hd]
                      go_simp
                      exact ⟨_, rfl, Below.refl _ _, by first | rfl | (simp only [kIs]; done) | (simp only [kIs]; rw [W15.out]) | (simp only [kIs]; rw [W18.out])⟩
                    · intro us w1 hb hd
                      simp only [List.mem_cons, List.not_mem_nil, or_false, forall_eq, List.getD_cons_zero, List.getD_cons_succ, kIs] at hd
                      refine ⟨fun _ => ?_, fun h => (h (by simp [hd])).elim⟩
                      simp only [putD, List.getD_cons_zero, List.getD_cons_succ, Act.put, hd]
                      go_simp
                      exact ⟨_, rfl, Below.refl _ _, by first | rfl | (simp only [kIs]; done) | (simp only [kIs]; rw [W15.out]) | (simp only [kIs]; rw [W18.out])⟩
                    · intro us w1 hb hd
                      simp only [List.mem_cons, List.not_mem_nil, or_false, forall_eq_or_imp, forall_eq, List.getD_cons_zero, List.getD_cons_succ, kIs] at hd
                      refine ⟨fun _ => ?_, fun h => (h (by simp [hd])).elim⟩
                      simp only [putD, List.getD_cons_zero, List.getD_cons_succ, Act.put, hd]
                      go_simp
                      exact ⟨_, rfl, Below.refl _ _, by first | rfl | (simp only [kIs]; done) | (simp only [kIs]; rw [W15.out]) | (simp only [kIs]; rw [W18.out])⟩
                    · intro us w1 hb hd
                      simp only [List.mem_cons, List.not_mem_nil, or_false, forall_eq_or_imp, forall_eq, List.getD_cons_zero, List.getD_cons_succ, kIs] at hd
                      refine ⟨fun _ => ?_, fun h => (h (by simp [hd])).elim⟩
                      simp only [putD, List.getD_cons_zero, List.getD_cons_succ, Act.put, hd]
                      go_simp
                      exact ⟨_, rfl, Below.refl _ _, by first | rfl | (simp only [kIs]; done) | (simp only [kIs]; rw [W15.out]) | (simp only [kIs]; rw [W18.out])⟩
                    · intro us w1 hb hd
                      simp only [List.mem_cons, List.not_mem_nil, or_false, forall_eq, List.getD_cons_zero, List.getD_cons_succ, kIs] at hd
                      refine ⟨fun _ => ?_, fun h => (h (by simp [hd])).elim⟩
                      simp only [putD, List.getD_cons_zero, List.getD_cons_succ, Act.put, hd]
                      go_simp
                      exact ⟨_, rfl, Below.refl _ _, by first | rfl | (simp only [kIs]; done) | (simp only [kIs]; rw [W15.out]) | (simp only [kIs]; rw [W18.out])⟩
                    · intro us w1 hb hd
                      simp only [List.mem_cons, List.not_mem_nil, or_false, forall_eq_or_imp, forall_eq, List.getD_cons_zero, List.getD_cons_succ, kIs] at hd
                      refine ⟨fun _ => ?_, fun h => (h (by simp [hd])).elim⟩
                      simp only [putD, List.getD_cons_zero, List.getD_cons_succ, Act.put, hd]
                      go_simp
                      exact ⟨_, rfl, Below.refl _ _, by first | rfl | (simp only [kIs]; done) | (simp only [kIs]; rw [W15.out]) | (simp only [kIs]; rw [W18.out])⟩
                    · intro us w1 hb hd
                      simp only [List.mem_cons, List.not_mem_nil, or_false, forall_eq_or_imp, forall_eq, List.getD_cons_zero, List.getD_cons_succ, kIs] at hd
                      refine ⟨fun _ => ?_, fun h => (h (by simp [hd])).elim⟩
                      simp only [putD, List.getD_cons_zero, List.getD_cons_succ, Act.put, hd]
                      go_simp
                      exact ⟨_, rfl, Below.refl _ _, by first | rfl | (simp only [kIs]; done) | (simp only [kIs]; rw [W15.out]) | (simp only [kIs]; rw [W18.out])⟩
                    · intro us w1 hb hd
                      simp only [List.mem_cons, List.not_mem_nil, or_false, forall_eq_or_imp, forall_eq, List.getD_cons_zero, List.getD_cons_succ, kIs] at hd
                      refine ⟨fun _ => ?_, fun h => (h (by simp [hd])).elim⟩
                      simp only [putD, List.getD_cons_zero, List.getD_cons_succ, Act.put, hd]
                      have hcm := HCM.out
                      go_simp
                      exact ⟨_, rfl, Below.refl _ _, by first | rfl | (simp only [kIs]; done) | (simp only [kIs]; rw [W15.out]) | (simp only [kIs]; rw [W18.out])⟩
                    · intro us w1 hb hd
                      simp only [List.mem_cons, List.not_mem_nil, or_false, forall_eq_or_imp, forall_eq, List.getD_cons_zero, List.getD_cons_succ, kIs] at hd
                      simp only [putD, List.getD_cons_zero, List.getD_cons_succ, Act.put, hd]
                      go_simp
                      exact ⟨_, rfl, Below.refl _ _, by first | rfl | (simp only [kIs]; done) | (simp only [kIs]; rw [W15.out]) | (simp only [kIs]; rw [W18.out])⟩
                  intro us w20 hb hp
                  have h20 := hp 20 (by simp)
                  simp only [List.getD_cons_zero, List.getD_cons_succ, kIs] at h20
                  rw [show List.range 21 = [0, 1, 2, 3, 4, 5, 6, 7, 8, 9, 10, 11, 12, 13, 14, 15, 16, 17, 18, 19, 20] from rfl]
                  simp only [putD, List.getD_cons_zero, List.getD_cons_succ, Act.put, List.setIfInBounds_toArray, List.set_cons_zero, List.set_cons_succ, h20]
                  clear hp h20 p0N p1N n0N n1N HVN HNW HMN W15 W18 HCM hplN hnlN
                  have HE := Lib.hid (H8.out.below hb)
                  clear hb H8
                  go_wp2_with fail
                  go_roundw
                  case rel => exact ⟨k + 1, lb, ([] : List Ver), l, (y1, y2), c, _, _, _, _, _, _, _, _, _, by omega, by go_num, rfl, rfl, HE.out⟩
                  case measure => simp [intOf]; omega
                · obtain ⟨n, hn⟩ : ∃ n, n = l0.length := ⟨_, rfl⟩
                  have hln : la.length = n + 1 := by rw [hlb, hn]; simp
                  have hst9 := HST.out.st
                  rw [hlb, List.concat_eq_append] at hst9
                  obtain ⟨t1, t2, t3⟩ := redo_yes hst9 HST.out.my
                  rw [t2] at hn7
                  have T1 := Lib.hid t1
                  have T3 := Lib.hid t3
                  have HS9 := Lib.hid (stacked_forth hst9)
                  have hxx : Below wr.heap.size wr w7 := below_step ((Below.refl _ _).alloc (Nat.le_refl _) _) hx
                  have hq7 := box_below (heap_last (o := pastBox (.slice ap l.length cp) c) rfl) hx
                  obtain ⟨aq, cq, rq, hf, h8⟩ := Mid.of (c2 := c + 1) HST.out hxx hq7 (Nat.le_refl _) (hn7.wider (by simp)) (new_apart hn7 (by simp)) rfl
                  subst hf
                  have H8 := Lib.hid h8
                  obtain ⟨q0, q1⟩ := pastBox_cells hq7
                  have hql := (Array.getElem?_eq_some_iff.1 hq7).1
                  have hqf := pastBox_free hq7
                  obtain ⟨m0, m1⟩ := verBox_cells h8.nbx
                  obtain ⟨n0, n1⟩ := verBox_cells (box_below HST.out.nbx hxx)
                  have g0 : (0 : Int) < (n : Int) + 1 := by omega
                  obtain ⟨i0', hi, hz0, hz1, hz2⟩ := info_parts infoVer
                  have hl16' : la.length < 16 ∧ lb.length < 16 := by
                    have hh := stacked_len HST.out.st
                    constructor <;> omega
                  have hn16 : n < 16 := by omega
                  rw [T1.out, T3.out, hln]
                  clear t1 t2 t3 hst9 h8 hn7 hx hxx p0 p1 cs0 hq7 T1 T3
                  go_wp2_with (at_builtin; go_loud (refine wpList_append_off _ rfl (.tmp 119) (.tmp 121) 37 rfl 41 i0' (.agg #[.int .i64 0, .int .i64 0]) 2 16 Try.underlying37 hi hz0 hz1 hz2 rfl (by decide) _ _ (vs lb) rb rfl (OffRow.alloc H8.out.ob _) _ 1 1 (vs [(y1, y2)]) rfl rfl (ver_news (heap_last (by first | rfl | rw [setCell_size, setCell_size]))) (vs_one _) ?c3 ?c4 ?_))
                  case c3 => unfold maxLen; omega
                  case c4 => omega
                  intro v9 w9 r9 ho9 hg9 hr9
                  have hr9' := by simpa only [sz1, setCell_size] using hr9
                  obtain ⟨a9, c9, l9, hl9, rfl, h9⟩ := Mid.behind (H8.out.below ((Below.refl _ _).alloc (Nat.le_refl _) _)) ho9 hg9 (by simpa only [sz1, setCell_size] using hr9)
                  have HL9 := Lib.hid hl9
                  have H9 := Lib.hid h9
                  clear q0 q1 hql hqf m0 m1 n0 n1 H8 ho9 hg9 hr9 hl9 h9
                  obtain ⟨g, o, cap, hf, hcap, -⟩ := H9.out.oa.shape (by omega)
                  simp only [Value.slice.injEq, true_and] at hf
                  obtain ⟨rfl, rfl⟩ := hf
                  have hob := H9.out.oa
                  obtain ⟨b0, b1⟩ := off_cells hob n (by omega)
                  have hgl := World.block_lt_of_cell? _ _ b0
                  have hb : ∀ h, la[n]'h = b := by subst hlb; subst hn; intro h; simp
                  rw [hb] at b0 b1
                  obtain ⟨z1, z2⟩ := b
                  simp only at b0 b1
                  have HO9 := Lib.hid (show OffRow w9 41 2 (.slice (some ⟨g, o, none⟩) l0.length ca) l0.length (vs l0) ra by
                    have := OffRow.front hob n (by omega)
                    rwa [← vs_take, show la.take n = l0 by subst hlb; subst hn; simp, hn] at this)
                  have h10 := (H9.out.cutA HO9.out).stand z1 z2
                  have hmy : pastMay l (c + 1) := by
                    have hc' := HCC.out
                    have hl' := HLL.out
                    exact ⟨by omega, by omega, HST.out.my.2.2⟩
                  have H11 := Lib.hid (h10.done (by rw [HL9.out]; exact HS9.out) hmy)
                  obtain ⟨n0, n1⟩ := verBox_cells H9.out.nbx
                  obtain ⟨p0, p1⟩ := pastBox_cells h10.pbx
                  obtain ⟨q0, q1⟩ := pastBox_cells H9.out.qbx
                  obtain ⟨q2, q3⟩ := pastBox_cells h10.qbx
                  have hql := (Array.getElem?_eq_some_iff.1 h10.qbx).1
                  have hnl9 := (Array.getElem?_eq_some_iff.1 H9.out.nbx).1
                  have hpl9 := (Array.getElem?_eq_some_iff.1 h10.pbx).1
                  have hnf := verBox_free H9.out.nbx
                  have hpf := pastBox_free h10.pbx
                  have hpn1 := H9.out.pn.1
                  have hw := IntWalk.i64_in (n : Int) (by omega)
                  have ht : ((n : Int)).toNat = n := by omega
                  have hz8 : (n : Int) ≤ (ca : Int) := by omega
                  have hz9 : ¬ (ca = 0) := by omega
                  clear hob hb hlb h10 hmy
                  subst hn
                  go_wp2_with fail
                  clear n0 n1 p0 p1 q0 q1 q2 q3 hql hnl9 hpl9 hnf hpf hpn1 hw ht hz8 hz9 b0 b1 H9 HL9 HO9 HS9
                  generalize ((((w9.setCell ⟨nb, 0, none⟩ (.int .i64 z1)).setCell ⟨nb, 1, none⟩ (.int .i64 z2)).setCell ⟨pb, 0, none⟩ (.slice aq l.length cq)).setCell ⟨pb, 1, none⟩ (.int .i64 (c + 1))) = w11 at H11 ⊢
                  obtain ⟨Q, hQ⟩ : ∃ Q, Q = wr.heap.size := ⟨_, rfl⟩
                  rw [← hQ]
                  clear hQ
                  have HVN := Lib.hid (H11.out.vp.vers)
                  have HNW := Lib.hid (show nowOf (l) (c + 1) = (z1, z2) from stacked_now H11.out.st H11.out.my)
                  have HMN := Lib.hid (decide_eq_true H11.out.my)
                  have hlN := stacked_len H11.out.st
                  have h16N : (l).length ≤ 16 := H11.out.my.2.2.2.1
                  have W15 := Lib.hid (show IntKind.i64.wrap (((l9).length : Int) + 1) = ((l9).length : Int) + 1 from IntWalk.i64_in _ (by omega))
                  have W18 := Lib.hid (show IntKind.i64.wrap (((l9).length : Int) + 1 + ((l0).length : Int)) = ((l9).length : Int) + 1 + ((l0).length : Int) from IntWalk.i64_in _ (by omega))
                  have HCM := Lib.hid (show (((l).length : Int) != ((l9).length : Int) + 1 + ((l0).length : Int)) = false by rw [bne_eq_false_iff_eq]; (try simp only [List.length_nil] at hlN); omega)
                  obtain ⟨p0N, p1N⟩ := pastBox_cells H11.out.pbx
                  obtain ⟨n0N, n1N⟩ := verBox_cells H11.out.nbx
                  have hplN := (Array.getElem?_eq_some_iff.1 H11.out.pbx).1
                  have hnlN := (Array.getElem?_eq_some_iff.1 H11.out.nbx).1
                  clear hlN h16N
                  refine region_each 21 [some 139, some 140, some 141, some 142, some 143, some 144, some 145, some 146, some 147, some 148, some 149, some 150, some 151, some 152, some 153, some 154, some 155, some 156, some 157, some 158, some 159] [[], [0], [], [1, 2], [3], [4], [5, 4], [6, 4], [4, 7], [8], [9], [10, 9], [11, 9], [9], [13, 9], [14, 9], [9], [16, 9], [15, 17, 9], [12, 18, 9], [9, 19]]
                    [kIs (.agg #[.slice aq (l).length cq, .int .i64 (c + 1)]), kIs (.agg #[.int .i64 z1, .int .i64 z2]), kIs (.agg #[.int .i64 z1, .int .i64 z2]), kIs (.bool false), kIs (.bool false), kIs (.agg #[.slice aq (l).length cq, .int .i64 (c + 1)]), kIs (.bool true), kIs (.bool false), kIs (.bool false), kIs (.bool false), kIs (.pointer (some ⟨pb, 0, none⟩)), kIs (.slice aq (l).length cq), kIs (.int .i64 ((l).length : Nat)), kIs (.slice a9 (l9).length c9), kIs (.int .i64 ((l9).length : Nat)), kIs (.int .i64 (((l9).length : Int) + 1)), kIs (.slice (some ⟨g, o, none⟩) (l0).length ca), kIs (.int .i64 ((l0).length : Nat)), kIs (.int .i64 (((l9).length : Int) + 1 + ((l0).length : Int))), kIs (.bool false), kIs (.bool false)]
                    (by kernel_rfl) (by kernel_rfl) (by kernel_rfl) (by kernel_rfl) ?_ ?_
                  · simp only [obligsD]
                    refine ⟨?_, ?_, ?_, ?_, ?_, ?_, ?_, ?_, ?_, ?_, ?_, ?_, ?_, ?_, ?_, ?_, ?_, ?_, ?_, ?_, ?_, trivial⟩
                    · intro us w1 hb _
                      simp only [putD]
                      have d0 := (hb.cell hplN).trans p0N
                      have d1 := (hb.cell hplN).trans p1N
                      go_simp
                      exact ⟨_, rfl, Below.refl _ _, by first | rfl | (simp only [kIs]; done) | (simp only [kIs]; rw [W15.out]) | (simp only [kIs]; rw [W18.out])⟩
                    · intro us w1 hb hd
                      simp only [List.mem_cons, List.not_mem_nil, or_false, forall_eq, List.getD_cons_zero, kIs] at hd
                      simp only [putD, List.getD_cons_zero, Act.put, hd]
                      go_simp
                      refine (pastNow_any _ (l) (c + 1) _ (Vers.below HVN.out hb)).mono ?_
                      rintro e w99 ⟨rfl, hb2⟩
                      rw [HNW.out]
                      exact ⟨_, rfl, hb2, rfl⟩
                    · intro us w1 hb _
                      simp only [putD]
                      have d0 := (hb.cell hnlN).trans n0N
                      have d1 := (hb.cell hnlN).trans n1N
                      go_simp
                      exact ⟨_, rfl, Below.refl _ _, by first | rfl | (simp only [kIs]; done) | (simp only [kIs]; rw [W15.out]) | (simp only [kIs]; rw [W18.out])⟩
                    · intro us w1 hb hd
                      simp only [List.mem_cons, List.not_mem_nil, or_false, forall_eq_or_imp, forall_eq, List.getD_cons_zero, List.getD_cons_succ, kIs] at hd
                      simp only [putD, List.getD_cons_zero, List.getD_cons_succ, Act.put, hd]
                      go_simp
                      exact ⟨_, rfl, Below.refl _ _, by first | rfl | (simp only [kIs]; done) | (simp only [kIs]; rw [W15.out]) | (simp only [kIs]; rw [W18.out])⟩
                    · intro us w1 hb hd
                      simp only [List.mem_cons, List.not_mem_nil, or_false, forall_eq, List.getD_cons_zero, List.getD_cons_succ, kIs] at hd
                      simp only [putD, List.getD_cons_zero, List.getD_cons_succ, Act.put, hd]
                      go_simp
                      exact ⟨_, rfl, Below.refl _ _, by first | rfl | (simp only [kIs]; done) | (simp only [kIs]; rw [W15.out]) | (simp only [kIs]; rw [W18.out])⟩
                    · intro us w1 hb hd
                      simp only [List.mem_cons, List.not_mem_nil, or_false, forall_eq, List.getD_cons_zero, List.getD_cons_succ, kIs] at hd
                      refine ⟨fun _ => ?_, fun h => (h (by simp [hd])).elim⟩
                      simp only [putD, List.getD_cons_zero, List.getD_cons_succ, Act.put, hd]
                      have d0 := (hb.cell hplN).trans p0N
                      have d1 := (hb.cell hplN).trans p1N
                      go_simp
                      exact ⟨_, rfl, Below.refl _ _, by first | rfl | (simp only [kIs]; done) | (simp only [kIs]; rw [W15.out]) | (simp only [kIs]; rw [W18.out])⟩
                    · intro us w1 hb hd
                      simp only [List.mem_cons, List.not_mem_nil, or_false, forall_eq_or_imp, forall_eq, List.getD_cons_zero, List.getD_cons_succ, kIs] at hd
                      refine ⟨fun _ => ?_, fun h => (h (by simp [hd])).elim⟩
                      simp only [putD, List.getD_cons_zero, List.getD_cons_succ, Act.put, hd]
                      go_simp
                      refine (pastMay_any _ (l) (c + 1) _ (Vers.below HVN.out hb)).mono ?_
                      rintro e w99 ⟨rfl, hb2⟩
                      rw [HMN.out]
                      exact ⟨_, rfl, hb2, rfl⟩
                    · intro us w1 hb hd
                      simp only [List.mem_cons, List.not_mem_nil, or_false, forall_eq_or_imp, forall_eq, List.getD_cons_zero, List.getD_cons_succ, kIs] at hd
                      refine ⟨fun _ => ?_, fun h => (h (by simp [hd])).elim⟩
                      simp only [putD, List.getD_cons_zero, List.getD_cons_succ, Act.put, hd]
                      go_simp
                      exact ⟨_, rfl, Below.refl _ _, by first | rfl | (simp only [kIs]; done) | (simp only [kIs]; rw [W15.out]) | (simp only [kIs]; rw [W18.out])⟩
                    · intro us w1 hb hd
                      simp only [List.mem_cons, List.not_mem_nil, or_false, forall_eq_or_imp, forall_eq, List.getD_cons_zero, List.getD_cons_succ, kIs] at hd
                      simp only [putD, List.getD_cons_zero, List.getD_cons_succ, Act.put, hd]
                      go_simp
                      exact ⟨_, rfl, Below.refl _ _, by first | rfl | (simp only [kIs]; done) | (simp only [kIs]; rw [W15.out]) | (simp only [kIs]; rw [W18.out])⟩
                    · intro us w1 hb hd
                      simp only [List.mem_cons, List.not_mem_nil, or_false, forall_eq, List.getD_cons_zero, List.getD_cons_succ, kIs] at hd
                      simp only [putD, List.getD_cons_zero, List.getD_cons_succ, Act.put, hd]
                      go_simp
                      exact ⟨_, rfl, Below.refl _ _, by first | rfl | (simp only [kIs]; done) | (simp only [kIs]; rw [W15.out]) | (simp only [kIs]; rw [W18.out])⟩
                    · intro us w1 hb hd
                      simp only [List.mem_cons, List.not_mem_nil, or_false, forall_eq, List.getD_cons_zero, List.getD_cons_succ, kIs] at hd
                      refine ⟨fun _ => ?_, fun h => (h (by simp [hd])).elim⟩
                      simp only [putD, List.getD_cons_zero, List.getD_cons_succ, Act.put, hd]
                      go_simp
                      exact ⟨_, rfl, Below.refl _ _, by first | rfl | (simp only [kIs]; done) | (simp only [kIs]; rw [W15.out]) | (simp only [kIs]; rw [W18.out])⟩
                    · intro us w1 hb hd
                      simp only [List.mem_cons, List.not_mem_nil, or_false, forall_eq_or_imp, forall_eq, List.getD_cons_zero, List.getD_cons_succ, kIs] at hd
                      refine ⟨fun _ => ?_, fun h => (h (by simp [hd])).elim⟩
                      simp only [putD, List.getD_cons_zero, List.getD_cons_succ, Act.put, hd]
                      have d0 := (hb.cell hplN).trans p0N
                      go_simp
                      exact ⟨_, rfl, Below.refl _ _, by first | rfl | (simp only [kIs]; done) | (simp only [kIs]; rw [W15.out]) | (simp only [kIs]; rw [W18.out])⟩
                    · intro us w1 hb hd
                      simp only [List.mem_cons, List.not_mem_nil, or_false, forall_eq_or_imp, forall_eq, List.getD_cons_zero, List.getD_cons_succ, kIs] at hd
                      refine ⟨fun _ => ?_, fun h => (h (by simp [hd])).elim⟩
                      simp only [putD, List.getD_cons_zero, List.getD_cons_succ, Act.put, hd]
                      go_simp
                      exact ⟨_, rfl, Below.refl _ _, by first | rfl | (simp only [kIs]; done) | (simp only [kIs]; rw [W15.out]) | (simp only [kIs]; rw [W18.out])⟩
                    · intro us w1 hb hd
                      simp only [List.mem_cons, List.not_mem_nil, or_false, forall_eq, List.getD_cons_zero, List.getD_cons_succ, kIs] at hd
                      refine ⟨fun _ => ?_, fun h => (h (by simp [hd])).elim⟩
                      simp only [putD, List.getD_cons_zero, List.getD_cons_succ, Act.put, hd]
                      go_simp
                      exact ⟨_, rfl, Below.refl _ _, by first | rfl | (simp only [kIs]; done) | (simp only [kIs]; rw [W15.out]) | (simp only [kIs]; rw [W18.out])⟩
                    · intro us w1 hb hd
                      simp only [List.mem_cons, List.not_mem_nil, or_false, forall_eq_or_imp, forall_eq, List.getD_cons_zero, List.getD_cons_succ, kIs] at hd
                      refine ⟨fun _ => ?_, fun h => (h (by simp [hd])).elim⟩
                      simp only [putD, List.getD_cons_zero, List.getD_cons_succ, Act.put, hd]
                      go_simp
                      exact ⟨_, rfl, Below.refl _ _, by first | rfl | (simp only [kIs]; done) | (simp only [kIs]; rw [W15.out]) | (simp only [kIs]; rw [W18.out])⟩
                    · intro us w1 hb hd
                      simp only [List.mem_cons, List.not_mem_nil, or_false, forall_eq_or_imp, forall_eq, List.getD_cons_zero, List.getD_cons_succ, kIs] at hd
                      refine ⟨fun _ => ?_, fun h => (h (by simp [hd])).elim⟩
                      simp only [putD, List.getD_cons_zero, List.getD_cons_succ, Act.put, hd]
                      go_simp
                      exact ⟨_, rfl, Below.refl _ _, by first | rfl | (simp only [kIs]; done) | (simp only [kIs]; rw [W15.out]) | (simp only [kIs]; rw [W18.out])⟩
                    · intro us w1 hb hd
                      simp only [List.mem_cons, List.not_mem_nil, or_false, forall_eq, List.getD_cons_zero, List.getD_cons_succ, kIs] at hd
                      refine ⟨fun _ => ?_, fun h => (h (by simp [hd])).elim⟩
                      simp only [putD, List.getD_cons_zero, List.getD_cons_succ, Act.put, hd]
                      go_simp
                      exact ⟨_, rfl, Below.refl _ _, by first | rfl | (simp only [kIs]; done) | (simp only [kIs]; rw [W15.out]) | (simp only [kIs]; rw [W18.out])⟩
                    · intro us w1 hb hd
                      simp only [List.mem_cons, List.not_mem_nil, or_false, forall_eq_or_imp, forall_eq, List.getD_cons_zero, List.getD_cons_succ, kIs] at hd
                      refine ⟨fun _ => ?_, fun h => (h (by simp [hd])).elim⟩
                      simp only [putD, List.getD_cons_zero, List.getD_cons_succ, Act.put, hd]
                      go_simp
                      exact ⟨_, rfl, Below.refl _ _, by first | rfl | (simp only [kIs]; done) | (simp only [kIs]; rw [W15.out]) | (simp only [kIs]; rw [W18.out])⟩
                    · intro us w1 hb hd
                      simp only [List.mem_cons, List.not_mem_nil, or_false, forall_eq_or_imp, forall_eq, List.getD_cons_zero, List.getD_cons_succ, kIs] at hd
                      refine ⟨fun _ => ?_, fun h => (h (by simp [hd])).elim⟩
                      simp only [putD, List.getD_cons_zero, List.getD_cons_succ, Act.put, hd]
                      go_simp
                      exact ⟨_, rfl, Below.refl _ _, by first | rfl | (simp only [kIs]; done) | (simp only [kIs]; rw [W15.out]) | (simp only [kIs]; rw [W18.out])⟩
                    · intro us w1 hb hd
                      simp only [List.mem_cons, List.not_mem_nil, or_false, forall_eq_or_imp, forall_eq, List.getD_cons_zero, List.getD_cons_succ, kIs] at hd
                      refine ⟨fun _ => ?_, fun h => (h (by simp [hd])).elim⟩
                      simp only [putD, List.getD_cons_zero, List.getD_cons_succ, Act.put, hd]
                      have hcm := HCM.out
                      go_simp
                      exact ⟨_, rfl, Below.refl _ _, by first | rfl | (simp only [kIs]; done) | (simp only [kIs]; rw [W15.out]) | (simp only [kIs]; rw [W18.out])⟩
                    · intro us w1 hb hd
                      simp only [List.mem_cons, List.not_mem_nil, or_false, forall_eq_or_imp, forall_eq, List.getD_cons_zero, List.getD_cons_succ, kIs] at hd
                      simp only [putD, List.getD_cons_zero, List.getD_cons_succ, Act.put, hd]
                      go_simp
                      exact ⟨_, rfl, Below.refl _ _, by first | rfl | (simp only [kIs]; done) | (simp only [kIs]; rw [W15.out]) | (simp only [kIs]; rw [W18.out])⟩
                  intro us w20 hb hp
                  have h20 := hp 20 (by simp)
                  simp only [List.getD_cons_zero, List.getD_cons_succ, kIs] at h20
                  rw [show List.range 21 = [0, 1, 2, 3, 4, 5, 6, 7, 8, 9, 10, 11, 12, 13, 14, 15, 16, 17, 18, 19, 20] from rfl]
                  simp only [putD, List.getD_cons_zero, List.getD_cons_succ, Act.put, List.setIfInBounds_toArray, List.set_cons_zero, List.set_cons_succ, h20]
                  clear hp h20 p0N p1N n0N n1N HVN HNW HMN W15 W18 HCM hplN hnlN
                  have HE := Lib.hid (H11.out.below hb)
                  clear hb H11
                  go_wp2_with fail
                  go_roundw
                  case rel => exact ⟨k + 1, l9, l0, l, (z1, z2), c + 1, _, _, _, _, _, _, _, _, _, by omega, by go_num, rfl, rfl, HE.out⟩
                  case measure => simp [intOf]; omega
              · have ne1 : ((r : Int) == 1) = false := by rw [beq_eq_false_iff_ne]; omega
                clear hr0 hr1
                have wk1 := IntWalk.i64_in (1 + (k : Int)) (by omega)
                have wk2 := IntWalk.i64_in (2 + (k : Int)) (by omega)
                go_wp2_with fail
                refine (pastCommit_any _ l c _ _ _ _ ((HST.out.vp.alloc _).alloc _).vers (by omega)).mono ?_
                rintro e w7 ⟨v7, rfl, hn7, hx⟩
                have hcc : comCode l c (1 + (k : Int), 2 + (k : Int)) (mo : Int) = 0 := by
                  unfold comCode
                  rw [if_pos]
                  refine ⟨HST.out.my, ?_, by omega, by omega⟩
                  unfold verMay
                  simp only
                  omega
                have hst9 := stacked_com HST.out.st hcc
                have hmy9 := com_may hcc
                rw [hcc]
                rw [show (mo : Int).toNat - 1 = m by have := HMO.out; omega] at hst9
                generalize comList l c (1 + (k : Int), 2 + (k : Int)) (mo : Int) = l7 at hn7 hst9 hmy9 ⊢
                generalize comCur l c (1 + (k : Int), 2 + (k : Int)) (mo : Int) = c7 at hst9 hmy9 ⊢
                have HS9 := Lib.hid hst9
                have HM9 := Lib.hid hmy9
                have hxx : Below wr.heap.size wr w7 := below_step (below_new (below_new (Below.refl _ _) _) _) hx
                have hq7 := box_below (heap_keep (heap_last (o := pastBox (.slice ap l.length cp) c) rfl) _) hx
                have hv7 : w7.heap[wr.heap.size + 1]? = some (verBox (1 + (k : Int)) (2 + (k : Int))) := box_below (heap_last (sz1 _ _).symm) hx
                obtain ⟨aq, cq, rq, hf, h8⟩ := Mid.of (c2 := c7) HST.out hxx hq7 (Nat.le_refl _) (hn7.wider (by simp; omega)) (new_apart hn7 (by simp; omega)) rfl
                subst hf
                have hv8 := box_grown hv7 (grown2 w7 wr.heap.size (.slice aq l7.length cq) (.int .i64 c7)) (by simp)
                have H8 := Lib.hid h8
                have HV8 := Lib.hid hv8
                obtain ⟨q0, q1⟩ := pastBox_cells hq7
                have hql := (Array.getElem?_eq_some_iff.1 hq7).1
                have hqf := pastBox_free hq7
                obtain ⟨m0, m1⟩ := verBox_cells h8.nbx
                obtain ⟨n0, n1⟩ := verBox_cells (box_below HST.out.nbx hxx)
                obtain ⟨i0', hi, hz0, hz1, hz2⟩ := info_parts infoVer
                have hl16' : la.length < 16 ∧ lb.length < 16 := by
                  have hh := stacked_len HST.out.st
                  constructor <;> omega
                have hrbv : rb ≠ some (wr.heap.size + 1) := fun e => by have := HST.out.ob.lt _ e; omega
                clear hst9 hmy9 hcc h8 hn7 hx hxx p0 p1 cs0 hq7 hv7 hv8
                go_wp2_with (at_builtin; go_loud (refine wpList_append_off _ rfl (.tmp 62) (.tmp 64) 37 rfl 41 i0' (.agg #[.int .i64 0, .int .i64 0]) 2 16 Try.underlying37 hi hz0 hz1 hz2 rfl (by decide) _ _ (vs lb) rb rfl (OffRow.alloc H8.out.ob _) _ 1 1 (vs [(y1, y2)]) rfl rfl (ver_news (heap_last (by first | rfl | rw [setCell_size, setCell_size]))) (vs_one _) ?c3 ?c4 ?_))
                case c3 => unfold maxLen; omega
                case c4 => omega
                intro v9 w9 r9 ho9 hg9 hr9
                obtain ⟨a9, c9, l9, hl9, rfl, h9⟩ := Mid.behind (H8.out.below ((Below.refl _ _).alloc (Nat.le_refl _) _)) ho9 hg9 (by simpa only [sz1, setCell_size] using hr9)
                have hv9 := box_grown (heap_keep HV8.out _) hg9 hrbv
                rw [← hl9] at HS9
                have hl9l : l9.length = lb.length + 1 := by rw [hl9]; simp
                clear q0 q1 hql hqf m0 m1 n0 n1 H8 HV8 ho9 hg9 hr9 hl9
                obtain ⟨Q, hQ⟩ : ∃ Q, Q = wr.heap.size := ⟨_, rfl⟩
                rw [← hQ] at h9 hv9 ⊢
                have HV9 := Lib.hid hv9
                have H9 := Lib.hid h9
                clear hQ hv9 h9
                have hwm : IntKind.i64.wrap ((mo : Int) - 1) = (m : Int) := by have := HMO.out; rw [IntWalk.i64_in _ (by omega)]; omega
                go_wp2_with fail
                go_loopw [8] (fun vb wr' => ∃ (j : Nat) (L : List Ver) (ab' : Option Addr) (cb' : Nat), j ≤ l9.length - m ∧ L = l9.drop j ∧ vb = .slice ab' L.length cb' ∧ w9 = wr' ∧ OffRow w9 41 2 (.slice ab' L.length cb') L.length (vs L) r9) (fun vb _ => slen vb)
                case atStart => exact ⟨0, l9, a9, c9, Nat.zero_le _, rfl, rfl, rfl, H9.out.ob⟩
                case round =>
                  obtain ⟨j, L, ab', cb', hj, hL, rfl, rfl, hoL⟩ := hrel
                  have hLl : L.length = l9.length - j := by rw [hL, List.length_drop]
                  by_cases hlt2 : m < L.length
                  · obtain ⟨n, hn⟩ : ∃ n, L.length = n + 1 := ⟨L.length - 1, by omega⟩
                    obtain ⟨g, o, cap, hf, hcap, hmax⟩ := hoL.shape (by omega)
                    simp only [Value.slice.injEq, true_and] at hf
                    obtain ⟨rfl, rfl⟩ := hf
                    have HD := Lib.hid (off_drop hoL hn)
                    have HLn := Lib.hid (show (L.drop 1).length = n by rw [List.length_drop, hn]; rfl)
                    have HLd := Lib.hid (show L.drop 1 = l9.drop (j + 1) by rw [hL, List.drop_drop])
                    rw [hn] at hlt2 hcap ⊢
                    have g0 : (m : Int) < (n : Int) + 1 := by omega
                    have g1 : (1 : Int) ≤ (n : Int) + 1 := by omega
                    have g2 : n + 1 ≤ cb' := hcap
                    have hjj : j + 1 ≤ l9.length - m := by omega
                    clear hoL hL hLl hn
                    go_wp2_with fail
                    go_roundw
                    case rel => exact ⟨j + 1, L.drop 1, (if cb' = 1 then some ⟨g, o, none⟩ else some ⟨g, o + 2, none⟩), cb' - 1, hjj, HLd.out, by rw [HLn.out], trivial, by rw [HLn.out]; exact HD.out⟩
                    case measure => simp [slen]
                  · have g0 : ¬ (m : Int) < (L.length : Int) := by omega
                    have hLe : L = lastOf m l9 := by
                      rw [hL, lastOf]
                      congr 1
                      omega
                    have HLE := Lib.hid hLe
                    have hM := (((H9.out.cutB hoL).stand (1 + (k : Int)) (2 + (k : Int))).nilA)
                    have HM := Lib.hid hM
                    obtain ⟨v0, v1⟩ := verBox_cells HV9.out
                    obtain ⟨n0, n1⟩ := verBox_cells H9.out.nbx
                    have hnl9 := (Array.getElem?_eq_some_iff.1 H9.out.nbx).1
                    have hnf := verBox_free H9.out.nbx
                    have hvl9 := (Array.getElem?_eq_some_iff.1 HV9.out).1
                    clear hoL hL hLl hLe hM
                    go_upto_region 18 with fail
                    go_region
                    all_goals
                      generalize hW : World.drew ((w9.setCell ⟨nb, 0, none⟩ (.int .i64 (1 + (k : Int)))).setCell ⟨nb, 1, none⟩ (.int .i64 (2 + (k : Int)))) = w10
                      have h10 := HM.out.drew
                      rw [hW] at h10
                      have H11 := Lib.hid (h10.done (by rw [HLE.out]; exact HS9.out) HM9.out)
                      obtain ⟨p0, p1⟩ := pastBox_cells h10.pbx
                      obtain ⟨q0, q1⟩ := pastBox_cells h10.qbx
                      have hpl9 := (Array.getElem?_eq_some_iff.1 h10.pbx).1
                      have hpf := pastBox_free h10.pbx
                      clear n0 n1 v0 v1 hnl9 hnf hvl9 h10 hW
                      go_wp2_with fail
                      clear p0 p1 q0 q1 hpl9 hpf H9 HV9 HM HLE HS9 HM9
                      generalize ((w10.setCell ⟨pb, 0, none⟩ (.slice aq l7.length cq)).setCell ⟨pb, 1, none⟩ (.int .i64 c7)) = w11 at H11 ⊢
                      have HVN := Lib.hid (H11.out.vp.vers)
                      have HNW := Lib.hid (show nowOf (l7) (c7) = ((1 + (k : Int)), (2 + (k : Int))) from stacked_now H11.out.st H11.out.my)
                      have HMN := Lib.hid (decide_eq_true H11.out.my)
                      have hlN := stacked_len H11.out.st
                      have h16N : (l7).length ≤ 16 := H11.out.my.2.2.2.1
                      have W15 := Lib.hid (show IntKind.i64.wrap (((L).length : Int) + 1) = ((L).length : Int) + 1 from IntWalk.i64_in _ (by omega))
                      have W18 := Lib.hid (show IntKind.i64.wrap (((L).length : Int) + 1) = ((L).length : Int) + 1 from IntWalk.i64_in _ (by omega))
                      have HCM := Lib.hid (show (((l7).length : Int) != ((L).length : Int) + 1) = false by rw [bne_eq_false_iff_eq]; (try simp only [List.length_nil] at hlN); omega)
                      obtain ⟨p0N, p1N⟩ := pastBox_cells H11.out.pbx
                      obtain ⟨n0N, n1N⟩ := verBox_cells H11.out.nbx
                      have hplN := (Array.getElem?_eq_some_iff.1 H11.out.pbx).1
                      have hnlN := (Array.getElem?_eq_some_iff.1 H11.out.nbx).1
                      clear hlN h16N
                      refine region_each 21 [some 139, some 140, some 141, some 142, some 143, some 144, some 145, some 146, some 147, some 148, some 149, some 150, some 151, some 152, some 153, some 154, some 155, some 156, some 157, some 158, some 159] [[], [0], [], [1, 2], [3], [4], [5, 4], [6, 4], [4, 7], [8], [9], [10, 9], [11, 9], [9], [13, 9], [14, 9], [9], [16, 9], [15, 17, 9], [12, 18, 9], [9, 19]]
                        [kIs (.agg #[.slice aq (l7).length cq, .int .i64 (c7)]), kIs (.agg #[.int .i64 (1 + (k : Int)), .int .i64 (2 + (k : Int))]), kIs (.agg #[.int .i64 (1 + (k : Int)), .int .i64 (2 + (k : Int))]), kIs (.bool false), kIs (.bool false), kIs (.agg #[.slice aq (l7).length cq, .int .i64 (c7)]), kIs (.bool true), kIs (.bool false), kIs (.bool false), kIs (.bool false), kIs (.pointer (some ⟨pb, 0, none⟩)), kIs (.slice aq (l7).length cq), kIs (.int .i64 ((l7).length : Nat)), kIs (.slice ab' (L).length cb'), kIs (.int .i64 ((L).length : Nat)), kIs (.int .i64 (((L).length : Int) + 1)), kIs (.slice none (([] : List Ver)).length 0), kIs (.int .i64 ((([] : List Ver)).length : Nat)), kIs (.int .i64 (((L).length : Int) + 1)), kIs (.bool false), kIs (.bool false)]
                        (by kernel_rfl) (by kernel_rfl) (by kernel_rfl) (by kernel_rfl) ?_ ?_
                      · simp only [obligsD]
                        refine ⟨?_, ?_, ?_, ?_, ?_, ?_, ?_, ?_, ?_, ?_, ?_, ?_, ?_, ?_, ?_, ?_, ?_, ?_, ?_, ?_, ?_, trivial⟩
                        · intro us w1 hb _
                          simp only [putD]
                          have d0 := (hb.cell hplN).trans p0N
                          have d1 := (hb.cell hplN).trans p1N
                          go_simp
                          exact ⟨_, rfl, Below.refl _ _, by first | rfl | (simp only [kIs]; done) | (simp only [kIs]; rw [W15.out]) | (simp only [kIs]; rw [W18.out])⟩
                        · intro us w1 hb hd
                          simp only [List.mem_cons, List.not_mem_nil, or_false, forall_eq, List.getD_cons_zero, kIs] at hd
                          simp only [putD, List.getD_cons_zero, Act.put, hd]
                          go_simp
                          refine (pastNow_any _ (l7) (c7) _ (Vers.below HVN.out hb)).mono ?_
                          rintro e w99 ⟨rfl, hb2⟩
                          rw [HNW.out]
                          exact ⟨_, rfl, hb2, rfl⟩
                        · intro us w1 hb _
                          simp only [putD]
                          have d0 := (hb.cell hnlN).trans n0N
                          have d1 := (hb.cell hnlN).trans n1N
                          go_simp
                          exact ⟨_, rfl, Below.refl _ _, by first | rfl | (simp only [kIs]; done) | (simp only [kIs]; rw [W15.out]) | (simp only [kIs]; rw [W18.out])⟩
                        · intro us w1 hb hd
                          simp only [List.mem_cons, List.not_mem_nil, or_false, forall_eq_or_imp, forall_eq, List.getD_cons_zero, List.getD_cons_succ, kIs] at hd
                          simp only [putD, List.getD_cons_zero, List.getD_cons_succ, Act.put, hd]
                          go_simp
                          exact ⟨_, rfl, Below.refl _ _, by first | rfl | (simp only [kIs]; done) | (simp only [kIs]; rw [W15.out]) | (simp only [kIs]; rw [W18.out])⟩
                        · intro us w1 hb hd
                          simp only [List.mem_cons, List.not_mem_nil, or_false, forall_eq, List.getD_cons_zero, List.getD_cons_succ, kIs] at hd
                          simp only [putD, List.getD_cons_zero, List.getD_cons_succ, Act.put, hd]
                          go_simp
                          exact ⟨_, rfl, Below.refl _ _, by first | rfl | (simp only [kIs]; done) | (simp only [kIs]; rw [W15.out]) | (simp only [kIs]; rw [W18.out])⟩
                        · intro us w1 hb hd
                          simp only [List.mem_cons, List.not_mem_nil, or_false, forall_eq, List.getD_cons_zero, List.getD_cons_succ, kIs] at hd
                          refine ⟨fun _ => ?_, fun h => (h (by simp [hd])).elim⟩
                          simp only [putD, List.getD_cons_zero, List.getD_cons_succ, Act.put, hd]
                          have d0 := (hb.cell hplN).trans p0N
                          have d1 := (hb.cell hplN).trans p1N
                          go_simp
                          exact ⟨_, rfl, Below.refl _ _, by first | rfl | (simp only [kIs]; done) | (simp only [kIs]; rw [W15.out]) | (simp only [kIs]; rw [W18.out])⟩
                        · intro us w1 hb hd
                          simp only [List.mem_cons, List.not_mem_nil, or_false, forall_eq_or_imp, forall_eq, List.getD_cons_zero, List.getD_cons_succ, kIs] at hd
                          refine ⟨fun _ => ?_, fun h => (h (by simp [hd])).elim⟩
                          simp only [putD, List.getD_cons_zero, List.getD_cons_succ, Act.put, hd]
                          go_simp
                          refine (pastMay_any _ (l7) (c7) _ (Vers.below HVN.out hb)).mono ?_
                          rintro e w99 ⟨rfl, hb2⟩
                          rw [HMN.out]
                          exact ⟨_, rfl, hb2, rfl⟩
                        · intro us w1 hb hd
                          simp only [List.mem_cons, List.not_mem_nil, or_false, forall_eq_or_imp, forall_eq, List.getD_cons_zero, List.getD_cons_succ, kIs] at hd
                          refine ⟨fun _ => ?_, fun h => (h (by simp [hd])).elim⟩
                          simp only [putD, List.getD_cons_zero, List.getD_cons_succ, Act.put, hd]
                          go_simp
                          exact ⟨_, rfl, Below.refl _ _, by first | rfl | (simp only [kIs]; done) | (simp only [kIs]; rw [W15.out]) | (simp only [kIs]; rw [W18.out])⟩
                        · intro us w1 hb hd
                          simp only [List.mem_cons, List.not_mem_nil, or_false, forall_eq_or_imp, forall_eq, List.getD_cons_zero, List.getD_cons_succ, kIs] at hd
                          simp only [putD, List.getD_cons_zero, List.getD_cons_succ, Act.put, hd]
                          go_simp
                          exact ⟨_, rfl, Below.refl _ _, by first | rfl | (simp only [kIs]; done) | (simp only [kIs]; rw [W15.out]) | (simp only [kIs]; rw [W18.out])⟩
                        · intro us w1 hb hd
                          simp only [List.mem_cons, List.not_mem_nil, or_false, forall_eq, List.getD_cons_zero, List.getD_cons_succ, kIs] at hd
                          simp only [putD, List.getD_cons_zero, List.getD_cons_succ, Act.put, hd]
                          go_simp
                          exact ⟨_, rfl, Below.refl _ _, by first | rfl | (simp only [kIs]; done) | (simp only [kIs]; rw [W15.out]) | (simp only [kIs]; rw [W18.out])⟩
                        · intro us w1 hb hd
                          simp only [List.mem_cons, List.not_mem_nil, or_false, forall_eq, List.getD_cons_zero, List.getD_cons_succ, kIs] at hd
                          refine ⟨fun _ => ?_, fun h => (h (by simp [hd])).elim⟩
                          simp only [putD, List.getD_cons_zero, List.getD_cons_succ, Act.put, hd]
                          go_simp
                          exact ⟨_, rfl, Below.refl _ _, by first | rfl | (simp only [kIs]; done) | (simp only [kIs]; rw [W15.out]) | (simp only [kIs]; rw [W18.out])⟩
                        · intro us w1 hb hd
                          simp only [List.mem_cons, List.not_mem_nil, or_false, forall_eq_or_imp, forall_eq, List.getD_cons_zero, List.getD_cons_succ, kIs] at hd
                          refine ⟨fun _ => ?_, fun h => (h (by simp [hd])).elim⟩
                          simp only [putD, List.getD_cons_zero, List.getD_cons_succ, Act.put, hd]
                          have d0 := (hb.cell hplN).trans p0N
                          go_simp
                          exact ⟨_, rfl, Below.refl _ _, by first | rfl | (simp only [kIs]; done) | (simp only [kIs]; rw [W15.out]) | (simp only [kIs]; rw [W18.out])⟩
                        · intro us w1 hb hd
                          simp only [List.mem_cons, List.not_mem_nil, or_false, forall_eq_or_imp, forall_eq, List.getD_cons_zero, List.getD_cons_succ, kIs] at hd
                          refine ⟨fun _ => ?_, fun h => (h (by simp [hd])).elim⟩
                          simp only [putD, List.getD_cons_zero, List.getD_cons_succ, Act.put, hd]
                          go_simp
                          exact ⟨_, rfl, Below.refl _ _, by first | rfl | (simp only [kIs]; done) | (simp only [kIs]; rw [W15.out]) | (simp only [kIs]; rw [W18.out])⟩
                        · intro us w1 hb hd
                          simp only [List.mem_cons, List.not_mem_nil, or_false, forall_eq, List.getD_cons_zero, List.getD_cons_succ, kIs] at hd
                          refine ⟨fun _ => ?_, fun h => (h (by simp [hd])).elim⟩
                          simp only [putD, List.getD_cons_zero, List.getD_cons_succ, Act.put, hd]
                          go_simp
                          exact ⟨_, rfl, Below.refl _ _, by first | rfl | (simp only [kIs]; done) | (simp only [kIs]; rw [W15.out]) | (simp only [kIs]; rw [W18.out])⟩
                        · intro us w1 hb hd
                          simp only [List.mem_cons, List.not_mem_nil, or_false, forall_eq_or_imp, forall_eq, List.getD_cons_zero, List.getD_cons_succ, kIs] at hd
                          refine ⟨fun _ => ?_, fun h => (h (by simp [hd])).elim⟩
                          simp only [putD, List.getD_cons_zero, List.getD_cons_succ, Act.put, hd]
                          go_simp
                          exact ⟨_, rfl, Below.refl _ _, by first | rfl | (simp only [kIs]; done) | (simp only [kIs]; rw [W15.out]) | (simp only [kIs]; rw [W18.out])⟩
                        · intro us w1 hb hd
                          simp only [List.mem_cons, List.not_mem_nil, or_false, forall_eq_or_imp, forall_eq, List.getD_cons_zero, List.getD_cons_succ, kIs] at hd
                          refine ⟨fun _ => ?_, fun h => (h (by simp [hd])).elim⟩
                          simp only [putD, List.getD_cons_zero, List.getD_cons_succ, Act.put, hd]
                          go_simp
                          exact ⟨_, rfl, Below.refl _ _, by first | rfl | (simp only [kIs]; done) | (simp only [kIs]; rw [W15.out]) | (simp only [kIs]; rw [W18.out])⟩
                        · intro us w1 hb hd
                          simp only [List.mem_cons, List.not_mem_nil, or_false, forall_eq, List.getD_cons_zero, List.getD_cons_succ, kIs] at hd
                          refine ⟨fun _ => ?_, fun h => (h (by simp [hd])).elim⟩
                          simp only [putD, List.getD_cons_zero, List.getD_cons_succ, Act.put, hd]
                          go_simp
                          exact ⟨_, rfl, Below.refl _ _, by first | rfl | (simp only [kIs]; done) | (simp only [kIs]; rw [W15.out]) | (simp only [kIs]; rw [W18.out])⟩
                        · intro us w1 hb hd
                          simp only [List.mem_cons, List.not_mem_nil, or_false, forall_eq_or_imp, forall_eq, List.getD_cons_zero, List.getD_cons_succ, kIs] at hd
                          refine ⟨fun _ => ?_, fun h => (h (by simp [hd])).elim⟩
                          simp only [putD, List.getD_cons_zero, List.getD_cons_succ, Act.put, hd]
                          go_simp
                          exact ⟨_, rfl, Below.refl _ _, by first | rfl | (simp only [kIs]; done) | (simp only [kIs]; rw [W15.out]) | (simp only [kIs]; rw [W18.out])⟩
                        · intro us w1 hb hd
                          simp only [List.mem_cons, List.not_mem_nil, or_false, forall_eq_or_imp, forall_eq, List.getD_cons_zero, List.getD_cons_succ, kIs] at hd
                          refine ⟨fun _ => ?_, fun h => (h (by simp [hd])).elim⟩
                          simp only [putD, List.getD_cons_zero, List.getD_cons_succ, Act.put, hd]
                          go_simp
                          exact ⟨_, rfl, Below.refl _ _, by first | rfl | (simp only [kIs]; done) | (simp only [kIs]; rw [W15.out]) | (simp only [kIs]; rw [W18.out])⟩
                        · intro us w1 hb hd
                          simp only [List.mem_cons, List.not_mem_nil, or_false, forall_eq_or_imp, forall_eq, List.getD_cons_zero, List.getD_cons_succ, kIs] at hd
                          refine ⟨fun _ => ?_, fun h => (h (by simp [hd])).elim⟩
                          simp only [putD, List.getD_cons_zero, List.getD_cons_succ, Act.put, hd]
                          have hcm := HCM.out
                          go_simp
                          exact ⟨_, rfl, Below.refl _ _, by first | rfl | (simp only [kIs]; done) | (simp only [kIs]; rw [W15.out]) | (simp only [kIs]; rw [W18.out])⟩
                        · intro us w1 hb hd
                          simp only [List.mem_cons, List.not_mem_nil, or_false, forall_eq_or_imp, forall_eq, List.getD_cons_zero, List.getD_cons_succ, kIs] at hd
                          simp only [putD, List.getD_cons_zero, List.getD_cons_succ, Act.put, hd]
                          go_simp
                          exact ⟨_, rfl, Below.refl _ _, by first | rfl | (simp only [kIs]; done) | (simp only [kIs]; rw [W15.out]) | (simp only [kIs]; rw [W18.out])⟩
                      intro us w20 hb hp
                      have h20 := hp 20 (by simp)
                      simp only [List.getD_cons_zero, List.getD_cons_succ, kIs] at h20
                      rw [show List.range 21 = [0, 1, 2, 3, 4, 5, 6, 7, 8, 9, 10, 11, 12, 13, 14, 15, 16, 17, 18, 19, 20] from rfl]
                      simp only [putD, List.getD_cons_zero, List.getD_cons_succ, Act.put, List.setIfInBounds_toArray, List.set_cons_zero, List.set_cons_succ, h20]
                      clear hp h20 p0N p1N n0N n1N HVN HNW HMN W15 W18 HCM hplN hnlN
                      have HE := Lib.hid (H11.out.below hb)
                      clear hb H11
                      go_wp2_with fail
                      go_roundw
                      case rel => exact ⟨k + 1, L, ([] : List Ver), l7, ((1 + (k : Int)), (2 + (k : Int))), c7, _, _, _, _, _, _, _, _, _, by omega, by go_num, rfl, rfl, HE.out⟩
                      case measure => simp [intOf]; omega
          · go_wp2_with fail
            go_ret
            exact ⟨rfl, hst.bl⟩
        · go_wp2_with fail
          go_ret
          exact ⟨rfl, hst.bl⟩
  · have HMY := Lib.hid (decide_eq_false (p := pastMay [(x1, x2)] 0) (fun h => hV (h.2.2.2.2 _ (List.mem_singleton.2 rfl))))
    clear hV
    go_enter Try.func11, Try.ntmps11
    go_wp2_with fail
    refine (pick_any most 16 _ (by decide) (by decide) (by omega) (by omega)).mono ?_
    rintro e w' ⟨rfl, rfl⟩
    rw [HM.out]
    go_wp2_with fail
    rw [HMO.out]
    obtain ⟨w3, hw3e⟩ : ∃ x, x = ((w.alloc (verBox x1 x2)).alloc (.cells #[.int .i64 x1, .int .i64 x2] 41)).alloc (pastBox (.slice (some ⟨w.heap.size + 1, 0, none⟩) 1 1) 0) := ⟨_, rfl⟩
    have hF : w3.heap[w.heap.size]? = some (verBox x1 x2) := by rw [hw3e]; exact heap_keep (heap_keep (heap_last rfl) _) _
    have hL : w3.heap[w.heap.size + 1]? = some (.cells #[.int .i64 x1, .int .i64 x2] 41 (0, 0)) := by rw [hw3e]; exact heap_keep (heap_last (sz1 _ _).symm) _
    have hP : w3.heap[w.heap.size + 2]? = some (pastBox (.slice (some ⟨w.heap.size + 1, 0, none⟩) 1 1) 0) := by rw [hw3e]; exact heap_last (by rw [sz1, sz1])
    have hw3 : Below w.heap.size w w3 := by rw [hw3e]; exact below_new (below_new (below_new (Below.refl _ _) _) _) _
    unfold verBox pastBox at hw3e
    rw [← hw3e]
    have HF := Lib.hid hF
    have HL := Lib.hid hL
    have HP := Lib.hid hP
    clear hF hL hP hw3e
    refine (awake17_any _).mono ?_
    rintro e w4 ⟨rfl, hx⟩
    have HF4 := Lib.hid (box_below HF.out hx)
    have HL4 := Lib.hid (box_below HL.out hx)
    have HP4 := Lib.hid (box_below HP.out hx)
    have hw4 := below_step hw3 hx
    obtain ⟨p0, p1⟩ := pastBox_cells HP4.out
    have hv4 : Vers w4 (.slice (some ⟨w.heap.size + 1, 0, none⟩) 1 1) [(x1, x2)] := vers_block (l := [(x1, x2)]) HL4.out rfl (show 1 ≤ maxLen by decide)
    have HV4 := Lib.hid hv4
    clear hx hw3 HF HL HP hv4
    go_wp2_with fail
    refine (pastMay_any _ [(x1, x2)] 0 _ HV4.out).mono ?_
    rintro e w5 ⟨rfl, hx⟩
    rw [HMY.out]
    have hw5 := below_step hw4 hx
    clear hx hw4 HF4 HL4 HP4 p0 p1 HV4
    go_wp2_with fail
    refine (awake17_any _).mono ?_
    rintro e w6 ⟨rfl, hx⟩
    have hw6 := below_step hw5 hx
    clear hx hw5
    go_wp2_with fail
    go_ret
    exact ⟨rfl, hw6⟩
end Go.Proofs.Ytdofdegicdkhlaa
