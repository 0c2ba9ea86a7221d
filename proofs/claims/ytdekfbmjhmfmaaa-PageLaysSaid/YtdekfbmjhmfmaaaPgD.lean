/- The walk of page.Open. -/
import Derived.Test.YtdekfbmjhmfmaaaPgB
import Derived.Test.YtdekfbmjhmfmaaaRdrF
import Derived.Test.YtdekfbmjhmfmaaaRdrC
import Derived.Test.YtdekfbmjhmfmaaaRdrT
import Derived.Test.YtdekfbmjhmfmaaaRdrL
import Derived.Test.YtdekfbmjhmfmaaaCut
import Derived.Test.YtdekfbmjhmfmaaaLeC
import Derived.Test.YtdekfbmjhmfmaaaSupE
namespace Go.Proofs.Ytdekfbmjhmfmaaa
open Go.RowKit Go.Oct

theorem fld_len (l : List UInt8) (a k : Nat) (h : a + k ≤ l.length) : ((l.drop a).take k).length = k := by simp; omega
/-- what a reader of a page reads of it -/
theorem rd_page {l : List UInt8} (h : l.length = 256) (a k : Nat) (hk : a + k ≤ 256) (k1 : 1 ≤ k) (k7 : k ≤ 7) : rdVal l a k = fld l a k ∧ rdAt l a k = a + k ∧ rdCode l a k = 0 := by
  have hlk := fld_len l a k (by omega)
  have hc : rdCode l a k = 0 := by
    unfold rdCode
    rw [if_neg (by omega), if_neg (by omega), Int.toNat_natCast]
    exact valCode_ok (by omega) (numVal_seven _ (by omega))
  refine ⟨?_, ?_, hc⟩
  · simp only [rdVal, hc, if_true, Int.toNat_natCast, fld]
  · simp only [rdAt, hc, if_true, Int.toNat_natCast]
theorem allZero_iff (l : List UInt8) : allZero l = true ↔ l = List.replicate l.length 0 := by
  rw [List.eq_replicate_iff]
  simp only [allZero, List.all_eq_true, beq_iff_eq, true_and]
/-- bytes 0 that a reader meets -/
theorem zr_page {l : List UInt8} (h : l.length = 256) (a k : Nat) (hk : a + k ≤ 256) :
    (((l.drop a).take k = List.replicate k 0 → zrCode l a k = 0) ∧ (¬ (l.drop a).take k = List.replicate k 0 → zrCode l a k = 4)) ∧ zrAt l a k ≤ a + k := by
  have hn : nextCode (k : Int) (l.length - a) = 0 := by unfold nextCode; rw [if_neg (by omega), if_neg (by omega)]
  have hlk := fld_len l a k (by omega)
  have hz := allZero_iff ((l.drop a).take k)
  rw [hlk] at hz
  refine ⟨?_, ?_⟩
  · simp only [zrCode, hn, if_true, Int.toNat_natCast]
    refine ⟨fun hh => by rw [if_pos (hz.2 hh)], fun hh => by rw [if_neg (fun h => hh (hz.1 h))]⟩
  · unfold zrAt
    split
    · rw [Int.toNat_natCast]; omega
    · omega
theorem fld1_zero {l : List UInt8} (a : Nat) (h : a + 1 ≤ l.length) : (l.drop a).take 1 = List.replicate 1 0 ↔ fld l a 1 = 0 := by
  have hl := fld_len l a 1 h
  unfold fld
  match (l.drop a).take 1, hl with
  | [x], _ =>
    simp only [numVal, Nat.mul_zero, Nat.add_zero, List.replicate_succ, List.replicate_zero, List.cons.injEq, and_true]
    exact ⟨fun e => by rw [e]; rfl, fun e => UInt8.toNat_inj.1 e⟩
/-! page.Open -/
theorem pgForm_code {no : Int} {l : List UInt8} (h0 : ¬ ¬ (0 ≤ no ∧ no < 1048576)) (h1 : l.length = 256) (h2 : fld l 8 4 = OctCrc.crc (pgSummed l)) (h3 : ¬ pgForm no l) : pgOpen no l = 4 := by
  unfold pgOpen
  rw [if_neg h0, if_neg (by omega), if_neg (by omega), if_neg h3]
set_option maxRecDepth 100000 in
set_option maxHeartbeats 2000000 in
theorem pageOpen_any (no : Int) (vb : Value) (l : List UInt8) (w : World) (hB : Bytes w vb l) : Calls Try.prog 31 #[.int .i64 no, vb] w (PgOp no l w) := by
  obtain ⟨ab, cb, rfl, hcap, hmax, hcells⟩ := hB.open
  unfold maxLen at hmax
  by_cases h1 : no < 0
  · have HC := Lib.hid (show pgOpen no l = 1 by unfold pgOpen; rw [if_pos (by omega)])
    go_enter Try.func31, Try.ntmps31
    go_wp2_with fail
    go_ret3
    exact pgOp_bad HC.out (by decide) _ _ _ rfl (Below.refl _ _)
  by_cases h2 : 1048576 ≤ no
  · have HC := Lib.hid (show pgOpen no l = 1 by unfold pgOpen; rw [if_pos (by omega)])
    go_enter Try.func31, Try.ntmps31
    go_wp2_with fail
    go_ret3
    exact pgOp_bad HC.out (by decide) _ _ _ rfl (Below.refl _ _)
  by_cases h3 : l.length ≠ 256
  · have HC := Lib.hid (show pgOpen no l = 3 by unfold pgOpen; rw [if_neg (by omega), if_pos h3])
    have hne : ((l.length : Int) != 256) = true := by rw [bne_iff_ne]; omega
    clear h3
    go_enter Try.func31, Try.ntmps31
    go_wp2_with fail
    go_ret3
    exact pgOp_bad HC.out (by decide) _ _ _ rfl (Below.refl _ _)
  have hL : l.length = 256 := Decidable.not_not.1 h3
  obtain ⟨b, o, rfl, hcs⟩ := hcells (by omega)
  have HL := Lib.hid hL
  rw [hL] at hB hcap ⊢
  have hn1 : ¬ ¬ (0 ≤ no ∧ no < 1048576) := by omega
  have b8 : Bytes w (.slice (some ⟨b, o + 8, none⟩) 4 (cb - 8)) ((l.drop 8).take 4) := hB.cut 8 4 _ (by decide) (by omega) (by unfold maxLen; omega)
  have t8 : Bytes w (.slice (some ⟨b, o, none⟩) 8 cb) (l.take 8) := hB.take 8 (by decide)
  have d12 : Bytes w (.slice (some ⟨b, o + 12, none⟩) 244 (cb - 12)) (l.drop 12) := hB.tail 12 244 _ (by decide) (by omega) (by unfold maxLen; omega)
  have HB := Lib.hid hB
  have B8 := Lib.hid b8
  have T8 := Lib.hid t8
  have D12 := Lib.hid d12
  have hcapI : (256 : Int) ≤ (cb : Int) := by omega
  have hcap8 : (8 : Int) ≤ (cb : Int) := by omega
  have hcap12 : (12 : Int) ≤ (cb : Int) := by omega
  have hcapn : ¬ (cb = 12) := by omega
  have hN := numOf_short (l := (l.drop 8).take 4) (by rw [fld_len l 8 4 (by omega)]; decide) (by rw [fld_len l 8 4 (by omega)]; decide)
  obtain ⟨sm, hsm⟩ : ∃ x, fld l 8 4 = x := ⟨_, rfl⟩
  obtain ⟨cr, hcr⟩ : ∃ x, OctCrc.crc (pgSummed l) = x := ⟨_, rfl⟩
  have HN := Lib.hid (show numOf ((l.drop 8).take 4) = sm by rw [hN, ← hsm]; rfl)
  have HCR := Lib.hid (show OctCrc.crc (l.take 8 ++ l.drop 12) = cr from hcr)
  have hcl : cr < 4294967296 := by rw [← hcr]; exact OctCrc.crc_lt _
  have HSM := Lib.hid hsm
  have HCQ := Lib.hid hcr
  have HWR := Lib.hid (show IntKind.i64.wrap (cr : Int) = (cr : Int) from IntWalk.i64_in _ (by omega))
  clear b8 t8 d12 hB hcells hcs hN hsm hcr h3 hL
  by_cases h4 : sm = cr
  · have hcc : ((sm : Int) != (cr : Int)) = false := by rw [h4]; simp
    have HSC := Lib.hid (show fld l 8 4 = OctCrc.crc (pgSummed l) by rw [HSM.out, HCQ.out, h4])
    clear h4
    go_enter Try.func31, Try.ntmps31
    go_wp2_with fail
    refine (leInt_any _ _ _ B8.out).mono ?_
    rintro e w' ⟨rfl, rfl⟩
    rw [HN.out]
    go_wp2_with fail
    refine region_each 9 [some 30, some 31, some 32, some 33, some 34, some 35, some 36, some 37, some 38] [[], [], [1], [], [3], [2, 4], [5], [6], [0, 7]]
      [kIs (.int .i64 (sm : Nat)), kIs (.slice (some ⟨b, o, none⟩) 256 cb), kIs (.slice (some ⟨b, o, none⟩) 8 cb), kIs (.slice (some ⟨b, o, none⟩) 256 cb), kIs (.slice (some ⟨b, o + 12, none⟩) 244 (cb - 12)), kPair (.slice (some ⟨b, o, none⟩) 8 cb) (.slice (some ⟨b, o + 12, none⟩) 244 (cb - 12)), kIs (.int .u32 (cr : Nat)), kIs (.int .i64 (cr : Nat)), kIs (.bool false)]
      (by kernel_rfl) (by kernel_rfl) (by kernel_rfl) (by kernel_rfl) ?_ ?_
    · simp only [obligsD]
      refine ⟨?_, ?_, ?_, ?_, ?_, ?_, ?_, ?_, ?_, trivial⟩
      · intro us w1 hb _
        simp only [putD, Act.put]
        go_simp
        exact ⟨_, rfl, Below.refl _ _, rfl⟩
      · intro us w1 hb _
        simp only [putD, Act.put]
        go_simp
        exact ⟨_, rfl, Below.refl _ _, rfl⟩
      · intro us w1 hb hd
        simp only [List.mem_cons, List.not_mem_nil, or_false, forall_eq, List.getD_cons_zero, List.getD_cons_succ, kIs] at hd
        simp only [putD, List.getD_cons_zero, List.getD_cons_succ, Act.put, hd]
        go_simp
        exact ⟨_, rfl, Below.refl _ _, rfl⟩
      · intro us w1 hb _
        simp only [putD, Act.put]
        go_simp
        exact ⟨_, rfl, Below.refl _ _, rfl⟩
      · intro us w1 hb hd
        simp only [List.mem_cons, List.not_mem_nil, or_false, forall_eq, List.getD_cons_zero, List.getD_cons_succ, kIs] at hd
        simp only [putD, List.getD_cons_zero, List.getD_cons_succ, Act.put, hd]
        go_simp
        exact ⟨_, rfl, Below.refl _ _, rfl⟩
      · intro us w1 hb hd
        simp only [List.mem_cons, List.not_mem_nil, or_false, forall_eq_or_imp, forall_eq, List.getD_cons_zero, List.getD_cons_succ, kIs] at hd
        simp only [putD, List.getD_cons_zero, List.getD_cons_succ, Act.put, hd]
        go_simp
        exact ⟨_, rfl, (Below.refl _ _).alloc (Nat.le_refl _) _, _, _, _, rfl, heap_last rfl⟩
      · intro us w1 hb hd
        simp only [List.mem_cons, List.not_mem_nil, or_false, forall_eq, List.getD_cons_zero, List.getD_cons_succ, kPair] at hd
        simp only [putD, List.getD_cons_zero, List.getD_cons_succ, Act.put, hd]
        obtain ⟨gs, ts, fs, hv, hgs⟩ := hd
        rw [hv]
        go_simp
        refine (of_two _ _ (l.take 8) (l.drop 12) gs ts fs _ hgs (T8.out.below hb) (D12.out.below hb)).mono ?_
        rintro e w9 ⟨rfl, rfl⟩
        rw [HCR.out]
        exact ⟨_, rfl, Below.refl _ _, rfl⟩
      · intro us w1 hb hd
        simp only [List.mem_cons, List.not_mem_nil, or_false, forall_eq, List.getD_cons_zero, List.getD_cons_succ, kIs] at hd
        simp only [putD, List.getD_cons_zero, List.getD_cons_succ, Act.put, hd]
        go_simp
        exact ⟨_, rfl, Below.refl _ _, by simp only [kIs]; rw [HWR.out]⟩
      · intro us w1 hb hd
        simp only [List.mem_cons, List.not_mem_nil, or_false, forall_eq_or_imp, forall_eq, List.getD_cons_zero, List.getD_cons_succ, kIs] at hd
        simp only [putD, List.getD_cons_zero, List.getD_cons_succ, Act.put, hd]
        go_simp
        exact ⟨_, rfl, Below.refl _ _, by first | (simp only [kIs]; done) | (simp only [kIs]; rw [hcc])⟩
    intro us w1 hb hp
    have h8 := hp 8 (by simp)
    simp only [List.getD_cons_zero, List.getD_cons_succ, kIs] at h8
    rw [show List.range 9 = [0, 1, 2, 3, 4, 5, 6, 7, 8] from rfl]
    simp only [putD, List.getD_cons_zero, List.getD_cons_succ, Act.put, List.setIfInBounds_toArray, List.set_cons_zero, List.set_cons_succ, h8]
    clear hp h8
    clear HN HCR HSM HCQ HWR hcc hcl B8 T8 D12
    go_wp2_with fail
    refine (on_any _ l _ (HB.out.below hb) (by rw [HL.out]; decide)).mono ?_
    rintro e w2 ⟨g, rfl, hr2, hx2⟩
    have hw2 := below_step hb hx2
    have hg0 : w.heap.size ≤ g := by have := hr2.1; have := hb.size; omega
    have HR2 := Lib.hid hr2
    clear hb hx2 hr2
    go_wp2_with fail
    refine (rdInt_any _ g l 0 1 _ HR2.out (by decide)).mono ?_
    rintro e w3 ⟨rfl, hr3, hx3⟩
    obtain ⟨r1, r2, r3⟩ := rd_page HL.out 0 1 (by decide) (by decide) (by decide)
    have e1 : rdVal l 0 1 = fld l 0 1 := r1
    have e2 : rdAt l 0 1 = 1 := r2
    have e3 : rdCode l 0 1 = 0 := r3
    rw [e2] at hr3
    rw [e1, e3]
    have hw3 := below_grown hw2 hx3 hg0 hw2.size
    have HR3 := Lib.hid hr3
    clear r1 r2 r3 e1 e2 e3 hr3 hx3 hw2 HR2
    obtain ⟨kd, hkd⟩ : ∃ x, fld l 0 1 = x := ⟨_, rfl⟩
    have hkl : kd < 256 := by rw [← hkd]; exact fld_lt l 0 1
    rw [hkd]
    have HKD := Lib.hid hkd
    clear hkd
    go_wp2_with fail
    refine (zeros_any _ g l 1 1 _ HR3.out (by decide)).mono ?_
    rintro e w4 ⟨rfl, hr4, hx4⟩
    have hw4 := below_grown hw3 hx4 hg0 hw3.size
    obtain ⟨⟨zy, zn⟩, za⟩ := zr_page HL.out 1 1 (by decide)
    have hf1 := fld1_zero (l := l) 1 (by rw [HL.out]; decide)
    by_cases hz : fld l 1 1 = 0
    · have e1 : zrCode l 1 1 = 0 := zy (hf1.2 hz)
      have e2 : zrAt l 1 1 = 2 := by unfold zrAt; rw [show zrCode l 1 ((1 : Int)) = 0 from e1]; rfl
      rw [e2] at hr4
      rw [e1]
      have HZ := Lib.hid hz
      have HR4 := Lib.hid hr4
      clear zy zn za hf1 hz e1 e2 hr4 hx4 hw3 HR3
      go_wp2_with fail
      refine (rdInt_any _ g l 2 2 _ HR4.out (by decide)).mono ?_
      rintro e w5 ⟨rfl, hr5, hx5⟩
      obtain ⟨r1, r2, r3⟩ := rd_page HL.out 2 2 (by decide) (by decide) (by decide)
      have e1 : rdVal l 2 2 = fld l 2 2 := r1
      have e2 : rdAt l 2 2 = 4 := r2
      have e3 : rdCode l 2 2 = 0 := r3
      rw [e2] at hr5
      rw [e1, e3]
      have hw5 := below_grown hw4 hx5 hg0 hw4.size
      have HR5 := Lib.hid hr5
      clear r1 r2 r3 e1 e2 e3 hr5 hx5 hw4 HR4
      obtain ⟨n, hn⟩ : ∃ x, fld l 2 2 = x := ⟨_, rfl⟩
      have hnl : n < 65536 := by rw [← hn]; exact fld_lt l 2 2
      rw [hn]
      have HN := Lib.hid hn
      clear hn
      go_wp2_with fail
      refine (rdInt_any _ g l 4 4 _ HR5.out (by decide)).mono ?_
      rintro e w6 ⟨rfl, hr6, hx6⟩
      obtain ⟨r1, r2, r3⟩ := rd_page HL.out 4 4 (by decide) (by decide) (by decide)
      have e1 : rdVal l 4 4 = fld l 4 4 := r1
      have e2 : rdAt l 4 4 = 8 := r2
      have e3 : rdCode l 4 4 = 0 := r3
      rw [e2] at hr6
      rw [e1, e3]
      have hw6 := below_grown hw5 hx6 hg0 hw5.size
      have HR6 := Lib.hid hr6
      clear r1 r2 r3 e1 e2 e3 hr6 hx6 hw5 HR5
      obtain ⟨ow, how⟩ : ∃ x, fld l 4 4 = x := ⟨_, rfl⟩
      have hol : ow < 4294967296 := by rw [← how]; exact fld_lt l 4 4
      rw [how]
      have HOW := Lib.hid how
      clear how
      by_cases c1 : kd < 1
      · have HC := Lib.hid (pgForm_code hn1 HL.out HSC.out (fun h => by have := h.2.1; rw [HKD.out] at this; omega))
        go_wp2_with fail
        go_ret3
        exact pgOp_bad HC.out (by decide) _ _ _ rfl hw6
      by_cases c2 : 9 < kd
      · have HC := Lib.hid (pgForm_code hn1 HL.out HSC.out (fun h => by have := h.2.2.1; rw [HKD.out] at this; omega))
        go_wp2_with fail
        go_ret3
        exact pgOp_bad HC.out (by decide) _ _ _ rfl hw6
      by_cases c3 : 244 < n
      · have HC := Lib.hid (pgForm_code hn1 HL.out HSC.out (fun h => by have := h.2.2.2.1; rw [HN.out] at this; omega))
        go_wp2_with fail
        go_ret3
        exact pgOp_bad HC.out (by decide) _ _ _ rfl hw6
      by_cases c4 : ¬ (ow : Int) = no
      · have HC := Lib.hid (pgForm_code hn1 HL.out HSC.out (fun h => by have := h.2.2.2.2.1; rw [HOW.out] at this; omega))
        have hcm : ((ow : Int) != no) = true := by rw [bne_iff_ne]; exact c4
        clear c4
        go_wp2_with fail
        go_ret3
        exact pgOp_bad HC.out (by decide) _ _ _ rfl hw6
      have hcm : ((ow : Int) != no) = false := by rw [Decidable.not_not.1 c4]; simp
      have HNO := Lib.hid (Decidable.not_not.1 c4)
      clear c4
      have hn244 : n ≤ 244 := by omega
      have hk1 : 1 ≤ kd := by omega
      have hk9 : kd ≤ 9 := by omega
      have hgl6 : g < w6.heap.size := HR6.out.lt.2
      have t1 : nextCode 4 (l.length - 8) = 0 := by rw [HL.out]; rfl
      have t2 : tkAt l 8 4 = 12 := by unfold tkAt; rw [if_pos t1]; rfl
      have T2 := Lib.hid t2
      have t3 : nextCode (n : Int) (l.length - 12) = 0 := by rw [HL.out]; unfold nextCode; rw [if_neg (by omega), if_neg (by omega)]
      have T3 := Lib.hid t3
      have T4 := Lib.hid (show tkAt l 12 n = 12 + n by unfold tkAt; rw [if_pos t3, Int.toNat_natCast])
      have T5 := Lib.hid (show nextBytes l 12 n = (l.drop 12).take n by unfold nextBytes; rw [if_pos t3, Int.toNat_natCast])
      have T6 := Lib.hid (show ((l.drop 12).take n).length = n from fld_len l 12 n (by rw [HL.out]; omega))
      have hq : l.length - (12 + n) = 244 - n := by rw [HL.out]; omega
      obtain ⟨q, hqe⟩ : ∃ q, 244 - n = q := ⟨_, rfl⟩
      rw [hqe] at hq
      have HQ := Lib.hid hq
      have hq1 : 12 + n + q = 256 := by omega
      have HQE := Lib.hid hqe
      clear t1 t2 t3 c1 c2 c3 hq hqe
      go_wp2_with fail
      refine (take_any _ g l 8 4 _ HR6.out (by decide)).mono ?_
      rintro e w7 ⟨v7, rfl, -, hr7, hx7⟩
      rw [T2.out] at hr7
      have hw7 := below_grown hw6 hx7 hg0 hw6.size
      have HR7 := Lib.hid hr7
      have hgl7 : g < w7.heap.size := HR7.out.lt.2
      clear hr7 hx7 hw6 HR6
      go_wp2_with fail
      refine (take_any _ g l 12 n _ HR7.out (by omega)).mono ?_
      rintro e w8 ⟨v8, rfl, hown, hr8, hx8⟩
      rw [T4.out] at hr8
      rw [T5.out, T6.out] at hown
      rw [T3.out]
      have hw8 := below_grown hw7 hx8 hg0 hw7.size
      have hs7 := hw7.size
      have HR8 := Lib.hid hr8
      have HO8 := Lib.hid hown
      obtain ⟨Y, hY⟩ : ∃ y, (l.drop 12).take n = y := ⟨_, rfl⟩
      rw [hY] at HO8 T6
      have HY := Lib.hid hY
      clear hr8 hx8 hw7 HR7 hown hY T5
      go_wp2_with fail
      refine (left_any _ g l (12 + n) _ HR8.out).mono ?_
      rintro e w9 ⟨rfl, hx9⟩
      rw [HQ.out]
      have HR9 := Lib.hid (HR8.out.below hx9)
      have HO9 := Lib.hid (own_keep HO8.out hx9)
      have hw9 := below_step hw8 hx9
      clear hx9 hw8 HR8 HO8
      go_wp2_with fail
      refine (zeros_any _ g l (12 + n) (q : Nat) _ HR9.out (by omega)).mono ?_
      rintro e w10 ⟨rfl, -, hx10⟩
      have HO10 := Lib.hid (own_apart HO9.out hx10 (fun i j hi hj e => by have := (HO9.out.lt i hi).1; have := Option.some.inj hj; omega))
      have hw10 := below_grown hw9 hx10 hg0 hw9.size
      obtain ⟨⟨zy, zn⟩, -⟩ := zr_page HL.out (12 + n) q (by omega)
      have hdr : (l.drop (12 + n)).take q = l.drop (12 + n) := List.take_of_length_le (by rw [List.length_drop, HL.out]; omega)
      rw [hdr] at zy zn
      have ZY := Lib.hid zy
      have ZN := Lib.hid zn
      clear zy zn hx10 hw9 HR9 HO9 hdr
      by_cases hzz : l.drop (12 + n) = List.replicate q 0
      · rw [ZY.out hzz]
        have HP := Lib.hid (show pgOpen no l = 0 from pgOpen_mk (by omega) (by omega) HL.out HSC.out ⟨HZ.out, by rw [HKD.out]; exact hk1, by rw [HKD.out]; exact hk9, by rw [HN.out]; exact hn244, by rw [HOW.out]; exact HNO.out, by rw [HN.out, HQE.out]; exact hzz⟩)
        clear hzz
        go_wp2_with fail
        go_ret3
        refine ⟨v8, ?_, ?_, hw10⟩
        · rw [HP.out, pgKind, if_pos HP.out, HKD.out]; rfl
        · rw [pgBody, if_pos HP.out, HN.out, HY.out, T6.out]
          exact Joins.ownsRow_le HO10.out hs7
      · rw [ZN.out hzz]
        have HC := Lib.hid (pgForm_code hn1 HL.out HSC.out (fun h => by have := h.2.2.2.2.2; rw [HN.out, HQE.out] at this; exact hzz this))
        clear hzz
        go_wp2_with fail
        go_ret3
        exact pgOp_bad HC.out (by decide) _ _ _ rfl hw10
    · have e1 : zrCode l 1 1 = 4 := zn (fun h => hz (hf1.1 h))
      rw [e1]
      have HC := Lib.hid (pgForm_code hn1 HL.out HSC.out (fun h => hz h.1))
      obtain ⟨a4, ha4⟩ : ∃ x, zrAt l 1 1 = x := ⟨_, rfl⟩
      have hr4' : Reader w1.heap.size w4 g l a4 := by rw [← ha4]; exact hr4
      have HR4 := Lib.hid hr4'
      clear zy zn za hf1 hz e1 hr4 hr4' hx4 hw3 HR3 ha4
      go_wp2_with fail
      refine (rdInt_any _ g l a4 2 _ HR4.out (by decide)).mono ?_
      rintro e w5 ⟨rfl, hr5, hx5⟩
      have hw5 := below_grown hw4 hx5 hg0 hw4.size
      have HR5 := Lib.hid hr5
      clear hr5 hx5 hw4 HR4
      go_wp2_with fail
      refine (rdInt_any _ g l _ 4 _ HR5.out (by decide)).mono ?_
      rintro e w6 ⟨rfl, hr6, hx6⟩
      have hw6 := below_grown hw5 hx6 hg0 hw5.size
      clear hr6 hx6 hw5 HR5
      go_wp2_with fail
      go_ret3
      exact pgOp_bad HC.out (by decide) _ _ _ rfl hw6
  · have hcc : ((sm : Int) != (cr : Int)) = true := by rw [bne_iff_ne]; omega
    have HC := Lib.hid (show pgOpen no l = 5 by unfold pgOpen; rw [if_neg hn1, if_neg (by rw [HL.out]; decide), if_pos (by rw [HSM.out, HCQ.out]; exact h4)])
    clear h4
    go_enter Try.func31, Try.ntmps31
    go_wp2_with fail
    refine (leInt_any _ _ _ B8.out).mono ?_
    rintro e w' ⟨rfl, rfl⟩
    rw [HN.out]
    go_wp2_with fail
    refine region_each 9 [some 30, some 31, some 32, some 33, some 34, some 35, some 36, some 37, some 38] [[], [], [1], [], [3], [2, 4], [5], [6], [0, 7]]
      [kIs (.int .i64 (sm : Nat)), kIs (.slice (some ⟨b, o, none⟩) 256 cb), kIs (.slice (some ⟨b, o, none⟩) 8 cb), kIs (.slice (some ⟨b, o, none⟩) 256 cb), kIs (.slice (some ⟨b, o + 12, none⟩) 244 (cb - 12)), kPair (.slice (some ⟨b, o, none⟩) 8 cb) (.slice (some ⟨b, o + 12, none⟩) 244 (cb - 12)), kIs (.int .u32 (cr : Nat)), kIs (.int .i64 (cr : Nat)), kIs (.bool true)]
      (by kernel_rfl) (by kernel_rfl) (by kernel_rfl) (by kernel_rfl) ?_ ?_
    · simp only [obligsD]
      refine ⟨?_, ?_, ?_, ?_, ?_, ?_, ?_, ?_, ?_, trivial⟩
      · intro us w1 hb _
        simp only [putD, Act.put]
        go_simp
        exact ⟨_, rfl, Below.refl _ _, rfl⟩
      · intro us w1 hb _
        simp only [putD, Act.put]
        go_simp
        exact ⟨_, rfl, Below.refl _ _, rfl⟩
      · intro us w1 hb hd
        simp only [List.mem_cons, List.not_mem_nil, or_false, forall_eq, List.getD_cons_zero, List.getD_cons_succ, kIs] at hd
        simp only [putD, List.getD_cons_zero, List.getD_cons_succ, Act.put, hd]
        go_simp
        exact ⟨_, rfl, Below.refl _ _, rfl⟩
      · intro us w1 hb _
        simp only [putD, Act.put]
        go_simp
        exact ⟨_, rfl, Below.refl _ _, rfl⟩
      · intro us w1 hb hd
        simp only [List.mem_cons, List.not_mem_nil, or_false, forall_eq, List.getD_cons_zero, List.getD_cons_succ, kIs] at hd
        simp only [putD, List.getD_cons_zero, List.getD_cons_succ, Act.put, hd]
        go_simp
        exact ⟨_, rfl, Below.refl _ _, rfl⟩
      · intro us w1 hb hd
        simp only [List.mem_cons, List.not_mem_nil, or_false, forall_eq_or_imp, forall_eq, List.getD_cons_zero, List.getD_cons_succ, kIs] at hd
        simp only [putD, List.getD_cons_zero, List.getD_cons_succ, Act.put, hd]
        go_simp
        exact ⟨_, rfl, (Below.refl _ _).alloc (Nat.le_refl _) _, _, _, _, rfl, heap_last rfl⟩
      · intro us w1 hb hd
        simp only [List.mem_cons, List.not_mem_nil, or_false, forall_eq, List.getD_cons_zero, List.getD_cons_succ, kPair] at hd
        simp only [putD, List.getD_cons_zero, List.getD_cons_succ, Act.put, hd]
        obtain ⟨gs, ts, fs, hv, hgs⟩ := hd
        rw [hv]
        go_simp
        refine (of_two _ _ (l.take 8) (l.drop 12) gs ts fs _ hgs (T8.out.below hb) (D12.out.below hb)).mono ?_
        rintro e w9 ⟨rfl, rfl⟩
        rw [HCR.out]
        exact ⟨_, rfl, Below.refl _ _, rfl⟩
      · intro us w1 hb hd
        simp only [List.mem_cons, List.not_mem_nil, or_false, forall_eq, List.getD_cons_zero, List.getD_cons_succ, kIs] at hd
        simp only [putD, List.getD_cons_zero, List.getD_cons_succ, Act.put, hd]
        go_simp
        exact ⟨_, rfl, Below.refl _ _, by simp only [kIs]; rw [HWR.out]⟩
      · intro us w1 hb hd
        simp only [List.mem_cons, List.not_mem_nil, or_false, forall_eq_or_imp, forall_eq, List.getD_cons_zero, List.getD_cons_succ, kIs] at hd
        simp only [putD, List.getD_cons_zero, List.getD_cons_succ, Act.put, hd]
        go_simp
        exact ⟨_, rfl, Below.refl _ _, by first | (simp only [kIs]; done) | (simp only [kIs]; rw [hcc])⟩
    intro us w1 hb hp
    have h8 := hp 8 (by simp)
    simp only [List.getD_cons_zero, List.getD_cons_succ, kIs] at h8
    rw [show List.range 9 = [0, 1, 2, 3, 4, 5, 6, 7, 8] from rfl]
    simp only [putD, List.getD_cons_zero, List.getD_cons_succ, Act.put, List.setIfInBounds_toArray, List.set_cons_zero, List.set_cons_succ, h8]
    clear hp h8
    go_wp2_with fail
    go_ret3
    exact pgOp_bad HC.out (by decide) _ _ _ rfl hb
end Go.Proofs.Ytdekfbmjhmfmaaa
