/- The walk of the law PastPacks. -/
import Derived.Test.YtdofdegicdkhlaaPkC
import Derived.Test.YtdofdegicdkhlaaPastJ
import Derived.Test.YtdofdegicdkhlaaLent
namespace Go.Proofs.Ytdofdegicdkhlaa
open Go.RowKit Go.Oct

set_option maxRecDepth 100000 in
set_option maxHeartbeats 4000000 in
theorem pastPacks_walk (v : Value) (l : List Ver) (vb : Value) (b : List UInt8) (w : World) (hV : Vers w v l) (hl0 : l.length ≤ 8796093021952) (hB : Bytes w vb b) (hb0 : b.length ≤ 140737488351232) :
    Calls Try.prog 14 #[v, vb] w fun e w' => e = .returned (.bool true) ∧ Below w.heap.size w w' := by
  obtain ⟨av, cv, rfl, -, hmv, -⟩ := Vers.open hV
  obtain ⟨ab, cb, rfl, -, hmb, -⟩ := hB.open
  unfold maxLen at hmv hmb
  have HV := Lib.hid hV
  have HB := Lib.hid hB
  obtain ⟨P, hP⟩ : ∃ P, verPack l = P := ⟨_, rfl⟩
  obtain ⟨K, hK⟩ : ∃ K, verCode l = K := ⟨_, rfl⟩
  have hPl : P.length ≤ 129 := by
    rw [← hP]
    by_cases hM : listMay l
    · rw [verPack_len hM]; have := hM.2.1; omega
    · rw [verPack, if_neg hM]; simp
  have HP := Lib.hid hP
  have HK := Lib.hid hK
  obtain ⟨O, hO⟩ : ∃ O, verOpen b = O := ⟨_, rfl⟩
  obtain ⟨M, hM⟩ : ∃ M, verOf b = M := ⟨_, rfl⟩
  have HO := Lib.hid hO
  have HM := Lib.hid hM
  clear hV hB hP hK hO hM
  go_enter Try.func14, Try.ntmps14
  go_wp2_with fail
  refine (lent17_any _ l 0 _ HV.out (by omega)).mono ?_
  rintro e w1 ⟨v1, rfl, hl1, hw1⟩
  obtain ⟨g1, c1, rfl⟩ : ∃ g c, v1 = .slice (some ⟨g, 0, none⟩) l.length c := by obtain ⟨g, cp, h, _⟩ := hl1; exact ⟨g, cp, h⟩
  have HL1 := Lib.hid (hl1.below ((Below.refl _ _).alloc (Nat.le_refl _) (pastBox (.slice (some ⟨g1, 0, none⟩) l.length c1) 0)))
  have hbx := heap_last (w := w1) (o := pastBox (.slice (some ⟨g1, 0, none⟩) l.length c1) 0) rfl
  have hw2 := below_new hw1 (pastBox (.slice (some ⟨g1, 0, none⟩) l.length c1) 0)
  have HX1 := Lib.hid hbx
  clear hl1 hbx
  go_wp2_with fail
  refine (pastPack_any _ l _ HL1.out.vers).mono ?_
  rintro e w3 ⟨v3, rfl, hown, hx⟩
  rw [HP.out] at hown
  rw [HK.out]
  have HV3 := Lib.hid (show Bytes w3 v3 P from Bytes.own hown)
  have HL3 := Lib.hid (HL1.out.below hx)
  have HX3 := Lib.hid (box_below HX1.out hx)
  have hw3 := hw2.trans (hx.mono hw2.size)
  obtain ⟨a3, c3, rfl⟩ : ∃ a c, v3 = .slice a P.length c := by obtain ⟨a, c, h, _⟩ := HV3.out.open; exact ⟨a, c, h⟩
  obtain ⟨pb, hpb⟩ : ∃ p, p = w1.heap.size := ⟨_, rfl⟩
  rw [← hpb] at HX3 ⊢
  clear hx hown hw2 HL1 HX1 hpb
  go_wp2_with fail
  refine (refPack17_any _ l _ (HV.out.below hw3)).mono ?_
  rintro e w4 ⟨v4, rfl, hown, hx⟩
  rw [HP.out] at hown
  rw [HK.out]
  have HV4 := Lib.hid (show Bytes w4 v4 P from Bytes.own hown)
  have HV34 := Lib.hid (HV3.out.below hx)
  have HL4 := Lib.hid (HL3.out.below hx)
  have HX4 := Lib.hid (box_below HX3.out hx)
  have hw4 := below_step hw3 hx
  clear hx hown hw3 HL3 HX3 HV3
  go_wp2_with fail
  refine (awake17_any _).mono ?_
  rintro e w5 ⟨rfl, hx⟩
  have HV5 := Lib.hid (HV4.out.below hx)
  have HV35 := Lib.hid (HV34.out.below hx)
  have HL5 := Lib.hid (HL4.out.below hx)
  have HX5 := Lib.hid (box_below HX4.out hx)
  have hw5 := below_step hw4 hx
  clear hx hw4 HL4 HX4 HV4 HV34
  go_wp2_with fail
  refine (same_yes _ _ P _ HV35.out HV5.out).mono ?_
  rintro e w6 ⟨rfl, hx⟩
  have HV6 := Lib.hid (HV35.out.below hx)
  have HL6 := Lib.hid (HL5.out.below hx)
  have HX6 := Lib.hid (box_below HX5.out hx)
  have hw6 := below_step hw5 hx
  obtain ⟨y0, y1⟩ := pastBox_cells HX6.out
  clear hx hw5 HL5 HX5 HV5 HV35
  go_wp2_with fail
  refine (kept17_any _ _ _ l 0 _ HL6.out (HV.out.below hw6) (by omega)).mono ?_
  rintro e w7 ⟨rfl, hx⟩
  have HV7 := Lib.hid (HV6.out.below hx)
  have hw7 := below_step hw6 hx
  clear hx hw6 HL6 HX6 HV6 y0 y1
  by_cases hK0 : K = 0
  · have hL : listMay l := by
      apply Classical.byContradiction
      intro h
      have := HK.out
      rw [verCode, if_neg h] at this
      omega
    obtain ⟨-, -, b3, b4⟩ := ver_back hL
    rw [HP.out] at b3 b4
    have B3 := Lib.hid b3
    have B4 := Lib.hid b4
    subst hK0
    clear hL b3 b4
    go_wp2_with fail
    refine (pastOpen_any _ P _ HV7.out (by omega)).mono ?_
    rintro e w8 ⟨v8, rfl, hv8, hx⟩
    rw [B4.out] at hv8
    rw [B3.out]
    have HV8 := Lib.hid hv8
    have hw8 := below_step hw7 hx
    clear hx hv8 hw7 HV7
    go_wp2_with fail
    refine (same17_yes _ _ l _ HV8.out (HV.out.below hw8)).mono ?_
    rintro e w9 ⟨rfl, hx⟩
    have hw9 := below_step hw8 hx
    clear hx hw8 HV8
    go_wp2_with fail
    refine (lent_any _ b _ (HB.out.below hw9) (by omega)).mono ?_
    rintro e wl ⟨vl, rfl, hll, hx⟩
    have HLL := Lib.hid hll
    have hwl := below_step hw9 hx
    clear hx hll hw9
    go_wp2_with fail
    refine (pastOpen_any _ b _ HLL.out.bytes (by omega)).mono ?_
    rintro e wm ⟨vm, rfl, hvm, hx⟩
    rw [HM.out] at hvm
    rw [HO.out]
    have HVM := Lib.hid hvm
    have HLM := Lib.hid (HLL.out.below hx)
    have hwm := below_step hwl hx
    clear hx hvm hwl HLL
    go_wp2_with fail
    refine (refOpen17_any _ b _ (HB.out.below hwm) (by omega)).mono ?_
    rintro e wn ⟨vn, rfl, hvn, hx⟩
    rw [HM.out] at hvn
    rw [HO.out]
    have HVN := Lib.hid hvn
    have HVM2 := Lib.hid (Vers.below HVM.out hx)
    have HLN := Lib.hid (HLM.out.below hx)
    have hwn := below_step hwm hx
    clear hx hvn hwm HLM HVM
    go_wp2_with fail
    refine (same17_yes _ _ M _ HVM2.out HVN.out).mono ?_
    rintro e wp ⟨rfl, hx⟩
    have HLP := Lib.hid (HLN.out.below hx)
    have hwp := below_step hwn hx
    clear hx hwn HLN HVM2 HVN
    go_wp2_with fail
    refine (kept_any _ _ _ b _ HLP.out (HB.out.below hwp) (by omega)).mono ?_
    rintro e wq ⟨rfl, hx⟩
    go_wp2_with fail
    go_ret
    exact ⟨by simp, below_step hwp hx⟩
  · have hKb : ((K : Int) == 0) = false := by rw [beq_eq_false_iff_ne]; omega
    clear hK0 HV7
    go_wp2_with fail
    refine (lent_any _ b _ (HB.out.below hw7) (by omega)).mono ?_
    rintro e wl ⟨vl, rfl, hll, hx⟩
    have HLL := Lib.hid hll
    have hwl := below_step hw7 hx
    clear hx hll hw7
    go_wp2_with fail
    refine (pastOpen_any _ b _ HLL.out.bytes (by omega)).mono ?_
    rintro e wm ⟨vm, rfl, hvm, hx⟩
    rw [HM.out] at hvm
    rw [HO.out]
    have HVM := Lib.hid hvm
    have HLM := Lib.hid (HLL.out.below hx)
    have hwm := below_step hwl hx
    clear hx hvm hwl HLL
    go_wp2_with fail
    refine (refOpen17_any _ b _ (HB.out.below hwm) (by omega)).mono ?_
    rintro e wn ⟨vn, rfl, hvn, hx⟩
    rw [HM.out] at hvn
    rw [HO.out]
    have HVN := Lib.hid hvn
    have HVM2 := Lib.hid (Vers.below HVM.out hx)
    have HLN := Lib.hid (HLM.out.below hx)
    have hwn := below_step hwm hx
    clear hx hvn hwm HLM HVM
    go_wp2_with fail
    refine (same17_yes _ _ M _ HVM2.out HVN.out).mono ?_
    rintro e wp ⟨rfl, hx⟩
    have HLP := Lib.hid (HLN.out.below hx)
    have hwp := below_step hwn hx
    clear hx hwn HLN HVM2 HVN
    go_wp2_with fail
    refine (kept_any _ _ _ b _ HLP.out (HB.out.below hwp) (by omega)).mono ?_
    rintro e wq ⟨rfl, hx⟩
    go_wp2_with fail
    go_ret
    exact ⟨by simp, below_step hwp hx⟩
end Go.Proofs.Ytdofdegicdkhlaa
