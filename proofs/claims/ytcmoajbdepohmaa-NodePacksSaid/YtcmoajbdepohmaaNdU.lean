/- The walk of the law NodeBack (printed by wip/ndu_gen.py). -/
import Derived.Test.YtcmoajbdepohmaaNdS
import Derived.Test.YtcmoajbdepohmaaNdL
import Derived.Test.YtcmoajbdepohmaaNbPlain
import Derived.Test.YtcmoajbdepohmaaSame
namespace Go.Proofs.Ytcmoajbdepohmaa
open Go.RowKit Go.Oct
theorem ndMay_le {leaf : Bool} {es ks : List Quad} (h : ndMay leaf es ks) : es.length ≤ 12 ∧ ks.length ≤ 12 := by
  rcases h with h | h
  · obtain ⟨_, rfl, _, _, h2, _⟩ := h; exact ⟨h2, by simp⟩
  · obtain ⟨_, rfl, _, _, h2, _⟩ := h; exact ⟨by simp, h2⟩
theorem box_new_below {w w1 : World} {o : Obj} (k : Below (w.alloc o).heap.size (w.alloc o) w1) : w1.heap[w.heap.size]? = some o := box_below (heap_last rfl) k
set_option maxRecDepth 100000 in
set_option maxHeartbeats 8000000 in
theorem nodeBack_walk (leaf : Bool) (ve vk : Value) (es ks : List Quad) (kind : Int) (vb : Value) (b : List UInt8) (w : World) (He : Quads w ve es) (Hk : Quads w vk ks) (le : es.length ≤ 4398046511104) (lk : ks.length ≤ 4398046511104) (_wk : (Lit.int .i64 kind).wf = true) (hB : Bytes w vb b) (hb0 : b.length ≤ 140737488351232) :
    Calls Try.prog 13 #[.agg #[.bool leaf, ve, vk], .int .i64 kind, vb] w fun e w' => e = .returned (.bool true) ∧ Below w.heap.size w w' := by
  obtain ⟨ab, cb, rfl, -, hmb, -⟩ := hB.open
  obtain ⟨na, nc, rfl⟩ := He.form
  obtain ⟨ma, mc, rfl⟩ := Hk.form
  unfold maxLen at hmb
  have HB := Lib.hid hB
  have HE := Lib.hid He
  have HK := Lib.hid Hk
  have HOP := Lib.hid (Decidable.em (ndOpens kind b))
  have hw0 := below_new (Below.refl _ w) (ndBox leaf (.slice na es.length nc) (.slice ma ks.length mc))
  have HX0 := Lib.hid (show (w.alloc (ndBox leaf (.slice na es.length nc) (.slice ma ks.length mc))).heap[w.heap.size]? = some (ndBox leaf (.slice na es.length nc) (.slice ma ks.length mc)) from heap_last rfl)
  clear hB He Hk _wk
  by_cases hM : ndMay leaf es ks
  · obtain ⟨b1, b2, b3, b4, b5, b6⟩ := nd_back hM
    obtain ⟨l1, l2⟩ := ndMay_le hM
    have hk12 : ndKind leaf es ks = 1 ∨ ndKind leaf es ks = 2 := by rw [ndKind, if_pos hM]; split <;> simp
    obtain ⟨K, hK⟩ : ∃ y, ndKind leaf es ks = y := ⟨_, rfl⟩
    obtain ⟨P, hP⟩ : ∃ y, ndPack leaf es ks = y := ⟨_, rfl⟩
    rw [hK, hP] at b1 b2 b3 b4 b5
    rw [hP] at b6
    rw [hK] at hk12
    have HKK := Lib.hid hK
    have HP := Lib.hid hP
    have HC := Lib.hid (show ndCode leaf es ks = 0 by rw [ndCode, if_pos hM])
    have B1 := Lib.hid b1
    have B2 := Lib.hid b2
    have B3 := Lib.hid b3
    have B4 := Lib.hid b4
    have B5 := Lib.hid b5
    have hP2 : (P.length : Int) ≤ 244 := by omega
    have hK0 : (0 : Int) ≤ (K : Int) := by omega
    have hK2 : (K : Int) ≤ 2 := by omega
    clear hK hP b1 b2 b3 b4 b5 hM hk12
    go_enter Try.func13, Try.ntmps13
    go_wp2_with fail
    refine (awake13_any _).mono ?_
    rintro e w1 ⟨rfl, hx⟩
    have hw1 := below_step hw0 hx
    have HX1 := Lib.hid (box_below HX0.out hx)
    obtain ⟨y0, y1, y2⟩ := ndBox_cells HX1.out
    clear hx hw0 HX0
    go_wp2_with fail
    refine (nodePack_any leaf _ _ es ks _ (Has.below HE.out hw1) (Has.below HK.out hw1) le lk).mono ?_
    rintro e w2 ⟨v2, rfl, hown, hx⟩
    rw [HKK.out, HC.out]
    rw [HP.out] at hown
    have HV2 := Lib.hid (show Bytes w2 v2 P from Bytes.own hown)
    have hw2 := below_step hw1 hx
    have HX2 := Lib.hid (box_below HX1.out hx)
    obtain ⟨va, vc, rfl⟩ : ∃ a c, v2 = .slice a P.length c := by obtain ⟨a, c, h, _⟩ := HV2.out; exact ⟨_, _, h⟩
    clear hx hown hw1 HX1 y0 y1 y2
    go_wp2_with fail
    refine (nodeOpen_any (K : Int) _ P _ HV2.out (by omega)).mono ?_
    rintro e w3 ⟨pe, pk, rfl, hqe, hqk, hx⟩
    rw [B1.out, B2.out]
    rw [B3.out] at hqe
    rw [B4.out] at hqk
    obtain ⟨pa, pc, rfl⟩ := hqe.form
    obtain ⟨qa, qc, rfl⟩ := hqk.form
    have HPE := Lib.hid hqe
    have HPK := Lib.hid hqk
    have HV3 := Lib.hid (HV2.out.below hx)
    have HX3 := Lib.hid (box_below HX2.out hx)
    have hw3 := below_step hw2 hx
    clear hqe hqk hx hw2 HV2 HX2
    go_wp2_with fail
    refine (nodeOpen_any (3 - (K : Int)) _ P _ (HV3.out.alloc _) (by omega)).mono ?_
    rintro e w4 ⟨ue, uk, rfl, hqe, hqk, hx⟩
    rw [B5.out]
    obtain ⟨ra, rc, rfl⟩ := hqe.form
    obtain ⟨sa, sc, rfl⟩ := hqk.form
    obtain ⟨l3, hl3⟩ : ∃ y, (noEs (3 - (K : Int)) P).length = y := ⟨_, rfl⟩
    obtain ⟨l4, hl4⟩ : ∃ y, (noKs (3 - (K : Int)) P).length = y := ⟨_, rfl⟩
    obtain ⟨f5, hf5⟩ : ∃ y, noLeaf (3 - (K : Int)) P = y := ⟨_, rfl⟩
    rw [hl3, hl4, hf5]
    have HX4 := Lib.hid (box_below (heap_keep HX3.out _) hx)
    have HY4 := Lib.hid (show w4.heap[w3.heap.size]? = some (ndBox leaf (.slice pa es.length pc) (.slice qa ks.length qc)) from box_new_below hx)
    have HPE4 := Lib.hid (Has.below (HPE.out.alloc _) hx)
    have HPK4 := Lib.hid (Has.below (HPK.out.alloc _) hx)
    have hw4 := below_step (below_new hw3 (ndBox leaf (.slice pa es.length pc) (.slice qa ks.length qc))) hx
    have hz4 : w3.heap.size < w4.heap.size := (Array.getElem?_eq_some_iff.1 HY4.out).1
    obtain ⟨n10, hn10⟩ : ∃ x, x = w3.heap.size := ⟨_, rfl⟩
    rw [← hn10] at HY4 hz4 ⊢
    clear hqe hqk hx hw3 HV3 HX3 HPE HPK hl3 hl4 hf5 hn10
    obtain ⟨y0, y1, y2⟩ := ndBox_cells HX4.out
    obtain ⟨z0, z1, z2⟩ := ndBox_cells HY4.out
    have hz5 := (Array.getElem?_eq_some_iff.1 HX4.out).1
    go_wp2_with fail
    have hw5 := below_new hw4 (.cells #[.bool f5, .slice ra l3 rc, .slice sa l4 sc] 56)
    refine (same13_yes leaf _ _ _ _ es ks _ (HPE4.out.alloc _) (HPK4.out.alloc _) (Has.below HE.out hw5) (Has.below HK.out hw5) le lk).mono ?_
    rintro e w6 ⟨rfl, hx⟩
    have hw6 := below_step hw5 hx
    clear hx hw5 hw4 HX4 HY4 HPE4 HPK4 hz4 y0 y1 y2 z0 z1 z2 hz5
    go_wp2_with fail
    refine (nodeOpen_any kind _ b _ (HB.out.below hw6) (by omega)).mono ?_
    rintro e wp ⟨pe, pk, rfl, hqe, hqk, hx⟩
    obtain ⟨pa, pc, rfl⟩ := hqe.form
    obtain ⟨qa, qc, rfl⟩ := hqk.form
    have hwp := below_step hw6 hx
    have HPE := Lib.hid hqe
    have HPK := Lib.hid hqk
    clear hqe hqk hx hw6
    rcases HOP.out with hop | hop
    · obtain ⟨f1, f2, f3⟩ := nd_forth hop
      obtain ⟨LF, hLF⟩ : ∃ y, noLeaf kind b = y := ⟨_, rfl⟩
      obtain ⟨ES, hES⟩ : ∃ y, noEs kind b = y := ⟨_, rfl⟩
      obtain ⟨KS, hKS⟩ : ∃ y, noKs kind b = y := ⟨_, rfl⟩
      have hpe := HPE.out
      have hpk := HPK.out
      rw [hLF, hES, hKS] at f1 f2 f3
      rw [hES] at hpe
      rw [hKS] at hpk
      obtain ⟨l1, l2⟩ := ndMay_le f1
      have hC : noCode kind b = 0 := by rw [noCode, if_pos hop]
      have HFE := Lib.hid hpe
      have HFK := Lib.hid hpk
      have HF1 := Lib.hid (decide_eq_true f1)
      have HF2 := Lib.hid f2
      have HF3 := Lib.hid f3
      have HF4 := Lib.hid (show ndCode LF ES KS = 0 by rw [ndCode, if_pos f1])
      rw [hC, hLF, hES, hKS]
      clear f1 f2 f3 hpe hpk hLF hES hKS hC hop HPE HPK
      go_wp2_with fail
      refine (nodePack_any LF _ _ ES KS _ (HFE.out.alloc _) (HFK.out.alloc _) (by omega) (by omega)).mono ?_
      rintro e wq ⟨vq, rfl, hown, hx⟩
      rw [HF2.out, HF4.out]
      rw [HF3.out] at hown
      have HQ := Lib.hid (show Bytes wq vq b from Bytes.own hown)
      have hwq := below_step (below_new hwp (ndBox LF (.slice pa ES.length pc) (.slice qa KS.length qc))) hx
      have HXq := Lib.hid (show wq.heap[wp.heap.size]? = some (ndBox LF (.slice pa ES.length pc) (.slice qa KS.length qc)) from box_new_below hx)
      have HFE2 := Lib.hid (Has.below (HFE.out.alloc _) hx)
      have HFK2 := Lib.hid (Has.below (HFK.out.alloc _) hx)
      have hz : wp.heap.size < wq.heap.size := (Array.getElem?_eq_some_iff.1 HXq.out).1
      obtain ⟨n14, hn14⟩ : ∃ x, x = wp.heap.size := ⟨_, rfl⟩
      rw [← hn14] at HXq hz ⊢
      clear hx hown hwp HFE HFK hn14
      go_wp2_with fail
      refine (same_yes _ _ b _ HQ.out (HB.out.below hwq)).mono ?_
      rintro e wr ⟨rfl, hx⟩
      have HXr := Lib.hid (box_below HXq.out hx)
      have HFE3 := Lib.hid (Has.below HFE2.out hx)
      have HFK3 := Lib.hid (Has.below HFK2.out hx)
      have hwr := below_step hwq hx
      obtain ⟨y0, y1, y2⟩ := ndBox_cells HXr.out
      clear hx hwq HXq HFE2 HFK2 HQ
      go_wp2_with fail
      refine (nodeMay_any LF _ _ ES KS _ HFE3.out HFK3.out (by omega) (by omega)).mono ?_
      rintro e ws ⟨rfl, hx⟩
      rw [HF1.out]
      go_wp2_with fail
      go_ret
      exact ⟨by simp, below_step hwr hx⟩
    · have hC : noCode kind b = 4 := by rw [noCode, if_neg hop]
      have hLF : noLeaf kind b = false := by rw [noLeaf, if_neg hop]
      have hES : noEs kind b = [] := by rw [noEs, if_neg hop]
      have hKS : noKs kind b = [] := by rw [noKs, if_neg hop]
      rw [hC, hLF, hES, hKS]
      clear hC hLF hES hKS hop HPE HPK
      go_wp2_with fail
      go_ret
      exact ⟨by simp, below_new hwp _⟩
  · have HKD := Lib.hid (show ndKind leaf es ks = 0 by rw [ndKind, if_neg hM])
    have HC := Lib.hid (show ndCode leaf es ks = 1 by rw [ndCode, if_neg hM])
    clear hM
    go_enter Try.func13, Try.ntmps13
    go_wp2_with fail
    refine (awake13_any _).mono ?_
    rintro e w1 ⟨rfl, hx⟩
    have hw1 := below_step hw0 hx
    have HX1 := Lib.hid (box_below HX0.out hx)
    obtain ⟨y0, y1, y2⟩ := ndBox_cells HX1.out
    clear hx hw0 HX0
    go_wp2_with fail
    refine (nodePack_any leaf _ _ es ks _ (Has.below HE.out hw1) (Has.below HK.out hw1) le lk).mono ?_
    rintro e w2 ⟨v2, rfl, hown, hx⟩
    rw [HKD.out, HC.out]
    have hw2 := below_step hw1 hx
    clear hx hown hw1 HX1 y0 y1 y2
    go_wp2_with fail
    refine (nodeOpen_any kind _ b _ (HB.out.below hw2) (by omega)).mono ?_
    rintro e wp ⟨pe, pk, rfl, hqe, hqk, hx⟩
    obtain ⟨pa, pc, rfl⟩ := hqe.form
    obtain ⟨qa, qc, rfl⟩ := hqk.form
    have hwp := below_step hw2 hx
    have HPE := Lib.hid hqe
    have HPK := Lib.hid hqk
    clear hqe hqk hx hw2
    rcases HOP.out with hop | hop
    · obtain ⟨f1, f2, f3⟩ := nd_forth hop
      obtain ⟨LF, hLF⟩ : ∃ y, noLeaf kind b = y := ⟨_, rfl⟩
      obtain ⟨ES, hES⟩ : ∃ y, noEs kind b = y := ⟨_, rfl⟩
      obtain ⟨KS, hKS⟩ : ∃ y, noKs kind b = y := ⟨_, rfl⟩
      have hpe := HPE.out
      have hpk := HPK.out
      rw [hLF, hES, hKS] at f1 f2 f3
      rw [hES] at hpe
      rw [hKS] at hpk
      obtain ⟨l1, l2⟩ := ndMay_le f1
      have hC : noCode kind b = 0 := by rw [noCode, if_pos hop]
      have HFE := Lib.hid hpe
      have HFK := Lib.hid hpk
      have HF1 := Lib.hid (decide_eq_true f1)
      have HF2 := Lib.hid f2
      have HF3 := Lib.hid f3
      have HF4 := Lib.hid (show ndCode LF ES KS = 0 by rw [ndCode, if_pos f1])
      rw [hC, hLF, hES, hKS]
      clear f1 f2 f3 hpe hpk hLF hES hKS hC hop HPE HPK
      go_wp2_with fail
      refine (nodePack_any LF _ _ ES KS _ (HFE.out.alloc _) (HFK.out.alloc _) (by omega) (by omega)).mono ?_
      rintro e wq ⟨vq, rfl, hown, hx⟩
      rw [HF2.out, HF4.out]
      rw [HF3.out] at hown
      have HQ := Lib.hid (show Bytes wq vq b from Bytes.own hown)
      have hwq := below_step (below_new hwp (ndBox LF (.slice pa ES.length pc) (.slice qa KS.length qc))) hx
      have HXq := Lib.hid (show wq.heap[wp.heap.size]? = some (ndBox LF (.slice pa ES.length pc) (.slice qa KS.length qc)) from box_new_below hx)
      have HFE2 := Lib.hid (Has.below (HFE.out.alloc _) hx)
      have HFK2 := Lib.hid (Has.below (HFK.out.alloc _) hx)
      have hz : wp.heap.size < wq.heap.size := (Array.getElem?_eq_some_iff.1 HXq.out).1
      obtain ⟨n14, hn14⟩ : ∃ x, x = wp.heap.size := ⟨_, rfl⟩
      rw [← hn14] at HXq hz ⊢
      clear hx hown hwp HFE HFK hn14
      go_wp2_with fail
      refine (same_yes _ _ b _ HQ.out (HB.out.below hwq)).mono ?_
      rintro e wr ⟨rfl, hx⟩
      have HXr := Lib.hid (box_below HXq.out hx)
      have HFE3 := Lib.hid (Has.below HFE2.out hx)
      have HFK3 := Lib.hid (Has.below HFK2.out hx)
      have hwr := below_step hwq hx
      obtain ⟨y0, y1, y2⟩ := ndBox_cells HXr.out
      clear hx hwq HXq HFE2 HFK2 HQ
      go_wp2_with fail
      refine (nodeMay_any LF _ _ ES KS _ HFE3.out HFK3.out (by omega) (by omega)).mono ?_
      rintro e ws ⟨rfl, hx⟩
      rw [HF1.out]
      go_wp2_with fail
      go_ret
      exact ⟨by simp, below_step hwr hx⟩
    · have hC : noCode kind b = 4 := by rw [noCode, if_neg hop]
      have hLF : noLeaf kind b = false := by rw [noLeaf, if_neg hop]
      have hES : noEs kind b = [] := by rw [noEs, if_neg hop]
      have hKS : noKs kind b = [] := by rw [noKs, if_neg hop]
      rw [hC, hLF, hES, hKS]
      clear hC hLF hES hKS hop HPE HPK
      go_wp2_with fail
      go_ret
      exact ⟨by simp, below_new hwp _⟩
end Go.Proofs.Ytcmoajbdepohmaa
