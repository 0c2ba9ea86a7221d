/- Layer 13: octavoref13.May of an inner node (printed by wip/ndn_gen.py). -/
import Derived.Test.YtcmoajbdepohmaaNdC
import Derived.Test.YtcmoajbdepohmaaNdF
namespace Go.Oct
theorem ndMay_inner_iff {ks : List Quad} (h : ∀ x ∈ ks, kidMay x) (h1 : 2 ≤ ks.length) (h2 : ks.length ≤ 12) : ndMay false [] ks ↔ sumOf bytesOfKid ks ≤ 1048576 ∧ sumOf scrapsOfKid ks ≤ 1024 := by
  constructor
  · rintro (h | h)
    · exact absurd h.1 (by decide)
    · exact h.2.2.2.2.2
  · intro hs
    exact .inr ⟨rfl, rfl, h, h1, h2, hs⟩
end Go.Oct
namespace Go.Proofs.Ytcmoajbdepohmaa
open Go.RowKit Go.Oct
set_option maxRecDepth 100000 in
set_option maxHeartbeats 8000000 in
theorem refMay_inner (ve vk : Value) (es ks : List Quad) (w : World) (He : Quads w ve es) (Hk : Quads w vk ks) :
    Calls Try.prog 32 #[.agg #[.bool false, ve, vk]] w fun e w' => e = .returned (.bool (decide (ndMay false es ks))) ∧ Below w.heap.size w w' := by
  obtain ⟨ak, ck, rfl, hk1, hk2, -⟩ := He.open
  obtain ⟨a, cap, rfl, hc1, hc2, hcs⟩ := Hk.open
  unfold maxLen at hc2 hk2
  have HCS := Lib.hid hcs
  clear hcs He Hk
  by_cases g1 : 0 < es.length
  · rw [show decide (ndMay false es ks) = false from decide_eq_false (by
      rintro (h | h)
      · exact absurd h.1 (by decide)
      · rw [h.2.1] at g1; simp at g1)]
    go_enter Try.func32, Try.ntmps32
    go_wp2_with fail
    go_ret
    exact ⟨rfl, below_new (Below.refl _ _) _⟩
  obtain rfl : es = [] := List.eq_nil_of_length_eq_zero (by omega)
  simp only [List.length_nil] at *
  clear g1
  by_cases g2 : (ks.length : Int) < 2
  · rw [show decide (ndMay false [] ks) = false from decide_eq_false (by
      rintro (h | h)
      · exact absurd h.1 (by decide)
      · have := h.2.2.2.1; omega)]
    go_enter Try.func32, Try.ntmps32
    go_wp2_with fail
    go_ret
    exact ⟨rfl, below_new (Below.refl _ _) _⟩
  by_cases g3 : (12 : Int) < (ks.length : Int)
  · rw [show decide (ndMay false [] ks) = false from decide_eq_false (by
      rintro (h | h)
      · exact absurd h.1 (by decide)
      · have := h.2.2.2.2.1; omega)]
    go_enter Try.func32, Try.ntmps32
    go_wp2_with fail
    go_ret
    exact ⟨rfl, below_new (Below.refl _ _) _⟩
  have g4 : (2 : Int) ≤ (ks.length : Int) := by omega
  have g5 : (ks.length : Int) ≤ 12 := by omega
  have g6 : decide ((ks.length : Int) < 2) = false := decide_eq_false g2
  have g7 : decide ((12 : Int) < (ks.length : Int)) = false := decide_eq_false g3
  clear g2 g3
  obtain ⟨b, o, rfl, hbl, hcell⟩ := HCS.out (by omega)
  have HCL := Lib.hid hcell
  clear HCS hcell
  go_enter Try.func32, Try.ntmps32
  have HB0 := Lib.hid (show (w.alloc (ndBox false (.slice ak 0 ck) (.slice (some ⟨b, o, none⟩) ks.length cap))).heap[w.heap.size]? = some (ndBox false (.slice ak 0 ck) (.slice (some ⟨b, o, none⟩) ks.length cap)) from heap_last rfl)
  go_wp2_with fail
  clear g6 g7
  go_loopw [3, 7, 8] (fun s c i wr => ∃ k : Nat, k ≤ ks.length ∧ i = .int .i64 k ∧ s = .int .i64 (sumOf bytesOfKid (ks.take k)) ∧ c = .int .i64 (sumOf scrapsOfKid (ks.take k)) ∧ (∀ x ∈ ks.take k, kidMay x) ∧ wr.heap[w.heap.size]? = some (ndBox false (.slice ak 0 ck) (.slice (some ⟨b, o, none⟩) ks.length cap)) ∧ Below w.heap.size w wr) (fun _ _ i _ => ks.length - (intOf i).toNat)
  case atStart => exact ⟨0, Nat.zero_le _, rfl, rfl, rfl, by simp, HB0.out, below_new (Below.refl _ _) _⟩
  case round =>
    clear HB0
    obtain ⟨k, hk, rfl, rfl, rfl, hall, hbx, hbl2⟩ := hrel
    obtain ⟨b0, b1, b2⟩ := ndBox_cells hbx
    have hnl := (Array.getElem?_eq_some_iff.1 hbx).1
    have hlk : (ks.take k).length = k := by simp; omega
    have hsum := sumOf_le bytesOfKid 1048576 (ks.take k) (fun y hy => kid_bytes (hall y hy))
    have hscr := sumOf_le scrapsOfKid 1048576 (ks.take k) (fun y hy => kid_scraps (hall y hy))
    rw [hlk] at hsum hscr
    obtain ⟨S, hS⟩ : ∃ S, S = sumOf bytesOfKid (ks.take k) := ⟨_, rfl⟩
    obtain ⟨T, hT⟩ : ∃ T, T = sumOf scrapsOfKid (ks.take k) := ⟨_, rfl⟩
    rw [← hS] at hsum ⊢
    rw [← hT] at hscr ⊢
    have HS := Lib.hid hS
    have HT := Lib.hid hT
    have HALL := Lib.hid hall
    have HBX := Lib.hid hbx
    have HBL := Lib.hid hbl2
    have q1 : 0 ≤ S ∧ S ≤ 12582912 := by omega
    have q2 : 0 ≤ T ∧ T ≤ 12582912 := by omega
    clear hall hbx hS hT hsum hscr hlk
    by_cases hlt : k < ks.length
    · obtain ⟨c0, c1, c2, c3⟩ := HCL.out k hlt
      replace c0 := (hbl2.cell (p := ⟨b, o + k * 4, none⟩) hbl).trans c0
      replace c1 := (hbl2.cell (p := ⟨b, o + k * 4 + 1, none⟩) hbl).trans c1
      replace c2 := (hbl2.cell (p := ⟨b, o + k * 4 + 2, none⟩) hbl).trans c2
      replace c3 := (hbl2.cell (p := ⟨b, o + k * 4 + 3, none⟩) hbl).trans c3
      obtain ⟨x, hx⟩ : ∃ x, ks[k] = x := ⟨_, rfl⟩
      rw [hx] at c0 c1 c2 c3
      have HX := Lib.hid hx
      obtain ⟨s0, s1, s2, s3⟩ := x
      simp only at c0 c1 c2 c3
      have HSN := Lib.hid (sumOf_next bytesOfKid ks k hlt)
      have HTN := Lib.hid (sumOf_next scrapsOfKid ks k hlt)
      have r0 : (0 : Int) ≤ (k : Int) := by omega
      have r1 : (k : Int) < (ks.length : Int) := by omega
      have HNF := Lib.hid (show ¬ kidMay (s0, s1, s2, s3) → decide (ndMay false [] ks) = false from fun hn => decide_eq_false (by
        rintro (h | h)
        · exact absurd h.1 (by decide)
        · exact hn (by have := h.2.2.1 ks[k] (List.getElem_mem _); rw [HX.out] at this; exact this)))
      clear hx hbl2 b0 b1
      by_cases h0 : s0 < 1
      · have HNO := Lib.hid (HNF.out (by unfold kidMay; simp only; omega))
        go_wp2_with fail
        go_ret
        rw [HNO.out]
        exact ⟨rfl, below_new HBL.out _⟩
      replace h0 : 1 ≤ s0 := by omega
      by_cases h1 : 1048576 ≤ s0
      · have HNO := Lib.hid (HNF.out (by unfold kidMay; simp only; omega))
        go_wp2_with fail
        go_ret
        rw [HNO.out]
        exact ⟨rfl, below_new HBL.out _⟩
      replace h1 : s0 < 1048576 := by omega
      by_cases h2 : s1 < 1
      · have HNO := Lib.hid (HNF.out (by unfold kidMay; simp only; omega))
        go_wp2_with fail
        go_ret
        rw [HNO.out]
        exact ⟨rfl, below_new HBL.out _⟩
      replace h2 : 1 ≤ s1 := by omega
      by_cases h3 : 1048576 < s1
      · have HNO := Lib.hid (HNF.out (by unfold kidMay; simp only; omega))
        go_wp2_with fail
        go_ret
        rw [HNO.out]
        exact ⟨rfl, below_new HBL.out _⟩
      replace h3 : s1 ≤ 1048576 := by omega
      by_cases h4 : s2 < -1
      · have HNO := Lib.hid (HNF.out (by unfold kidMay; simp only; omega))
        go_wp2_with fail
        go_ret
        rw [HNO.out]
        exact ⟨rfl, below_new HBL.out _⟩
      replace h4 : -1 ≤ s2 := by omega
      by_cases h5 : s1 < s2
      · have HNO := Lib.hid (HNF.out (by unfold kidMay; simp only; omega))
        go_wp2_with fail
        go_ret
        rw [HNO.out]
        exact ⟨rfl, below_new HBL.out _⟩
      replace h5 : s2 ≤ s1 := by omega
      by_cases h6 : s3 < 1
      · have HNO := Lib.hid (HNF.out (by unfold kidMay; simp only; omega))
        go_wp2_with fail
        go_ret
        rw [HNO.out]
        exact ⟨rfl, below_new HBL.out _⟩
      replace h6 : 1 ≤ s3 := by omega
      by_cases h7 : s1 < s3
      · have HNO := Lib.hid (HNF.out (by unfold kidMay; simp only; omega))
        go_wp2_with fail
        go_ret
        rw [HNO.out]
        exact ⟨rfl, below_new HBL.out _⟩
      replace h7 : s3 ≤ s1 := by omega
      have HM := Lib.hid (show kidMay (s0, s1, s2, s3) by unfold kidMay; exact ⟨h0, h1, h2, h3, h4, h5, h6, h7⟩)
      have wS := IntWalk.i64_in (S + s1) (by omega)
      have wT := IntWalk.i64_in (T + s3) (by omega)
      have wk := IntWalk.i64_in ((k : Int) + 1) (by omega)
      go_wp2_with fail
      go_roundw
      case rel => exact ⟨k + 1, by omega, by go_num, by rw [HSN.out, ← HS.out, HX.out]; rfl, by rw [HTN.out, ← HT.out, HX.out]; rfl, take_all hlt HALL.out (by rw [HX.out]; exact HM.out), heap_keep HBX.out _, below_new HBL.out _⟩
      case measure => simp [intOf]; omega
    · obtain rfl : k = ks.length := by omega
      have HD := Lib.hid (show decide (ndMay false [] ks) = decide (S ≤ 1048576 ∧ T ≤ 1024) from decide_eq_decide.2 (by
        have hs := HS.out
        have ht := HT.out
        have ha := HALL.out
        rw [List.take_length] at hs ht ha
        rw [hs, ht]
        exact ndMay_inner_iff ha (by omega) (by omega)))
      by_cases e1 : S ≤ 1048576
      · by_cases e2 : T ≤ 1024
        · have HE := Lib.hid (decide_eq_true (show S ≤ 1048576 ∧ T ≤ 1024 from ⟨e1, e2⟩))
          go_wp2_with fail
          go_ret
          rw [HD.out, HE.out]
          exact ⟨rfl, hbl2⟩
        · have HE := Lib.hid (decide_eq_false (show ¬ (S ≤ 1048576 ∧ T ≤ 1024) from fun h => e2 h.2))
          go_wp2_with fail
          go_ret
          rw [HD.out, HE.out]
          exact ⟨rfl, hbl2⟩
      · have HE := Lib.hid (decide_eq_false (show ¬ (S ≤ 1048576 ∧ T ≤ 1024) from fun h => e1 h.1))
        go_wp2_with fail
        go_ret
        rw [HD.out, HE.out]
        exact ⟨rfl, hbl2⟩
end Go.Proofs.Ytcmoajbdepohmaa
