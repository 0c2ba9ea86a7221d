/- Layer 13: octavoref13.May (printed by wip/ndm_gen.py). -/
import Derived.Test.YtcmoajbdepohmaaNdC
import Derived.Test.YtcmoajbdepohmaaNdF
import Derived.Deep.RegionHeld3
namespace Go.Oct
/-- an entry may be, but for its length -/
def entMay2 (x : Quad) : Prop := (x.1 = 0 ∨ x.1 = 1) ∧ 0 ≤ x.2.1 ∧ x.2.1 ≤ 16777216 ∧ 1 ≤ x.2.2.1 ∧ x.2.2.1 ≤ 16777216 - x.2.1 ∧ -1 ≤ x.2.2.2 ∧ x.2.2.2 ≤ x.2.2.1 ∧ (x.1 = 1 ∨ x.2.2.2 = -1)
theorem entMay2_of {x : Quad} (h : entMay x) : entMay2 x := by unfold entMay at h; unfold entMay2; omega
theorem sumOf_each (f : Quad → Int) (l : List Quad) (h : ∀ x ∈ l, 0 ≤ f x) : ∀ x ∈ l, f x ≤ sumOf f l := by
  induction l with
  | nil => intro x hx; cases hx
  | cons y l ih =>
    intro x hx
    have h0 := h y (List.mem_cons_self ..)
    have h1 : 0 ≤ sumOf f l := by
      clear ih hx
      induction l with
      | nil => exact Int.le_refl _
      | cons z l ih2 =>
        have hz := h z (by simp)
        have := ih2 (fun q hq => h q (by rcases List.mem_cons.1 hq with rfl | hq <;> simp_all))
        simp only [sumOf]; omega
    have ih' := ih (fun q hq => h q (List.mem_cons_of_mem _ hq))
    simp only [sumOf]
    rcases List.mem_cons.1 hx with rfl | hx
    · omega
    · have := ih' x hx; omega
theorem ndMay_leaf_iff {es : List Quad} (h : ∀ x ∈ es, entMay2 x) (h1 : 1 ≤ es.length) (h2 : es.length ≤ 12) : ndMay true es [] ↔ sumOf lenOf es ≤ 1048576 := by
  constructor
  · rintro (h | h)
    · exact h.2.2.2.2.2
    · exact absurd h.1 (by decide)
  · intro hs
    refine .inl ⟨rfl, rfl, fun x hx => ?_, h1, h2, hs⟩
    have a := h x hx
    have b := sumOf_each lenOf es (fun y hy => by have := h y hy; unfold entMay2 at this; unfold lenOf; omega) x hx
    unfold entMay2 at a
    unfold lenOf at b
    unfold entMay
    unfold lenOf at hs
    omega
end Go.Oct
namespace Go.Proofs.Ytcmoajbdepohmaa
open Go.RowKit Go.Oct
set_option maxRecDepth 100000 in
set_option maxHeartbeats 8000000 in
theorem refMay_leaf (ve vk : Value) (es ks : List Quad) (w : World) (He : Quads w ve es) (Hk : Quads w vk ks) (le : es.length ≤ 4398046511104) (lk : ks.length ≤ 4398046511104) :
    Calls Try.prog 32 #[.agg #[.bool true, ve, vk]] w fun e w' => e = .returned (.bool (decide (ndMay true es ks))) ∧ Below w.heap.size w w' := by
  obtain ⟨a, cap, rfl, hc1, hc2, hcs⟩ := He.open
  obtain ⟨ak, ck, rfl, hk1, hk2, hks⟩ := Hk.open
  unfold maxLen at hc2 hk2
  have HCS := Lib.hid hcs
  clear hcs hks He Hk
  by_cases g1 : 0 < ks.length
  · rw [show decide (ndMay true es ks) = false from decide_eq_false (by
      rintro (h | h)
      · rw [h.2.1] at g1; simp at g1
      · exact absurd h.1 (by decide))]
    go_enter Try.func32, Try.ntmps32
    go_wp2_with fail
    go_ret
    exact ⟨rfl, below_new (Below.refl _ _) _⟩
  obtain rfl : ks = [] := List.eq_nil_of_length_eq_zero (by omega)
  simp only [List.length_nil] at *
  clear g1
  by_cases g2 : (es.length : Int) < 1
  · rw [show decide (ndMay true es []) = false from decide_eq_false (by
      rintro (h | h)
      · have := h.2.2.2.1; omega
      · exact absurd h.1 (by decide))]
    go_enter Try.func32, Try.ntmps32
    go_wp2_with fail
    go_ret
    exact ⟨rfl, below_new (Below.refl _ _) _⟩
  by_cases g3 : (12 : Int) < (es.length : Int)
  · rw [show decide (ndMay true es []) = false from decide_eq_false (by
      rintro (h | h)
      · have := h.2.2.2.2.1; omega
      · exact absurd h.1 (by decide))]
    go_enter Try.func32, Try.ntmps32
    go_wp2_with fail
    go_ret
    exact ⟨rfl, below_new (Below.refl _ _) _⟩
  have g4 : (1 : Int) ≤ (es.length : Int) := by omega
  have g5 : (es.length : Int) ≤ 12 := by omega
  clear g2 g3
  obtain ⟨b, o, rfl, hbl, hcell⟩ := HCS.out (by omega)
  have HCL := Lib.hid hcell
  clear HCS hcell
  go_enter Try.func32, Try.ntmps32
  have HB0 := Lib.hid (show (w.alloc (ndBox true (.slice (some ⟨b, o, none⟩) es.length cap) (.slice ak 0 ck))).heap[w.heap.size]? = some (ndBox true (.slice (some ⟨b, o, none⟩) es.length cap) (.slice ak 0 ck)) from heap_last rfl)
  go_wp2_with fail
  go_loopw [3, 4] (fun s i wr => ∃ k : Nat, k ≤ es.length ∧ i = .int .i64 k ∧ s = .int .i64 (sumOf lenOf (es.take k)) ∧ (∀ x ∈ es.take k, entMay2 x) ∧ wr.heap[w.heap.size]? = some (ndBox true (.slice (some ⟨b, o, none⟩) es.length cap) (.slice ak 0 ck)) ∧ Below w.heap.size w wr) (fun _ i _ => es.length - (intOf i).toNat)
  case atStart => exact ⟨0, Nat.zero_le _, rfl, rfl, by simp, HB0.out, below_new (Below.refl _ _) _⟩
  case round =>
    clear HB0
    obtain ⟨k, hk, rfl, rfl, hall, hbx, hbl2⟩ := hrel
    obtain ⟨b0, b1, b2⟩ := ndBox_cells hbx
    have hnl := (Array.getElem?_eq_some_iff.1 hbx).1
    by_cases hlt : k < es.length
    · obtain ⟨c0, c1, c2, c3⟩ := HCL.out k hlt
      replace c0 := (hbl2.cell (p := ⟨b, o + k * 4, none⟩) hbl).trans c0
      replace c1 := (hbl2.cell (p := ⟨b, o + k * 4 + 1, none⟩) hbl).trans c1
      replace c2 := (hbl2.cell (p := ⟨b, o + k * 4 + 2, none⟩) hbl).trans c2
      replace c3 := (hbl2.cell (p := ⟨b, o + k * 4 + 3, none⟩) hbl).trans c3
      have hsum := sumOf_le lenOf 16777216 (es.take k) (fun y hy => by have := hall y hy; unfold entMay2 at this; unfold lenOf; omega)
      have hlk : (es.take k).length = k := by simp; omega
      rw [hlk] at hsum
      obtain ⟨x, hx⟩ : ∃ x, es[k] = x := ⟨_, rfl⟩
      rw [hx] at c0 c1 c2 c3
      have HX := Lib.hid hx
      obtain ⟨s0, s1, s2, s3⟩ := x
      simp only at c0 c1 c2 c3
      have HSN := Lib.hid (sumOf_next lenOf es k hlt)
      obtain ⟨S, hS⟩ : ∃ S, S = sumOf lenOf (es.take k) := ⟨_, rfl⟩
      rw [← hS] at hsum ⊢
      have HS := Lib.hid hS
      have HALL := Lib.hid hall
      have HBX := Lib.hid hbx
      have HBL := Lib.hid hbl2
      have q1 : 0 ≤ S ∧ S ≤ 201326592 := by omega
      have r0 : (0 : Int) ≤ (k : Int) := by omega
      have r1 : (k : Int) < (es.length : Int) := by omega
      have m1 := World.new_ne wr _ b1
      have mc := World.new_ne wr _ c0
      clear hx hall hbx hS hsum hlk hbl2 b0 b2
      go_wp2_with fail
      go_region_held3 (fun w' => w'.cell? ⟨w.heap.size, 1, none⟩ = some (.slice (some ⟨b, o, none⟩) es.length cap) ∧ w'.cell? ⟨b, o + k * 4, none⟩ = some (.int .i64 s0) ∧ w'.cell? ⟨b, o + k * 4 + 1, none⟩ = some (.int .i64 s1) ∧ w'.cell? ⟨b, o + k * 4 + 2, none⟩ = some (.int .i64 s2) ∧ w'.cell? ⟨b, o + k * 4 + 3, none⟩ = some (.int .i64 s3))
        (go_keep)
        (first | fail "no arm")
      obtain ⟨bx, hbx⟩ : ∃ y, y = wr.heap.size := ⟨_, rfl⟩
      obtain ⟨wn, hwn⟩ : ∃ y, y = (wr.alloc (.cells #[.int .i64 s0, .int .i64 s1, .int .i64 s2] 78)).drew := ⟨_, rfl⟩
      have hbn : wn.heap[bx]? = some (.cells #[.int .i64 s0, .int .i64 s1, .int .i64 s2] 78) := by rw [hwn, hbx]; exact heap_last_d rfl
      have HBXn := Lib.hid (show wn.heap[w.heap.size]? = some (ndBox true (.slice (some ⟨b, o, none⟩) es.length cap) (.slice ak 0 ck)) by rw [hwn]; exact heap_keep HBX.out _)
      have HBLn := Lib.hid (show Below w.heap.size w wn by rw [hwn]; exact (below_new HBL.out _).drew)
      have d0 : wn.cell? ⟨bx, 0, none⟩ = some (.int .i64 s0) := by rw [World.cell_block hbn]; rfl
      have d1 : wn.cell? ⟨bx, 1, none⟩ = some (.int .i64 s1) := by rw [World.cell_block hbn]; rfl
      have d2 : wn.cell? ⟨bx, 2, none⟩ = some (.int .i64 s2) := by rw [World.cell_block hbn]; rfl
      have hnb := (Array.getElem?_eq_some_iff.1 hbn).1
      have HNF := Lib.hid (show ¬ entMay2 (s0, s1, s2, s3) → decide (ndMay true es []) = false from fun hn => decide_eq_false (by
        rintro (h | h)
        · exact hn (by have := entMay2_of (h.2.2.1 es[k] (List.getElem_mem _)); rw [HX.out] at this; exact this)
        · exact absurd h.1 (by decide)))
      rw [← hwn, ← hbx]
      clear hwn hbx hbn HBX HBL c0 c1 c2 c3 m1 mc hnl b1
      by_cases hs : ¬ (s0 = 0 ∨ s0 = 1)
      · have hs0 : (s0 != 0) = true := by rw [bne_iff_ne]; omega
        have hs1 : (s0 != 1) = true := by rw [bne_iff_ne]; omega
        have HNO := Lib.hid (HNF.out (by unfold entMay2; simp only; omega))
        go_wp2_with fail
        go_ret
        rw [HNO.out]
        exact ⟨rfl, HBLn.out⟩
      rcases Decidable.not_not.1 hs with rfl | rfl
      · by_cases h0 : s1 < 0
        · have HNO := Lib.hid (HNF.out (by unfold entMay2; simp only; omega))
          go_wp2_with fail
          go_ret
          rw [HNO.out]
          exact ⟨rfl, HBLn.out⟩
        replace h0 : 0 ≤ s1 := by omega
        by_cases h1 : s2 < 1
        · have HNO := Lib.hid (HNF.out (by unfold entMay2; simp only; omega))
          go_wp2_with fail
          go_ret
          rw [HNO.out]
          exact ⟨rfl, HBLn.out⟩
        replace h1 : 1 ≤ s2 := by omega
        by_cases h2 : 16777216 < s1
        · have HNO := Lib.hid (HNF.out (by unfold entMay2; simp only; omega))
          go_wp2_with fail
          go_ret
          rw [HNO.out]
          exact ⟨rfl, HBLn.out⟩
        replace h2 : s1 ≤ 16777216 := by omega
        by_cases h3 : 16777216 < s2
        · have HNO := Lib.hid (HNF.out (by unfold entMay2; simp only; omega))
          go_wp2_with fail
          go_ret
          rw [HNO.out]
          exact ⟨rfl, HBLn.out⟩
        replace h3 : s2 ≤ 16777216 := by omega
        have w12 := IntWalk.i64_in (s1 + s2) (by omega)
        by_cases h4 : 16777216 < s1 + s2
        · have HNO := Lib.hid (HNF.out (by unfold entMay2; simp only; omega))
          go_wp2_with fail
          go_ret
          rw [HNO.out]
          exact ⟨rfl, HBLn.out⟩
        replace h4 : s1 + s2 ≤ 16777216 := by omega
        by_cases h5 : s3 < -1
        · have HNO := Lib.hid (HNF.out (by unfold entMay2; simp only; omega))
          go_wp2_with fail
          go_ret
          rw [HNO.out]
          exact ⟨rfl, HBLn.out⟩
        replace h5 : -1 ≤ s3 := by omega
        by_cases h6 : s2 < s3
        · have HNO := Lib.hid (HNF.out (by unfold entMay2; simp only; omega))
          go_wp2_with fail
          go_ret
          rw [HNO.out]
          exact ⟨rfl, HBLn.out⟩
        replace h6 : s3 ≤ s2 := by omega
        by_cases h7 : ¬ s3 = -1
        · have hs3 : (s3 != -1) = true := by rw [bne_iff_ne]; exact h7
          have HNO := Lib.hid (HNF.out (by unfold entMay2; simp only; omega))
          clear h7
          go_wp2_with fail
          go_ret
          rw [HNO.out]
          exact ⟨rfl, HBLn.out⟩
        replace h7 : s3 = -1 := Decidable.not_not.1 h7
        subst h7
        have HM := Lib.hid (show entMay2 (0, s1, s2, -1) by unfold entMay2; exact ⟨by simp, h0, h2, h1, by simp only; omega, by simp, by simp only; omega, by simp⟩)
        have wS := IntWalk.i64_in (S + s2) (by omega)
        have wk := IntWalk.i64_in ((k : Int) + 1) (by omega)
        go_wp2_with fail
        go_roundw
        case rel => exact ⟨k + 1, by omega, by go_num, by rw [HSN.out, ← HS.out, HX.out]; rfl, take_all hlt HALL.out (by rw [HX.out]; exact HM.out), HBXn.out, HBLn.out⟩
        case measure => simp [intOf]; omega
      · by_cases h0 : s1 < 0
        · have HNO := Lib.hid (HNF.out (by unfold entMay2; simp only; omega))
          go_wp2_with fail
          go_ret
          rw [HNO.out]
          exact ⟨rfl, HBLn.out⟩
        replace h0 : 0 ≤ s1 := by omega
        by_cases h1 : s2 < 1
        · have HNO := Lib.hid (HNF.out (by unfold entMay2; simp only; omega))
          go_wp2_with fail
          go_ret
          rw [HNO.out]
          exact ⟨rfl, HBLn.out⟩
        replace h1 : 1 ≤ s2 := by omega
        by_cases h2 : 16777216 < s1
        · have HNO := Lib.hid (HNF.out (by unfold entMay2; simp only; omega))
          go_wp2_with fail
          go_ret
          rw [HNO.out]
          exact ⟨rfl, HBLn.out⟩
        replace h2 : s1 ≤ 16777216 := by omega
        by_cases h3 : 16777216 < s2
        · have HNO := Lib.hid (HNF.out (by unfold entMay2; simp only; omega))
          go_wp2_with fail
          go_ret
          rw [HNO.out]
          exact ⟨rfl, HBLn.out⟩
        replace h3 : s2 ≤ 16777216 := by omega
        have w12 := IntWalk.i64_in (s1 + s2) (by omega)
        by_cases h4 : 16777216 < s1 + s2
        · have HNO := Lib.hid (HNF.out (by unfold entMay2; simp only; omega))
          go_wp2_with fail
          go_ret
          rw [HNO.out]
          exact ⟨rfl, HBLn.out⟩
        replace h4 : s1 + s2 ≤ 16777216 := by omega
        by_cases h5 : s3 < -1
        · have HNO := Lib.hid (HNF.out (by unfold entMay2; simp only; omega))
          go_wp2_with fail
          go_ret
          rw [HNO.out]
          exact ⟨rfl, HBLn.out⟩
        replace h5 : -1 ≤ s3 := by omega
        by_cases h6 : s2 < s3
        · have HNO := Lib.hid (HNF.out (by unfold entMay2; simp only; omega))
          go_wp2_with fail
          go_ret
          rw [HNO.out]
          exact ⟨rfl, HBLn.out⟩
        replace h6 : s3 ≤ s2 := by omega
        have HM := Lib.hid (show entMay2 (1, s1, s2, s3) by unfold entMay2; exact ⟨by simp, h0, h2, h1, by simp only; omega, h5, h6, by simp⟩)
        have wS := IntWalk.i64_in (S + s2) (by omega)
        have wk := IntWalk.i64_in ((k : Int) + 1) (by omega)
        go_wp2_with fail
        go_roundw
        case rel => exact ⟨k + 1, by omega, by go_num, by rw [HSN.out, ← HS.out, HX.out]; rfl, take_all hlt HALL.out (by rw [HX.out]; exact HM.out), HBXn.out, HBLn.out⟩
        case measure => simp [intOf]; omega
    · obtain rfl : k = es.length := by omega
      have hke : es.take es.length = es := List.take_length
      rw [hke] at hall ⊢
      obtain ⟨S, hS⟩ : ∃ S, S = sumOf lenOf es := ⟨_, rfl⟩
      rw [← hS]
      have HD := Lib.hid (show decide (ndMay true es []) = decide (S ≤ 1048576) from decide_eq_decide.2 (by rw [hS]; exact ndMay_leaf_iff hall (by omega) (by omega)))
      clear hS hall hbx hke
      go_wp2_with fail
      go_ret
      rw [HD.out]
      exact ⟨rfl, hbl2⟩
end Go.Proofs.Ytcmoajbdepohmaa
