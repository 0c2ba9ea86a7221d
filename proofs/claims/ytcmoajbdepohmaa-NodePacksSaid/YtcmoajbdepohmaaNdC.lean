/- Layer 13: node.May of an inner node. -/
import Derived.Test.YtcmoajbdepohmaaNdB
namespace Go.Proofs.Ytcmoajbdepohmaa
open Go.RowKit Go.Oct
theorem kid_bytes {x : Quad} (h : kidMay x) : 0 ≤ bytesOfKid x ∧ bytesOfKid x ≤ 1048576 := by unfold kidMay at h; unfold bytesOfKid; omega
theorem kid_scraps {x : Quad} (h : kidMay x) : 0 ≤ scrapsOfKid x ∧ scrapsOfKid x ≤ 1048576 := by unfold kidMay at h; unfold scrapsOfKid; omega
set_option maxRecDepth 100000 in
set_option maxHeartbeats 4000000 in
/-- an inner node -/
theorem nodeMay_inner (ve vk : Value) (es ks : List Quad) (w : World) (He : Quads w ve es) (Hk : Quads w vk ks) (lk : ks.length ≤ 4398046511104) :
    Calls Try.prog 36 #[.agg #[.bool false, ve, vk]] w fun e w' => e = .returned (.bool (decide (ndMay false es ks))) ∧ Below w.heap.size w w' := by
  obtain ⟨a, cap, rfl, hc1, hc2, hcs⟩ := He.open
  obtain ⟨ak, ck, rfl, hk1, hk2, hks⟩ := Hk.open
  unfold maxLen at hc2 hk2
  have HCS := Lib.hid hcs
  have HKS := Lib.hid hks
  clear hcs hks He Hk
  go_enter Try.func36, Try.ntmps36
  have hb0 : (w.alloc (ndBox false (.slice a es.length cap) (.slice ak ks.length ck))).heap[w.heap.size]? = some (ndBox false (.slice a es.length cap) (.slice ak ks.length ck)) := heap_last rfl
  have HB0 := Lib.hid hb0
  clear hb0
  go_wp2_with fail
  go_loopw [3, 14] (fun s i wr => s = .int .i64 0 ∧ i = .int .i64 0 ∧ wr.heap[w.heap.size]? = some (ndBox false (.slice a es.length cap) (.slice ak ks.length ck)) ∧ Below w.heap.size w wr) (fun _ _ _ => 0)
  case atStart => exact ⟨rfl, rfl, HB0.out, below_new (Below.refl _ _) _⟩
  case round =>
    clear HB0
    obtain ⟨rfl, rfl, hbx, hbl⟩ := hrel
    obtain ⟨b0, b1, b2⟩ := ndBox_cells hbx
    have hnl := (Array.getElem?_eq_some_iff.1 hbx).1
    by_cases hk0 : 0 < es.length
    · obtain ⟨b, o, rfl, hb, hcell⟩ := HCS.out hk0
      obtain ⟨c0, c1, c2, c3⟩ := hcell 0 hk0
      rw [Nat.zero_mul, Nat.add_zero] at c0 c1 c2 c3
      replace c0 := (hbl.cell (p := ⟨b, o, none⟩) hb).trans c0
      replace c1 := (hbl.cell (p := ⟨b, o + 1, none⟩) hb).trans c1
      replace c2 := (hbl.cell (p := ⟨b, o + 2, none⟩) hb).trans c2
      replace c3 := (hbl.cell (p := ⟨b, o + 3, none⟩) hb).trans c3
      have hno : ¬ ndMay false es ks := by
        intro h
        rcases h with h | h
        · exact absurd h.1 (by decide)
        · rw [h.2.1] at hk0; simp at hk0
      have HNO := Lib.hid (decide_eq_false hno)
      have q1 : (0 : Int) < (es.length : Int) := by omega
      clear hcell hno
      go_wp2_with fail
      go_ret
      rw [HNO.out]
      exact ⟨rfl, below_new hbl _⟩
    · have q1 : ¬ (0 : Int) < (es.length : Int) := by omega
      have HE0 := Lib.hid (show es = [] from List.eq_nil_of_length_eq_zero (by omega))
      have HBX := Lib.hid hbx
      clear hbx hk0
      go_wp2_with fail
      clear b0 b1 b2 hnl q1
      go_loopw [3, 4, 35] (fun s c i wr' => ∃ k : Nat, k ≤ ks.length ∧ i = .int .i64 k ∧ s = .int .i64 (sumOf bytesOfKid (ks.take k)) ∧ c = .int .i64 (sumOf scrapsOfKid (ks.take k)) ∧ (∀ x ∈ ks.take k, kidMay x) ∧ wr'.heap[w.heap.size]? = some (ndBox false (.slice a es.length cap) (.slice ak ks.length ck)) ∧ Below w.heap.size w wr') (fun _ _ i _ => ks.length - (intOf i).toNat)
      case atStart => exact ⟨0, Nat.zero_le _, rfl, rfl, rfl, by simp, HBX.out, hbl⟩
      case round =>
        clear HBX hbl
        obtain ⟨wq, hwq⟩ : ∃ x, x = wr := ⟨_, rfl⟩
        rw [← hwq] at hrel ⊢
        clear hwq
        obtain ⟨k, hk, rfl, rfl, rfl, hall, hbx, hbl⟩ := hrel
        obtain ⟨b0, b1, b2⟩ := ndBox_cells hbx
        have hnl := (Array.getElem?_eq_some_iff.1 hbx).1
        have hsum := sumOf_most bytesOfKid ks k hk lk (fun y hy => kid_bytes (hall y hy))
        have hscr := sumOf_most scrapsOfKid ks k hk lk (fun y hy => kid_scraps (hall y hy))
        obtain ⟨S, hS⟩ : ∃ S, S = sumOf bytesOfKid (ks.take k) := ⟨_, rfl⟩
        obtain ⟨T, hT⟩ : ∃ T, T = sumOf scrapsOfKid (ks.take k) := ⟨_, rfl⟩
        rw [← hS] at hsum ⊢
        rw [← hT] at hscr ⊢
        have HS := Lib.hid hS
        have HT := Lib.hid hT
        obtain ⟨hS0, hS1⟩ := hsum
        obtain ⟨hT0, hT1⟩ := hscr
        have HALL := Lib.hid hall
        have HBX := Lib.hid hbx
        clear hS hT hall hbx
        by_cases hlt : k < ks.length
        · obtain ⟨b, o, rfl, hb, hcell⟩ := HKS.out (by omega)
          obtain ⟨c0, c1, c2, c3⟩ := hcell k hlt
          replace c0 := (hbl.cell (p := ⟨b, o + k * 4, none⟩) hb).trans c0
          replace c1 := (hbl.cell (p := ⟨b, o + k * 4 + 1, none⟩) hb).trans c1
          replace c2 := (hbl.cell (p := ⟨b, o + k * 4 + 2, none⟩) hb).trans c2
          replace c3 := (hbl.cell (p := ⟨b, o + k * 4 + 3, none⟩) hb).trans c3
          obtain ⟨x, hx⟩ : ∃ x, ks[k] = x := ⟨_, rfl⟩
          rw [hx] at c0 c1 c2 c3
          have HX := Lib.hid hx
          obtain ⟨s0, s1, s2, s3⟩ := x
          simp only at c0 c1 c2 c3
          have HSN := Lib.hid (sumOf_next bytesOfKid ks k hlt)
          have HTN := Lib.hid (sumOf_next scrapsOfKid ks k hlt)
          have r0 : (0 : Int) ≤ (k : Int) := by omega
          have r1 : (k : Int) < (ks.length : Int) := by omega
          clear hx hcell
          go_wp2_with fail
          refine (mayKid_any s0 s1 s2 s3 _).mono ?_
          rintro e w2 ⟨rfl, hx2⟩
          have HBX2 := Lib.hid (box_below (heap_keep HBX.out (.cells #[.int .i64 s0, .int .i64 s1, .int .i64 s2, .int .i64 s3] 82)) hx2)
          have hbl2 := below_step (below_new hbl (.cells #[.int .i64 s0, .int .i64 s1, .int .i64 s2, .int .i64 s3] 82)) hx2
          have hec := box_below (heap_last (o := .cells #[.int .i64 s0, .int .i64 s1, .int .i64 s2, .int .i64 s3] 82) (w := wq) rfl) hx2
          have e1 : w2.cell? ⟨wq.heap.size, 1, none⟩ = some (.int .i64 s1) := by rw [World.cell_block hec]; rfl
          have e3 : w2.cell? ⟨wq.heap.size, 3, none⟩ = some (.int .i64 s3) := by rw [World.cell_block hec]; rfl
          have hel := (Array.getElem?_eq_some_iff.1 hec).1
          clear hx2 b0 b1 b2 c0 c1 c2 c3 hbl hec
          by_cases hm : kidMay (s0, s1, s2, s3)
          · rw [decide_eq_true hm]
            have hl2 := kid_bytes hm
            have hl3 := kid_scraps hm
            unfold bytesOfKid at hl2
            unfold scrapsOfKid at hl3
            simp only at hl2 hl3
            have wS := IntWalk.i64_in (S + s1) (by omega)
            have wT := IntWalk.i64_in (T + s3) (by omega)
            have wk := IntWalk.i64_in ((k : Int) + 1) (by omega)
            have HM := Lib.hid hm
            clear hm
            go_wp2_with fail
            go_roundw
            case rel => exact ⟨k + 1, by omega, by go_num, by rw [HSN.out, ← HS.out, HX.out]; rfl, by rw [HTN.out, ← HT.out, HX.out]; rfl, take_all hlt HALL.out (by rw [HX.out]; exact HM.out), HBX2.out, hbl2⟩
            case measure => simp [intOf]; omega
          · rw [decide_eq_false hm]
            go_wp2_with fail
            go_ret
            have hno : ¬ ndMay false es ks := by
              intro h
              rcases h with h | h
              · exact absurd h.1 (by decide)
              · exact hm (by have := h.2.2.1 ks[k] (List.getElem_mem _); rw [HX.out] at this; exact this)
            rw [decide_eq_false hno]
            exact ⟨rfl, hbl2⟩
        · have r1 : ¬ (k : Int) < (ks.length : Int) := by omega
          have hke : ks.take k = ks := List.take_of_length_le (by omega)
          have HD := Lib.hid (show decide (ndMay false es ks) = decide ((2 : Int) ≤ (ks.length : Int) ∧ (ks.length : Int) ≤ 12 ∧ S ≤ 1048576 ∧ T ≤ 1024) by
            have hs := HS.out
            have ht := HT.out
            have ha := HALL.out
            rw [hke] at hs ht ha
            apply decide_eq_decide.2
            constructor
            · rintro (h | h)
              · exact absurd h.1 (by decide)
              · exact ⟨by omega, by omega, by rw [hs]; exact h.2.2.2.2.2.1, by rw [ht]; exact h.2.2.2.2.2.2⟩
            · rintro ⟨h1, h2, h3, h4⟩
              exact .inr ⟨rfl, HE0.out, ha, by omega, by omega, by rw [← hs]; exact h3, by rw [← ht]; exact h4⟩)
          clear hke
          go_wp2_with fail
          go_quiet (fail)
          by_cases g1 : (2 : Int) ≤ (ks.length : Int)
          · by_cases g2 : (ks.length : Int) ≤ 12
            · by_cases g3 : S ≤ 1048576
              · by_cases g4 : T ≤ 1024
                · have HE := Lib.hid (decide_eq_true (show (2 : Int) ≤ (ks.length : Int) ∧ (ks.length : Int) ≤ 12 ∧ S ≤ 1048576 ∧ T ≤ 1024 from ⟨g1, g2, g3, g4⟩))
                  go_wp2_with fail
                  go_ret
                  rw [HD.out, HE.out]
                  exact ⟨rfl, by first | exact hbl | exact hbl.trans (below_drawn _ _ _)⟩
                · have HE := Lib.hid (decide_eq_false (show ¬ ((2 : Int) ≤ (ks.length : Int) ∧ (ks.length : Int) ≤ 12 ∧ S ≤ 1048576 ∧ T ≤ 1024) from fun h => g4 h.2.2.2))
                  go_wp2_with fail
                  go_ret
                  rw [HD.out, HE.out]
                  exact ⟨rfl, by first | exact hbl | exact hbl.trans (below_drawn _ _ _)⟩
              · have HE := Lib.hid (decide_eq_false (show ¬ ((2 : Int) ≤ (ks.length : Int) ∧ (ks.length : Int) ≤ 12 ∧ S ≤ 1048576 ∧ T ≤ 1024) from fun h => g3 h.2.2.1))
                go_wp2_with fail
                go_ret
                rw [HD.out, HE.out]
                exact ⟨rfl, by first | exact hbl | exact hbl.trans (below_drawn _ _ _)⟩
            · have HE := Lib.hid (decide_eq_false (show ¬ ((2 : Int) ≤ (ks.length : Int) ∧ (ks.length : Int) ≤ 12 ∧ S ≤ 1048576 ∧ T ≤ 1024) from fun h => g2 h.2.1))
              go_wp2_with fail
              go_ret
              rw [HD.out, HE.out]
              exact ⟨rfl, by first | exact hbl | exact hbl.trans (below_drawn _ _ _)⟩
          · have HE := Lib.hid (decide_eq_false (show ¬ ((2 : Int) ≤ (ks.length : Int) ∧ (ks.length : Int) ≤ 12 ∧ S ≤ 1048576 ∧ T ≤ 1024) from fun h => g1 h.1))
            go_wp2_with fail
            go_ret
            rw [HD.out, HE.out]
            exact ⟨rfl, by first | exact hbl | exact hbl.trans (below_drawn _ _ _)⟩
/-- node.May -/
theorem nodeMay_any (leaf : Bool) (ve vk : Value) (es ks : List Quad) (w : World) (He : Quads w ve es) (Hk : Quads w vk ks) (le : es.length ≤ 4398046511104) (lk : ks.length ≤ 4398046511104) :
    Calls Try.prog 36 #[.agg #[.bool leaf, ve, vk]] w fun e w' => e = .returned (.bool (decide (ndMay leaf es ks))) ∧ Below w.heap.size w w' := by
  cases leaf
  · exact nodeMay_inner ve vk es ks w He Hk lk
  · exact nodeMay_leaf ve vk es ks w He Hk le lk
end Go.Proofs.Ytcmoajbdepohmaa
