/- Layer 13: octavoref13.Sum of a node that may be (printed by wip/ndw_gen.py). -/
import Derived.Test.YtcmoajbdepohmaaNdC
import Derived.Test.YtcmoajbdepohmaaNsPlain2
namespace Go.Oct
/-- the document's running count of lines stands for ours -/
def TOk (k : Nat) (T L : Int) : Prop := (0 ≤ L ∧ T = L) ∨ (L = -1 ∧ -1099511627777 ≤ T ∧ T ≤ -1099511627777 + 1048576 * (k : Int))
theorem TOk.open {k : Nat} {T L : Int} (_h : TOk k T L) {l : Int} (hl : l = -1) : TOk (k + 1) (-1099511627776 + l) (lnStep L l) := by
  subst hl
  exact .inr ⟨if_pos (.inl (by decide)), by decide, by omega⟩
theorem TOk.add {k : Nat} {T L : Int} (h : TOk k T L) {l : Int} (h0 : 0 ≤ l) (h1 : l ≤ 1048576) : TOk (k + 1) (T + l) (lnStep L l) := by
  rcases h with ⟨a, b⟩ | ⟨a, b, c⟩
  · exact .inl ⟨by rw [lnStep_add (by omega)]; omega, by rw [lnStep_add (by omega)]; omega⟩
  · exact .inr ⟨lnStep_neg (.inr (by omega)), by omega, by omega⟩
end Go.Oct
namespace Go.Proofs.Ytcmoajbdepohmaa
open Go.RowKit Go.Oct
set_option maxRecDepth 100000 in
set_option maxHeartbeats 4000000 in
theorem refSum_leaf (ve vk : Value) (es ks : List Quad) (w : World) (He : Quads w ve es) (Hk : Quads w vk ks) (hM : ndMay true es ks) :
    Calls Try.prog 39 #[.agg #[.bool true, ve, vk]] w fun e w' => e = .returned (.tuple #[.int .i64 (sumB true es ks), .int .i64 (sumL true es ks), .int .i64 (sumS true es ks)]) ∧ Below w.heap.size w w' := by
  have hm : (∀ x ∈ es, entMay x) ∧ 1 ≤ es.length ∧ es.length ≤ 12 ∧ ks = [] := by
    rcases hM with h | h
    · exact ⟨h.2.2.1, h.2.2.2.1, h.2.2.2.2.1, h.2.1⟩
    · exact absurd h.1 (by decide)
  obtain ⟨hall, hl1, hl12, rfl⟩ := hm
  obtain ⟨a, cap, rfl, hc1, hc2, hcs⟩ := He.open
  obtain ⟨ak, ck, rfl, -, -, -⟩ := Hk.open
  unfold maxLen at hc2
  obtain ⟨b, o, rfl, hbl, hcell⟩ := hcs (by omega)
  have HCS := Lib.hid hcell
  have HALL := Lib.hid hall
  have HB0 := Lib.hid (show (w.alloc (ndBox true (.slice (some ⟨b, o, none⟩) es.length cap) (.slice ak 0 ck))).heap[w.heap.size]? = some (ndBox true (.slice (some ⟨b, o, none⟩) es.length cap) (.slice ak 0 ck)) from heap_last rfl)
  clear He Hk hcs hcell hall hM
  simp only [List.length_nil] at *
  go_enter Try.func39, Try.ntmps39
  go_wp2_with fail
  go_quiet (fail)
  go_wp2_with fail
  go_loopw [5, 6, 8] (fun s t i wr => ∃ (k : Nat) (T : Int), k ≤ es.length ∧ i = .int .i64 k ∧ s = .int .i64 (sumOf lenOf (es.take k)) ∧ t = .int .i64 T ∧ TOk k T (lnSum linesOfE 0 (es.take k)) ∧ wr.heap[w.heap.size]? = some (ndBox true (.slice (some ⟨b, o, none⟩) es.length cap) (.slice ak 0 ck)) ∧ Below w.heap.size w wr) (fun _ _ i _ => es.length - (intOf i).toNat)
  case atStart => exact ⟨0, 0, Nat.zero_le _, rfl, rfl, rfl, .inl ⟨Int.le_refl _, rfl⟩, HB0.out, by first | exact below_new (Below.refl _ _) _ | exact (below_new (Below.refl _ _) _).trans (below_drawn _ _ _)⟩
  case round =>
    clear HB0
    obtain ⟨wq, hwq⟩ : ∃ x, x = wr := ⟨_, rfl⟩
    rw [← hwq] at hrel ⊢
    clear hwq
    obtain ⟨k, T, hk, rfl, rfl, rfl, htk, hbx, hbl2⟩ := hrel
    obtain ⟨b0, b1, b2⟩ := ndBox_cells hbx
    have hnl := (Array.getElem?_eq_some_iff.1 hbx).1
    have hlk : (es.take k).length = k := by simp; omega
    have hsb := sumOf_le lenOf 1048576 (es.take k) (fun y hy => ent_len (HALL.out y (List.mem_of_mem_take hy)))
    
    rw [hlk] at hsb
    by_cases hlt : k < es.length
    · obtain ⟨c0, c1, c2, c3⟩ := HCS.out k hlt
      replace c0 := (hbl2.cell (p := ⟨b, o + k * 4, none⟩) hbl).trans c0
      replace c1 := (hbl2.cell (p := ⟨b, o + k * 4 + 1, none⟩) hbl).trans c1
      replace c2 := (hbl2.cell (p := ⟨b, o + k * 4 + 2, none⟩) hbl).trans c2
      replace c3 := (hbl2.cell (p := ⟨b, o + k * 4 + 3, none⟩) hbl).trans c3
      have hen := HALL.out es[k] (List.getElem_mem _)
      have HBN := Lib.hid (sumOf_next lenOf es k hlt)
      have HLN := Lib.hid (lnSum_next linesOfE 0 es k hlt)
      
      obtain ⟨x, hx⟩ : ∃ x, es[k] = x := ⟨_, rfl⟩
      rw [hx] at c0 c1 c2 c3 hen
      have HX := Lib.hid hx
      obtain ⟨s0, s1, s2, s3⟩ := x
      unfold entMay at hen
      simp only at c0 c1 c2 c3 hen
      obtain ⟨SB, hSB⟩ : ∃ y, sumOf lenOf (es.take k) = y := ⟨_, rfl⟩
      obtain ⟨SL, hSL⟩ : ∃ y, lnSum linesOfE 0 (es.take k) = y := ⟨_, rfl⟩
      
      rw [hSB] at hsb ⊢
      rw [hSL] at htk
      have HSB := Lib.hid hSB
      have HSL := Lib.hid hSL
      have HTK := Lib.hid htk
      have HBX := Lib.hid hbx
      have hT : -1099511627777 ≤ T ∧ T ≤ 1099511627776 := by
        have hr := lnSum_range linesOfE 1048576 (es.take k) 0 (fun y hy => by have := HALL.out y (List.mem_of_mem_take hy); unfold entMay at this; unfold linesOfE; omega) (by decide) (by decide)
        simp only [Int.lt_irrefl, if_false] at hr
        rw [hSL, hlk] at hr
        rcases htk with ⟨q1, q2⟩ | ⟨q1, q2, q3⟩ <;> omega
      have q1 : 0 ≤ SB ∧ SB ≤ 12582912 := by omega
      have r0 : (0 : Int) ≤ (k : Int) := by omega
      have r1 : (k : Int) < (es.length : Int) := by omega
      have wk := IntWalk.i64_in ((k : Int) + 1) (by omega)
      have wS := IntWalk.i64_in (SB + s2) (by omega)
      
      clear hx hSB hSL htk hbx hsb hlk 
      by_cases hv : s3 < 0
      · obtain rfl : s3 = -1 := by omega
        have HT2 := Lib.hid (HTK.out.open (l := -1) rfl)
        go_wp2_with fail
        go_roundw
        case rel => exact ⟨k + 1, _, by omega, by go_num, by rw [HBN.out, HSB.out, HX.out]; rfl, rfl, by rw [HLN.out, HSL.out, HX.out]; exact HT2.out, HBX.out, hbl2⟩
        case measure => simp [intOf]; omega
      · have HT2 := Lib.hid (HTK.out.add (l := s3) (by omega) (by omega))
        have wT := IntWalk.i64_in (T + s3) (by omega)
        go_wp2_with fail
        go_roundw
        case rel => exact ⟨k + 1, _, by omega, by go_num, by rw [HBN.out, HSB.out, HX.out]; rfl, rfl, by rw [HLN.out, HSL.out, HX.out]; exact HT2.out, HBX.out, hbl2⟩
        case measure => simp [intOf]; omega
    · obtain rfl : k = es.length := by omega
      rw [List.take_length] at htk ⊢
      obtain ⟨SB, hSB⟩ : ∃ y, sumB true es [] = y := ⟨_, rfl⟩
      obtain ⟨SL, hSL⟩ : ∃ y, sumL true es [] = y := ⟨_, rfl⟩
      
      rw [show sumOf lenOf es = SB from hSB]
      rw [show lnSum linesOfE 0 es = SL from hSL] at htk
      
      have HSB := Lib.hid hSB
      have HSL := Lib.hid hSL
      
      clear hSB hSL  hsb 
      rcases htk with ⟨e1, rfl⟩ | ⟨e1, e2, e3⟩
      · have m1 : max T (-1) = T := by omega
        go_wp2_with fail
        refine wp_loop_rounds 1 ?_
        rw [rounds_succ]
        go_wp2_with fail
        go_ret3
        exact ⟨by rw [HSB.out, HSL.out]; rfl, by first | exact hbl2 | exact hbl2.trans (below_drawn _ _ _)⟩
      · have m1 : max T (-1) = -1 := by omega
        subst e1
        go_wp2_with fail
        refine wp_loop_rounds 1 ?_
        rw [rounds_succ]
        go_wp2_with fail
        go_ret3
        exact ⟨by rw [HSB.out, HSL.out]; rfl, by first | exact hbl2 | exact hbl2.trans (below_drawn _ _ _)⟩
set_option maxRecDepth 100000 in
set_option maxHeartbeats 4000000 in
theorem refSum_inner (ve vk : Value) (es ks : List Quad) (w : World) (He : Quads w ve es) (Hk : Quads w vk ks) (hM : ndMay false es ks) :
    Calls Try.prog 39 #[.agg #[.bool false, ve, vk]] w fun e w' => e = .returned (.tuple #[.int .i64 (sumB false es ks), .int .i64 (sumL false es ks), .int .i64 (sumS false es ks)]) ∧ Below w.heap.size w w' := by
  have hm : (∀ x ∈ ks, kidMay x) ∧ 2 ≤ ks.length ∧ ks.length ≤ 12 ∧ es = [] := by
    rcases hM with h | h
    · exact absurd h.1 (by decide)
    · exact ⟨h.2.2.1, h.2.2.2.1, h.2.2.2.2.1, h.2.1⟩
  obtain ⟨hall, hl1, hl12, rfl⟩ := hm
  obtain ⟨a, cap, rfl, hc1, hc2, hcs⟩ := Hk.open
  obtain ⟨ak, ck, rfl, -, -, -⟩ := He.open
  unfold maxLen at hc2
  obtain ⟨b, o, rfl, hbl, hcell⟩ := hcs (by omega)
  have HCS := Lib.hid hcell
  have HALL := Lib.hid hall
  have HB0 := Lib.hid (show (w.alloc (ndBox false (.slice ak 0 ck) (.slice (some ⟨b, o, none⟩) ks.length cap))).heap[w.heap.size]? = some (ndBox false (.slice ak 0 ck) (.slice (some ⟨b, o, none⟩) ks.length cap)) from heap_last rfl)
  clear He Hk hcs hcell hall hM
  simp only [List.length_nil] at *
  go_enter Try.func39, Try.ntmps39
  go_wp2_with fail
  go_quiet (fail)
  go_wp2_with fail
  refine wp_loop_rounds 1 ?_
  rw [rounds_succ]
  go_wp2_with fail
  go_loopw [5, 6, 7, 9] (fun s t c i wr => ∃ (k : Nat) (T : Int), k ≤ ks.length ∧ i = .int .i64 k ∧ s = .int .i64 (sumOf bytesOfKid (ks.take k)) ∧ t = .int .i64 T ∧ TOk k T (lnSum linesOfK 0 (ks.take k)) ∧ c = .int .i64 (sumOf scrapsOfKid (ks.take k)) ∧ wr.heap[w.heap.size]? = some (ndBox false (.slice ak 0 ck) (.slice (some ⟨b, o, none⟩) ks.length cap)) ∧ Below w.heap.size w wr) (fun _ _ _ i _ => ks.length - (intOf i).toNat)
  case atStart => exact ⟨0, 0, Nat.zero_le _, rfl, rfl, rfl, .inl ⟨Int.le_refl _, rfl⟩, rfl, HB0.out, by first | exact below_new (Below.refl _ _) _ | exact (below_new (Below.refl _ _) _).trans (below_drawn _ _ _)⟩
  case round =>
    clear HB0
    obtain ⟨wq, hwq⟩ : ∃ x, x = wr := ⟨_, rfl⟩
    rw [← hwq] at hrel ⊢
    clear hwq
    obtain ⟨k, T, hk, rfl, rfl, rfl, htk, rfl, hbx, hbl2⟩ := hrel
    obtain ⟨b0, b1, b2⟩ := ndBox_cells hbx
    have hnl := (Array.getElem?_eq_some_iff.1 hbx).1
    have hlk : (ks.take k).length = k := by simp; omega
    have hsb := sumOf_le bytesOfKid 1048576 (ks.take k) (fun y hy => kid_bytes (HALL.out y (List.mem_of_mem_take hy)))
    have hss := sumOf_le scrapsOfKid 1048576 (ks.take k) (fun y hy => kid_scraps (HALL.out y (List.mem_of_mem_take hy)))
    rw [hlk] at hss
    rw [hlk] at hsb
    by_cases hlt : k < ks.length
    · obtain ⟨c0, c1, c2, c3⟩ := HCS.out k hlt
      replace c0 := (hbl2.cell (p := ⟨b, o + k * 4, none⟩) hbl).trans c0
      replace c1 := (hbl2.cell (p := ⟨b, o + k * 4 + 1, none⟩) hbl).trans c1
      replace c2 := (hbl2.cell (p := ⟨b, o + k * 4 + 2, none⟩) hbl).trans c2
      replace c3 := (hbl2.cell (p := ⟨b, o + k * 4 + 3, none⟩) hbl).trans c3
      have hen := HALL.out ks[k] (List.getElem_mem _)
      have HBN := Lib.hid (sumOf_next bytesOfKid ks k hlt)
      have HLN := Lib.hid (lnSum_next linesOfK 0 ks k hlt)
      have HSN := Lib.hid (sumOf_next scrapsOfKid ks k hlt)
      obtain ⟨x, hx⟩ : ∃ x, ks[k] = x := ⟨_, rfl⟩
      rw [hx] at c0 c1 c2 c3 hen
      have HX := Lib.hid hx
      obtain ⟨s0, s1, s2, s3⟩ := x
      unfold kidMay at hen
      simp only at c0 c1 c2 c3 hen
      obtain ⟨SB, hSB⟩ : ∃ y, sumOf bytesOfKid (ks.take k) = y := ⟨_, rfl⟩
      obtain ⟨SL, hSL⟩ : ∃ y, lnSum linesOfK 0 (ks.take k) = y := ⟨_, rfl⟩
      obtain ⟨SS, hSS⟩ : ∃ y, sumOf scrapsOfKid (ks.take k) = y := ⟨_, rfl⟩
      rw [hSS] at hss ⊢
      have HSS := Lib.hid hSS
      rw [hSB] at hsb ⊢
      rw [hSL] at htk
      have HSB := Lib.hid hSB
      have HSL := Lib.hid hSL
      have HTK := Lib.hid htk
      have HBX := Lib.hid hbx
      have hT : -1099511627777 ≤ T ∧ T ≤ 1099511627776 := by
        have hr := lnSum_range linesOfK 1048576 (ks.take k) 0 (fun y hy => by have := HALL.out y (List.mem_of_mem_take hy); unfold kidMay at this; unfold linesOfK; omega) (by decide) (by decide)
        simp only [Int.lt_irrefl, if_false] at hr
        rw [hSL, hlk] at hr
        rcases htk with ⟨q1, q2⟩ | ⟨q1, q2, q3⟩ <;> omega
      have q1 : 0 ≤ SB ∧ SB ≤ 12582912 := by omega
      have r0 : (0 : Int) ≤ (k : Int) := by omega
      have r1 : (k : Int) < (ks.length : Int) := by omega
      have wk := IntWalk.i64_in ((k : Int) + 1) (by omega)
      have wS := IntWalk.i64_in (SB + s1) (by omega)
      have q2 : 0 ≤ SS ∧ SS ≤ 12582912 := by omega
      have wC := IntWalk.i64_in (SS + s3) (by omega)
      clear hx hSB hSL htk hbx hsb hlk hss hSS
      by_cases hv : s2 < 0
      · obtain rfl : s2 = -1 := by omega
        have HT2 := Lib.hid (HTK.out.open (l := -1) rfl)
        go_wp2_with fail
        go_roundw
        case rel => exact ⟨k + 1, _, by omega, by go_num, by rw [HBN.out, HSB.out, HX.out]; rfl, rfl, by rw [HLN.out, HSL.out, HX.out]; exact HT2.out, by rw [HSN.out, HSS.out, HX.out]; rfl, HBX.out, hbl2⟩
        case measure => simp [intOf]; omega
      · have HT2 := Lib.hid (HTK.out.add (l := s2) (by omega) (by omega))
        have wT := IntWalk.i64_in (T + s2) (by omega)
        go_wp2_with fail
        go_roundw
        case rel => exact ⟨k + 1, _, by omega, by go_num, by rw [HBN.out, HSB.out, HX.out]; rfl, rfl, by rw [HLN.out, HSL.out, HX.out]; exact HT2.out, by rw [HSN.out, HSS.out, HX.out]; rfl, HBX.out, hbl2⟩
        case measure => simp [intOf]; omega
    · obtain rfl : k = ks.length := by omega
      rw [List.take_length] at htk ⊢
      obtain ⟨SB, hSB⟩ : ∃ y, sumB false [] ks = y := ⟨_, rfl⟩
      obtain ⟨SL, hSL⟩ : ∃ y, sumL false [] ks = y := ⟨_, rfl⟩
      obtain ⟨SS, hSS⟩ : ∃ y, sumS false [] ks = y := ⟨_, rfl⟩
      rw [show sumOf bytesOfKid ks = SB from hSB]
      rw [show lnSum linesOfK 0 ks = SL from hSL] at htk
      rw [show sumOf scrapsOfKid ks = SS from hSS]
      have HSB := Lib.hid hSB
      have HSL := Lib.hid hSL
      have HSS := Lib.hid hSS
      clear hSB hSL hSS hsb hss
      rcases htk with ⟨e1, rfl⟩ | ⟨e1, e2, e3⟩
      · have m1 : max T (-1) = T := by omega
        go_wp2_with fail
        skip
        go_ret3
        exact ⟨by rw [HSB.out, HSL.out, HSS.out]; rfl, by first | exact hbl2 | exact hbl2.trans (below_drawn _ _ _)⟩
      · have m1 : max T (-1) = -1 := by omega
        subst e1
        go_wp2_with fail
        skip
        go_ret3
        exact ⟨by rw [HSB.out, HSL.out, HSS.out]; rfl, by first | exact hbl2 | exact hbl2.trans (below_drawn _ _ _)⟩
end Go.Proofs.Ytcmoajbdepohmaa
