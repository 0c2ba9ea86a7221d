/- Layer 13: node.Sum (printed by wip/ndk_gen.py). -/
import Derived.Test.YtcmoajbdepohmaaNdJ
namespace Go.Proofs.Ytcmoajbdepohmaa
open Go.RowKit Go.Oct
/-- what stands while a node is summed up -/
structure SmSt (w : World) (leaf : Bool) (ve vk : Value) (B L S : Int) (W : World) : Prop where
  bx : W.heap[w.heap.size]? = some (ndBox leaf ve vk)
  b : W.heap[w.heap.size + 1]? = some (numBox B)
  l : W.heap[w.heap.size + 2]? = some (numBox L)
  s : W.heap[w.heap.size + 3]? = some (numBox S)
  bl : Below w.heap.size w W
theorem SmSt.below {w : World} {leaf : Bool} {ve vk : Value} {B L S : Int} {W W' : World} (h : SmSt w leaf ve vk B L S W) (k : Below W.heap.size W W') : SmSt w leaf ve vk B L S W' :=
  ⟨box_below h.bx k, box_below h.b k, box_below h.l k, box_below h.s k, below_step h.bl k⟩
theorem SmSt.alloc {w : World} {leaf : Bool} {ve vk : Value} {B L S : Int} {W : World} (h : SmSt w leaf ve vk B L S W) (o : Obj) : SmSt w leaf ve vk B L S (W.alloc o) :=
  h.below ((Below.refl _ _).alloc (Nat.le_refl _) o)
theorem SmSt.add {w : World} {leaf : Bool} {ve vk : Value} {B L S b l s : Int} {W W' : World} {e : Ending} (h : SmSt w leaf ve vk B L S W) (k : AddPost (w.heap.size + 1) (w.heap.size + 2) (w.heap.size + 3) B L S b l s W e W') : SmSt w leaf ve vk (B + b) (lnStep L l) (S + s) W' := by
  obtain ⟨_, h1, h2, h3, hz, ho, ht, hp, hi⟩ := k
  refine ⟨(hi _ (by omega) (by omega) (by omega)).trans h.bx, h1, h2, h3, ⟨ho.trans h.bl.os, ht.trans h.bl.tape, hp.trans h.bl.output, by rw [hz]; exact h.bl.size, fun i hlt => ?_⟩⟩
  exact (hi i (by omega) (by omega) (by omega)).trans (h.bl.block i hlt)
def smB (leaf : Bool) (es ks : List Quad) : Int := if ndMay leaf es ks then sumB leaf es ks else 0
def smL (leaf : Bool) (es ks : List Quad) : Int := if ndMay leaf es ks then sumL leaf es ks else 0
def smS (leaf : Bool) (es ks : List Quad) : Int := if ndMay leaf es ks then sumS leaf es ks else 0
/-- what Sum answers -/
def NsPost (leaf : Bool) (es ks : List Quad) (w : World) (e : Ending) (w' : World) : Prop :=
  e = .returned (.tuple #[.int .i64 (smB leaf es ks), .int .i64 (smL leaf es ks), .int .i64 (smS leaf es ks)]) ∧ Below w.heap.size w w'
theorem ns_ok {leaf : Bool} {es ks : List Quad} (h : ndMay leaf es ks) {w w' : World} {e : Ending} (he : e = .returned (.tuple #[.int .i64 (sumB leaf es ks), .int .i64 (sumL leaf es ks), .int .i64 (sumS leaf es ks)])) (hb : Below w.heap.size w w') : NsPost leaf es ks w e w' := by
  refine ⟨?_, hb⟩
  rw [he, smB, smL, smS, if_pos h, if_pos h, if_pos h]
theorem ns_bad {leaf : Bool} {es ks : List Quad} (h : ¬ ndMay leaf es ks) {w w' : World} {e : Ending} (he : e = .returned (.tuple #[.int .i64 0, .int .i64 0, .int .i64 0])) (hb : Below w.heap.size w w') : NsPost leaf es ks w e w' := by
  refine ⟨?_, hb⟩
  rw [he, smB, smL, smS, if_neg h, if_neg h, if_neg h]
theorem SmSt.start (w : World) (leaf : Bool) (ve vk : Value) : SmSt w leaf ve vk 0 0 0 ((((w.alloc (ndBox leaf ve vk)).alloc (numBox 0)).alloc (numBox 0)).alloc (numBox 0)) :=
  ⟨heap_keep (heap_keep (heap_keep (heap_last rfl) _) _) _, heap_keep (heap_keep (heap_last (by simp)) _) _, heap_keep (heap_last (by simp)) _, heap_last (by simp), below_new (below_new (below_new (below_new (Below.refl _ _) _) _) _) _⟩
theorem SmSt.three {w : World} {leaf : Bool} {ve vk : Value} {B L S : Int} {W : World} (h : SmSt w leaf ve vk B L S W) : W.cell? ⟨w.heap.size + 1, 0, none⟩ = some (.int .i64 B) ∧ W.cell? ⟨w.heap.size + 2, 0, none⟩ = some (.int .i64 L) ∧ W.cell? ⟨w.heap.size + 3, 0, none⟩ = some (.int .i64 S) ∧
    W.frozen? ⟨w.heap.size + 1, 0, none⟩ = false ∧ W.frozen? ⟨w.heap.size + 2, 0, none⟩ = false ∧ W.frozen? ⟨w.heap.size + 3, 0, none⟩ = false ∧ w.heap.size + 3 < W.heap.size := by
  obtain ⟨a1, a2⟩ := numBox_cell h.b
  obtain ⟨b1, b2⟩ := numBox_cell h.l
  obtain ⟨c1, c2⟩ := numBox_cell h.s
  exact ⟨a1, b1, c1, a2, b2, c2, (Array.getElem?_eq_some_iff.1 h.s).1⟩
set_option maxHeartbeats 1000000 in
theorem nodeSum_bad (leaf : Bool) (ve vk : Value) (es ks : List Quad) (w : World) (He : Quads w ve es) (Hk : Quads w vk ks) (le : es.length ≤ 4398046511104) (lk : ks.length ≤ 4398046511104) (hM : ¬ ndMay leaf es ks) :
    Calls Try.prog 37 #[.agg #[.bool leaf, ve, vk]] w (NsPost leaf es ks w) := by
  obtain ⟨a, cap, rfl, -, -, -⟩ := He.open
  obtain ⟨ak, ck, rfl, -, -, -⟩ := Hk.open
  have HM := Lib.hid hM
  have HD := Lib.hid (decide_eq_false hM)
  have HE := Lib.hid He
  have HK := Lib.hid Hk
  have HST := Lib.hid (SmSt.start w leaf (.slice a es.length cap) (.slice ak ks.length ck))
  clear hM He Hk
  go_enter Try.func37, Try.ntmps37
  go_wp2_with fail
  refine (nodeMay_any leaf _ _ es ks _ ((((HE.out.alloc _).alloc _).alloc _).alloc _) ((((HK.out.alloc _).alloc _).alloc _).alloc _) le lk).mono ?_
  rintro e w1 ⟨rfl, hx⟩
  rw [HD.out]
  have HST1 := Lib.hid (HST.out.below hx)
  obtain ⟨c1, c2, c3, f1, f2, f3, hz⟩ := HST1.out.three
  clear hx
  go_wp2_with fail
  refine bodyPost_ret (v := .tuple #[.int .i64 0, .int .i64 0, .int .i64 0]) (by simp [results, Try.results37, go_sem, c1, c2, c3]) rfl ?_
  exact ns_bad HM.out rfl (((HST1.out.bl.setCell (by dsimp only; omega) _).setCell (by dsimp only; omega) _).setCell (by dsimp only; omega) _)
set_option maxRecDepth 100000 in
set_option maxHeartbeats 4000000 in
theorem nodeSum_leaf (ve vk : Value) (es ks : List Quad) (w : World) (He : Quads w ve es) (Hk : Quads w vk ks) (le : es.length ≤ 4398046511104) (lk : ks.length ≤ 4398046511104) (hM : ndMay true es ks) :
    Calls Try.prog 37 #[.agg #[.bool true, ve, vk]] w (NsPost true es ks w) := by
  have hm : (∀ x ∈ es, entMay x) ∧ 1 ≤ es.length ∧ es.length ≤ 12 ∧ ks = [] := by
    rcases hM with h | h
    · exact ⟨h.2.2.1, h.2.2.2.1, h.2.2.2.2.1, h.2.1⟩
    · exact absurd h.1 (by decide)
  obtain ⟨hall, hl1, hl12, rfl⟩ := hm
  obtain ⟨ak, ck, rfl, -, -, -⟩ := Hk.open
  obtain ⟨a, cap, rfl, hc1, hc2, hcs⟩ := He.open
  unfold maxLen at hc2
  obtain ⟨b, o, rfl, hbl, hcell⟩ := hcs (by omega)
  have HCS := Lib.hid hcell
  have HALL := Lib.hid hall
  have HM := Lib.hid hM
  have HD := Lib.hid (decide_eq_true hM)
  have HE := Lib.hid He
  have HK := Lib.hid Hk
  have HST := Lib.hid (SmSt.start w true (.slice (some ⟨b, o, none⟩) es.length cap) (.slice ak 0 ck))
  have hmf : ∀ (fn : Fn) (first cap : Array Value) (w : World), (Instr.makeFunc fn first cap).run Try.prog w = .ok (.func fn first cap) w := fun _ _ _ _ => rfl
  clear hM He Hk hcs hcell hall
  simp only [List.length_nil] at *
  go_enter Try.func37, Try.ntmps37
  go_wp2_with fail
  refine (nodeMay_any true _ _ _ _ _ ((((HE.out.alloc _).alloc _).alloc _).alloc _) ((((HK.out.alloc _).alloc _).alloc _).alloc _) (by first | exact le | decide) (by first | exact lk | decide)).mono ?_
  rintro e w1 ⟨rfl, hx⟩
  rw [HD.out]
  have HST1 := Lib.hid (HST.out.below hx)
  clear hx HST
  obtain ⟨b0, b1, b2⟩ := ndBox_cells HST1.out.bx
  obtain ⟨-, -, -, -, -, -, hz⟩ := HST1.out.three
  go_wp2_with fail
  clear b0 b1 b2 hz
  go_loopw [17] (fun i wr => ∃ k : Nat, k ≤ es.length ∧ i = .int .i64 k ∧ SmSt w true (.slice (some ⟨b, o, none⟩) es.length cap) (.slice ak 0 ck) (sumOf lenOf (es.take k)) (lnSum linesOfE 0 (es.take k)) ((k : Nat) : Int) wr) (fun i _ => es.length - (intOf i).toNat)
  case atStart => exact ⟨0, Nat.zero_le _, rfl, HST1.out⟩
  case round =>
    clear HST1
    obtain ⟨k, hk, rfl, hst⟩ := hrel
    have HST := Lib.hid hst
    by_cases hlt : k < es.length
    · obtain ⟨c0, c1, c2, c3⟩ := HCS.out k hlt
      replace c0 := (hst.bl.cell (p := ⟨b, o + k * 4, none⟩) hbl).trans c0
      replace c1 := (hst.bl.cell (p := ⟨b, o + k * 4 + 1, none⟩) hbl).trans c1
      replace c2 := (hst.bl.cell (p := ⟨b, o + k * 4 + 2, none⟩) hbl).trans c2
      replace c3 := (hst.bl.cell (p := ⟨b, o + k * 4 + 3, none⟩) hbl).trans c3
      have hen := HALL.out es[k] (List.getElem_mem _)
      have hsb := sumOf_le lenOf 1048576 (es.take k) (fun y hy => ent_len (HALL.out y (List.mem_of_mem_take hy)))
      have hln := lnSum_range linesOfE 1048576 (es.take k) 0 (fun y hy => by have := HALL.out y (List.mem_of_mem_take hy); unfold entMay at this; unfold linesOfE; omega) (by decide) (by decide)
      have hlk : (es.take k).length = k := by simp; omega
      have HBN := Lib.hid (sumOf_next lenOf es k hlt)
      have HLN := Lib.hid (lnSum_next linesOfE 0 es k hlt)
      obtain ⟨x, hx⟩ : ∃ x, es[k] = x := ⟨_, rfl⟩
      rw [hx] at c0 c1 c2 c3 hen
      have HX := Lib.hid hx
      obtain ⟨s0, s1, s2, s3⟩ := x
      unfold entMay at hen
      simp only at c0 c1 c2 c3 hen
      obtain ⟨SB, hSB⟩ : ∃ y, sumOf lenOf (es.take k) = y := ⟨_, rfl⟩
      obtain ⟨SL, hSL⟩ : ∃ y, lnSum linesOfE 0 (es.take k) = y := ⟨_, rfl⟩
      rw [hSB, hSL] at hst
      rw [hSB, hlk] at hsb
      rw [hSL, hlk] at hln
      simp only [Int.lt_irrefl, if_false] at hln
      have HSB := Lib.hid hSB
      have HSL := Lib.hid hSL
      have HST2 := Lib.hid hst
      have q1 : 0 ≤ SB ∧ SB ≤ 12582912 := by omega
      have q2 : -1 ≤ SL ∧ SL ≤ 12582912 := by omega
      have r0 : (0 : Int) ≤ (k : Int) := by omega
      have r1 : (k : Int) < (es.length : Int) := by omega
      clear hx hsb hln hlk hst HST hSB hSL
      go_wp2_with fail
      have HSTA := Lib.hid (HST2.out.alloc (.cells #[.int .i64 s0, .int .i64 s1, .int .i64 s2, .int .i64 s3] 80))
      refine (add_any (w.heap.size + 1) (w.heap.size + 2) (w.heap.size + 3) _ _ _ s2 s3 1 _ HSTA.out.b HSTA.out.l HSTA.out.s (by omega) (by omega) (by omega) (by omega) (by omega) (by omega) (by omega) (by omega) (by omega)).mono ?_
      rintro e w2 hpost
      obtain ⟨rfl, -⟩ := id hpost
      have hst2 := HSTA.out.add hpost
      have HST3 := Lib.hid (show SmSt w true (.slice (some ⟨b, o, none⟩) es.length cap) (.slice ak 0 ck) (sumOf lenOf (es.take (k + 1))) (lnSum linesOfE 0 (es.take (k + 1))) ((k + 1 : Nat) : Int) w2 by
        rw [HBN.out, HLN.out, HSB.out, HSL.out, HX.out]
        exact hst2)
      clear hpost hst2 HSTA HST2 c0 c1 c2 c3 hen
      go_wp2_with fail
      go_roundw
      case rel => exact ⟨k + 1, by omega, by go_num, HST3.out⟩
      case measure => simp [intOf]; omega
    · obtain rfl : k = es.length := by omega
      obtain ⟨b0, b1, b2⟩ := ndBox_cells hst.bx
      obtain ⟨-, -, -, -, -, -, hz⟩ := hst.three
      have hke : es.take es.length = es := List.take_length
      rw [hke] at hst
      clear HST hke
      obtain ⟨SB, hSB⟩ : ∃ y, sumB true es [] = y := ⟨_, rfl⟩
      obtain ⟨SL, hSL⟩ : ∃ y, sumL true es [] = y := ⟨_, rfl⟩
      obtain ⟨SS, hSS⟩ : ∃ y, sumS true es [] = y := ⟨_, rfl⟩
      replace hst : SmSt w true (.slice (some ⟨b, o, none⟩) es.length cap) (.slice ak 0 ck) SB SL SS wr := by rw [← hSB, ← hSL, ← hSS]; exact hst
      have HSB := Lib.hid hSB
      have HSL := Lib.hid hSL
      have HSS := Lib.hid hSS
      have HST4 := Lib.hid hst
      obtain ⟨c1, c2, c3, f1, f2, f3, -⟩ := hst.three
      clear hst hSB hSL hSS
      go_wp2_with fail
      refine wp_loop_rounds 1 ?_
      rw [rounds_succ]
      go_wp2_with fail
      go_region
      all_goals
        go_wp2_with fail
        refine bodyPost_ret (v := .tuple #[.int .i64 SB, .int .i64 SL, .int .i64 SS]) (by simp [results, Try.results37, go_sem, c1, c2, c3]) rfl ?_
        exact ns_ok HM.out (by rw [HSB.out, HSL.out, HSS.out]) (((HST4.out.bl.setCell (by dsimp only; omega) _).setCell (by dsimp only; omega) _).setCell (by dsimp only; omega) _).drew
set_option maxRecDepth 100000 in
set_option maxHeartbeats 4000000 in
theorem nodeSum_inner (ve vk : Value) (es ks : List Quad) (w : World) (He : Quads w ve es) (Hk : Quads w vk ks) (le : es.length ≤ 4398046511104) (lk : ks.length ≤ 4398046511104) (hM : ndMay false es ks) :
    Calls Try.prog 37 #[.agg #[.bool false, ve, vk]] w (NsPost false es ks w) := by
  have hm : (∀ x ∈ ks, kidMay x) ∧ 2 ≤ ks.length ∧ ks.length ≤ 12 ∧ es = [] := by
    rcases hM with h | h
    · exact absurd h.1 (by decide)
    · exact ⟨h.2.2.1, h.2.2.2.1, h.2.2.2.2.1, h.2.1⟩
  obtain ⟨hall, hl1, hl12, rfl⟩ := hm
  obtain ⟨ak, ck, rfl, -, -, -⟩ := He.open
  obtain ⟨a, cap, rfl, hc1, hc2, hcs⟩ := Hk.open
  unfold maxLen at hc2
  obtain ⟨b, o, rfl, hbl, hcell⟩ := hcs (by omega)
  have HCS := Lib.hid hcell
  have HALL := Lib.hid hall
  have HM := Lib.hid hM
  have HD := Lib.hid (decide_eq_true hM)
  have HE := Lib.hid He
  have HK := Lib.hid Hk
  have HST := Lib.hid (SmSt.start w false (.slice ak 0 ck) (.slice (some ⟨b, o, none⟩) ks.length cap))
  have hmf : ∀ (fn : Fn) (first cap : Array Value) (w : World), (Instr.makeFunc fn first cap).run Try.prog w = .ok (.func fn first cap) w := fun _ _ _ _ => rfl
  clear hM He Hk hcs hcell hall
  simp only [List.length_nil] at *
  go_enter Try.func37, Try.ntmps37
  go_wp2_with fail
  refine (nodeMay_any false _ _ _ _ _ ((((HE.out.alloc _).alloc _).alloc _).alloc _) ((((HK.out.alloc _).alloc _).alloc _).alloc _) (by first | exact le | decide) (by first | exact lk | decide)).mono ?_
  rintro e w1 ⟨rfl, hx⟩
  rw [HD.out]
  have HST1 := Lib.hid (HST.out.below hx)
  clear hx HST
  obtain ⟨b0, b1, b2⟩ := ndBox_cells HST1.out.bx
  obtain ⟨-, -, -, -, -, -, hz⟩ := HST1.out.three
  go_wp2_with fail
  refine wp_loop_rounds 1 ?_
  rw [rounds_succ]
  go_wp2_with fail
  clear b0 b1 b2 hz
  go_loopw [32] (fun i wr => ∃ k : Nat, k ≤ ks.length ∧ i = .int .i64 k ∧ SmSt w false (.slice ak 0 ck) (.slice (some ⟨b, o, none⟩) ks.length cap) (sumOf bytesOfKid (ks.take k)) (lnSum linesOfK 0 (ks.take k)) (sumOf scrapsOfKid (ks.take k)) wr) (fun i _ => ks.length - (intOf i).toNat)
  case atStart => exact ⟨0, Nat.zero_le _, rfl, HST1.out⟩
  case round =>
    clear HST1
    obtain ⟨k, hk, rfl, hst⟩ := hrel
    have HST := Lib.hid hst
    by_cases hlt : k < ks.length
    · obtain ⟨c0, c1, c2, c3⟩ := HCS.out k hlt
      replace c0 := (hst.bl.cell (p := ⟨b, o + k * 4, none⟩) hbl).trans c0
      replace c1 := (hst.bl.cell (p := ⟨b, o + k * 4 + 1, none⟩) hbl).trans c1
      replace c2 := (hst.bl.cell (p := ⟨b, o + k * 4 + 2, none⟩) hbl).trans c2
      replace c3 := (hst.bl.cell (p := ⟨b, o + k * 4 + 3, none⟩) hbl).trans c3
      have hen := HALL.out ks[k] (List.getElem_mem _)
      have hsb := sumOf_le bytesOfKid 1048576 (ks.take k) (fun y hy => kid_bytes (HALL.out y (List.mem_of_mem_take hy)))
      have hss := sumOf_le scrapsOfKid 1048576 (ks.take k) (fun y hy => kid_scraps (HALL.out y (List.mem_of_mem_take hy)))
      have HSN := Lib.hid (sumOf_next scrapsOfKid ks k hlt)
      have hln := lnSum_range linesOfK 1048576 (ks.take k) 0 (fun y hy => by have := HALL.out y (List.mem_of_mem_take hy); unfold kidMay at this; unfold linesOfK; omega) (by decide) (by decide)
      have hlk : (ks.take k).length = k := by simp; omega
      have HBN := Lib.hid (sumOf_next bytesOfKid ks k hlt)
      have HLN := Lib.hid (lnSum_next linesOfK 0 ks k hlt)
      obtain ⟨x, hx⟩ : ∃ x, ks[k] = x := ⟨_, rfl⟩
      rw [hx] at c0 c1 c2 c3 hen
      have HX := Lib.hid hx
      obtain ⟨s0, s1, s2, s3⟩ := x
      unfold kidMay at hen
      simp only at c0 c1 c2 c3 hen
      obtain ⟨SB, hSB⟩ : ∃ y, sumOf bytesOfKid (ks.take k) = y := ⟨_, rfl⟩
      obtain ⟨SL, hSL⟩ : ∃ y, lnSum linesOfK 0 (ks.take k) = y := ⟨_, rfl⟩
      obtain ⟨SS, hSS⟩ : ∃ y, sumOf scrapsOfKid (ks.take k) = y := ⟨_, rfl⟩
      rw [hSB, hSL, hSS] at hst
      rw [hSB, hlk] at hsb
      rw [hSL, hlk] at hln
      rw [hSS, hlk] at hss
      simp only [Int.lt_irrefl, if_false] at hln
      have HSB := Lib.hid hSB
      have HSL := Lib.hid hSL
      have HSS := Lib.hid hSS
      have HST2 := Lib.hid hst
      have q1 : 0 ≤ SB ∧ SB ≤ 12582912 := by omega
      have q2 : -1 ≤ SL ∧ SL ≤ 12582912 := by omega
      have q3 : 0 ≤ SS ∧ SS ≤ 12582912 := by omega
      have r0 : (0 : Int) ≤ (k : Int) := by omega
      have r1 : (k : Int) < (ks.length : Int) := by omega
      clear hx hsb hln hlk hst HST hSB hSL hSS hss
      go_wp2_with fail
      have HSTA := Lib.hid (HST2.out.alloc (.cells #[.int .i64 s0, .int .i64 s1, .int .i64 s2, .int .i64 s3] 82))
      refine (add_any (w.heap.size + 1) (w.heap.size + 2) (w.heap.size + 3) _ _ _ s1 s2 s3 _ HSTA.out.b HSTA.out.l HSTA.out.s (by omega) (by omega) (by omega) (by omega) (by omega) (by omega) (by omega) (by omega) (by omega)).mono ?_
      rintro e w2 hpost
      obtain ⟨rfl, -⟩ := id hpost
      have hst2 := HSTA.out.add hpost
      have HST3 := Lib.hid (show SmSt w false (.slice ak 0 ck) (.slice (some ⟨b, o, none⟩) ks.length cap) (sumOf bytesOfKid (ks.take (k + 1))) (lnSum linesOfK 0 (ks.take (k + 1))) (sumOf scrapsOfKid (ks.take (k + 1))) w2 by
        rw [HBN.out, HLN.out, HSB.out, HSL.out, HX.out, HSN.out, HSS.out, HX.out]
        exact hst2)
      clear hpost hst2 HSTA HST2 c0 c1 c2 c3 hen
      go_wp2_with fail
      go_roundw
      case rel => exact ⟨k + 1, by omega, by go_num, HST3.out⟩
      case measure => simp [intOf]; omega
    · obtain rfl : k = ks.length := by omega
      obtain ⟨b0, b1, b2⟩ := ndBox_cells hst.bx
      obtain ⟨-, -, -, -, -, -, hz⟩ := hst.three
      have hke : ks.take ks.length = ks := List.take_length
      rw [hke] at hst
      clear HST hke
      obtain ⟨SB, hSB⟩ : ∃ y, sumB false [] ks = y := ⟨_, rfl⟩
      obtain ⟨SL, hSL⟩ : ∃ y, sumL false [] ks = y := ⟨_, rfl⟩
      obtain ⟨SS, hSS⟩ : ∃ y, sumS false [] ks = y := ⟨_, rfl⟩
      replace hst : SmSt w false (.slice ak 0 ck) (.slice (some ⟨b, o, none⟩) ks.length cap) SB SL SS wr := by rw [← hSB, ← hSL, ← hSS]; exact hst
      have HSB := Lib.hid hSB
      have HSL := Lib.hid hSL
      have HSS := Lib.hid hSS
      have HST4 := Lib.hid hst
      obtain ⟨c1, c2, c3, f1, f2, f3, -⟩ := hst.three
      clear hst hSB hSL hSS
      go_wp2_with fail
      go_region
      all_goals
        go_wp2_with fail
        refine bodyPost_ret (v := .tuple #[.int .i64 SB, .int .i64 SL, .int .i64 SS]) (by simp [results, Try.results37, go_sem, c1, c2, c3]) rfl ?_
        exact ns_ok HM.out (by rw [HSB.out, HSL.out, HSS.out]) (((HST4.out.bl.setCell (by dsimp only; omega) _).setCell (by dsimp only; omega) _).setCell (by dsimp only; omega) _).drew
/-- node.Sum -/
theorem nodeSum_any (leaf : Bool) (ve vk : Value) (es ks : List Quad) (w : World) (He : Quads w ve es) (Hk : Quads w vk ks) (le : es.length ≤ 4398046511104) (lk : ks.length ≤ 4398046511104) :
    Calls Try.prog 37 #[.agg #[.bool leaf, ve, vk]] w (NsPost leaf es ks w) := by
  by_cases hM : ndMay leaf es ks
  · cases leaf
    · exact nodeSum_inner ve vk es ks w He Hk le lk hM
    · exact nodeSum_leaf ve vk es ks w He Hk le lk hM
  · exact nodeSum_bad leaf ve vk es ks w He Hk le lk hM
end Go.Proofs.Ytcmoajbdepohmaa
