/- The law NodePacks: its arguments are opened as data, its walk (NdO) is called, the given statement is closed. -/
import Derived.Test.YtcmoajbdepohmaaNdP
import Derived.Test.YtcmoajbdepohmaaNdF
import Derived.Test.YtcmoajbdepohmaaNdD
import Derived.Test.YtcmoajbdepohmaaNbPlain
import Derived.Test.YtcmoajbdepohmaaAppend
import Derived.Test.YtcmoajbdepohmaaNdW
import Derived.Test.YtcmoajbdepohmaaNdYZ
import Derived.Test.YtcmoajbdepohmaaNdU
import Derived.Test.YtcmoajbdepohmaaRows
import Derived.Test.YtcmoajbdepohmaaFrame
import Derived.Test.YtcmoajbdepohmaaOpenN
namespace Go.Proofs.Ytcmoajbdepohmaa
open Go.RowKit Go.Oct
/-- a row of bytes of the call's own, and a block beside it -/
structure Pk13 (w : World) (bx : Nat) (x : Obj) (v : Value) (L : List UInt8) (W : World) : Prop where
  own : W.ownsRow w.heap.size 5 1 v L.length (bs L)
  box : W.heap[bx]? = some x
  ne : ∀ i, v.ownBlock = some i → i ≠ bx
  bel : Below w.heap.size w W
theorem Pk13.below {w : World} {bx : Nat} {x : Obj} {v : Value} {L : List UInt8} {W W' : World} (h : Pk13 w bx x v L W) (k : Below W.heap.size W W') : Pk13 w bx x v L W' :=
  ⟨own_keep h.own k, box_below h.box k, h.ne, below_step h.bel k⟩
theorem Pk13.alloc {w : World} {bx : Nat} {x : Obj} {v : Value} {L : List UInt8} {W : World} (h : Pk13 w bx x v L W) (o : Obj) : Pk13 w bx x v L (W.alloc o) := h.below ((Below.refl _ _).alloc (Nat.le_refl _) o)
theorem Pk13.more {w : World} {bx : Nat} {x : Obj} {v v' : Value} {L X : List UInt8} {n : Nat} {W W' : World} (h : Pk13 w bx x v L W) (hn : n = X.length) (ho : W'.ownsRow w.heap.size 5 1 v' (L.length + n) (bs L ++ bs X)) (k : W.grownBy W' v.ownBlock) (hb : v'.ownBlock = v.ownBlock ∨ v'.ownBlock = some W.heap.size) : Pk13 w bx x v' (L ++ X) W' := by
  subst hn
  refine ⟨by rw [bs_append, List.length_append]; exact ho, box_put h.box k (fun e => h.ne bx e.symm rfl), ?_, below_put h.bel h.own k⟩
  intro i hi
  rcases hb with e | e
  · exact h.ne i (by rw [← e]; exact hi)
  · rw [e] at hi
    obtain rfl := Option.some.inj hi
    exact Nat.ne_of_gt (Array.getElem?_eq_some_iff.1 h.box).1
theorem one_bs {n : Int} (h0 : 0 ≤ n) (h1 : n ≤ 255) : [Value.int .u8 n] = bs (opn4 1 n) ∧ (opn4 1 n).length = 1 := by
  obtain ⟨e, _, l⟩ := opn4_one h0 h1
  refine ⟨?_, l⟩
  rw [e]
  simp only [bs, List.map_cons, List.map_nil]
  rw [UInt8.toNat_ofNat_of_lt' (by simp [UInt8.size]; omega), Int.toNat_of_nonneg h0]
set_option maxRecDepth 100000 in
set_option maxHeartbeats 4000000 in
theorem refPack_leaf (ve vk : Value) (es ks : List Quad) (w : World) (He : Quads w ve es) (Hk : Quads w vk ks) (le : es.length ≤ 4398046511104) (lk : ks.length ≤ 4398046511104) :
    Calls Try.prog 34 #[.agg #[.bool true, ve, vk]] w (NpPost true es ks w) := by
  by_cases hM : ndMay true es ks
  · have hm : (∀ x ∈ es, entMay x) ∧ 1 ≤ es.length ∧ es.length ≤ 12 := by
      rcases hM with h | h
      · exact ⟨h.2.2.1, h.2.2.2.1, h.2.2.2.2.1⟩
      · exact absurd h.1 (by decide)
    obtain ⟨hall, hl1, hl12⟩ := hm
    have HE := Lib.hid He
    have HK := Lib.hid Hk
    obtain ⟨a, cap, rfl, hc1, hc2, hcs⟩ := He.open
    unfold maxLen at hc2
    obtain ⟨b, o, rfl, hbl, hcell⟩ := hcs (by omega)
    have HCS := Lib.hid hcell
    have HALL := Lib.hid hall
    have HD := Lib.hid (decide_eq_true hM)
    have HP := Lib.hid (show ndPack true es ks = opn4 1 (es.length : Int) ++ ndBody entBytes es by rw [ndPack, if_pos hM]; simp [layAll])
    have HKD := Lib.hid (show ndKind true es ks = 1 by rw [ndKind, if_pos hM]; rfl)
    have HC := Lib.hid (show ndCode true es ks = 0 by rw [ndCode, if_pos hM])
    have hkm : (es.length : Int) % 256 = (es.length : Int) := by omega
    obtain ⟨hk1, hk2⟩ := one_bs (n := (es.length : Int)) (by omega) (by omega)
    obtain ⟨N0, hN0⟩ : ∃ N0, N0 = opn4 1 (es.length : Int) := ⟨_, rfl⟩
    rw [← hN0] at hk1 hk2
    have HN0 := Lib.hid hN0
    have HK1 := Lib.hid hk1
    have HK2 := Lib.hid hk2
    obtain ⟨i0', hi, hz0, hz1, hz2⟩ := info_parts infoU8
    clear hM He Hk hcs hcell hall hk1 hk2 hN0
    go_enter Try.func34, Try.ntmps34
    have HB0 := Lib.hid (show (w.alloc (ndBox true (.slice (some ⟨b, o, none⟩) es.length cap) vk)).heap[w.heap.size]? = some (ndBox true (.slice (some ⟨b, o, none⟩) es.length cap) vk) from heap_last rfl)
    go_wp2_with fail
    refine (refMay_any true _ _ es ks _ (HE.out.alloc _) (HK.out.alloc _) le lk).mono ?_
    rintro e w1 ⟨rfl, hx⟩
    rw [HD.out]
    have hw1 := below_step (below_new (Below.refl _ _) _) hx
    have HB1 := Lib.hid (box_below HB0.out hx)
    obtain ⟨b0, b1, b2⟩ := ndBox_cells HB1.out
    have hnl := (Array.getElem?_eq_some_iff.1 HB1.out).1
    have hnz : w.heap.size < w1.heap.size := hnl
    clear hx HB0
    go_wp2_with fail
    have HS := Lib.hid (show Pk13 w w.heap.size (ndBox true (.slice (some ⟨b, o, none⟩) es.length cap) vk) (.slice (some ⟨w1.heap.size, 0, none⟩) 1 1) N0 (w1.alloc (.cells #[.int .u8 (es.length : Int)] 5)) from by
      refine ⟨?_, heap_keep HB1.out _, ?_, below_new hw1 _⟩
      · rw [HK2.out, ← HK1.out]
        have := World.ownsRow_lit (size := 1) (e := 5) (base := w.heap.size) w1 #[.int .u8 (es.length : Int)] 1 hw1.size (by decide) rfl
        simpa using this
      · intro i hi; simp [Value.ownBlock] at hi; omega)
    clear b0 b1 b2 hnl HB1 hw1
    go_loopw [5, 6] (fun ov i wr => ∃ k : Nat, k ≤ es.length ∧ i = .int .i64 k ∧ Pk13 w w.heap.size (ndBox true (.slice (some ⟨b, o, none⟩) es.length cap) vk) ov (N0 ++ ndBody entBytes (es.take k)) wr) (fun _ i _ => es.length - (intOf i).toNat)
    case atStart => exact ⟨0, Nat.zero_le _, rfl, by simpa [ndBody] using HS.out⟩
    case round =>
      clear HS
      obtain ⟨wq, hwq⟩ : ∃ x, x = wr := ⟨_, rfl⟩
      rw [← hwq] at hrel ⊢
      clear hwq
      obtain ⟨k, hk, rfl, hst⟩ := hrel
      obtain ⟨b0, b1, b2⟩ := ndBox_cells hst.box
      have hnl := (Array.getElem?_eq_some_iff.1 hst.box).1
      by_cases hlt : k < es.length
      · obtain ⟨c0, c1, c2, c3⟩ := HCS.out k hlt
        have hle := ndBody_le entBytes entBytes_le (es.take k)
        have hlk : (es.take k).length = k := by simp; omega
        have hM : (N0 ++ ndBody entBytes (es.take k)).length ≤ 1000 := by rw [List.length_append]; have := HK2.out; omega
        have HT := Lib.hid (ndBody_next entBytes es k hlt)
        have hen := HALL.out es[k] (List.getElem_mem _)
        obtain ⟨x, hx⟩ : ∃ x, es[k] = x := ⟨_, rfl⟩
        rw [hx] at c0 c1 c2 c3 hen
        have HX := Lib.hid hx
        obtain ⟨s0, s1, s2, s3⟩ := x
        unfold entMay at hen
        simp only at c0 c1 c2 c3 hen
        have HC0 := Lib.hid c0
        have HC1 := Lib.hid c1
        have HC2 := Lib.hid c2
        have HC3 := Lib.hid c3
        obtain ⟨M, eM⟩ : ∃ y, N0 ++ ndBody entBytes (es.take k) = y := ⟨_, rfl⟩
        rw [eM] at hM hst
        have EM := Lib.hid eM
        have HST := Lib.hid hst
        have r0 : (0 : Int) ≤ (k : Int) := by omega
        have r1 : (k : Int) < (es.length : Int) := by omega
        replace c0 := (hst.bel.cell (p := ⟨b, o + k * 4, none⟩) hbl).trans c0
        replace c1 := (hst.bel.cell (p := ⟨b, o + k * 4 + 1, none⟩) hbl).trans c1
        replace c2 := (hst.bel.cell (p := ⟨b, o + k * 4 + 2, none⟩) hbl).trans c2
        replace c3 := (hst.bel.cell (p := ⟨b, o + k * 4 + 3, none⟩) hbl).trans c3
        clear hx eM hle hlk
        obtain ⟨g1, g2⟩ := one_bs (n := s0) (by omega) (by omega)
        have hs0 : s0 % 256 = s0 := by omega
        obtain ⟨f1, -⟩ := opn4_four (n := s1) (by omega) (by omega)
        obtain ⟨f2, -⟩ := opn4_four (n := s2) (by omega) (by omega)
        obtain ⟨f3, -⟩ := opn4_four (n := s3) (by omega) (by omega)
        obtain ⟨X0, e0⟩ : ∃ y, opn4 1 s0 = y := ⟨_, rfl⟩
        obtain ⟨X1, e1⟩ : ∃ y, opn4 4 s1 = y := ⟨_, rfl⟩
        obtain ⟨X2, e2⟩ : ∃ y, opn4 4 s2 = y := ⟨_, rfl⟩
        obtain ⟨X3, e3⟩ : ∃ y, opn4 4 s3 = y := ⟨_, rfl⟩
        rw [e0] at g1 g2
        rw [e1] at f1
        rw [e2] at f2
        rw [e3] at f3
        have HE := Lib.hid (show entBytes (s0, s1, s2, s3) = X0 ++ (X1 ++ (X2 ++ X3)) by rw [entBytes_eq, ← e0, ← e1, ← e2, ← e3])
        have E1 := Lib.hid (show numBytes (opn s1) 4 = X1 from e1)
        have E2 := Lib.hid (show numBytes (opn s2) 4 = X2 from e2)
        have E3 := Lib.hid (show numBytes (opn s3) 4 = X3 from e3)
        have G1 := Lib.hid g1
        have G2 := Lib.hid g2
        have F1 := Lib.hid f1
        have F2 := Lib.hid f2
        have F3 := Lib.hid f3
        clear e0 e1 e2 e3 g1 g2 f1 f2 f3 hst
        have HSA := Lib.hid ((HST.out.alloc (.cells #[.int .i64 s0, .int .i64 s1, .int .i64 s2, .int .i64 s3] 80)).alloc (.cells #[.int .u8 s0] 5))
        have HEA := Lib.hid (show Pk13 w wq.heap.size (.cells #[.int .i64 s0, .int .i64 s1, .int .i64 s2, .int .i64 s3] 80) u5 M ((wq.alloc (.cells #[.int .i64 s0, .int .i64 s1, .int .i64 s2, .int .i64 s3] 80)).alloc (.cells #[.int .u8 s0] 5)) from
          (show Pk13 w wq.heap.size (.cells #[.int .i64 s0, .int .i64 s1, .int .i64 s2, .int .i64 s3] 80) u5 M (wq.alloc (.cells #[.int .i64 s0, .int .i64 s1, .int .i64 s2, .int .i64 s3] 80)) from ⟨HST.out.own.alloc _, heap_last rfl, fun i hi => Nat.ne_of_lt (HST.out.own.lt i hi).2, HST.out.bel.alloc HST.out.bel.size _⟩).alloc _)
        clear HST
        go_wp2_with (at_builtin; go_loud (refine wpList_append_has_at _ rfl (.tmp 32) (.tmp 37) 22 rfl w.heap.size 5 i0' (.int .u8 0) 1 1 Try.underlying22 hi hz0 hz1 hz2 rfl (by decide) _ _ _ rfl HSA.out.own (.slice (some ⟨wq.heap.size + 1, 0, none⟩) 1 1) 1 (bs X0) rfl (Has.block (n := 1) (cap := 1) (o := 0) (xs := bs X0) (heap_last (o := .cells #[.int .u8 s0] 5) (by simp)) (Nat.le_refl _) (by decide) (fun i x hi => by rw [Nat.zero_add, ← hi, ← G1.out]; simp)) ?c2 (bs_one _) ?c3 ?c4 ?c5 ?_))
        case c2 => rw [bs_length, G2.out]
        case c3 => unfold maxLen; omega
        case c4 => omega
        case c5 => exact HSA.out.bel.size
        intro va0 wa0 hoa hga hba
        have HS0 := Lib.hid (HSA.out.more G2.out.symm hoa hga (by simpa using hba))
        have HE0 := Lib.hid (HEA.out.more G2.out.symm hoa hga (by simpa using hba))
        have hm0 : (M ++ X0).length ≤ 1001 := by rw [List.length_append, G2.out]; omega
        obtain ⟨M0, em0⟩ : ∃ y, M ++ X0 = y := ⟨_, rfl⟩
        rw [em0] at hm0
        have EM0 := Lib.hid em0
        have HS0' := Lib.hid (show Pk13 w w.heap.size (ndBox true (.slice (some ⟨b, o, none⟩) es.length cap) vk) va0 M0 wa0 by have := HS0.out; rwa [em0] at this)
        have HE0' := Lib.hid (show Pk13 w wq.heap.size (.cells #[.int .i64 s0, .int .i64 s1, .int .i64 s2, .int .i64 s3] 80) va0 M0 wa0 by have := HE0.out; rwa [em0] at this)
        clear HSA HEA hoa hga hba HS0 HE0 em0 c0 c1 c2 c3 b0 b1 b2 hnl
        have d1 := World.cell_block HE0'.out.box 1
        have hn1 := (Array.getElem?_eq_some_iff.1 HE0'.out.box).1
        go_wp2_with fail
        refine (refFour_any s1 wa0 (by omega) (by omega)).mono ?_
        rintro e wb1 ⟨vb1, rfl, hob, hxb⟩
        rw [E1.out, F1.out] at hob
        have HV1 := Lib.hid (Has.own hob)
        have HSB1 := Lib.hid (HS0'.out.below hxb)
        have HEB1 := Lib.hid (HE0'.out.below hxb)
        clear hob hxb d1 hn1 HS0' HE0'
        go_wp2_with (at_builtin; go_loud (refine wpList_append_has_at _ rfl (.tmp 39) (.tmp 43) 22 rfl w.heap.size 5 i0' (.int .u8 0) 1 1 Try.underlying22 hi hz0 hz1 hz2 rfl (by decide) _ _ _ rfl HSB1.out.own vb1 4 (bs X1) rfl HV1.out ?c2 (bs_one _) ?c3 ?c4 ?c5 ?_))
        case c2 => rw [bs_length, F1.out]
        case c3 => unfold maxLen; omega
        case c4 => omega
        case c5 => exact HSB1.out.bel.size
        intro va1 wa1 hoa hga hba
        have HS1 := Lib.hid (HSB1.out.more F1.out.symm hoa hga hba)
        have HE1 := Lib.hid (HEB1.out.more F1.out.symm hoa hga hba)
        have hm1 : (M0 ++ X1).length ≤ 1001 + 4 * 1 := by rw [List.length_append, F1.out]; omega
        obtain ⟨M1, em1⟩ : ∃ y, M0 ++ X1 = y := ⟨_, rfl⟩
        rw [em1] at hm1
        have EM1 := Lib.hid em1
        have HS1' := Lib.hid (show Pk13 w w.heap.size (ndBox true (.slice (some ⟨b, o, none⟩) es.length cap) vk) va1 M1 wa1 by have := HS1.out; rwa [em1] at this)
        have HE1' := Lib.hid (show Pk13 w wq.heap.size (.cells #[.int .i64 s0, .int .i64 s1, .int .i64 s2, .int .i64 s3] 80) va1 M1 wa1 by have := HE1.out; rwa [em1] at this)
        clear HSB1 HEB1 hoa hga hba HS1 HE1 em1
        have d2 := World.cell_block HE1'.out.box 2
        have hn2 := (Array.getElem?_eq_some_iff.1 HE1'.out.box).1
        go_wp2_with fail
        refine (refFour_any s2 wa1 (by omega) (by omega)).mono ?_
        rintro e wb2 ⟨vb2, rfl, hob, hxb⟩
        rw [E2.out, F2.out] at hob
        have HV2 := Lib.hid (Has.own hob)
        have HSB2 := Lib.hid (HS1'.out.below hxb)
        have HEB2 := Lib.hid (HE1'.out.below hxb)
        clear hob hxb d2 hn2 HS1' HE1'
        go_wp2_with (at_builtin; go_loud (refine wpList_append_has_at _ rfl (.tmp 45) (.tmp 49) 22 rfl w.heap.size 5 i0' (.int .u8 0) 1 1 Try.underlying22 hi hz0 hz1 hz2 rfl (by decide) _ _ _ rfl HSB2.out.own vb2 4 (bs X2) rfl HV2.out ?c2 (bs_one _) ?c3 ?c4 ?c5 ?_))
        case c2 => rw [bs_length, F2.out]
        case c3 => unfold maxLen; omega
        case c4 => omega
        case c5 => exact HSB2.out.bel.size
        intro va2 wa2 hoa hga hba
        have HS2 := Lib.hid (HSB2.out.more F2.out.symm hoa hga hba)
        have HE2 := Lib.hid (HEB2.out.more F2.out.symm hoa hga hba)
        have hm2 : (M1 ++ X2).length ≤ 1001 + 4 * 2 := by rw [List.length_append, F2.out]; omega
        obtain ⟨M2, em2⟩ : ∃ y, M1 ++ X2 = y := ⟨_, rfl⟩
        rw [em2] at hm2
        have EM2 := Lib.hid em2
        have HS2' := Lib.hid (show Pk13 w w.heap.size (ndBox true (.slice (some ⟨b, o, none⟩) es.length cap) vk) va2 M2 wa2 by have := HS2.out; rwa [em2] at this)
        have HE2' := Lib.hid (show Pk13 w wq.heap.size (.cells #[.int .i64 s0, .int .i64 s1, .int .i64 s2, .int .i64 s3] 80) va2 M2 wa2 by have := HE2.out; rwa [em2] at this)
        clear HSB2 HEB2 hoa hga hba HS2 HE2 em2
        have d3 := World.cell_block HE2'.out.box 3
        have hn3 := (Array.getElem?_eq_some_iff.1 HE2'.out.box).1
        go_wp2_with fail
        refine (refFour_any s3 wa2 (by omega) (by omega)).mono ?_
        rintro e wb3 ⟨vb3, rfl, hob, hxb⟩
        rw [E3.out, F3.out] at hob
        have HV3 := Lib.hid (Has.own hob)
        have HSB3 := Lib.hid (HS2'.out.below hxb)
        have HEB3 := Lib.hid (HE2'.out.below hxb)
        clear hob hxb d3 hn3 HS2' HE2'
        go_wp2_with (at_builtin; go_loud (refine wpList_append_has_at _ rfl (.tmp 51) (.tmp 54) 22 rfl w.heap.size 5 i0' (.int .u8 0) 1 1 Try.underlying22 hi hz0 hz1 hz2 rfl (by decide) _ _ _ rfl HSB3.out.own vb3 4 (bs X3) rfl HV3.out ?c2 (bs_one _) ?c3 ?c4 ?c5 ?_))
        case c2 => rw [bs_length, F3.out]
        case c3 => unfold maxLen; omega
        case c4 => omega
        case c5 => exact HSB3.out.bel.size
        intro va3 wa3 hoa hga hba
        have HS3 := Lib.hid (HSB3.out.more F3.out.symm hoa hga hba)
        have HE3 := Lib.hid (HEB3.out.more F3.out.symm hoa hga hba)
        have hm3 : (M2 ++ X3).length ≤ 1001 + 4 * 3 := by rw [List.length_append, F3.out]; omega
        obtain ⟨M3, em3⟩ : ∃ y, M2 ++ X3 = y := ⟨_, rfl⟩
        rw [em3] at hm3
        have EM3 := Lib.hid em3
        have HS3' := Lib.hid (show Pk13 w w.heap.size (ndBox true (.slice (some ⟨b, o, none⟩) es.length cap) vk) va3 M3 wa3 by have := HS3.out; rwa [em3] at this)
        have HE3' := Lib.hid (show Pk13 w wq.heap.size (.cells #[.int .i64 s0, .int .i64 s1, .int .i64 s2, .int .i64 s3] 80) va3 M3 wa3 by have := HE3.out; rwa [em3] at this)
        clear HSB3 HEB3 hoa hga hba HS3 HE3 em3
        have HSF := Lib.hid (show Pk13 w w.heap.size (ndBox true (.slice (some ⟨b, o, none⟩) es.length cap) vk) va3 (N0 ++ ndBody entBytes (es.take (k + 1))) wa3 by
          rw [HT.out, HX.out, ← List.append_assoc, EM.out, HE.out, ← List.append_assoc, EM0.out, ← List.append_assoc, EM1.out, ← List.append_assoc, EM2.out, EM3.out]; exact HS3'.out)
        clear HS3'
        go_wp2_with fail
        go_roundw
        case rel => exact ⟨k + 1, by omega, by go_num, HSF.out⟩
        case measure => simp [intOf]; omega
      · obtain rfl : k = es.length := by omega
        have HPL := Lib.hid (show ndPack true es ks = N0 ++ ndBody entBytes es by rw [HP.out, HN0.out])
        rw [List.take_length] at hst
        have HST := Lib.hid hst
        clear hst
        go_wp2_with fail
        go_ret3
        refine ⟨_, by rw [HKD.out, HC.out]; rfl, ?_, HST.out.bel⟩
        rw [HPL.out]
        exact HST.out.own
  · have HM := Lib.hid hM
    have HD := Lib.hid (decide_eq_false hM)
    have HE := Lib.hid He
    have HK := Lib.hid Hk
    clear hM He Hk
    go_enter Try.func34, Try.ntmps34
    go_wp2_with fail
    refine (refMay_any true _ _ es ks _ (HE.out.alloc _) (HK.out.alloc _) le lk).mono ?_
    rintro e w1 ⟨rfl, hx⟩
    rw [HD.out]
    have hw1 := below_step (below_new (Below.refl _ _) _) hx
    clear hx
    go_wp2_with fail
    go_ret3
    exact np_bad HM.out rfl hw1
set_option maxRecDepth 100000 in
set_option maxHeartbeats 4000000 in
theorem refPack_inner (ve vk : Value) (es ks : List Quad) (w : World) (He : Quads w ve es) (Hk : Quads w vk ks) (le : es.length ≤ 4398046511104) (lk : ks.length ≤ 4398046511104) :
    Calls Try.prog 34 #[.agg #[.bool false, ve, vk]] w (NpPost false es ks w) := by
  by_cases hM : ndMay false es ks
  · have hm : (∀ x ∈ ks, kidMay x) ∧ 1 ≤ ks.length ∧ ks.length ≤ 12 := by
      rcases hM with h | h
      · exact absurd h.1 (by decide)
      · exact ⟨h.2.2.1, by have := h.2.2.2.1; omega, h.2.2.2.2.1⟩
    obtain ⟨hall, hl1, hl12⟩ := hm
    have HE := Lib.hid He
    have HK := Lib.hid Hk
    obtain ⟨a, cap, rfl, hc1, hc2, hcs⟩ := Hk.open
    unfold maxLen at hc2
    obtain ⟨b, o, rfl, hbl, hcell⟩ := hcs (by omega)
    have HCS := Lib.hid hcell
    have HALL := Lib.hid hall
    have HD := Lib.hid (decide_eq_true hM)
    have HP := Lib.hid (show ndPack false es ks = opn4 1 (ks.length : Int) ++ ndBody kidBytes ks by rw [ndPack, if_pos hM]; simp [layAll])
    have HKD := Lib.hid (show ndKind false es ks = 2 by rw [ndKind, if_pos hM]; rfl)
    have HC := Lib.hid (show ndCode false es ks = 0 by rw [ndCode, if_pos hM])
    have hkm : (ks.length : Int) % 256 = (ks.length : Int) := by omega
    obtain ⟨hk1, hk2⟩ := one_bs (n := (ks.length : Int)) (by omega) (by omega)
    obtain ⟨N0, hN0⟩ : ∃ N0, N0 = opn4 1 (ks.length : Int) := ⟨_, rfl⟩
    rw [← hN0] at hk1 hk2
    have HN0 := Lib.hid hN0
    have HK1 := Lib.hid hk1
    have HK2 := Lib.hid hk2
    obtain ⟨i0', hi, hz0, hz1, hz2⟩ := info_parts infoU8
    clear hM He Hk hcs hcell hall hk1 hk2 hN0
    go_enter Try.func34, Try.ntmps34
    have HB0 := Lib.hid (show (w.alloc (ndBox false ve (.slice (some ⟨b, o, none⟩) ks.length cap))).heap[w.heap.size]? = some (ndBox false ve (.slice (some ⟨b, o, none⟩) ks.length cap)) from heap_last rfl)
    go_wp2_with fail
    refine (refMay_any false _ _ es ks _ (HE.out.alloc _) (HK.out.alloc _) le lk).mono ?_
    rintro e w1 ⟨rfl, hx⟩
    rw [HD.out]
    have hw1 := below_step (below_new (Below.refl _ _) _) hx
    have HB1 := Lib.hid (box_below HB0.out hx)
    obtain ⟨b0, b1, b2⟩ := ndBox_cells HB1.out
    have hnl := (Array.getElem?_eq_some_iff.1 HB1.out).1
    have hnz : w.heap.size < w1.heap.size := hnl
    clear hx HB0
    go_wp2_with fail
    have HS := Lib.hid (show Pk13 w w.heap.size (ndBox false ve (.slice (some ⟨b, o, none⟩) ks.length cap)) (.slice (some ⟨w1.heap.size, 0, none⟩) 1 1) N0 (w1.alloc (.cells #[.int .u8 (ks.length : Int)] 5)) from by
      refine ⟨?_, heap_keep HB1.out _, ?_, below_new hw1 _⟩
      · rw [HK2.out, ← HK1.out]
        have := World.ownsRow_lit (size := 1) (e := 5) (base := w.heap.size) w1 #[.int .u8 (ks.length : Int)] 1 hw1.size (by decide) rfl
        simpa using this
      · intro i hi; simp [Value.ownBlock] at hi; omega)
    clear b0 b1 b2 hnl HB1 hw1
    go_loopw [8, 9] (fun ov i wr => ∃ k : Nat, k ≤ ks.length ∧ i = .int .i64 k ∧ Pk13 w w.heap.size (ndBox false ve (.slice (some ⟨b, o, none⟩) ks.length cap)) ov (N0 ++ ndBody kidBytes (ks.take k)) wr) (fun _ i _ => ks.length - (intOf i).toNat)
    case atStart => exact ⟨0, Nat.zero_le _, rfl, by simpa [ndBody] using HS.out⟩
    case round =>
      clear HS
      obtain ⟨wq, hwq⟩ : ∃ x, x = wr := ⟨_, rfl⟩
      rw [← hwq] at hrel ⊢
      clear hwq
      obtain ⟨k, hk, rfl, hst⟩ := hrel
      obtain ⟨b0, b1, b2⟩ := ndBox_cells hst.box
      have hnl := (Array.getElem?_eq_some_iff.1 hst.box).1
      by_cases hlt : k < ks.length
      · obtain ⟨c0, c1, c2, c3⟩ := HCS.out k hlt
        have hle := ndBody_le kidBytes kidBytes_le (ks.take k)
        have hlk : (ks.take k).length = k := by simp; omega
        have hM : (N0 ++ ndBody kidBytes (ks.take k)).length ≤ 1000 := by rw [List.length_append]; have := HK2.out; omega
        have HT := Lib.hid (ndBody_next kidBytes ks k hlt)
        have hen := HALL.out ks[k] (List.getElem_mem _)
        obtain ⟨x, hx⟩ : ∃ x, ks[k] = x := ⟨_, rfl⟩
        rw [hx] at c0 c1 c2 c3 hen
        have HX := Lib.hid hx
        obtain ⟨s0, s1, s2, s3⟩ := x
        unfold kidMay at hen
        simp only at c0 c1 c2 c3 hen
        have HC0 := Lib.hid c0
        have HC1 := Lib.hid c1
        have HC2 := Lib.hid c2
        have HC3 := Lib.hid c3
        obtain ⟨M, eM⟩ : ∃ y, N0 ++ ndBody kidBytes (ks.take k) = y := ⟨_, rfl⟩
        rw [eM] at hM hst
        have EM := Lib.hid eM
        have HST := Lib.hid hst
        have r0 : (0 : Int) ≤ (k : Int) := by omega
        have r1 : (k : Int) < (ks.length : Int) := by omega
        replace c0 := (hst.bel.cell (p := ⟨b, o + k * 4, none⟩) hbl).trans c0
        replace c1 := (hst.bel.cell (p := ⟨b, o + k * 4 + 1, none⟩) hbl).trans c1
        replace c2 := (hst.bel.cell (p := ⟨b, o + k * 4 + 2, none⟩) hbl).trans c2
        replace c3 := (hst.bel.cell (p := ⟨b, o + k * 4 + 3, none⟩) hbl).trans c3
        clear hx eM hle hlk
        obtain ⟨f1, -⟩ := opn4_four (n := s0) (by omega) (by omega)
        obtain ⟨f2, -⟩ := opn4_four (n := s1) (by omega) (by omega)
        obtain ⟨f3, -⟩ := opn4_four (n := s2) (by omega) (by omega)
        obtain ⟨f4, -⟩ := opn4_four (n := s3) (by omega) (by omega)
        obtain ⟨X1, e1⟩ : ∃ y, opn4 4 s0 = y := ⟨_, rfl⟩
        obtain ⟨X2, e2⟩ : ∃ y, opn4 4 s1 = y := ⟨_, rfl⟩
        obtain ⟨X3, e3⟩ : ∃ y, opn4 4 s2 = y := ⟨_, rfl⟩
        obtain ⟨X4, e4⟩ : ∃ y, opn4 4 s3 = y := ⟨_, rfl⟩
        rw [e1] at f1
        rw [e2] at f2
        rw [e3] at f3
        rw [e4] at f4
        have HE := Lib.hid (show kidBytes (s0, s1, s2, s3) = X1 ++ (X2 ++ (X3 ++ X4)) by rw [kidBytes_eq, ← e1, ← e2, ← e3, ← e4])
        have E1 := Lib.hid (show numBytes (opn s0) 4 = X1 from e1)
        have E2 := Lib.hid (show numBytes (opn s1) 4 = X2 from e2)
        have E3 := Lib.hid (show numBytes (opn s2) 4 = X3 from e3)
        have E4 := Lib.hid (show numBytes (opn s3) 4 = X4 from e4)
        have F1 := Lib.hid f1
        have F2 := Lib.hid f2
        have F3 := Lib.hid f3
        have F4 := Lib.hid f4
        clear e1 e2 e3 e4 f1 f2 f3 f4 hst c1 c2 c3
        obtain ⟨wa0, hwa0⟩ : ∃ x, x = wq := ⟨_, rfl⟩
        obtain ⟨va0, hva0⟩ : ∃ x, x = u8 := ⟨_, rfl⟩
        obtain ⟨M0, hM0⟩ : ∃ x, x = M := ⟨_, rfl⟩
        have hm0 : M0.length ≤ 1001 := by rw [hM0]; omega
        have HS0' := Lib.hid (show Pk13 w w.heap.size (ndBox false ve (.slice (some ⟨b, o, none⟩) ks.length cap)) va0 M0 wa0 by rw [hva0, hM0, hwa0]; exact HST.out)
        have HM0 := Lib.hid hM0
        rw [← hwa0, ← hva0]
        rw [← hwa0] at c0 b0 b1 b2 hnl
        clear HST hwa0 hva0 hM0
        go_wp2_with fail
        refine (refFour_any s0 wa0 (by omega) (by omega)).mono ?_
        rintro e wb1 ⟨vb1, rfl, hob, hxb⟩
        rw [E1.out, F1.out] at hob
        have HV1 := Lib.hid (Has.own hob)
        have HSB1 := Lib.hid (HS0'.out.below hxb)
        clear hob hxb c0 b0 b1 b2 hnl HS0'
        go_wp2_with (at_builtin; go_loud (refine wpList_append_has_at _ rfl (.tmp 69) (.tmp 76) 22 rfl w.heap.size 5 i0' (.int .u8 0) 1 1 Try.underlying22 hi hz0 hz1 hz2 rfl (by decide) _ _ _ rfl HSB1.out.own vb1 4 (bs X1) rfl HV1.out ?c2 (bs_one _) ?c3 ?c4 ?c5 ?_))
        case c2 => rw [bs_length, F1.out]
        case c3 => unfold maxLen; omega
        case c4 => omega
        case c5 => exact HSB1.out.bel.size
        intro va1 wa1 hoa hga hba
        have HS1 := Lib.hid (HSB1.out.more F1.out.symm hoa hga hba)
        have hm1 : (M0 ++ X1).length ≤ 1001 + 4 * 1 := by rw [List.length_append, F1.out]; omega
        obtain ⟨M1, em1⟩ : ∃ y, M0 ++ X1 = y := ⟨_, rfl⟩
        rw [em1] at hm1
        have EM1 := Lib.hid em1
        have HS1' := Lib.hid (show Pk13 w w.heap.size (ndBox false ve (.slice (some ⟨b, o, none⟩) ks.length cap)) va1 M1 wa1 by have := HS1.out; rwa [em1] at this)
        clear HSB1 hoa hga hba HS1 em1
        have c1 := (HS1'.out.bel.cell (p := ⟨b, o + k * 4 + 1, none⟩) hbl).trans HC1.out
        obtain ⟨b0, b1, b2⟩ := ndBox_cells HS1'.out.box
        have hnl := (Array.getElem?_eq_some_iff.1 HS1'.out.box).1
        go_wp2_with fail
        refine (refFour_any s1 wa1 (by omega) (by omega)).mono ?_
        rintro e wb2 ⟨vb2, rfl, hob, hxb⟩
        rw [E2.out, F2.out] at hob
        have HV2 := Lib.hid (Has.own hob)
        have HSB2 := Lib.hid (HS1'.out.below hxb)
        clear hob hxb c1 b0 b1 b2 hnl HS1'
        go_wp2_with (at_builtin; go_loud (refine wpList_append_has_at _ rfl (.tmp 78) (.tmp 85) 22 rfl w.heap.size 5 i0' (.int .u8 0) 1 1 Try.underlying22 hi hz0 hz1 hz2 rfl (by decide) _ _ _ rfl HSB2.out.own vb2 4 (bs X2) rfl HV2.out ?c2 (bs_one _) ?c3 ?c4 ?c5 ?_))
        case c2 => rw [bs_length, F2.out]
        case c3 => unfold maxLen; omega
        case c4 => omega
        case c5 => exact HSB2.out.bel.size
        intro va2 wa2 hoa hga hba
        have HS2 := Lib.hid (HSB2.out.more F2.out.symm hoa hga hba)
        have hm2 : (M1 ++ X2).length ≤ 1001 + 4 * 2 := by rw [List.length_append, F2.out]; omega
        obtain ⟨M2, em2⟩ : ∃ y, M1 ++ X2 = y := ⟨_, rfl⟩
        rw [em2] at hm2
        have EM2 := Lib.hid em2
        have HS2' := Lib.hid (show Pk13 w w.heap.size (ndBox false ve (.slice (some ⟨b, o, none⟩) ks.length cap)) va2 M2 wa2 by have := HS2.out; rwa [em2] at this)
        clear HSB2 hoa hga hba HS2 em2
        have c2 := (HS2'.out.bel.cell (p := ⟨b, o + k * 4 + 2, none⟩) hbl).trans HC2.out
        obtain ⟨b0, b1, b2⟩ := ndBox_cells HS2'.out.box
        have hnl := (Array.getElem?_eq_some_iff.1 HS2'.out.box).1
        go_wp2_with fail
        refine (refFour_any s2 wa2 (by omega) (by omega)).mono ?_
        rintro e wb3 ⟨vb3, rfl, hob, hxb⟩
        rw [E3.out, F3.out] at hob
        have HV3 := Lib.hid (Has.own hob)
        have HSB3 := Lib.hid (HS2'.out.below hxb)
        clear hob hxb c2 b0 b1 b2 hnl HS2'
        go_wp2_with (at_builtin; go_loud (refine wpList_append_has_at _ rfl (.tmp 87) (.tmp 94) 22 rfl w.heap.size 5 i0' (.int .u8 0) 1 1 Try.underlying22 hi hz0 hz1 hz2 rfl (by decide) _ _ _ rfl HSB3.out.own vb3 4 (bs X3) rfl HV3.out ?c2 (bs_one _) ?c3 ?c4 ?c5 ?_))
        case c2 => rw [bs_length, F3.out]
        case c3 => unfold maxLen; omega
        case c4 => omega
        case c5 => exact HSB3.out.bel.size
        intro va3 wa3 hoa hga hba
        have HS3 := Lib.hid (HSB3.out.more F3.out.symm hoa hga hba)
        have hm3 : (M2 ++ X3).length ≤ 1001 + 4 * 3 := by rw [List.length_append, F3.out]; omega
        obtain ⟨M3, em3⟩ : ∃ y, M2 ++ X3 = y := ⟨_, rfl⟩
        rw [em3] at hm3
        have EM3 := Lib.hid em3
        have HS3' := Lib.hid (show Pk13 w w.heap.size (ndBox false ve (.slice (some ⟨b, o, none⟩) ks.length cap)) va3 M3 wa3 by have := HS3.out; rwa [em3] at this)
        clear HSB3 hoa hga hba HS3 em3
        have c3 := (HS3'.out.bel.cell (p := ⟨b, o + k * 4 + 3, none⟩) hbl).trans HC3.out
        obtain ⟨b0, b1, b2⟩ := ndBox_cells HS3'.out.box
        have hnl := (Array.getElem?_eq_some_iff.1 HS3'.out.box).1
        go_wp2_with fail
        refine (refFour_any s3 wa3 (by omega) (by omega)).mono ?_
        rintro e wb4 ⟨vb4, rfl, hob, hxb⟩
        rw [E4.out, F4.out] at hob
        have HV4 := Lib.hid (Has.own hob)
        have HSB4 := Lib.hid (HS3'.out.below hxb)
        clear hob hxb c3 b0 b1 b2 hnl HS3'
        go_wp2_with (at_builtin; go_loud (refine wpList_append_has_at _ rfl (.tmp 96) (.tmp 103) 22 rfl w.heap.size 5 i0' (.int .u8 0) 1 1 Try.underlying22 hi hz0 hz1 hz2 rfl (by decide) _ _ _ rfl HSB4.out.own vb4 4 (bs X4) rfl HV4.out ?c2 (bs_one _) ?c3 ?c4 ?c5 ?_))
        case c2 => rw [bs_length, F4.out]
        case c3 => unfold maxLen; omega
        case c4 => omega
        case c5 => exact HSB4.out.bel.size
        intro va4 wa4 hoa hga hba
        have HS4 := Lib.hid (HSB4.out.more F4.out.symm hoa hga hba)
        have hm4 : (M3 ++ X4).length ≤ 1001 + 4 * 4 := by rw [List.length_append, F4.out]; omega
        obtain ⟨M4, em4⟩ : ∃ y, M3 ++ X4 = y := ⟨_, rfl⟩
        rw [em4] at hm4
        have EM4 := Lib.hid em4
        have HS4' := Lib.hid (show Pk13 w w.heap.size (ndBox false ve (.slice (some ⟨b, o, none⟩) ks.length cap)) va4 M4 wa4 by have := HS4.out; rwa [em4] at this)
        clear HSB4 hoa hga hba HS4 em4
        have HSF := Lib.hid (show Pk13 w w.heap.size (ndBox false ve (.slice (some ⟨b, o, none⟩) ks.length cap)) va4 (N0 ++ ndBody kidBytes (ks.take (k + 1))) wa4 by
          rw [HT.out, HX.out, ← List.append_assoc, EM.out, HE.out, ← List.append_assoc, ← HM0.out, EM1.out, ← List.append_assoc, EM2.out, ← List.append_assoc, EM3.out, EM4.out]; exact HS4'.out)
        clear HS4'
        go_wp2_with fail
        go_roundw
        case rel => exact ⟨k + 1, by omega, by go_num, HSF.out⟩
        case measure => simp [intOf]; omega
      · obtain rfl : k = ks.length := by omega
        have HPL := Lib.hid (show ndPack false es ks = N0 ++ ndBody kidBytes ks by rw [HP.out, HN0.out])
        rw [List.take_length] at hst
        have HST := Lib.hid hst
        clear hst
        go_wp2_with fail
        go_ret3
        refine ⟨_, by rw [HKD.out, HC.out]; rfl, ?_, HST.out.bel⟩
        rw [HPL.out]
        exact HST.out.own
  · have HM := Lib.hid hM
    have HD := Lib.hid (decide_eq_false hM)
    have HE := Lib.hid He
    have HK := Lib.hid Hk
    clear hM He Hk
    go_enter Try.func34, Try.ntmps34
    go_wp2_with fail
    refine (refMay_any false _ _ es ks _ (HE.out.alloc _) (HK.out.alloc _) le lk).mono ?_
    rintro e w1 ⟨rfl, hx⟩
    rw [HD.out]
    have hw1 := below_step (below_new (Below.refl _ _) _) hx
    clear hx
    go_wp2_with fail
    go_ret3
    exact np_bad HM.out rfl hw1
end Go.Proofs.Ytcmoajbdepohmaa
namespace Go.Proofs.Ytcmoajbdepohmaa
open Go.RowKit Go.Oct
/-- what stands while the law runs: the boxes of the node and of its copy, the copy's lists -/
structure PkSt (w : World) (leaf : Bool) (ve vk : Value) (es ks : List Quad) (n3 : Nat) (ce ck : Value) (W : World) : Prop where
  nbx : W.heap[w.heap.size]? = some (ndBox leaf ve vk)
  cbx : W.heap[n3]? = some (ndBox leaf ce ck)
  he : Quads W ve es
  hk : Quads W vk ks
  le : LendQ (w.heap.size + 1) 80 (0, 0, 0, 77) W ce es
  lk : LendQ (w.heap.size + 1) 82 (0, 0, 77, 0) W ck ks
  bl : Below w.heap.size w W
theorem PkSt.below {w : World} {leaf : Bool} {ve vk : Value} {es ks : List Quad} {n3 : Nat} {ce ck : Value} {W W' : World} (h : PkSt w leaf ve vk es ks n3 ce ck W) (k : Below W.heap.size W W') : PkSt w leaf ve vk es ks n3 ce ck W' :=
  ⟨box_below h.nbx k, box_below h.cbx k, h.he.below k, h.hk.below k, h.le.below k, h.lk.below k, below_step h.bl k⟩
theorem PkSt.alloc {w : World} {leaf : Bool} {ve vk : Value} {es ks : List Quad} {n3 : Nat} {ce ck : Value} {W : World} (h : PkSt w leaf ve vk es ks n3 ce ck W) (o : Obj) : PkSt w leaf ve vk es ks n3 ce ck (W.alloc o) :=
  h.below ((Below.refl _ _).alloc (Nat.le_refl _) o)
theorem refPack_any (leaf : Bool) (ve vk : Value) (es ks : List Quad) (w : World) (He : Quads w ve es) (Hk : Quads w vk ks) (le : es.length ≤ 4398046511104) (lk : ks.length ≤ 4398046511104) :
    Calls Try.prog 34 #[.agg #[.bool leaf, ve, vk]] w (NpPost leaf es ks w) := by
  cases leaf
  · exact refPack_inner ve vk es ks w He Hk le lk
  · exact refPack_leaf ve vk es ks w He Hk le lk
theorem refSum_any (leaf : Bool) (ve vk : Value) (es ks : List Quad) (w : World) (He : Quads w ve es) (Hk : Quads w vk ks) (hM : ndMay leaf es ks) :
    Calls Try.prog 39 #[.agg #[.bool leaf, ve, vk]] w fun e w' => e = .returned (.tuple #[.int .i64 (sumB leaf es ks), .int .i64 (sumL leaf es ks), .int .i64 (sumS leaf es ks)]) ∧ Below w.heap.size w w' := by
  cases leaf
  · exact refSum_inner ve vk es ks w He Hk hM
  · exact refSum_leaf ve vk es ks w He Hk hM
set_option maxRecDepth 100000 in
set_option maxHeartbeats 4000000 in
theorem nodePacks_walk (leaf : Bool) (ve vk : Value) (es ks : List Quad) (w : World) (He : Quads w ve es) (Hk : Quads w vk ks) (le : es.length ≤ 4398046511000) (lk : ks.length ≤ 4398046511000) :
    Calls Try.prog 11 #[.agg #[.bool leaf, ve, vk]] w fun e w' => e = .returned (.bool true) ∧ Below w.heap.size w w' := by
  obtain ⟨na, nc, rfl⟩ := He.form
  obtain ⟨ma, mc, rfl⟩ := Hk.form
  have HE := Lib.hid He
  have HK := Lib.hid Hk
  have HX0 := Lib.hid (show (w.alloc (ndBox leaf (.slice na es.length nc) (.slice ma ks.length mc))).heap[w.heap.size]? = some (ndBox leaf (.slice na es.length nc) (.slice ma ks.length mc)) from heap_last rfl)
  clear He Hk
  have HEM := Lib.hid (Decidable.em (ndMay leaf es ks))
  obtain ⟨MY, hMY⟩ : ∃ y, decide (ndMay leaf es ks) = y := ⟨_, rfl⟩
  obtain ⟨K, hK⟩ : ∃ y, ndKind leaf es ks = y := ⟨_, rfl⟩
  obtain ⟨C, hC⟩ : ∃ y, ndCode leaf es ks = y := ⟨_, rfl⟩
  obtain ⟨P, hP⟩ : ∃ y, ndPack leaf es ks = y := ⟨_, rfl⟩
  have HMY := Lib.hid hMY
  have HKK := Lib.hid hK
  have HC := Lib.hid hC
  have HP := Lib.hid hP
  clear hMY hK hC hP
  go_enter Try.func11, Try.ntmps11
  go_wp2_with fail
  refine (copy13_any leaf _ _ es ks _ (HE.out.alloc _) (HK.out.alloc _) le lk).mono ?_
  rintro e w1 ⟨ce, ck, rfl, hle, hlk, hx⟩
  have hw1 := below_step (below_new (Below.refl _ w) (ndBox leaf (.slice na es.length nc) (.slice ma ks.length mc))) hx
  obtain ⟨g1, c1, hce, -⟩ := id hle
  obtain ⟨g2, c2, hck, -⟩ := id hlk
  subst hce hck
  have HS1 := Lib.hid (show PkSt w leaf (.slice na es.length nc) (.slice ma ks.length mc) es ks w1.heap.size (.slice (some ⟨g1, 0, none⟩) es.length c1) (.slice (some ⟨g2, 0, none⟩) ks.length c2) (w1.alloc (ndBox leaf (.slice (some ⟨g1, 0, none⟩) es.length c1) (.slice (some ⟨g2, 0, none⟩) ks.length c2))) from
    ⟨heap_keep (box_below HX0.out hx) _, heap_last rfl, (HE.out.below hw1).alloc _, (HK.out.below hw1).alloc _, by simpa using hle.below ((Below.refl _ _).alloc (Nat.le_refl _) _), by simpa using hlk.below ((Below.refl _ _).alloc (Nat.le_refl _) _), below_new hw1 _⟩)
  obtain ⟨x0, x1, x2⟩ := ndBox_cells (box_below HX0.out hx)
  have hz1 : w.heap.size < w1.heap.size := (Array.getElem?_eq_some_iff.1 (box_below HX0.out hx)).1
  clear hle hlk hx hw1 HX0
  go_wp2_with fail
  obtain ⟨wq, hwq⟩ : ∃ x, x = w1.alloc (ndBox leaf (.slice (some ⟨g1, 0, none⟩) es.length c1) (.slice (some ⟨g2, 0, none⟩) ks.length c2)) := ⟨_, rfl⟩
  obtain ⟨n3, hn3⟩ : ∃ x, x = w1.heap.size := ⟨_, rfl⟩
  rw [← hwq, ← hn3] at HS1
  rw [show w1.alloc (.cells #[.bool leaf, .slice (some ⟨g1, 0, none⟩) es.length c1, .slice (some ⟨g2, 0, none⟩) ks.length c2] 56) = wq from hwq.symm, ← hn3]
  clear hwq hn3 x0 x1 x2 hz1
  refine (refMay_any leaf _ _ es ks _ HS1.out.he HS1.out.hk (by omega) (by omega)).mono ?_
  rintro e w2 ⟨rfl, hx⟩
  rw [HMY.out]
  have HS2 := Lib.hid (HS1.out.below hx)
  obtain ⟨y0, y1, y2⟩ := ndBox_cells HS2.out.cbx
  have hz2 := (Array.getElem?_eq_some_iff.1 HS2.out.cbx).1
  clear hx HS1
  go_wp2_with fail
  refine (nodePack_any leaf _ _ es ks _ HS2.out.le.quads HS2.out.lk.quads (by omega) (by omega)).mono ?_
  rintro e w3 ⟨v3, rfl, hown, hx⟩
  rw [HKK.out, HC.out]
  rw [HP.out] at hown
  have HS3 := Lib.hid (HS2.out.below hx)
  have HV3 := Lib.hid (show Bytes w3 v3 P from Bytes.own hown)
  obtain ⟨va, vc, rfl⟩ : ∃ a c, v3 = .slice a P.length c := by obtain ⟨a, c, h, _⟩ := HV3.out; exact ⟨_, _, h⟩
  obtain ⟨x0, x1, x2⟩ := ndBox_cells HS3.out.nbx
  have hz3 := (Array.getElem?_eq_some_iff.1 HS3.out.nbx).1
  clear hx hown HS2 y0 y1 y2 hz2
  go_wp2_with fail
  refine (refPack_any leaf _ _ es ks _ HS3.out.he HS3.out.hk (by omega) (by omega)).mono ?_
  rintro e w4 ⟨v4, rfl, hown, hx⟩
  rw [HKK.out, HC.out]
  rw [HP.out] at hown
  have HS4 := Lib.hid (HS3.out.below hx)
  have HV4 := Lib.hid (HV3.out.below hx)
  have HU4 := Lib.hid (show Bytes w4 v4 P from Bytes.own hown)
  obtain ⟨ua, uc, rfl⟩ : ∃ a c, v4 = .slice a P.length c := by obtain ⟨a, c, h, _⟩ := HU4.out; exact ⟨_, _, h⟩
  clear hx hown HS3 HV3 x0 x1 x2 hz3
  go_wp2_with fail
  refine (awake13_any _).mono ?_
  rintro e w5 ⟨rfl, hx⟩
  have HS5 := Lib.hid (HS4.out.below hx)
  have HV5 := Lib.hid (HV4.out.below hx)
  have HU5 := Lib.hid (HU4.out.below hx)
  obtain ⟨y0, y1, y2⟩ := ndBox_cells HS5.out.cbx
  have hz5 := (Array.getElem?_eq_some_iff.1 HS5.out.cbx).1
  clear hx HS4 HV4 HU4
  go_wp2_with fail
  refine (nodeMay_any leaf _ _ es ks _ HS5.out.le.quads HS5.out.lk.quads (by omega) (by omega)).mono ?_
  rintro e w6 ⟨rfl, hx⟩
  rw [HMY.out]
  have HS6 := Lib.hid (HS5.out.below hx)
  have HV6 := Lib.hid (HV5.out.below hx)
  have HU6 := Lib.hid (HU5.out.below hx)
  obtain ⟨y0', y1', y2'⟩ := ndBox_cells HS6.out.cbx
  have hz6 := (Array.getElem?_eq_some_iff.1 HS6.out.cbx).1
  have hbb : (MY != MY) = false := by simp
  clear hx HS5 HV5 HU5 y0 y1 y2 hz5
  go_wp2_with fail
  refine (same_yes _ _ P _ HV6.out HU6.out).mono ?_
  rintro e w7 ⟨rfl, hx⟩
  have HS7 := Lib.hid (HS6.out.below hx)
  obtain ⟨y0, y1, y2⟩ := ndBox_cells HS7.out.cbx
  have hz7 := (Array.getElem?_eq_some_iff.1 HS7.out.cbx).1
  clear hx HS6 HV6 HU6 y0' y1' y2' hz6
  go_wp2_with fail
  refine (nodeSum_any leaf _ _ es ks _ HS7.out.le.quads HS7.out.lk.quads (by omega) (by omega)).mono ?_
  rintro e w8 ⟨rfl, hx⟩
  have HS8 := Lib.hid (HS7.out.below hx)
  obtain ⟨y0', y1', y2'⟩ := ndBox_cells HS8.out.cbx
  obtain ⟨x0, x1, x2⟩ := ndBox_cells HS8.out.nbx
  have hz8 := (Array.getElem?_eq_some_iff.1 HS8.out.cbx).1
  have hz9 := (Array.getElem?_eq_some_iff.1 HS8.out.nbx).1
  clear hx HS7 y0 y1 y2 hz7
  rcases HEM.out with hM | hM
  · have hmy : MY = true := by rw [← HMY.out]; exact decide_eq_true hM
    subst hmy
    have HM := Lib.hid hM
    obtain ⟨B, hB⟩ : ∃ y, sumB leaf es ks = y := ⟨_, rfl⟩
    obtain ⟨L, hL⟩ : ∃ y, sumL leaf es ks = y := ⟨_, rfl⟩
    obtain ⟨S, hS⟩ : ∃ y, sumS leaf es ks = y := ⟨_, rfl⟩
    have HSB := Lib.hid hB
    have HSL := Lib.hid hL
    have HSS := Lib.hid hS
    have e1 : smB leaf es ks = B := by rw [smB, if_pos hM]; exact hB
    have e2 : smL leaf es ks = L := by rw [smL, if_pos hM]; exact hL
    have e3 : smS leaf es ks = S := by rw [smS, if_pos hM]; exact hS
    rw [e1, e2, e3]
    clear e1 e2 e3 hM hB hL hS hbb
    go_wp2_with fail
    refine (refSum_any leaf _ _ es ks _ HS8.out.he HS8.out.hk HM.out).mono ?_
    rintro e w9 ⟨rfl, hx⟩
    rw [HSB.out, HSL.out, HSS.out]
    have HS9 := Lib.hid (HS8.out.below hx)
    clear hx HS8 y0' y1' y2' x0 x1 x2 hz8 hz9
    obtain ⟨y0, y1, y2⟩ := ndBox_cells HS9.out.cbx
    obtain ⟨x0, x1, x2⟩ := ndBox_cells HS9.out.nbx
    go_wp2_with fail
    refine (kept13_any (w.heap.size + 1) leaf _ _ _ _ es ks _ HS9.out.le HS9.out.lk HS9.out.he HS9.out.hk (by omega) (by omega)).mono ?_
    rintro e w10 ⟨rfl, hx⟩
    go_wp2_with fail
    go_ret
    exact ⟨rfl, below_step HS9.out.bl hx⟩
  · have hmy : MY = false := by rw [← HMY.out]; exact decide_eq_false hM
    subst hmy
    have e1 : smB leaf es ks = 0 := by rw [smB, if_neg hM]
    have e2 : smL leaf es ks = 0 := by rw [smL, if_neg hM]
    have e3 : smS leaf es ks = 0 := by rw [smS, if_neg hM]
    rw [e1, e2, e3]
    clear e1 e2 e3 hM hbb
    go_wp2_with fail
    refine (kept13_any (w.heap.size + 1) leaf _ _ _ _ es ks _ HS8.out.le HS8.out.lk HS8.out.he HS8.out.hk (by omega) (by omega)).mono ?_
    rintro e w10 ⟨rfl, hx⟩
    go_wp2_with fail
    go_ret
    exact ⟨rfl, below_step HS8.out.bl hx⟩
end Go.Proofs.Ytcmoajbdepohmaa
namespace Go.Proofs.Ytcmoajbdepohmaa.lawNodePacks
open Go.ChangeShapes Go.WideShapes Go.ChangeAt Go.RowKit Go.Oct
theorem own : ownKnob Try.prog.godebug = none := by kernel_rfl
theorem laidOut : laidOutB Try.prog = true := by kernel_rfl
set_option maxRecDepth 100000 in
theorem lifted (os : Os) (started : os.Started) (H : Type) (enc : TypeId × Value → H) :
    ReturnsInHanded {} Try.checked os 11 .any (Rows.nodePacksSpec.pre6 enc Try.prog Try.f11 Rows.nodePacksRow.domain false) (Rows.nodePacksSpec.post enc Try.prog Try.f11 false true false false) := by
  refine returnsInHanded_of_change_sized (C := Try.checked) own started (by kernel_rfl) Try.func11
    (ChangeSpec.witness6 (enc := enc) (C := Try.checked) false ⟨#[], #[.agg #[.bool false, .slice none 0 0, .slice none 0 0]], []⟩ 8 (by kernel_rfl) (by kernel_rfl) (by kernel_rfl) (by kernel_rfl)) ?_
  intro W base args ds gs before hval0 hW _ hsz _
  have hval : ∀ (j : Nat) t v, Try.f11.params[j]? = some t → args[j]? = some v → Value.okWide Try.prog W .any base t v := hval0
  have hW' := hW
  obtain ⟨p, q, hA0, hV, rfl, _, _⟩ := hW
  have hA : DataW.TrodAll enc Try.prog W 0 (fun _ => true) true Try.f11.params.toList args.toList ds p := hA0
  rw [Try.params11] at hA hval
  obtain ⟨v0, vs0, d0, ds0, p0, q0, hargs, rfl, rfl, h0, r0⟩ := trodAll_cons hA
  obtain ⟨rfl, rfl, rfl⟩ := trodAll_nil r0
  obtain rfl : args = #[v0] := by cases args; simp_all
  obtain ⟨rfl, rfl⟩ := trodVars_none hV
  rw [Try.params11] at hsz
  have lt0 : ∀ x ∈ p0, x.block < W.heap.size := by obtain ⟨m, hm⟩ := h0; exact DataW.trod_lt m _ _ _ hm
  have flS0 : Flat enc Try.prog W 0 78 := flat_struct Try.underlying78 (by kernel_rfl) (by intro f hf; simp at hf; rcases hf with rfl | rfl | rfl <;> exact flat_int Try.underlying3)
  have flE0 : Flat enc Try.prog W 0 80 := flat_struct Try.underlying80 (by kernel_rfl) (by intro f hf; simp at hf; rcases hf with rfl | rfl; exact flS0; exact flat_int Try.underlying3)
  have flK0 : Flat enc Try.prog W 0 82 := flat_struct Try.underlying82 (by kernel_rfl) (by intro f hf; simp at hf; rcases hf with rfl | rfl | rfl | rfl <;> exact flat_int Try.underlying3)
  obtain ⟨lf0, ve0, vk0, es0, ks0, rfl, BE0, BK0, le0, lk0⟩ := node_in (s1 := 53) (s2 := 54) (e1 := 80) (e2 := 82) Try.underlying56 (by kernel_rfl) (by kernel_rfl) Try.underlying4 rfl rfl Try.underlying53 Try.underlying54 (by kernel_rfl) (by kernel_rfl) (by kernel_rfl) (by kernel_rfl) flE0 flK0 (hval 0 56 v0 rfl rfl) h0 hsz (j := 0) rfl rfl
  clear hA0 hval0
  refine (nodePacks_walk lf0 ve0 vk0 es0 ks0 W BE0 BK0 (Nat.le_trans le0 (by decide)) (Nat.le_trans lk0 (by decide))).mono fun e W' ⟨he, bel⟩ => ?_
  subst he
  exact ⟨_, rfl, _, _, _, [], _, [], hW', trodAll_mk1 (shut_bool Try.underlying4 _), (trodAll_cons_mk (Below.trod laidOut (by kernel_rfl) (of_decide_eq_true (by kernel_rfl)) h0 bel lt0) trodAll_mk0), rfl, bel.frame _, fun h => by cases h⟩
/-- The given statement. -/
theorem proved : Rows.NodePacksSaid :=
  OpenClaim.holds_of_wide 11 Try.f11 rfl rfl rfl rfl rfl rfl rfl ⟨rfl, rfl, rfl, rfl, rfl⟩ rfl rfl rfl rfl rfl (by kernel_rfl) Try.func11 (by kernel_rfl)
    (of_decide_eq_true (by kernel_rfl)) (by unfold Func.isWrapper; first | (rw [if_pos (by decide +kernel)]; kernel_rfl) | (rw [if_neg (by decide +kernel)]; exact ⟨rfl, rfl⟩))
    (fun os started H enc _ => lifted os started H enc)
end Go.Proofs.Ytcmoajbdepohmaa.lawNodePacks
