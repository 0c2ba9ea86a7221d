/- Layer 13: node.Open (printed by wip/ndi_gen.py). -/
import Derived.Test.YtcmoajbdepohmaaNdH
import Derived.Deep.RegionLaw
namespace Go.Proofs.Ytcmoajbdepohmaa
open Go.RowKit Go.Oct
/-- what stands while a node is opened: the box of the answer, the box of the node, the reader -/
structure OpSt (w : World) (nb g : Nat) (l : List UInt8) (at_ : Nat) (leaf : Bool) (ve vk : Value) (W : World) : Prop where
  rbx : W.heap[w.heap.size]? = some (ndBox false (.slice none 0 0) (.slice none 0 0))
  nbx : W.heap[nb]? = some (ndBox leaf ve vk)
  rd : Reader (w.heap.size + 1) W g l at_
  bl : Below w.heap.size w W
  h1 : w.heap.size < nb
  h2 : w.heap.size < g
  h3 : g ≠ nb
theorem OpSt.size {w : World} {nb g : Nat} {l : List UInt8} {at_ : Nat} {leaf : Bool} {ve vk : Value} {W : World} (h : OpSt w nb g l at_ leaf ve vk W) : w.heap.size < W.heap.size := (Array.getElem?_eq_some_iff.1 h.rbx).1
theorem OpSt.below {w : World} {nb g : Nat} {l : List UInt8} {at_ : Nat} {leaf : Bool} {ve vk : Value} {W W' : World} (h : OpSt w nb g l at_ leaf ve vk W) (k : Below W.heap.size W W') : OpSt w nb g l at_ leaf ve vk W' :=
  ⟨box_below h.rbx k, box_below h.nbx k, h.rd.below k, below_step h.bl k, h.h1, h.h2, h.h3⟩
theorem OpSt.alloc {w : World} {nb g : Nat} {l : List UInt8} {at_ : Nat} {leaf : Bool} {ve vk : Value} {W : World} (h : OpSt w nb g l at_ leaf ve vk W) (o : Obj) : OpSt w nb g l at_ leaf ve vk (W.alloc o) :=
  h.below ((Below.refl _ _).alloc (Nat.le_refl _) o)
theorem OpSt.drew {w : World} {nb g : Nat} {l : List UInt8} {at_ : Nat} {leaf : Bool} {ve vk : Value} {W : World} (h : OpSt w nb g l at_ leaf ve vk W) : OpSt w nb g l at_ leaf ve vk W.drew :=
  h.below (Below.refl _ W).drew
theorem OpSt.read {w : World} {nb g : Nat} {l : List UInt8} {at_ to : Nat} {leaf : Bool} {ve vk : Value} {W W' : World} (h : OpSt w nb g l at_ leaf ve vk W) (k : W.grownBy W' (some g)) (hr : Reader (w.heap.size + 1) W' g l to) : OpSt w nb g l to leaf ve vk W' :=
  ⟨box_grown h.rbx k (by intro e; have := Option.some.inj e; have := h.h2; omega), box_grown h.nbx k (by intro e; exact h.h3 (Option.some.inj e)), hr, below_grown h.bl k (Nat.le_of_lt h.h2) h.bl.size, h.h1, h.h2, h.h3⟩
theorem OpSt.app {w : World} {nb g : Nat} {l : List UInt8} {at_ : Nat} {leaf : Bool} {ve vk u : Value} {W W' : World} {e : TypeId} {size n : Nat} {xs : List Value} (h : OpSt w nb g l at_ leaf ve vk W) (ho : W.ownsRow w.heap.size e size u n xs) (k : W.grownBy W' u.ownBlock)
    (e1 : e ≠ 56) (e2 : e ≠ 5) (e3 : e ≠ 76) : OpSt w nb g l at_ leaf ve vk W' := by
  have far : ∀ b (lf : Bool) (v1 v2 : Value), W.heap[b]? = some (ndBox lf v1 v2) → u.ownBlock ≠ some b := by
    intro b lf v1 v2 hb hu
    rcases ho.2 with ⟨rfl, _⟩ | ⟨gv, cap, cur, rfl, _, hg, _⟩
    · cases hu
    · simp only [Value.ownBlock, Option.some.injEq] at hu
      subst hu
      rw [hb] at hg
      unfold ndBox at hg
      simp only [Option.some.injEq, Obj.cells.injEq] at hg
      exact e1 hg.2.1.symm
  refine ⟨box_grown h.rbx k (far _ _ _ _ h.rbx), box_grown h.nbx k (far _ _ _ _ h.nbx), ?_, below_put h.bl ho k, h.h1, h.h2, h.h3⟩
  rcases ho.2 with ⟨rfl, _⟩ | ⟨gv, cap, cur, rfl, _, hg, _⟩
  · exact h.rd.below (below_none k)
  · exact h.rd.far (s := gv) k hg e2 e3
theorem OpSt.store1 {w : World} {nb g : Nat} {l : List UInt8} {at_ : Nat} {leaf : Bool} {ve vk : Value} {W : World} (h : OpSt w nb g l at_ leaf ve vk W) (v : Value) : OpSt w nb g l at_ leaf v vk (W.setCell ⟨nb, 1, none⟩ v) := by
  refine ⟨?_, ?_, h.rd.far (s := nb) (grown_setCell _ _ _) h.nbx (by decide) (by decide), h.bl.setCell (Nat.le_of_lt h.h1) v, h.h1, h.h2, h.h3⟩
  · rw [Below.heap_setCell _ _ _ _ (show w.heap.size ≠ nb by have := h.h1; omega)]; exact h.rbx
  · have := heap_setCell_same W nb 1 _ _ v h.nbx
    simpa [ndBox] using this
theorem OpSt.store2 {w : World} {nb g : Nat} {l : List UInt8} {at_ : Nat} {leaf : Bool} {ve vk : Value} {W : World} (h : OpSt w nb g l at_ leaf ve vk W) (v : Value) : OpSt w nb g l at_ leaf ve v (W.setCell ⟨nb, 2, none⟩ v) := by
  refine ⟨?_, ?_, h.rd.far (s := nb) (grown_setCell _ _ _) h.nbx (by decide) (by decide), h.bl.setCell (Nat.le_of_lt h.h1) v, h.h1, h.h2, h.h3⟩
  · rw [Below.heap_setCell _ _ _ _ (show w.heap.size ≠ nb by have := h.h1; omega)]; exact h.rbx
  · have := heap_setCell_same W nb 2 _ _ v h.nbx
    simpa [ndBox] using this
theorem has_quad {w : World} {g : Nat} {x : Quad} {f : Nat × Nat} {t : TypeId} (h : w.heap[g]? = some (.cells #[.int .i64 x.1, .int .i64 x.2.1, .int .i64 x.2.2.1, .int .i64 x.2.2.2] t f)) : Has w (.slice (some ⟨g, 0, none⟩) 1 1) 1 (qs [x]) :=
  Has.block h (Nat.le_refl _) (by decide) (fun i z hi => by simpa [qs] using hi)
theorem own_read {w w' : World} {base bb size n g at_ : Nat} {e : TypeId} {u : Value} {xs : List Value} {l : List UInt8} (h : w.ownsRow base e size u n xs) (hr : Reader bb w g l at_) (k : w.grownBy w' (some g)) (he : e ≠ 76) : w'.ownsRow base e size u n xs := by
  obtain ⟨cs, hb⟩ := reader_box hr
  exact own_far h k hb he
theorem sets3_grown (w : World) (b : Nat) (v0 v1 v2 : Value) : w.grownBy (((w.setCell ⟨b, 0, none⟩ v0).setCell ⟨b, 1, none⟩ v1).setCell ⟨b, 2, none⟩ v2) (some b) :=
  ((grown_setCell w ⟨b, 0, none⟩ v0).trans (grown_setCell _ ⟨b, 1, none⟩ v1)).trans (grown_setCell _ ⟨b, 2, none⟩ v2)
theorem own_shape4 {w : World} {base size n : Nat} {e : TypeId} {v : Value} {xs : List Value} (h : w.ownsRow base e size v n xs) : ∃ a cp, v = .slice a n cp := by
  rcases h.2 with ⟨rfl, rfl⟩ | ⟨g, cap, cur, rfl, _⟩
  · exact ⟨_, _, rfl⟩
  · exact ⟨_, _, rfl⟩
set_option maxRecDepth 100000 in
set_option maxHeartbeats 4000000 in
theorem nodeOpen_1 (v : Value) (l : List UInt8) (w : World) (hB : Bytes w v l) (hll : l.length ≤ 140737488355328) (h1 : ¬ l.length < 1) : Calls Try.prog 40 #[.int .i64 1, v] w (NoPost 1 l w) := by
  obtain ⟨a, cap, rfl, hcap, hmax, -⟩ := hB.open
  unfold maxLen at hmax
  have HB := Lib.hid hB
  obtain ⟨mn, hmn⟩ : ∃ x, fld l 0 1 = x := ⟨_, rfl⟩
  have hml : mn < 256 := by rw [← hmn]; exact fld_lt l 0 1
  have r1 := rd_any (l := l) 0 1 (by omega) (by decide) (by decide)
  rw [hmn] at r1
  have HRD := Lib.hid (show rdVal l 0 1 = mn ∧ rdAt l 0 1 = 1 ∧ rdCode l 0 1 = 0 from r1)
  have HMN := Lib.hid hmn
  have HLF := Lib.hid (show ((l.length - 1 : Nat) : Int) = (l.length : Int) - 1 by omega)
  have hl1 : (1 : Int) ≤ (l.length : Int) := by omega
  obtain ⟨i0', hi, hz0, hz1, hz2⟩ := info_parts infoEnt
  clear hB r1 hmn
  by_cases hs : l.length = 1 + 13 * mn
  · have HSZ := Lib.hid hs
    have hcmp : (((l.length : Int) - 1) != (mn : Int) * 13) = false := by rw [bne_eq_false_iff_eq]; omega
    have hsa1 : l.length ≤ 1 + 13 * mn := by omega
    have hsa2 : 1 + 13 * mn ≤ l.length := by omega
    clear hs
    go_enter Try.func40, Try.ntmps40
    go_wp2_with fail
    refine (on_any _ l _ (HB.out.alloc _) hll).mono ?_
    rintro e w1 ⟨g, rfl, hr1, hx⟩
    have HZ1 := Lib.hid (box_below (heap_last (w := w) (o := ndBox false (.slice none 0 0) (.slice none 0 0)) rfl) hx)
    have hw1 := below_step (below_new (Below.refl _ w) (ndBox false (.slice none 0 0) (.slice none 0 0))) hx
    have hr1' : Reader (w.heap.size + 1) w1 g l 0 := by simpa using hr1
    have hg0 : w.heap.size < g := hr1'.1
    have HR1 := Lib.hid hr1'
    clear hr1 hr1' hx
    go_wp2_with fail
    refine (rdInt_any _ g l 0 1 _ HR1.out (by decide)).mono ?_
    rintro e w2 ⟨rfl, hr2, hx⟩
    rw [HRD.out.1, HRD.out.2.2]
    rw [HRD.out.2.1] at hr2
    have hst : OpSt w w2.heap.size g l 1 true (.slice none 0 0) (.slice none 0 0) (w2.alloc (ndBox true (.slice none 0 0) (.slice none 0 0))) :=
      ⟨heap_keep (box_grown HZ1.out hx (by intro e; have := Option.some.inj e; omega)) _, heap_last rfl, hr2.below ((Below.refl _ _).alloc (Nat.le_refl _) _), below_new (below_grown hw1 hx (Nat.le_of_lt hg0) hw1.size) _,
        Nat.lt_of_lt_of_le (Array.getElem?_eq_some_iff.1 HZ1.out).1 hx.size, hg0, Nat.ne_of_lt hr2.lt.2⟩
    have HST := Lib.hid hst
    have hs2 : w.heap.size < w2.heap.size := Nat.lt_of_lt_of_le (Array.getElem?_eq_some_iff.1 HZ1.out).1 hx.size
    clear hr2 hx hw1 hst HZ1 HR1
    go_wp2_with fail
    refine (left_any _ g l 1 _ HST.out.rd).mono ?_
    rintro e w3 ⟨rfl, hx⟩
    rw [HLF.out]
    have HST3 := Lib.hid (HST.out.below hx)
    clear hx HST
    obtain ⟨nb, hnb⟩ : ∃ x, x = w2.heap.size := ⟨_, rfl⟩
    rw [← hnb] at HST3 hs2 ⊢
    clear hnb
    go_wp2_with fail
    clear hcmp
    go_loopw [49] (fun i wr => ∃ (k : Nat) (lv : Value), k ≤ mn ∧ i = .int .i64 k ∧ wr.ownsRow w.heap.size 80 4 lv k (qs (qList (ndEnt l) k)) ∧ OpSt w nb g l (1 + 13 * k) true lv (.slice none 0 0) wr) (fun i _ => mn - (intOf i).toNat)
    case atStart => exact ⟨0, .slice none 0 0, Nat.zero_le _, rfl, World.ownsRow_nil _ _ _ _, HST3.out⟩
    case round =>
      clear HST3
      obtain ⟨k, lv, hk, rfl, hown, hst⟩ := hrel
      have HO := Lib.hid hown
      have HST := Lib.hid hst
      obtain ⟨y0, y1, y2⟩ := ndBox_cells hst.nbx
      have hnl := (Array.getElem?_eq_some_iff.1 hst.nbx).1
      by_cases hlt : k < mn
      · have ra0 := rd_any (l := l) (1 + 13 * k) 1 (by omega) (by decide) (by decide)
        have ra1 := rd_any (l := l) (2 + 13 * k) 4 (by omega) (by decide) (by decide)
        have ra2 := rd_any (l := l) (6 + 13 * k) 4 (by omega) (by decide) (by decide)
        have ra3 := rd_any (l := l) (10 + 13 * k) 4 (by omega) (by decide) (by decide)
        have HT := Lib.hid (qList_snoc (ndEnt l) k)
        obtain ⟨x0, hx0⟩ : ∃ x, fld l (1 + 13 * k) 1 = x := ⟨_, rfl⟩
        obtain ⟨x1, hx1⟩ : ∃ x, fld l (2 + 13 * k) 4 = x := ⟨_, rfl⟩
        obtain ⟨x2, hx2⟩ : ∃ x, fld l (6 + 13 * k) 4 = x := ⟨_, rfl⟩
        obtain ⟨x3, hx3⟩ : ∃ x, fld l (10 + 13 * k) 4 = x := ⟨_, rfl⟩
        have HV := Lib.hid (show ndEnt l k = (((x0 : Nat) : Int), unopn ((x1 : Nat) : Int), unopn ((x2 : Nat) : Int), unopn ((x3 : Nat) : Int)) by unfold ndEnt; rw [hx0, hx1, hx2, hx3])
        rw [hx0] at ra0
        have RA0 := Lib.hid (show rdVal l (1 + 13 * k) 1 = x0 ∧ rdAt l (1 + 13 * k) 1 = 2 + 13 * k ∧ rdCode l (1 + 13 * k) 1 = 0 from ⟨ra0.1, by have := ra0.2.1; show rdAt l (1 + 13 * k) ((1 : Nat) : Int) = _; omega, ra0.2.2⟩)
        rw [hx1] at ra1
        have RA1 := Lib.hid (show rdVal l (2 + 13 * k) 4 = x1 ∧ rdAt l (2 + 13 * k) 4 = 6 + 13 * k ∧ rdCode l (2 + 13 * k) 4 = 0 from ⟨ra1.1, by have := ra1.2.1; show rdAt l (2 + 13 * k) ((4 : Nat) : Int) = _; omega, ra1.2.2⟩)
        rw [hx2] at ra2
        have RA2 := Lib.hid (show rdVal l (6 + 13 * k) 4 = x2 ∧ rdAt l (6 + 13 * k) 4 = 10 + 13 * k ∧ rdCode l (6 + 13 * k) 4 = 0 from ⟨ra2.1, by have := ra2.2.1; show rdAt l (6 + 13 * k) ((4 : Nat) : Int) = _; omega, ra2.2.2⟩)
        rw [hx3] at ra3
        have RA3 := Lib.hid (show rdVal l (10 + 13 * k) 4 = x3 ∧ rdAt l (10 + 13 * k) 4 = 1 + 13 * (k + 1) ∧ rdCode l (10 + 13 * k) 4 = 0 from ⟨ra3.1, by have := ra3.2.1; show rdAt l (10 + 13 * k) ((4 : Nat) : Int) = _; omega, ra3.2.2⟩)
        obtain ⟨q1, hq1⟩ : ∃ q, unopn ((x1 : Nat) : Int) = q := ⟨_, rfl⟩
        have HQ1 := Lib.hid hq1
        obtain ⟨q2, hq2⟩ : ∃ q, unopn ((x2 : Nat) : Int) = q := ⟨_, rfl⟩
        have HQ2 := Lib.hid hq2
        obtain ⟨q3, hq3⟩ : ∃ q, unopn ((x3 : Nat) : Int) = q := ⟨_, rfl⟩
        have HQ3 := Lib.hid hq3
        have HV2 := Lib.hid (show ndEnt l k = (((x0 : Nat) : Int), q1, q2, q3) by rw [HV.out, hq1, hq2, hq3])
        clear ra0 ra1 ra2 ra3 hx0 hx1 hx2 hx3 hown hst HV hq1 hq2 hq3
        go_wp2_with fail
        refine (rdInt_any _ g l _ 1 _ HST.out.rd (by decide)).mono ?_
        rintro e wa ⟨rfl, hrr, hxx⟩
        rw [RA0.out.1, RA0.out.2.2]
        rw [RA0.out.2.1] at hrr
        have HSTa := Lib.hid (HST.out.read hxx hrr)
        have HOa := Lib.hid (own_read HO.out HST.out.rd hxx (by decide))
        clear y0 y1 y2 hnl hrr hxx HST HO
        obtain ⟨y0, y1, y2⟩ := ndBox_cells HSTa.out.nbx
        have hnl := (Array.getElem?_eq_some_iff.1 HSTa.out.nbx).1
        go_wp2_with fail
        refine (nodeFour_any _ g l _ _ HSTa.out.rd).mono ?_
        rintro e wb ⟨rfl, hrr, hxx⟩
        rw [RA1.out.1, HQ1.out]
        rw [RA1.out.2.1] at hrr
        have HSTb := Lib.hid (HSTa.out.read hxx hrr)
        have HOb := Lib.hid (own_read HOa.out HSTa.out.rd hxx (by decide))
        clear y0 y1 y2 hnl hrr hxx HSTa HOa
        obtain ⟨y0, y1, y2⟩ := ndBox_cells HSTb.out.nbx
        have hnl := (Array.getElem?_eq_some_iff.1 HSTb.out.nbx).1
        go_wp2_with fail
        refine (nodeFour_any _ g l _ _ HSTb.out.rd).mono ?_
        rintro e wc ⟨rfl, hrr, hxx⟩
        rw [RA2.out.1, HQ2.out]
        rw [RA2.out.2.1] at hrr
        have HSTc := Lib.hid (HSTb.out.read hxx hrr)
        have HOc := Lib.hid (own_read HOb.out HSTb.out.rd hxx (by decide))
        clear y0 y1 y2 hnl hrr hxx HSTb HOb
        obtain ⟨y0, y1, y2⟩ := ndBox_cells HSTc.out.nbx
        have hnl := (Array.getElem?_eq_some_iff.1 HSTc.out.nbx).1
        go_wp2_with fail
        go_region_law
          (first
            | (go_simp
               go_at_call 50
               ((with_reducible refine (nodeFour_any _ g l _ _ HSTc.out.drew.rd).mono ?_))
               rintro e wd ⟨rfl, hrr, hxx⟩
               rw [RA3.out.1, HQ3.out]
               rw [RA3.out.2.1] at hrr
               have HSTd := Lib.hid (HSTc.out.drew.read hxx hrr)
               have HOd := Lib.hid (own_read HOc.out.drew HSTc.out.drew.rd hxx (by decide))
               obtain ⟨m0, m1, m2⟩ := ndBox_cells HSTd.out.nbx
               have hml' := (Array.getElem?_eq_some_iff.1 HSTd.out.nbx).1
               clear hrr hxx)
            | (rw [if_pos (by rfl)]
               refine oper_append_has_at _ (.tmp 63) (.tmp 71) 53 rfl w.heap.size 80 i0' (.agg #[.int .i64 0, .int .i64 0, .int .i64 0, .int .i64 0]) 4 32 Try.underlying53 hi hz0 hz1 hz2 rfl (by decide) _ _ _ rfl (HOd.out.alloc _) (.slice (some ⟨wd.heap.size, 0, none⟩) 1 1) 1 (qs [(((x0 : Nat) : Int), q1, q2, q3)]) rfl (has_quad (heap_last rfl)) rfl (qs_one _) ?c3 ?c4 ?c5 ?_
               case c3 => first | (unfold maxLen; omega) | fail "c3"
               case c4 => first | omega | fail "c4"
               case c5 => first | (have := HSTd.out.size; simp; omega) | fail "c5"
               intro vf wf hof hgf _
               obtain ⟨fa, fc, rfl⟩ := own_shape4 hof
               have HSTf := Lib.hid ((HSTd.out.alloc _).app (HOd.out.alloc _) hgf (by decide) (by decide) (by decide))
               have HOf := Lib.hid (show wf.ownsRow w.heap.size 80 4 (.slice fa (k + 1) fc) (k + 1) (qs (qList (ndEnt l) (k + 1))) by rw [HT.out, HV2.out, qs_append]; exact hof)
               obtain ⟨n0, n1, n2⟩ := ndBox_cells HSTf.out.nbx
               have hfz := ndBox_free HSTf.out.nbx 1
               have hnf := (Array.getElem?_eq_some_iff.1 HSTf.out.nbx).1
               clear hof hgf)
            | fail "no arm")
        all_goals
          have HSTg := Lib.hid (HSTf.out.store1 (.slice fa (k + 1) fc))
          have HOg := Lib.hid (own_far HOf.out (grown_setCell _ ⟨nb, 1, none⟩ (.slice fa (k + 1) fc)) HSTf.out.nbx (by decide))
          clear n0 n1 n2 hfz m0 m1 m2 y0 y1 y2
          go_wp2_with fail
          go_roundw
          case rel => exact ⟨k + 1, _, by omega, by go_num, HOg.out, HSTg.out⟩
          case measure => simp [intOf]; omega
      · obtain rfl : k = mn := by omega
        have hq : Quads wr lv (qList (ndEnt l) k) := by unfold Quads; rw [qList_length]; exact Has.own hown
        have HQ := Lib.hid hq
        clear hown hst hq
        go_wp2_with fail
        refine (nodeMay_any true _ _ (qList (ndEnt l) k) [] _ HQ.out (Quads.nil _) (by rw [qList_length]; omega) (by decide)).mono ?_
        rintro e w4 ⟨rfl, hx⟩
        have HST4 := Lib.hid (HST.out.below hx)
        have HQ4 := Lib.hid (show Quads w4 lv (qList (ndEnt l) k) from Has.below HQ.out hx)
        have HO4 := Lib.hid (own_keep HO.out hx)
        clear y0 y1 y2 hx HST HQ HO
        obtain ⟨y0, y1, y2⟩ := ndBox_cells HST4.out.nbx
        obtain ⟨z0, z1, z2⟩ := ndBox_cells HST4.out.rbx
        have hfz := ndBox_free HST4.out.rbx
        have hls := HST4.out.size
        by_cases hM : ndMay true (qList (ndEnt l) k) []
        · rw [decide_eq_true hM]
          have hop : ndOpens 1 l := ndOpens_one.2 (by rw [HMN.out]; exact ⟨HSZ.out, hM⟩)
          have HO1 := Lib.hid (show noLeaf 1 l = true ∧ noCode 1 l = 0 ∧ noEs 1 l = qList (ndEnt l) k ∧ noKs 1 l = [] by
            refine ⟨?_, ?_, ?_, ?_⟩
            · rw [noLeaf, if_pos hop]; rfl
            · rw [noCode, if_pos hop]
            · rw [noEs, if_pos hop, ndEsOf, HMN.out]; rfl
            · rw [noKs, if_pos hop, ndKsOf, HMN.out]; rfl)
          obtain ⟨xa, xl, xc, hf⟩ : ∃ a n c, lv = .slice a n c := by obtain ⟨a, c, h, _⟩ := HQ4.out; exact ⟨_, _, _, h⟩
          subst hf
          clear hM hop
          go_wp2_with fail
          refine bodyPost_ret (v := .tuple #[.agg #[.bool true, .slice xa xl xc, .slice none 0 0], .int .i64 0]) (by simp [results, Try.results40, go_sem, z0, z1, z2]) rfl ?_
          obtain ⟨o1, o2, o3, o4⟩ := HO1.out
          have hb3 := sets3_below HST4.out.bl (Nat.le_refl _) (.bool true) (.slice xa xl xc) (.slice none 0 0)
          refine ⟨.slice xa xl xc, .slice none 0 0, by rw [o1, o2]; rfl, ?_, ?_, hb3⟩
          · rw [o3]; have ho5 := own_far HO4.out (sets3_grown _ _ (.bool true) (.slice xa xl xc) (.slice none 0 0)) HST4.out.rbx (by decide); unfold Quads; rw [qList_length]; exact Has.own ho5
          · rw [o4]; exact Quads.nil _
        · rw [decide_eq_false hM]
          have HN := Lib.hid (show ¬ ndOpens 1 l from fun h => hM (by have := (ndOpens_one.1 h).2; rw [HMN.out] at this; exact this))
          clear hM
          go_wp2_with fail
          refine bodyPost_ret (v := .tuple #[.agg #[.bool false, .slice none 0 0, .slice none 0 0], .int .i64 4]) (by simp [results, Try.results40, go_sem, z0, z1, z2]) rfl ?_
          exact no_bad HN.out rfl (sets3_below HST4.out.bl (Nat.le_refl _) _ _ _)
  · have HN := Lib.hid (show ¬ ndOpens 1 l from fun h => hs (by have := (ndOpens_one.1 h).1; rw [HMN.out] at this; exact this))
    have hcmp : (((l.length : Int) - 1) != (mn : Int) * 13) = true := by rw [bne_iff_ne]; omega
    clear hs
    go_enter Try.func40, Try.ntmps40
    go_wp2_with fail
    refine (on_any _ l _ (HB.out.alloc _) hll).mono ?_
    rintro e w1 ⟨g, rfl, hr1, hx⟩
    have HZ1 := Lib.hid (box_below (heap_last (w := w) (o := ndBox false (.slice none 0 0) (.slice none 0 0)) rfl) hx)
    have hw1 := below_step (below_new (Below.refl _ w) (ndBox false (.slice none 0 0) (.slice none 0 0))) hx
    have hr1' : Reader (w.heap.size + 1) w1 g l 0 := by simpa using hr1
    have hg0 : w.heap.size < g := hr1'.1
    have HR1 := Lib.hid hr1'
    clear hr1 hr1' hx
    go_wp2_with fail
    refine (rdInt_any _ g l 0 1 _ HR1.out (by decide)).mono ?_
    rintro e w2 ⟨rfl, hr2, hx⟩
    rw [HRD.out.1, HRD.out.2.2]
    rw [HRD.out.2.1] at hr2
    have hst : OpSt w w2.heap.size g l 1 true (.slice none 0 0) (.slice none 0 0) (w2.alloc (ndBox true (.slice none 0 0) (.slice none 0 0))) :=
      ⟨heap_keep (box_grown HZ1.out hx (by intro e; have := Option.some.inj e; omega)) _, heap_last rfl, hr2.below ((Below.refl _ _).alloc (Nat.le_refl _) _), below_new (below_grown hw1 hx (Nat.le_of_lt hg0) hw1.size) _,
        Nat.lt_of_lt_of_le (Array.getElem?_eq_some_iff.1 HZ1.out).1 hx.size, hg0, Nat.ne_of_lt hr2.lt.2⟩
    have HST := Lib.hid hst
    have hs2 : w.heap.size < w2.heap.size := Nat.lt_of_lt_of_le (Array.getElem?_eq_some_iff.1 HZ1.out).1 hx.size
    clear hr2 hx hw1 hst HZ1 HR1
    go_wp2_with fail
    refine (left_any _ g l 1 _ HST.out.rd).mono ?_
    rintro e w3 ⟨rfl, hx⟩
    rw [HLF.out]
    have HST3 := Lib.hid (HST.out.below hx)
    clear hx HST
    obtain ⟨nb, hnb⟩ : ∃ x, x = w2.heap.size := ⟨_, rfl⟩
    rw [← hnb] at HST3 hs2 ⊢
    clear hnb
    obtain ⟨z0, z1, z2⟩ := ndBox_cells HST3.out.rbx
    have hfz := ndBox_free HST3.out.rbx
    have hls := HST3.out.size
    go_wp2_with fail
    refine bodyPost_ret (v := .tuple #[.agg #[.bool false, .slice none 0 0, .slice none 0 0], .int .i64 4]) (by simp [results, Try.results40, go_sem, z0, z1, z2]) rfl ?_
    exact no_bad HN.out rfl (sets3_below HST3.out.bl (Nat.le_refl _) _ _ _)
set_option maxRecDepth 100000 in
set_option maxHeartbeats 4000000 in
theorem nodeOpen_2 (v : Value) (l : List UInt8) (w : World) (hB : Bytes w v l) (hll : l.length ≤ 140737488355328) (h1 : ¬ l.length < 1) : Calls Try.prog 40 #[.int .i64 2, v] w (NoPost 2 l w) := by
  obtain ⟨a, cap, rfl, hcap, hmax, -⟩ := hB.open
  unfold maxLen at hmax
  have HB := Lib.hid hB
  obtain ⟨mn, hmn⟩ : ∃ x, fld l 0 1 = x := ⟨_, rfl⟩
  have hml : mn < 256 := by rw [← hmn]; exact fld_lt l 0 1
  have r1 := rd_any (l := l) 0 1 (by omega) (by decide) (by decide)
  rw [hmn] at r1
  have HRD := Lib.hid (show rdVal l 0 1 = mn ∧ rdAt l 0 1 = 1 ∧ rdCode l 0 1 = 0 from r1)
  have HMN := Lib.hid hmn
  have HLF := Lib.hid (show ((l.length - 1 : Nat) : Int) = (l.length : Int) - 1 by omega)
  have hl1 : (1 : Int) ≤ (l.length : Int) := by omega
  obtain ⟨i0', hi, hz0, hz1, hz2⟩ := info_parts infoKid
  clear hB r1 hmn
  by_cases hs : l.length = 1 + 16 * mn
  · have HSZ := Lib.hid hs
    have hcmp : (((l.length : Int) - 1) != (mn : Int) * 16) = false := by rw [bne_eq_false_iff_eq]; omega
    have hsa1 : l.length ≤ 1 + 16 * mn := by omega
    have hsa2 : 1 + 16 * mn ≤ l.length := by omega
    clear hs
    go_enter Try.func40, Try.ntmps40
    go_wp2_with fail
    refine (on_any _ l _ (HB.out.alloc _) hll).mono ?_
    rintro e w1 ⟨g, rfl, hr1, hx⟩
    have HZ1 := Lib.hid (box_below (heap_last (w := w) (o := ndBox false (.slice none 0 0) (.slice none 0 0)) rfl) hx)
    have hw1 := below_step (below_new (Below.refl _ w) (ndBox false (.slice none 0 0) (.slice none 0 0))) hx
    have hr1' : Reader (w.heap.size + 1) w1 g l 0 := by simpa using hr1
    have hg0 : w.heap.size < g := hr1'.1
    have HR1 := Lib.hid hr1'
    clear hr1 hr1' hx
    go_wp2_with fail
    refine (rdInt_any _ g l 0 1 _ HR1.out (by decide)).mono ?_
    rintro e w2 ⟨rfl, hr2, hx⟩
    rw [HRD.out.1, HRD.out.2.2]
    rw [HRD.out.2.1] at hr2
    have hst : OpSt w w2.heap.size g l 1 false (.slice none 0 0) (.slice none 0 0) (w2.alloc (ndBox false (.slice none 0 0) (.slice none 0 0))) :=
      ⟨heap_keep (box_grown HZ1.out hx (by intro e; have := Option.some.inj e; omega)) _, heap_last rfl, hr2.below ((Below.refl _ _).alloc (Nat.le_refl _) _), below_new (below_grown hw1 hx (Nat.le_of_lt hg0) hw1.size) _,
        Nat.lt_of_lt_of_le (Array.getElem?_eq_some_iff.1 HZ1.out).1 hx.size, hg0, Nat.ne_of_lt hr2.lt.2⟩
    have HST := Lib.hid hst
    have hs2 : w.heap.size < w2.heap.size := Nat.lt_of_lt_of_le (Array.getElem?_eq_some_iff.1 HZ1.out).1 hx.size
    clear hr2 hx hw1 hst HZ1 HR1
    go_wp2_with fail
    refine (left_any _ g l 1 _ HST.out.rd).mono ?_
    rintro e w3 ⟨rfl, hx⟩
    rw [HLF.out]
    have HST3 := Lib.hid (HST.out.below hx)
    clear hx HST
    obtain ⟨nb, hnb⟩ : ∃ x, x = w2.heap.size := ⟨_, rfl⟩
    rw [← hnb] at HST3 hs2 ⊢
    clear hnb
    go_wp2_with fail
    clear hcmp
    go_loopw [49] (fun i wr => ∃ (k : Nat) (lv : Value), k ≤ mn ∧ i = .int .i64 k ∧ wr.ownsRow w.heap.size 82 4 lv k (qs (qList (ndKid l) k)) ∧ OpSt w nb g l (1 + 16 * k) false (.slice none 0 0) lv wr) (fun i _ => mn - (intOf i).toNat)
    case atStart => exact ⟨0, .slice none 0 0, Nat.zero_le _, rfl, World.ownsRow_nil _ _ _ _, HST3.out⟩
    case round =>
      clear HST3
      obtain ⟨k, lv, hk, rfl, hown, hst⟩ := hrel
      have HO := Lib.hid hown
      have HST := Lib.hid hst
      obtain ⟨y0, y1, y2⟩ := ndBox_cells hst.nbx
      have hnl := (Array.getElem?_eq_some_iff.1 hst.nbx).1
      by_cases hlt : k < mn
      · have ra0 := rd_any (l := l) (1 + 16 * k) 4 (by omega) (by decide) (by decide)
        have ra1 := rd_any (l := l) (5 + 16 * k) 4 (by omega) (by decide) (by decide)
        have ra2 := rd_any (l := l) (9 + 16 * k) 4 (by omega) (by decide) (by decide)
        have ra3 := rd_any (l := l) (13 + 16 * k) 4 (by omega) (by decide) (by decide)
        have HT := Lib.hid (qList_snoc (ndKid l) k)
        obtain ⟨x0, hx0⟩ : ∃ x, fld l (1 + 16 * k) 4 = x := ⟨_, rfl⟩
        obtain ⟨x1, hx1⟩ : ∃ x, fld l (5 + 16 * k) 4 = x := ⟨_, rfl⟩
        obtain ⟨x2, hx2⟩ : ∃ x, fld l (9 + 16 * k) 4 = x := ⟨_, rfl⟩
        obtain ⟨x3, hx3⟩ : ∃ x, fld l (13 + 16 * k) 4 = x := ⟨_, rfl⟩
        have HV := Lib.hid (show ndKid l k = (unopn ((x0 : Nat) : Int), unopn ((x1 : Nat) : Int), unopn ((x2 : Nat) : Int), unopn ((x3 : Nat) : Int)) by unfold ndKid; rw [hx0, hx1, hx2, hx3])
        rw [hx0] at ra0
        have RA0 := Lib.hid (show rdVal l (1 + 16 * k) 4 = x0 ∧ rdAt l (1 + 16 * k) 4 = 5 + 16 * k ∧ rdCode l (1 + 16 * k) 4 = 0 from ⟨ra0.1, by have := ra0.2.1; show rdAt l (1 + 16 * k) ((4 : Nat) : Int) = _; omega, ra0.2.2⟩)
        rw [hx1] at ra1
        have RA1 := Lib.hid (show rdVal l (5 + 16 * k) 4 = x1 ∧ rdAt l (5 + 16 * k) 4 = 9 + 16 * k ∧ rdCode l (5 + 16 * k) 4 = 0 from ⟨ra1.1, by have := ra1.2.1; show rdAt l (5 + 16 * k) ((4 : Nat) : Int) = _; omega, ra1.2.2⟩)
        rw [hx2] at ra2
        have RA2 := Lib.hid (show rdVal l (9 + 16 * k) 4 = x2 ∧ rdAt l (9 + 16 * k) 4 = 13 + 16 * k ∧ rdCode l (9 + 16 * k) 4 = 0 from ⟨ra2.1, by have := ra2.2.1; show rdAt l (9 + 16 * k) ((4 : Nat) : Int) = _; omega, ra2.2.2⟩)
        rw [hx3] at ra3
        have RA3 := Lib.hid (show rdVal l (13 + 16 * k) 4 = x3 ∧ rdAt l (13 + 16 * k) 4 = 1 + 16 * (k + 1) ∧ rdCode l (13 + 16 * k) 4 = 0 from ⟨ra3.1, by have := ra3.2.1; show rdAt l (13 + 16 * k) ((4 : Nat) : Int) = _; omega, ra3.2.2⟩)
        obtain ⟨q0, hq0⟩ : ∃ q, unopn ((x0 : Nat) : Int) = q := ⟨_, rfl⟩
        have HQ0 := Lib.hid hq0
        obtain ⟨q1, hq1⟩ : ∃ q, unopn ((x1 : Nat) : Int) = q := ⟨_, rfl⟩
        have HQ1 := Lib.hid hq1
        obtain ⟨q2, hq2⟩ : ∃ q, unopn ((x2 : Nat) : Int) = q := ⟨_, rfl⟩
        have HQ2 := Lib.hid hq2
        obtain ⟨q3, hq3⟩ : ∃ q, unopn ((x3 : Nat) : Int) = q := ⟨_, rfl⟩
        have HQ3 := Lib.hid hq3
        have HV2 := Lib.hid (show ndKid l k = (q0, q1, q2, q3) by rw [HV.out, hq0, hq1, hq2, hq3])
        clear ra0 ra1 ra2 ra3 hx0 hx1 hx2 hx3 hown hst HV hq0 hq1 hq2 hq3
        go_wp2_with fail
        refine (nodeFour_any _ g l _ _ HST.out.rd).mono ?_
        rintro e wa ⟨rfl, hrr, hxx⟩
        rw [RA0.out.1, HQ0.out]
        rw [RA0.out.2.1] at hrr
        have HSTa := Lib.hid (HST.out.read hxx hrr)
        have HOa := Lib.hid (own_read HO.out HST.out.rd hxx (by decide))
        clear y0 y1 y2 hnl hrr hxx HST HO
        obtain ⟨y0, y1, y2⟩ := ndBox_cells HSTa.out.nbx
        have hnl := (Array.getElem?_eq_some_iff.1 HSTa.out.nbx).1
        go_wp2_with fail
        refine (nodeFour_any _ g l _ _ HSTa.out.rd).mono ?_
        rintro e wb ⟨rfl, hrr, hxx⟩
        rw [RA1.out.1, HQ1.out]
        rw [RA1.out.2.1] at hrr
        have HSTb := Lib.hid (HSTa.out.read hxx hrr)
        have HOb := Lib.hid (own_read HOa.out HSTa.out.rd hxx (by decide))
        clear y0 y1 y2 hnl hrr hxx HSTa HOa
        obtain ⟨y0, y1, y2⟩ := ndBox_cells HSTb.out.nbx
        have hnl := (Array.getElem?_eq_some_iff.1 HSTb.out.nbx).1
        go_wp2_with fail
        refine (nodeFour_any _ g l _ _ HSTb.out.rd).mono ?_
        rintro e wc ⟨rfl, hrr, hxx⟩
        rw [RA2.out.1, HQ2.out]
        rw [RA2.out.2.1] at hrr
        have HSTc := Lib.hid (HSTb.out.read hxx hrr)
        have HOc := Lib.hid (own_read HOb.out HSTb.out.rd hxx (by decide))
        clear y0 y1 y2 hnl hrr hxx HSTb HOb
        obtain ⟨y0, y1, y2⟩ := ndBox_cells HSTc.out.nbx
        have hnl := (Array.getElem?_eq_some_iff.1 HSTc.out.nbx).1
        go_wp2_with fail
        go_region_law
          (first
            | (go_simp
               go_at_call 50
               ((with_reducible refine (nodeFour_any _ g l _ _ HSTc.out.drew.rd).mono ?_))
               rintro e wd ⟨rfl, hrr, hxx⟩
               rw [RA3.out.1, HQ3.out]
               rw [RA3.out.2.1] at hrr
               have HSTd := Lib.hid (HSTc.out.drew.read hxx hrr)
               have HOd := Lib.hid (own_read HOc.out.drew HSTc.out.drew.rd hxx (by decide))
               obtain ⟨m0, m1, m2⟩ := ndBox_cells HSTd.out.nbx
               have hml' := (Array.getElem?_eq_some_iff.1 HSTd.out.nbx).1
               clear hrr hxx)
            | (rw [if_pos (by rfl)]
               refine oper_append_has_at _ (.tmp 81) (.tmp 88) 54 rfl w.heap.size 82 i0' (.agg #[.int .i64 0, .int .i64 0, .int .i64 0, .int .i64 0]) 4 32 Try.underlying54 hi hz0 hz1 hz2 rfl (by decide) _ _ _ rfl (HOd.out.alloc _) (.slice (some ⟨wd.heap.size, 0, none⟩) 1 1) 1 (qs [(q0, q1, q2, q3)]) rfl (has_quad (heap_last rfl)) rfl (qs_one _) ?c3 ?c4 ?c5 ?_
               case c3 => first | (unfold maxLen; omega) | fail "c3"
               case c4 => first | omega | fail "c4"
               case c5 => first | (have := HSTd.out.size; simp; omega) | fail "c5"
               intro vf wf hof hgf _
               obtain ⟨fa, fc, rfl⟩ := own_shape4 hof
               have HSTf := Lib.hid ((HSTd.out.alloc _).app (HOd.out.alloc _) hgf (by decide) (by decide) (by decide))
               have HOf := Lib.hid (show wf.ownsRow w.heap.size 82 4 (.slice fa (k + 1) fc) (k + 1) (qs (qList (ndKid l) (k + 1))) by rw [HT.out, HV2.out, qs_append]; exact hof)
               obtain ⟨n0, n1, n2⟩ := ndBox_cells HSTf.out.nbx
               have hfz := ndBox_free HSTf.out.nbx 2
               have hnf := (Array.getElem?_eq_some_iff.1 HSTf.out.nbx).1
               clear hof hgf)
            | fail "no arm")
        all_goals
          have HSTg := Lib.hid (HSTf.out.store2 (.slice fa (k + 1) fc))
          have HOg := Lib.hid (own_far HOf.out (grown_setCell _ ⟨nb, 2, none⟩ (.slice fa (k + 1) fc)) HSTf.out.nbx (by decide))
          clear n0 n1 n2 hfz m0 m1 m2 y0 y1 y2
          go_wp2_with fail
          go_roundw
          case rel => exact ⟨k + 1, _, by omega, by go_num, HOg.out, HSTg.out⟩
          case measure => simp [intOf]; omega
      · obtain rfl : k = mn := by omega
        have hq : Quads wr lv (qList (ndKid l) k) := by unfold Quads; rw [qList_length]; exact Has.own hown
        have HQ := Lib.hid hq
        clear hown hst hq
        go_wp2_with fail
        refine (nodeMay_any false _ _ [] (qList (ndKid l) k) _ (Quads.nil _) HQ.out (by decide) (by rw [qList_length]; omega)).mono ?_
        rintro e w4 ⟨rfl, hx⟩
        have HST4 := Lib.hid (HST.out.below hx)
        have HQ4 := Lib.hid (show Quads w4 lv (qList (ndKid l) k) from Has.below HQ.out hx)
        have HO4 := Lib.hid (own_keep HO.out hx)
        clear y0 y1 y2 hx HST HQ HO
        obtain ⟨y0, y1, y2⟩ := ndBox_cells HST4.out.nbx
        obtain ⟨z0, z1, z2⟩ := ndBox_cells HST4.out.rbx
        have hfz := ndBox_free HST4.out.rbx
        have hls := HST4.out.size
        by_cases hM : ndMay false [] (qList (ndKid l) k)
        · rw [decide_eq_true hM]
          have hop : ndOpens 2 l := ndOpens_two.2 (by rw [HMN.out]; exact ⟨HSZ.out, hM⟩)
          have HO1 := Lib.hid (show noLeaf 2 l = false ∧ noCode 2 l = 0 ∧ noEs 2 l = [] ∧ noKs 2 l = qList (ndKid l) k by
            refine ⟨?_, ?_, ?_, ?_⟩
            · rw [noLeaf, if_pos hop]; rfl
            · rw [noCode, if_pos hop]
            · rw [noEs, if_pos hop, ndEsOf, HMN.out]; rfl
            · rw [noKs, if_pos hop, ndKsOf, HMN.out]; rfl)
          obtain ⟨xa, xl, xc, hf⟩ : ∃ a n c, lv = .slice a n c := by obtain ⟨a, c, h, _⟩ := HQ4.out; exact ⟨_, _, _, h⟩
          subst hf
          clear hM hop
          go_wp2_with fail
          refine bodyPost_ret (v := .tuple #[.agg #[.bool false, .slice none 0 0, .slice xa xl xc], .int .i64 0]) (by simp [results, Try.results40, go_sem, z0, z1, z2]) rfl ?_
          obtain ⟨o1, o2, o3, o4⟩ := HO1.out
          have hb3 := sets3_below HST4.out.bl (Nat.le_refl _) (.bool false) (.slice none 0 0) (.slice xa xl xc)
          refine ⟨.slice none 0 0, .slice xa xl xc, by rw [o1, o2]; rfl, ?_, ?_, hb3⟩
          · rw [o3]; exact Quads.nil _
          · rw [o4]; have ho5 := own_far HO4.out (sets3_grown _ _ (.bool false) (.slice none 0 0) (.slice xa xl xc)) HST4.out.rbx (by decide); unfold Quads; rw [qList_length]; exact Has.own ho5
        · rw [decide_eq_false hM]
          have HN := Lib.hid (show ¬ ndOpens 2 l from fun h => hM (by have := (ndOpens_two.1 h).2; rw [HMN.out] at this; exact this))
          clear hM
          go_wp2_with fail
          refine bodyPost_ret (v := .tuple #[.agg #[.bool false, .slice none 0 0, .slice none 0 0], .int .i64 4]) (by simp [results, Try.results40, go_sem, z0, z1, z2]) rfl ?_
          exact no_bad HN.out rfl (sets3_below HST4.out.bl (Nat.le_refl _) _ _ _)
  · have HN := Lib.hid (show ¬ ndOpens 2 l from fun h => hs (by have := (ndOpens_two.1 h).1; rw [HMN.out] at this; exact this))
    have hcmp : (((l.length : Int) - 1) != (mn : Int) * 16) = true := by rw [bne_iff_ne]; omega
    clear hs
    go_enter Try.func40, Try.ntmps40
    go_wp2_with fail
    refine (on_any _ l _ (HB.out.alloc _) hll).mono ?_
    rintro e w1 ⟨g, rfl, hr1, hx⟩
    have HZ1 := Lib.hid (box_below (heap_last (w := w) (o := ndBox false (.slice none 0 0) (.slice none 0 0)) rfl) hx)
    have hw1 := below_step (below_new (Below.refl _ w) (ndBox false (.slice none 0 0) (.slice none 0 0))) hx
    have hr1' : Reader (w.heap.size + 1) w1 g l 0 := by simpa using hr1
    have hg0 : w.heap.size < g := hr1'.1
    have HR1 := Lib.hid hr1'
    clear hr1 hr1' hx
    go_wp2_with fail
    refine (rdInt_any _ g l 0 1 _ HR1.out (by decide)).mono ?_
    rintro e w2 ⟨rfl, hr2, hx⟩
    rw [HRD.out.1, HRD.out.2.2]
    rw [HRD.out.2.1] at hr2
    have hst : OpSt w w2.heap.size g l 1 false (.slice none 0 0) (.slice none 0 0) (w2.alloc (ndBox false (.slice none 0 0) (.slice none 0 0))) :=
      ⟨heap_keep (box_grown HZ1.out hx (by intro e; have := Option.some.inj e; omega)) _, heap_last rfl, hr2.below ((Below.refl _ _).alloc (Nat.le_refl _) _), below_new (below_grown hw1 hx (Nat.le_of_lt hg0) hw1.size) _,
        Nat.lt_of_lt_of_le (Array.getElem?_eq_some_iff.1 HZ1.out).1 hx.size, hg0, Nat.ne_of_lt hr2.lt.2⟩
    have HST := Lib.hid hst
    have hs2 : w.heap.size < w2.heap.size := Nat.lt_of_lt_of_le (Array.getElem?_eq_some_iff.1 HZ1.out).1 hx.size
    clear hr2 hx hw1 hst HZ1 HR1
    go_wp2_with fail
    refine (left_any _ g l 1 _ HST.out.rd).mono ?_
    rintro e w3 ⟨rfl, hx⟩
    rw [HLF.out]
    have HST3 := Lib.hid (HST.out.below hx)
    clear hx HST
    obtain ⟨nb, hnb⟩ : ∃ x, x = w2.heap.size := ⟨_, rfl⟩
    rw [← hnb] at HST3 hs2 ⊢
    clear hnb
    obtain ⟨z0, z1, z2⟩ := ndBox_cells HST3.out.rbx
    have hfz := ndBox_free HST3.out.rbx
    have hls := HST3.out.size
    go_wp2_with fail
    refine bodyPost_ret (v := .tuple #[.agg #[.bool false, .slice none 0 0, .slice none 0 0], .int .i64 4]) (by simp [results, Try.results40, go_sem, z0, z1, z2]) rfl ?_
    exact no_bad HN.out rfl (sets3_below HST3.out.bl (Nat.le_refl _) _ _ _)
/-- node.Open -/
theorem nodeOpen_any (kind : Int) (v : Value) (l : List UInt8) (w : World) (hB : Bytes w v l) (hll : l.length ≤ 140737488355328) : Calls Try.prog 40 #[.int .i64 kind, v] w (NoPost kind l w) := by
  by_cases h0 : l.length < 1
  · exact nodeOpen_short kind v l w hB h0
  · by_cases h1 : kind = 1
    · subst h1; exact nodeOpen_1 v l w hB hll h0
    · by_cases h2 : kind = 2
      · subst h2; exact nodeOpen_2 v l w hB hll h0
      · exact nodeOpen_kind kind v l w hB hll h1 h2 h0
end Go.Proofs.Ytcmoajbdepohmaa
