/- The walk of super.Open. -/
import Derived.Test.YtdekfbmjhmfmaaaSupD
import Derived.Test.YtdekfbmjhmfmaaaSupE
import Derived.Test.YtdekfbmjhmfmaaaRdrF
import Derived.Test.YtdekfbmjhmfmaaaRdrC
import Derived.Deep.RegionHeld3
import Derived.Laws.IdiomStrings
namespace Go.Proofs.Ytdekfbmjhmfmaaa
open Go.RowKit Go.Oct

/-- what a reader of the first sixty bytes reads of them -/
theorem rd_fld {l : List UInt8} (h : 60 ≤ l.length) (a k : Nat) (hk : a + k ≤ 60) (k1 : 1 ≤ k) (k7 : k ≤ 7) : rdVal (l.take 60) a k = fld l a k ∧ rdAt (l.take 60) a k = a + k ∧ rdCode (l.take 60) a k = 0 := by
  have hlen : (l.take 60).length = 60 := by simp; omega
  have e1 : ((l.take 60).drop a).take k = (l.drop a).take k := by
    rw [List.drop_take, List.take_take, Nat.min_eq_left (by omega)]
  have hlk : ((l.drop a).take k).length = k := by simp; omega
  have hc : rdCode (l.take 60) a k = 0 := by
    unfold rdCode
    rw [if_neg (by omega), if_neg (by rw [hlen]; omega), Int.toNat_natCast, e1]
    exact valCode_ok (by omega) (numVal_seven _ (by omega))
  refine ⟨?_, ?_, hc⟩
  · simp only [rdVal, hc, if_true, Int.toNat_natCast, e1, fld]
  · simp only [rdAt, hc, if_true, Int.toNat_natCast]
theorem Bytes.text {P : Program} {w : World} {a : Option Addr} {n c : Nat} {X : List UInt8} (h : Bytes w (.slice a n c) X) (hn : 0 < n) (src e dst : TypeId) (hs : P.underlying src = some (.slice e)) (he : P.underlying e = some (.int .u8)) (hd : P.underlying dst = some .string) :
    (convert src dst (.slice a n c)).run P w = .ok (.string ⟨X.toArray⟩) w := by
  obtain ⟨a', c', hv, _, _, hc⟩ := h.open
  simp only [Value.slice.injEq] at hv
  obtain ⟨rfl, rfl, rfl⟩ := hv
  obtain ⟨b, o, rfl, hcs⟩ := hc hn
  refine run_convert_bytes_back w src dst e ⟨b, o, none⟩ _ X hs he hd fun j hj => ?_
  have : (⟨b, o, none⟩ : Addr).add j = ⟨b, o + j, none⟩ := by unfold Addr.add; split <;> simp_all
  rw [this]
  exact hcs j hj
/-- the array of pointers to a superblock's fields -/
def intoObj (sb : Nat) : Obj := .cells #[.pointer (some ⟨sb, 0, none⟩), .pointer (some ⟨sb, 1, none⟩), .pointer (some ⟨sb, 2, none⟩), .pointer (some ⟨sb, 3, none⟩), .pointer (some ⟨sb, 4, none⟩)] 74 (0, 0)
theorem intoObj_cells {w : World} {b sb : Nat} (h : w.heap[b]? = some (intoObj sb)) :
    w.cell? ⟨b, 0, none⟩ = some (.pointer (some ⟨sb, 0, none⟩)) ∧ w.cell? ⟨b, 1, none⟩ = some (.pointer (some ⟨sb, 1, none⟩)) ∧ w.cell? ⟨b, 2, none⟩ = some (.pointer (some ⟨sb, 2, none⟩)) ∧ w.cell? ⟨b, 3, none⟩ = some (.pointer (some ⟨sb, 3, none⟩)) ∧ w.cell? ⟨b, 4, none⟩ = some (.pointer (some ⟨sb, 4, none⟩)) := by
  unfold intoObj at h
  exact ⟨by rw [World.cell_block h]; rfl, by rw [World.cell_block h]; rfl, by rw [World.cell_block h]; rfl, by rw [World.cell_block h]; rfl, by rw [World.cell_block h]; rfl⟩
theorem zr_form {l : List UInt8} (h : 60 ≤ l.length) : ((l.drop 27).take 33 = List.replicate 33 0 → zrCode (l.take 60) 27 33 = 0) ∧ (¬ (l.drop 27).take 33 = List.replicate 33 0 → zrCode (l.take 60) 27 33 = 4) := by
  have hlen : (l.take 60).length = 60 := by simp; omega
  have hn : nextCode 33 ((l.take 60).length - 27) = 0 := by rw [hlen]; rfl
  have e1 : ((l.take 60).drop 27).take (33 : Int).toNat = (l.drop 27).take 33 := by
    show ((l.take 60).drop 27).take 33 = _
    rw [List.drop_take, List.take_take]
    rfl
  have hl : ((l.drop 27).take 33).length = 33 := by simp; omega
  have hz : allZero ((l.drop 27).take 33) = true ↔ (l.drop 27).take 33 = List.replicate 33 0 := by
    rw [List.eq_replicate_iff]
    simp only [allZero, List.all_eq_true, hl, true_and, beq_iff_eq]
  simp only [zrCode, hn, if_true, e1]
  refine ⟨fun hh => by rw [if_pos (hz.2 hh)], fun hh => by rw [if_neg (fun h => hh (hz.1 h))]⟩
/-- what stands at the head of a round -/
structure OpSt (w W : World) (base g sb fb B gw cw : Nat) (L X : List UInt8) (at_ : Nat) (x0 x1 x2 x3 x4 : Int) : Prop where
  rk : W.heap[w.heap.size]? = some (supBox 0 0 0 0 0)
  sx : W.heap[sb]? = some (supBox x0 x1 x2 x3 x4)
  ib : W.heap[sb + 1]? = some (intoObj sb)
  fb : W.heap[fb]? = some (fieldsObj 0 0 0 0 0)
  rd : Reader base W g L at_
  ow : W.ownsRow B 5 1 (.slice (some ⟨gw, 0, none⟩) 8 cw) 8 (bs X)
  bl : Below w.heap.size w W
theorem OpSt.step {w W W1 W4 : World} {base g sb fb B gw cw : Nat} {L X : List UInt8} {a a' : Nat} {x0 x1 x2 x3 x4 y0 y1 y2 y3 y4 : Int} (h : OpSt w W base g sb fb B gw cw L X a x0 x1 x2 x3 x4)
    (hd : Below W.heap.size W W1) (k : W1.grownBy W4 (some g)) (hr : Reader base W4 g L a') (h1 : w.heap.size < g) (h2 : g < gw) (h3 : gw < sb) (h4 : sb + 2 ≤ fb) (j : Nat) (v : Value)
    (hv : #[Value.int .i64 x0, .int .i64 x1, .int .i64 x2, .int .i64 x3, .int .i64 x4].setIfInBounds j v = #[Value.int .i64 y0, .int .i64 y1, .int .i64 y2, .int .i64 y3, .int .i64 y4]) :
    OpSt w (W4.setCell ⟨sb, j, none⟩ v) base g sb fb B gw cw L X a' y0 y1 y2 y3 y4 := by
  obtain ⟨rk, sx, ib, hfb, rd, ow, bl⟩ := h
  have sx4 := box_on sx hd k (by omega)
  have ow4 := (own_keep ow hd).kept k (.inr (by intro e; simp only [Value.ownBlock, Option.some.injEq] at e; omega))
  have ks := grown_setCell W4 ⟨sb, j, none⟩ v
  have oth : ∀ {i : Nat} {x : Obj}, W.heap[i]? = some x → i ≠ g → i ≠ sb → (W4.setCell ⟨sb, j, none⟩ v).heap[i]? = some x := fun hi hg hs => (Below.heap_setCell _ _ _ _ hs).trans (box_on hi hd k hg)
  refine ⟨oth rk (by omega) (by omega), ?_, oth ib (by omega) (by omega), oth hfb (by omega) (by omega), hr.far ks sx4 (by decide) (by decide), ?_, ?_⟩
  · rw [supBox, ← hv]
    unfold supBox at sx4
    simp [World.setCell, Array.getElem?_modify, sx4]
  · exact ow4.kept ks (.inr (by intro e; simp only [Value.ownBlock, Option.some.injEq] at e; omega))
  · have hw : w.heap.size ≤ W.heap.size := bl.size
    have hw1 := hd.size
    exact (below_grown (bl.trans (hd.mono hw)) k (by omega) (by omega)).setCell (by simp only; omega) _
set_option maxHeartbeats 4000000 in
theorem superOpen_any (v : Value) (l : List UInt8) (w : World) (hb : Bytes w v l) : Calls Try.prog 22 #[v] w (OpenPost l w) := by
  obtain ⟨a, cap, rfl, hcap, hmax, hcells⟩ := hb.open
  unfold maxLen at hmax
  by_cases h1 : l.length = 64
  · obtain ⟨b, o, rfl, hcs⟩ := hcells (by omega)
    have HL := Lib.hid h1
    rw [h1] at hb hcap ⊢
    have HB := Lib.hid hb
    clear hcells hcs hb h1
    have b60 : Bytes w (.slice (some ⟨b, o + 60, none⟩) 4 (cap - 60)) (l.drop 60) := HB.out.tail 60 4 _ (by decide) (by omega) (by unfold maxLen; omega)
    have t60 : Bytes w (.slice (some ⟨b, o, none⟩) 60 cap) (l.take 60) := HB.out.take 60 (by decide)
    have B60 := Lib.hid b60
    have T60 := Lib.hid t60
    have HD := Lib.hid (show numOf (l.drop 60) = numVal (l.drop 60) from numOf_short (by rw [List.length_drop, HL.out]; decide) (by rw [List.length_drop, HL.out]; decide))
    have hcapI : (64 : Int) ≤ (cap : Int) := by omega
    clear b60 t60
    by_cases h2 : numVal (l.drop 60) = OctCrc.crc (l.take 60)
    · have HW := Lib.hid h2
      have hcc : ((numVal (l.drop 60) : Int) != (OctCrc.crc (l.take 60) : Int)) = false := by rw [h2]; simp
      have hyl := OctCrc.crc_lt (l.take 60)
      have HT := Lib.hid (show (l.take 60).length = 60 by rw [List.length_take, HL.out]; rfl)
      have HTN := Lib.hid (show nextCode 8 ((l.take 60).length - 0) = 0 by rw [HT.out]; rfl)
      have HTX := Lib.hid (show nextBytes (l.take 60) 0 8 = l.take 8 by simp only [nextBytes, HTN.out, if_true, List.drop_zero]; rw [List.take_take]; rfl)
      have HTA := Lib.hid (show tkAt (l.take 60) 0 8 = 8 by simp only [tkAt, HTN.out, if_true]; rfl)
      have HT8 := Lib.hid (show (l.take 8).length = 8 by rw [List.length_take, HL.out]; rfl)
      clear h2
      go_enter Try.func22, Try.ntmps22
      go_wp2_with fail
      refine (leInt_any _ _ _ (B60.out.alloc _)).mono ?_
      rintro e w' ⟨rfl, rfl⟩
      rw [HD.out]
      go_wp2_with fail
      refine (of_one _ (l.take 60) (w.heap.size + 1) _ _ _ (heap_last (by simp)) ((T60.out.alloc _).alloc _)).mono ?_
      rintro e w' ⟨rfl, rfl⟩
      go_wp2_with fail
      refine (on_any _ (l.take 60) _ ((T60.out.alloc _).alloc _) (by rw [HT.out]; decide)).mono ?_
      rintro e w1 ⟨g, rfl, hr1, hx1⟩
      have hrk1 : w1.heap[w.heap.size]? = some (supBox 0 0 0 0 0) := box_below (heap_keep (heap_last rfl) _) hx1
      have hw1 : Below w.heap.size w w1 := (below_new (below_new (Below.refl _ _) _) _).trans (hx1.mono (by simp; omega))
      have hg0 : w.heap.size + 1 ≤ g := by have := hr1.1; simp at this; omega
      have hg1 : g < w1.heap.size := hr1.lt.2
      clear hx1
      go_wp2_with fail
      refine (take_any _ g (l.take 60) 0 8 _ hr1 (by decide)).mono ?_
      rintro e w2 ⟨v7, rfl, hown7, hr2, hx2⟩
      rw [HTX.out, HT8.out] at hown7
      rw [HTA.out] at hr2
      rw [HTN.out]
      have hrk2 := box_grown hrk1 hx2 (by intro e; have := Option.some.inj e; omega)
      have hw2 := below_grown hw1 hx2 (by omega) (by have := hw1.size; omega)
      have hs2 := hx2.size
      obtain ⟨gw, cw, hf⟩ := Joins.ownsRow_form hown7 (by decide)
      subst hf
      have hgw : w1.heap.size ≤ gw ∧ gw < w2.heap.size := hown7.lt gw rfl
      have HO7 := Lib.hid hown7
      have HR2 := Lib.hid hr2
      clear hown7 hr1 hr2 hrk1 hw1 hx2
      go_wp2_with fail
      refine (fields_any 0 0 0 0 0 _).mono ?_
      rintro e w3 ⟨fb, rfl, hfb, hff, hx3⟩
      have hsb3 : w3.heap[w2.heap.size]? = some (supBox 0 0 0 0 0) := box_below (heap_keep (heap_last rfl) _) hx3
      have hib3 : w3.heap[w2.heap.size + 1]? = some (intoObj w2.heap.size) := box_below (heap_last (size_alloc _ _).symm) hx3
      have hfb3 : w3.heap[fb]? = some (fieldsObj 0 0 0 0 0) := hff
      have hrk3 := box_below (heap_keep (heap_keep hrk2 _) _) hx3
      have hup : Below w2.heap.size w2 w3 := (below_new (below_new (Below.refl _ _) _) _).trans (hx3.mono (by simp; omega))
      have hw3 : Below w.heap.size w w3 := hw2.trans (hup.mono hw2.size)
      have HR3 := Lib.hid (HR2.out.below hup)
      have HO73 := Lib.hid (own_keep HO7.out hup)
      have hfb0 : w2.heap.size + 2 ≤ fb := by simp at hfb; omega
      have hfl : fb < w3.heap.size := (Array.getElem?_eq_some_iff.1 hfb3).1
      obtain ⟨sb, hsb⟩ : ∃ sb, sb = w2.heap.size := ⟨_, rfl⟩
      rw [← hsb] at hgw hsb3 hib3 hfb0 ⊢
      have HSB := Lib.hid hsb
      clear hx3 hff hup hw2 HR2 HO7 hrk2 hfb hsb
      obtain ⟨hgw0, hgw1⟩ := hgw
      have hst : OpSt w w3 _ g sb fb w1.heap.size gw cw (l.take 60) (l.take 8) 8 0 0 0 0 0 := ⟨hrk3, hsb3, hib3, hfb3, HR3.out, HO73.out, hw3⟩
      have HST3 := Lib.hid hst
      have hgg : g < gw := by omega
      obtain ⟨q0, q1, q2, q3, q4, q5, q6, q7, q8, q9⟩ := fieldsObj_cells hfb3
      clear hst hrk3 hsb3 hib3 hfb3 HR3 HO73 hw3
      go_wp2_with fail
      refine wp_loop_rounds 6 ?_
      rw [rounds_succ]
      go_wp2_with fail
      obtain ⟨p0, p1, p2, p3, p4⟩ := intoObj_cells HST3.out.ib
      have hibl := (Array.getElem?_eq_some_iff.1 HST3.out.ib).1
      have RF := Lib.hid (show rdVal (l.take 60) 8 6 = fld l 8 6 ∧ rdAt (l.take 60) 8 6 = 14 ∧ rdCode (l.take 60) 8 6 = 0 from rd_fld (l := l) (by rw [HL.out]; decide) 8 6 (by decide) (by decide) (by decide))
      go_region_held3 (fun w' => w'.cell? ⟨sb + 1, 0, none⟩ = some (.pointer (some ⟨sb, 0, none⟩)) ∧ w'.cell? ⟨w3.heap.size, 1, none⟩ = some (.int .i64 6))
        (first | exact ⟨k1, k2⟩ | exact ⟨k3 _, k4 _⟩ | go_keep)
        (first | (go_at_call 44
                  refine (rdInt_any _ g (l.take 60) 8 6 _ (HST3.out.rd.below (((Below.refl _ _).alloc (Nat.le_refl _) _).drew)) (by decide)).mono ?_
                  rintro e w4 ⟨rfl, hr, hx⟩
                  rw [RF.out.1, RF.out.2.2]
                  rw [RF.out.2.1] at hr
                  have hib := box_on HST3.out.ib (((Below.refl _ _).alloc (Nat.le_refl _) _).drew) hx (by omega)
                  have hsb := box_on HST3.out.sx (((Below.refl _ _).alloc (Nat.le_refl _) _).drew) hx (by omega)
                  have k1 : w4.cell? ⟨sb + 1, 0, none⟩ = some (.pointer (some ⟨sb, 0, none⟩)) := by rw [World.cell_block hib]; rfl
                  have k2 : w4.cell? ⟨w3.heap.size, 1, none⟩ = some (.int .i64 6) := by rw [World.cell_block (box_grown (w := (w3.alloc (.cells #[.int .i64 0, .int .i64 6] 64)).drew) (heap_alloc_new w3 _) hx (by intro e; have := Option.some.inj e; omega))]; rfl
                  have k3 : ∀ x, (w4.setCell ⟨sb, 0, none⟩ x).cell? ⟨sb + 1, 0, none⟩ = some (.pointer (some ⟨sb, 0, none⟩)) := fun x => (World.cell?_setCell_other _ _ _ _ (by intro e; have e2 := congrArg Addr.block e; simp only at e2; omega)).trans k1
                  have k4 : ∀ x, (w4.setCell ⟨sb, 0, none⟩ x).cell? ⟨w3.heap.size, 1, none⟩ = some (.int .i64 6) := fun x => (World.cell?_setCell_other _ _ _ _ (by intro e; have e2 := congrArg Addr.block e; simp only at e2; omega)).trans k2
                  obtain ⟨z0, z1, z2, z3, z4⟩ := supBox_cells hsb
                  have hfz := supBox_free hsb
                  have hls := (Array.getElem?_eq_some_iff.1 hsb).1
                  have HX := Lib.hid hx
                  have HR := Lib.hid hr
                  clear hx hr hib hsb))
      have hst : OpSt w (w4.setCell ⟨sb, 0, none⟩ (.int .i64 (fld l 8 6 : Nat))) _ g sb fb w1.heap.size gw cw (l.take 60) (l.take 8) 14 (fld l 8 6 : Nat) 0 0 0 0 :=
        HST3.out.step (((Below.refl _ _).alloc (Nat.le_refl _) _).drew) HX.out HR.out (by omega) (by omega) (by omega) (by omega) 0 _ rfl
      clear k1 k2 k3 k4 z0 z1 z2 z3 z4 hfz hls HX HR q0 q1 q2 q3 q4 q5 q6 q7 q8 q9 p0 p1 p2 p3 p4 hibl hfl RF
      generalize w4.setCell ⟨sb, 0, none⟩ (.int .i64 (fld l 8 6 : Nat)) = w5 at hst ⊢
      have hfl := (Array.getElem?_eq_some_iff.1 hst.fb).1
      obtain ⟨q0, q1, q2, q3, q4, q5, q6, q7, q8, q9⟩ := fieldsObj_cells hst.fb
      have HST5 := Lib.hid hst
      clear hst HST3
      go_wp2_with fail
      rw [rounds_succ]
      go_wp2_with fail
      obtain ⟨p0, p1, p2, p3, p4⟩ := intoObj_cells HST5.out.ib
      have hibl := (Array.getElem?_eq_some_iff.1 HST5.out.ib).1
      have RF := Lib.hid (show rdVal (l.take 60) 14 4 = fld l 14 4 ∧ rdAt (l.take 60) 14 4 = 18 ∧ rdCode (l.take 60) 14 4 = 0 from rd_fld (l := l) (by rw [HL.out]; decide) 14 4 (by decide) (by decide) (by decide))
      go_region_held3 (fun w' => w'.cell? ⟨sb + 1, 1, none⟩ = some (.pointer (some ⟨sb, 1, none⟩)) ∧ w'.cell? ⟨w5.heap.size, 1, none⟩ = some (.int .i64 4))
        (first | exact ⟨k1, k2⟩ | exact ⟨k3 _, k4 _⟩ | go_keep)
        (first | (go_at_call 44
                  refine (rdInt_any _ g (l.take 60) 14 4 _ (HST5.out.rd.below (((Below.refl _ _).alloc (Nat.le_refl _) _).drew)) (by decide)).mono ?_
                  rintro e w6 ⟨rfl, hr, hx⟩
                  rw [RF.out.1, RF.out.2.2]
                  rw [RF.out.2.1] at hr
                  have hib := box_on HST5.out.ib (((Below.refl _ _).alloc (Nat.le_refl _) _).drew) hx (by omega)
                  have hsb := box_on HST5.out.sx (((Below.refl _ _).alloc (Nat.le_refl _) _).drew) hx (by omega)
                  have k1 : w6.cell? ⟨sb + 1, 1, none⟩ = some (.pointer (some ⟨sb, 1, none⟩)) := by rw [World.cell_block hib]; rfl
                  have k2 : w6.cell? ⟨w5.heap.size, 1, none⟩ = some (.int .i64 4) := by rw [World.cell_block (box_grown (w := (w5.alloc (.cells #[.int .i64 0, .int .i64 4] 64)).drew) (heap_alloc_new w5 _) hx (by intro e; have := Option.some.inj e; omega))]; rfl
                  have k3 : ∀ x, (w6.setCell ⟨sb, 1, none⟩ x).cell? ⟨sb + 1, 1, none⟩ = some (.pointer (some ⟨sb, 1, none⟩)) := fun x => (World.cell?_setCell_other _ _ _ _ (by intro e; have e2 := congrArg Addr.block e; simp only at e2; omega)).trans k1
                  have k4 : ∀ x, (w6.setCell ⟨sb, 1, none⟩ x).cell? ⟨w5.heap.size, 1, none⟩ = some (.int .i64 4) := fun x => (World.cell?_setCell_other _ _ _ _ (by intro e; have e2 := congrArg Addr.block e; simp only at e2; omega)).trans k2
                  obtain ⟨z0, z1, z2, z3, z4⟩ := supBox_cells hsb
                  have hfz := supBox_free hsb
                  have hls := (Array.getElem?_eq_some_iff.1 hsb).1
                  have HX := Lib.hid hx
                  have HR := Lib.hid hr
                  clear hx hr hib hsb))
      have hst : OpSt w (w6.setCell ⟨sb, 1, none⟩ (.int .i64 (fld l 14 4 : Nat))) _ g sb fb w1.heap.size gw cw (l.take 60) (l.take 8) 18 (fld l 8 6 : Nat) (fld l 14 4 : Nat) 0 0 0 :=
        HST5.out.step (((Below.refl _ _).alloc (Nat.le_refl _) _).drew) HX.out HR.out (by omega) (by omega) (by omega) (by omega) 1 _ rfl
      clear k1 k2 k3 k4 z0 z1 z2 z3 z4 hfz hls HX HR q0 q1 q2 q3 q4 q5 q6 q7 q8 q9 p0 p1 p2 p3 p4 hibl hfl RF
      generalize w6.setCell ⟨sb, 1, none⟩ (.int .i64 (fld l 14 4 : Nat)) = w7 at hst ⊢
      have hfl := (Array.getElem?_eq_some_iff.1 hst.fb).1
      obtain ⟨q0, q1, q2, q3, q4, q5, q6, q7, q8, q9⟩ := fieldsObj_cells hst.fb
      have HST7 := Lib.hid hst
      clear hst HST5
      go_wp2_with fail
      rw [rounds_succ]
      go_wp2_with fail
      obtain ⟨p0, p1, p2, p3, p4⟩ := intoObj_cells HST7.out.ib
      have hibl := (Array.getElem?_eq_some_iff.1 HST7.out.ib).1
      have RF := Lib.hid (show rdVal (l.take 60) 18 1 = fld l 18 1 ∧ rdAt (l.take 60) 18 1 = 19 ∧ rdCode (l.take 60) 18 1 = 0 from rd_fld (l := l) (by rw [HL.out]; decide) 18 1 (by decide) (by decide) (by decide))
      go_region_held3 (fun w' => w'.cell? ⟨sb + 1, 2, none⟩ = some (.pointer (some ⟨sb, 2, none⟩)) ∧ w'.cell? ⟨w7.heap.size, 1, none⟩ = some (.int .i64 1))
        (first | exact ⟨k1, k2⟩ | exact ⟨k3 _, k4 _⟩ | go_keep)
        (first | (go_at_call 44
                  refine (rdInt_any _ g (l.take 60) 18 1 _ (HST7.out.rd.below (((Below.refl _ _).alloc (Nat.le_refl _) _).drew)) (by decide)).mono ?_
                  rintro e w8 ⟨rfl, hr, hx⟩
                  rw [RF.out.1, RF.out.2.2]
                  rw [RF.out.2.1] at hr
                  have hib := box_on HST7.out.ib (((Below.refl _ _).alloc (Nat.le_refl _) _).drew) hx (by omega)
                  have hsb := box_on HST7.out.sx (((Below.refl _ _).alloc (Nat.le_refl _) _).drew) hx (by omega)
                  have k1 : w8.cell? ⟨sb + 1, 2, none⟩ = some (.pointer (some ⟨sb, 2, none⟩)) := by rw [World.cell_block hib]; rfl
                  have k2 : w8.cell? ⟨w7.heap.size, 1, none⟩ = some (.int .i64 1) := by rw [World.cell_block (box_grown (w := (w7.alloc (.cells #[.int .i64 0, .int .i64 1] 64)).drew) (heap_alloc_new w7 _) hx (by intro e; have := Option.some.inj e; omega))]; rfl
                  have k3 : ∀ x, (w8.setCell ⟨sb, 2, none⟩ x).cell? ⟨sb + 1, 2, none⟩ = some (.pointer (some ⟨sb, 2, none⟩)) := fun x => (World.cell?_setCell_other _ _ _ _ (by intro e; have e2 := congrArg Addr.block e; simp only at e2; omega)).trans k1
                  have k4 : ∀ x, (w8.setCell ⟨sb, 2, none⟩ x).cell? ⟨w7.heap.size, 1, none⟩ = some (.int .i64 1) := fun x => (World.cell?_setCell_other _ _ _ _ (by intro e; have e2 := congrArg Addr.block e; simp only at e2; omega)).trans k2
                  obtain ⟨z0, z1, z2, z3, z4⟩ := supBox_cells hsb
                  have hfz := supBox_free hsb
                  have hls := (Array.getElem?_eq_some_iff.1 hsb).1
                  have HX := Lib.hid hx
                  have HR := Lib.hid hr
                  clear hx hr hib hsb))
      have hst : OpSt w (w8.setCell ⟨sb, 2, none⟩ (.int .i64 (fld l 18 1 : Nat))) _ g sb fb w1.heap.size gw cw (l.take 60) (l.take 8) 19 (fld l 8 6 : Nat) (fld l 14 4 : Nat) (fld l 18 1 : Nat) 0 0 :=
        HST7.out.step (((Below.refl _ _).alloc (Nat.le_refl _) _).drew) HX.out HR.out (by omega) (by omega) (by omega) (by omega) 2 _ rfl
      clear k1 k2 k3 k4 z0 z1 z2 z3 z4 hfz hls HX HR q0 q1 q2 q3 q4 q5 q6 q7 q8 q9 p0 p1 p2 p3 p4 hibl hfl RF
      generalize w8.setCell ⟨sb, 2, none⟩ (.int .i64 (fld l 18 1 : Nat)) = w9 at hst ⊢
      have hfl := (Array.getElem?_eq_some_iff.1 hst.fb).1
      obtain ⟨q0, q1, q2, q3, q4, q5, q6, q7, q8, q9⟩ := fieldsObj_cells hst.fb
      have HST9 := Lib.hid hst
      clear hst HST7
      go_wp2_with fail
      rw [rounds_succ]
      go_wp2_with fail
      obtain ⟨p0, p1, p2, p3, p4⟩ := intoObj_cells HST9.out.ib
      have hibl := (Array.getElem?_eq_some_iff.1 HST9.out.ib).1
      have RF := Lib.hid (show rdVal (l.take 60) 19 4 = fld l 19 4 ∧ rdAt (l.take 60) 19 4 = 23 ∧ rdCode (l.take 60) 19 4 = 0 from rd_fld (l := l) (by rw [HL.out]; decide) 19 4 (by decide) (by decide) (by decide))
      go_region_held3 (fun w' => w'.cell? ⟨sb + 1, 3, none⟩ = some (.pointer (some ⟨sb, 3, none⟩)) ∧ w'.cell? ⟨w9.heap.size, 1, none⟩ = some (.int .i64 4))
        (first | exact ⟨k1, k2⟩ | exact ⟨k3 _, k4 _⟩ | go_keep)
        (first | (go_at_call 44
                  refine (rdInt_any _ g (l.take 60) 19 4 _ (HST9.out.rd.below (((Below.refl _ _).alloc (Nat.le_refl _) _).drew)) (by decide)).mono ?_
                  rintro e w10 ⟨rfl, hr, hx⟩
                  rw [RF.out.1, RF.out.2.2]
                  rw [RF.out.2.1] at hr
                  have hib := box_on HST9.out.ib (((Below.refl _ _).alloc (Nat.le_refl _) _).drew) hx (by omega)
                  have hsb := box_on HST9.out.sx (((Below.refl _ _).alloc (Nat.le_refl _) _).drew) hx (by omega)
                  have k1 : w10.cell? ⟨sb + 1, 3, none⟩ = some (.pointer (some ⟨sb, 3, none⟩)) := by rw [World.cell_block hib]; rfl
                  have k2 : w10.cell? ⟨w9.heap.size, 1, none⟩ = some (.int .i64 4) := by rw [World.cell_block (box_grown (w := (w9.alloc (.cells #[.int .i64 0, .int .i64 4] 64)).drew) (heap_alloc_new w9 _) hx (by intro e; have := Option.some.inj e; omega))]; rfl
                  have k3 : ∀ x, (w10.setCell ⟨sb, 3, none⟩ x).cell? ⟨sb + 1, 3, none⟩ = some (.pointer (some ⟨sb, 3, none⟩)) := fun x => (World.cell?_setCell_other _ _ _ _ (by intro e; have e2 := congrArg Addr.block e; simp only at e2; omega)).trans k1
                  have k4 : ∀ x, (w10.setCell ⟨sb, 3, none⟩ x).cell? ⟨w9.heap.size, 1, none⟩ = some (.int .i64 4) := fun x => (World.cell?_setCell_other _ _ _ _ (by intro e; have e2 := congrArg Addr.block e; simp only at e2; omega)).trans k2
                  obtain ⟨z0, z1, z2, z3, z4⟩ := supBox_cells hsb
                  have hfz := supBox_free hsb
                  have hls := (Array.getElem?_eq_some_iff.1 hsb).1
                  have HX := Lib.hid hx
                  have HR := Lib.hid hr
                  clear hx hr hib hsb))
      have hst : OpSt w (w10.setCell ⟨sb, 3, none⟩ (.int .i64 (fld l 19 4 : Nat))) _ g sb fb w1.heap.size gw cw (l.take 60) (l.take 8) 23 (fld l 8 6 : Nat) (fld l 14 4 : Nat) (fld l 18 1 : Nat) (fld l 19 4 : Nat) 0 :=
        HST9.out.step (((Below.refl _ _).alloc (Nat.le_refl _) _).drew) HX.out HR.out (by omega) (by omega) (by omega) (by omega) 3 _ rfl
      clear k1 k2 k3 k4 z0 z1 z2 z3 z4 hfz hls HX HR q0 q1 q2 q3 q4 q5 q6 q7 q8 q9 p0 p1 p2 p3 p4 hibl hfl RF
      generalize w10.setCell ⟨sb, 3, none⟩ (.int .i64 (fld l 19 4 : Nat)) = w11 at hst ⊢
      have hfl := (Array.getElem?_eq_some_iff.1 hst.fb).1
      obtain ⟨q0, q1, q2, q3, q4, q5, q6, q7, q8, q9⟩ := fieldsObj_cells hst.fb
      have HST11 := Lib.hid hst
      clear hst HST9
      go_wp2_with fail
      rw [rounds_succ]
      go_wp2_with fail
      obtain ⟨p0, p1, p2, p3, p4⟩ := intoObj_cells HST11.out.ib
      have hibl := (Array.getElem?_eq_some_iff.1 HST11.out.ib).1
      have RF := Lib.hid (show rdVal (l.take 60) 23 4 = fld l 23 4 ∧ rdAt (l.take 60) 23 4 = 27 ∧ rdCode (l.take 60) 23 4 = 0 from rd_fld (l := l) (by rw [HL.out]; decide) 23 4 (by decide) (by decide) (by decide))
      go_region_held3 (fun w' => w'.cell? ⟨sb + 1, 4, none⟩ = some (.pointer (some ⟨sb, 4, none⟩)) ∧ w'.cell? ⟨w11.heap.size, 1, none⟩ = some (.int .i64 4))
        (first | exact ⟨k1, k2⟩ | exact ⟨k3 _, k4 _⟩ | go_keep)
        (first | (go_at_call 44
                  refine (rdInt_any _ g (l.take 60) 23 4 _ (HST11.out.rd.below (((Below.refl _ _).alloc (Nat.le_refl _) _).drew)) (by decide)).mono ?_
                  rintro e w12 ⟨rfl, hr, hx⟩
                  rw [RF.out.1, RF.out.2.2]
                  rw [RF.out.2.1] at hr
                  have hib := box_on HST11.out.ib (((Below.refl _ _).alloc (Nat.le_refl _) _).drew) hx (by omega)
                  have hsb := box_on HST11.out.sx (((Below.refl _ _).alloc (Nat.le_refl _) _).drew) hx (by omega)
                  have k1 : w12.cell? ⟨sb + 1, 4, none⟩ = some (.pointer (some ⟨sb, 4, none⟩)) := by rw [World.cell_block hib]; rfl
                  have k2 : w12.cell? ⟨w11.heap.size, 1, none⟩ = some (.int .i64 4) := by rw [World.cell_block (box_grown (w := (w11.alloc (.cells #[.int .i64 0, .int .i64 4] 64)).drew) (heap_alloc_new w11 _) hx (by intro e; have := Option.some.inj e; omega))]; rfl
                  have k3 : ∀ x, (w12.setCell ⟨sb, 4, none⟩ x).cell? ⟨sb + 1, 4, none⟩ = some (.pointer (some ⟨sb, 4, none⟩)) := fun x => (World.cell?_setCell_other _ _ _ _ (by intro e; have e2 := congrArg Addr.block e; simp only at e2; omega)).trans k1
                  have k4 : ∀ x, (w12.setCell ⟨sb, 4, none⟩ x).cell? ⟨w11.heap.size, 1, none⟩ = some (.int .i64 4) := fun x => (World.cell?_setCell_other _ _ _ _ (by intro e; have e2 := congrArg Addr.block e; simp only at e2; omega)).trans k2
                  obtain ⟨z0, z1, z2, z3, z4⟩ := supBox_cells hsb
                  have hfz := supBox_free hsb
                  have hls := (Array.getElem?_eq_some_iff.1 hsb).1
                  have HX := Lib.hid hx
                  have HR := Lib.hid hr
                  clear hx hr hib hsb))
      have hst : OpSt w (w12.setCell ⟨sb, 4, none⟩ (.int .i64 (fld l 23 4 : Nat))) _ g sb fb w1.heap.size gw cw (l.take 60) (l.take 8) 27 (fld l 8 6 : Nat) (fld l 14 4 : Nat) (fld l 18 1 : Nat) (fld l 19 4 : Nat) (fld l 23 4 : Nat) :=
        HST11.out.step (((Below.refl _ _).alloc (Nat.le_refl _) _).drew) HX.out HR.out (by omega) (by omega) (by omega) (by omega) 4 _ rfl
      clear k1 k2 k3 k4 z0 z1 z2 z3 z4 hfz hls HX HR q0 q1 q2 q3 q4 q5 q6 q7 q8 q9 p0 p1 p2 p3 p4 hibl hfl RF
      generalize w12.setCell ⟨sb, 4, none⟩ (.int .i64 (fld l 23 4 : Nat)) = w13 at hst ⊢
      have hfl := (Array.getElem?_eq_some_iff.1 hst.fb).1
      obtain ⟨q0, q1, q2, q3, q4, q5, q6, q7, q8, q9⟩ := fieldsObj_cells hst.fb
      have HST13 := Lib.hid hst
      clear hst HST11
      go_wp2_with fail
      rw [rounds_succ]
      have hby : Bytes w13 (.slice (some ⟨gw, 0, none⟩) 8 cw) (l.take 8) := by
        unfold Bytes
        rw [HT8.out]
        exact Has.own HST13.out.ow
      have hcv := Bytes.text (P := Try.prog) hby (by decide) 24 5 9 Try.underlying24 Try.underlying5 Try.underlying9
      clear hby q0 q1 q2 q3 q4 q5 q6 q7 q8 q9 hcc
      have HZ := Lib.hid (zr_form (l := l) (by rw [HL.out]; decide))
      have HOK := Lib.hid (show supOpen l = if supForm l then 0 else 4 by unfold supOpen; rw [if_neg (by rw [HL.out]; decide), if_neg (by rw [HW.out]; simp)])
      by_cases hL : l.take 8 = supLetters
      · have HLT := Lib.hid hL
        rw [hL] at hcv
        clear hL
        have hcv2 : (convert 24 9 (.slice (some ⟨gw, 0, none⟩) 8 cw)).run Try.prog w13 = .ok (.string ⟨#[111, 99, 116, 97, 118, 111, 48, 49]⟩) w13 := hcv
        clear hcv
        go_wp2_with fail
        refine (left_any _ g (l.take 60) 27 _ HST13.out.rd).mono ?_
        rintro e w14 ⟨rfl, hx14⟩
        rw [HT.out]
        have hr14 := HST13.out.rd.below hx14
        clear hcv2
        go_wp2_with fail
        refine (zeros_any _ g (l.take 60) 27 33 _ hr14 (by decide)).mono ?_
        rintro e w15 ⟨rfl, hr15, hx15⟩
        have HRK := Lib.hid (box_on HST13.out.rk hx14 hx15 (by omega))
        have HSX := Lib.hid (box_on HST13.out.sx hx14 hx15 (by omega))
        have HBW := Lib.hid (below_grown (HST13.out.bl.trans (hx14.mono HST13.out.bl.size)) hx15 (by omega) (by have := HST13.out.bl.size; have := hx14.size; omega))
        clear hr14 hr15 hx14 hx15
        by_cases hz : (l.drop 27).take 33 = List.replicate 33 0
        · rw [HZ.out.1 hz]
          have HZZ := Lib.hid hz
          obtain ⟨z0, z1, z2, z3, z4⟩ := supBox_cells HSX.out
          clear hz
          go_wp2_with fail
          refine (superMay_any _ _ _ _ _ _).mono ?_
          rintro e w16 ⟨rfl, hx16⟩
          have HRK2 := Lib.hid (box_below HRK.out hx16)
          have HSX2 := Lib.hid (box_below HSX.out hx16)
          have HBW2 := Lib.hid (HBW.out.trans (hx16.mono HBW.out.size))
          obtain ⟨y0, y1, y2, y3, y4⟩ := supBox_cells HRK2.out
          have hfz := supBox_free HRK2.out
          have hls := (Array.getElem?_eq_some_iff.1 HRK2.out).1
          clear z0 z1 z2 z3 z4 hx16 HBW HRK HSX
          by_cases hm : supMay (fld l 8 6) (fld l 14 4) (fld l 18 1) (fld l 19 4) (fld l 23 4)
          · have HOP := Lib.hid (show supOpen l = 0 by rw [HOK.out, if_pos ⟨HLT.out, HZZ.out, hm⟩])
            rw [show decide (supMay (fld l 8 6) (fld l 14 4) (fld l 18 1) (fld l 19 4) (fld l 23 4)) = true from decide_eq_true hm]
            obtain ⟨z0, z1, z2, z3, z4⟩ := supBox_cells HSX2.out
            clear hm
            go_wp2_with fail
            refine bodyPost_ret (v := .tuple #[.agg #[.int .i64 (fld l 8 6 : Nat), .int .i64 (fld l 14 4 : Nat), .int .i64 (fld l 18 1 : Nat), .int .i64 (fld l 19 4 : Nat), .int .i64 (fld l 23 4 : Nat)], .int .i64 0]) (by simp [results, Try.results22, go_sem, y0, y1, y2, y3, y4]) rfl ?_
            refine ⟨?_, sets_below HBW2.out (Nat.le_refl _) _ _ _ _ _⟩
            rw [HOP.out]
            simp only [supOf, HOP.out, if_true]
            rfl
          · have HOP := Lib.hid (show supOpen l = 4 by rw [HOK.out, if_neg (fun h => hm h.2.2)])
            rw [show decide (supMay (fld l 8 6) (fld l 14 4) (fld l 18 1) (fld l 19 4) (fld l 23 4)) = false from decide_eq_false hm]
            have HBW := HBW2
            clear hm HBW2
            go_wp2_with fail
            refine bodyPost_ret (v := .tuple #[.agg #[.int .i64 0, .int .i64 0, .int .i64 0, .int .i64 0, .int .i64 0], .int .i64 4]) (by simp [results, Try.results22, go_sem, y0, y1, y2, y3, y4]) rfl ?_
            exact open_bad HOP.out (by decide) _ _ _ rfl (sets_below HBW.out (Nat.le_refl _) _ _ _ _ _)
        · have HOP := Lib.hid (show supOpen l = 4 by rw [HOK.out, if_neg (fun h => hz h.2.1)])
          rw [HZ.out.2 hz]
          obtain ⟨y0, y1, y2, y3, y4⟩ := supBox_cells HRK.out
          have hfz := supBox_free HRK.out
          have hls := (Array.getElem?_eq_some_iff.1 HRK.out).1
          clear hz
          go_wp2_with fail
          refine bodyPost_ret (v := .tuple #[.agg #[.int .i64 0, .int .i64 0, .int .i64 0, .int .i64 0, .int .i64 0], .int .i64 4]) (by simp [results, Try.results22, go_sem, y0, y1, y2, y3, y4]) rfl ?_
          exact open_bad HOP.out (by decide) _ _ _ rfl (sets_below HBW.out (Nat.le_refl _) _ _ _ _ _)
      · have HOP := Lib.hid (show supOpen l = 4 by rw [HOK.out, if_neg (fun h => hL h.1)])
        have HRK := Lib.hid HST13.out.rk
        have HBW := Lib.hid HST13.out.bl
        obtain ⟨y0, y1, y2, y3, y4⟩ := supBox_cells HRK.out
        have hfz := supBox_free HRK.out
        have hls := (Array.getElem?_eq_some_iff.1 HRK.out).1
        have hL2 : ¬ List.take 8 l = [111, 99, 116, 97, 118, 111, 48, 49] := hL
        clear hL
        go_wp2_with fail
        refine bodyPost_ret (v := .tuple #[.agg #[.int .i64 0, .int .i64 0, .int .i64 0, .int .i64 0, .int .i64 0], .int .i64 4]) (by simp [results, Try.results22, go_sem, y0, y1, y2, y3, y4]) rfl ?_
        exact open_bad HOP.out (by decide) _ _ _ rfl (sets_below HBW.out (Nat.le_refl _) _ _ _ _ _)
    · have HO := Lib.hid (show supOpen l = 5 by unfold supOpen; rw [if_neg (by rw [HL.out]; decide), if_pos h2])
      have hne : ((numVal (l.drop 60) : Int) != (OctCrc.crc (l.take 60) : Int)) = true := by rw [bne_iff_ne]; omega
      have hyl := OctCrc.crc_lt (l.take 60)
      clear h2
      go_enter Try.func22, Try.ntmps22
      go_wp2_with fail
      refine (leInt_any _ _ _ (B60.out.alloc _)).mono ?_
      rintro e w' ⟨rfl, rfl⟩
      rw [HD.out]
      go_wp2_with fail
      refine (of_one _ (l.take 60) (w.heap.size + 1) _ _ _ (heap_last (by simp)) ((T60.out.alloc _).alloc _)).mono ?_
      rintro e w' ⟨rfl, rfl⟩
      go_wp2_with fail
      refine bodyPost_ret (v := .tuple #[.agg #[.int .i64 0, .int .i64 0, .int .i64 0, .int .i64 0, .int .i64 0], .int .i64 5]) (by simp [results, Try.results22, go_sem]) rfl ?_
      exact open_bad HO.out (by decide) _ _ _ rfl (below_new (below_new (Below.refl _ _) _) _)
  · have HC := Lib.hid (show supOpen l = 3 by unfold supOpen; rw [if_pos h1])
    have hne : ((l.length : Int) != 64) = true := by rw [bne_iff_ne]; omega
    clear h1
    go_enter Try.func22, Try.ntmps22
    go_wp2_with fail
    refine bodyPost_ret (v := .tuple #[.agg #[.int .i64 0, .int .i64 0, .int .i64 0, .int .i64 0, .int .i64 0], .int .i64 3]) (by simp [results, Try.results22, go_sem]) rfl ?_
    exact open_bad HC.out (by decide) _ _ _ rfl ((Below.refl _ _).alloc (Nat.le_refl _) _)
end Go.Proofs.Ytdekfbmjhmfmaaa
