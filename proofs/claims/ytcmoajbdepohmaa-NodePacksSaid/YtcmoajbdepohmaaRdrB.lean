/- The walk of the reader's Int. -/
import Derived.Test.YtcmoajbdepohmaaRdrA
import Derived.Test.YtcmoajbdepohmaaAppend
namespace Go.Proofs.Ytcmoajbdepohmaa
open Go.RowKit Go.Oct

theorem grown_of_below {w w' : World} (h : Below w.heap.size w w') (row : Option Nat) : w.grownBy w' row := ⟨h.os, h.tape, h.output, h.size, fun k hk _ => h.block k hk⟩
theorem Reader.below {base : Nat} {w w' : World} {g : Nat} {l : List UInt8} {at_ : Nat} (h : Reader base w g l at_) (k : Below w.heap.size w w') : Reader base w' g l at_ := by
  obtain ⟨h1, h2, h3, gb, cp, h4, h5⟩ := h
  exact ⟨h1, h2, h3, gb, cp, (k.block g (Array.getElem?_eq_some_iff.1 h4).1).trans h4, own_keep h5 k⟩
/-- a reader that has moved on -/
theorem Reader.move {base : Nat} {w : World} {g : Nat} {l : List UInt8} {at_ : Nat} (h : Reader base w g l at_) (to : Nat) (ht : to ≤ l.length) :
    Reader base (w.setCell ⟨g, 1, none⟩ (.int .i64 (to : Int))) g l to ∧ w.grownBy (w.setCell ⟨g, 1, none⟩ (.int .i64 (to : Int))) (some g) := by
  obtain ⟨h1, h2, h3, gb, cp, h4, h5⟩ := h
  have hne : gb ≠ g := by
    rintro rfl
    rcases h5.2 with ⟨h', _⟩ | ⟨g', cap', cur, h', hb, hg, _⟩
    · simp at h'
    · simp only [Value.slice.injEq, Option.some.injEq, Addr.mk.injEq, and_true, true_and] at h'
      obtain ⟨rfl, rfl⟩ := h'
      rw [h4] at hg
      simp at hg
  have hgr : w.grownBy (w.setCell ⟨g, 1, none⟩ (.int .i64 (to : Int))) (some g) :=
    ⟨rfl, rfl, rfl, by simp, fun k _ hk => Below.heap_setCell w ⟨g, 1, none⟩ _ k (fun e => hk (by rw [e]))⟩
  refine ⟨⟨h1, ht, h3, gb, cp, ?_, h5.kept hgr (.inr (by simp [Value.ownBlock]; exact hne))⟩, hgr⟩
  have := heap_setCell_same w g 1 _ _ (.int .i64 (to : Int)) h4
  simpa using this
theorem Reader.cells {base : Nat} {w : World} {g : Nat} {l : List UInt8} {at_ : Nat} (h : Reader base w g l at_) : w.cell? ⟨g, 1, none⟩ = some (.int .i64 (at_ : Int)) ∧ w.frozen? ⟨g, 1, none⟩ = false := by
  obtain ⟨_, _, _, gb, cp, h4, _⟩ := h
  exact ⟨by rw [World.cell_block h4]; rfl, by simp [World.frozen?, h4]⟩
def rdCode (l : List UInt8) (at_ : Nat) (width : Int) : Nat :=
  if width < 1 ∨ 8 < width then 1 else if ((l.length - at_ : Nat) : Int) < width then 3 else valCode ((l.drop at_).take width.toNat)
def rdVal (l : List UInt8) (at_ : Nat) (width : Int) : Nat := if rdCode l at_ width = 0 then numVal ((l.drop at_).take width.toNat) else 0
def rdAt (l : List UInt8) (at_ : Nat) (width : Int) : Nat := if rdCode l at_ width = 0 then at_ + width.toNat else at_
def RdPost (base g : Nat) (l : List UInt8) (at_ : Nat) (width : Int) (w : World) (e : Ending) (w' : World) : Prop :=
  e = .returned (.tuple #[.int .i64 (rdVal l at_ width : Nat), .int .i64 (rdCode l at_ width : Nat)]) ∧ Reader base w' g l (rdAt l at_ width) ∧ w.grownBy w' (some g)
theorem rd_bad {base g : Nat} {l : List UInt8} {at_ : Nat} {width : Int} {w w' : World} {c : Nat} (hc : rdCode l at_ width = c) (h0 : c ≠ 0) (hr : Reader base w' g l at_) (hg : w.grownBy w' (some g)) {e : Ending}
    (he : e = .returned (.tuple #[.int .i64 0, .int .i64 (c : Int)])) : RdPost base g l at_ width w e w' := by
  refine ⟨?_, ?_, hg⟩
  · rw [he]; simp [rdVal, hc, h0]
  · simp only [rdAt, hc, h0, if_false]; exact hr
set_option maxHeartbeats 400000 in
theorem rdInt_any (base g : Nat) (l : List UInt8) (at_ : Nat) (width : Int) (w : World) (hr : Reader base w g l at_) (hn1 : width ≤ 9223372036854775807) :
    Calls Try.prog 29 #[.pointer (some ⟨g, 0, none⟩), .int .i64 width] w (RdPost base g l at_ width w) := by
  by_cases h1 : width < 1
  · have HC := Lib.hid (show rdCode l at_ width = 1 by unfold rdCode; rw [if_pos (.inl h1)])
    go_enter Try.func29, Try.ntmps29
    go_wp2_with fail
    go_ret2
    exact rd_bad HC.out (by decide) hr (World.grownBy.refl _ _) rfl
  by_cases h2 : 8 < width
  · have HC := Lib.hid (show rdCode l at_ width = 1 by unfold rdCode; rw [if_pos (.inr h2)])
    go_enter Try.func29, Try.ntmps29
    go_wp2_with fail
    go_ret2
    exact rd_bad HC.out (by decide) hr (World.grownBy.refl _ _) rfl
  have hw : ¬ (width < 1 ∨ 8 < width) := by omega
  obtain ⟨k, rfl⟩ := Int.eq_ofNat_of_zero_le (show 0 ≤ width by omega)
  have HR := Lib.hid hr
  by_cases h3 : ((l.length - at_ : Nat) : Int) < (k : Int)
  · have HC := Lib.hid (show rdCode l at_ (k : Int) = 3 by unfold rdCode; rw [if_neg hw, if_pos h3])
    have HN := Lib.hid (show nextCode (k : Int) (l.length - at_) = 3 by unfold nextCode; rw [if_neg (by omega), if_pos h3])
    clear hw h3
    go_enter Try.func29, Try.ntmps29
    go_wp2_with fail
    refine (next_any base g l at_ (k : Int) _ hr hn1).mono ?_
    rintro e w1 ⟨v, rfl, hb, hx⟩
    rw [HN.out]
    go_wp2_with fail
    go_ret2
    exact rd_bad HC.out (by decide) (hr.below hx) (grown_of_below hx _) rfl
  · have HN := Lib.hid (show nextCode (k : Int) (l.length - at_) = 0 by unfold nextCode; rw [if_neg (by omega), if_neg h3])
    have HX := Lib.hid (show nextBytes l at_ (k : Int) = (l.drop at_).take k by simp [nextBytes, HN.out])
    have HD := Lib.hid (show rdCode l at_ (k : Int) = valCode ((l.drop at_).take k) by unfold rdCode; rw [if_neg hw, if_neg h3]; rfl)
    have hat := hr.left
    have hk : at_ + k ≤ l.length := by omega
    by_cases h4 : valCode ((l.drop at_).take k) = 0
    · have HC := Lib.hid (HD.out.trans h4)
      have HV := Lib.hid (show rdVal l at_ (k : Int) = numOf ((l.drop at_).take k) by simp [rdVal, numOf, HC.out, h4])
      have HA := Lib.hid (show rdAt l at_ (k : Int) = at_ + k by simp [rdAt, HC.out])
      have H4 := Lib.hid h4
      clear hw h3 h4
      go_enter Try.func29, Try.ntmps29
      go_wp2_with fail
      refine (next_any base g l at_ (k : Int) _ hr hn1).mono ?_
      rintro e w1 ⟨v, rfl, hb, hx⟩
      rw [HN.out]
      rw [HX.out] at hb
      go_wp2_with fail
      refine (leInt_any _ _ _ hb).mono ?_
      rintro e w' ⟨rfl, rfl⟩
      rw [H4.out]
      have hr1 := hr.below hx
      obtain ⟨c1, f1⟩ := hr1.cells
      have hm := hr1.move (at_ + k) hk
      rw [show ((at_ + k : Nat) : Int) = (at_ : Int) + (k : Int) by omega] at hm
      have HM := Lib.hid hm
      clear hm hr HR hb
      go_wp2_with fail
      go_ret2
      exact ⟨by rw [HV.out, HC.out]; rfl, by rw [HA.out]; exact HM.out.1, (grown_of_below hx _).trans HM.out.2⟩
    · have HC := Lib.hid HD.out
      have h5 : ((valCode ((l.drop at_).take k) : Int) == 0) = false := by simp; omega
      have H4 := Lib.hid h4
      have HV := Lib.hid (show numOf ((l.drop at_).take k) = 0 by simp [numOf, h4])
      clear hw h3 h4
      go_enter Try.func29, Try.ntmps29
      go_wp2_with fail
      refine (next_any base g l at_ (k : Int) _ hr hn1).mono ?_
      rintro e w1 ⟨v, rfl, hb, hx⟩
      rw [HN.out]
      rw [HX.out] at hb
      go_wp2_with fail
      refine (leInt_any _ _ _ hb).mono ?_
      rintro e w' ⟨rfl, rfl⟩
      rw [HV.out]
      have hr1 := hr.below hx
      clear hr HR hb
      go_wp2_with fail
      go_ret2
      exact rd_bad HC.out H4.out hr1 (grown_of_below hx _) rfl
/-- bytes stay while a reader moves -/
theorem bytes_apart {base : Nat} {w w' : World} {g : Nat} {l m : List UInt8} {at_ : Nat} {v : Value} (h : Bytes w v m) (hr : Reader base w g l at_) (k : w.grownBy w' (some g)) : Bytes w' v m := by
  obtain ⟨a, cap, hv, h1, h2, h3⟩ := h
  refine ⟨a, cap, hv, h1, h2, fun hx => ?_⟩
  obtain ⟨b, o, ha, hc⟩ := h3 hx
  have hne : b ≠ g := by
    rintro rfl
    obtain ⟨_, _, _, gb, cp, h4, _⟩ := hr
    have hpos : 0 < (bs m).length := by
      rcases Nat.eq_zero_or_pos (bs m).length with h | h
      · exact absurd (List.eq_nil_of_length_eq_zero h) hx
      · exact h
    have h5 := hc 0 _ (List.getElem?_eq_getElem hpos)
    rw [World.cell_block h4] at h5
    simp only [bs, List.getElem_map, Nat.add_zero] at h5
    match o, h5 with
    | 0, h5 => simp at h5
    | 1, h5 => simp at h5
    | o + 2, h5 => simp at h5
  exact ⟨b, o, ha, fun i x hi => k.cell (hc i x hi) (by simpa using hne)⟩
theorem own_mono {w : World} {base base' : Nat} {e : TypeId} {size n : Nat} {v : Value} {xs : List Value} (h : w.ownsRow base e size v (0 + n) ([] ++ xs)) (hb : base' ≤ base) : w.ownsRow base' e size v n xs := by
  rw [Nat.zero_add, List.nil_append] at h
  obtain ⟨h1, h2⟩ := h
  exact ⟨h1, h2.imp id fun ⟨g, c, cur, hv, hg, r⟩ => ⟨g, c, cur, hv, by omega, r⟩⟩
theorem size_alloc (w : World) (o : Obj) : (w.alloc o).heap.size = w.heap.size + 1 := by simp
/-- a reader stays while a row that is none of its own is written -/
theorem Reader.grown {base : Nat} {w w' : World} {g : Nat} {l : List UInt8} {at_ : Nat} {row : Option Nat} (h : Reader base w g l at_) (k : w.grownBy w' row) (hr : ∀ i, row = some i → w.heap.size ≤ i) : Reader base w' g l at_ := by
  refine h.below ⟨k.os, k.tape, k.output, k.size, fun i hi => k.block i hi (fun e => ?_)⟩
  have := hr i e.symm
  omega
end Go.Proofs.Ytcmoajbdepohmaa
