/- The walk of the reader's Take. -/
import Derived.Test.YtcmoajbdepohmaaRdrB
namespace Go.Proofs.Ytcmoajbdepohmaa
open Go.RowKit Go.Oct

/-- what Take answers: the bytes as new memory of the call's own -/
def tkAt (l : List UInt8) (at_ : Nat) (n : Int) : Nat := if nextCode n (l.length - at_) = 0 then at_ + n.toNat else at_
def TakePost (base g : Nat) (l : List UInt8) (at_ : Nat) (n : Int) (w : World) (e : Ending) (w' : World) : Prop :=
  ∃ v, e = .returned (.tuple #[v, .int .i64 (nextCode n (l.length - at_) : Nat)]) ∧ w'.ownsRow w.heap.size 5 1 v (nextBytes l at_ n).length (bs (nextBytes l at_ n)) ∧ Reader base w' g l (tkAt l at_ n) ∧ w.grownBy w' (some g)
set_option maxHeartbeats 400000 in
theorem take_any (base g : Nat) (l : List UInt8) (at_ : Nat) (n : Int) (w : World) (hr : Reader base w g l at_) (hn1 : n ≤ 9223372036854775807) :
    Calls Try.prog 24 #[.pointer (some ⟨g, 0, none⟩), .int .i64 n] w (TakePost base g l at_ n w) := by
  have hgl : g < w.heap.size := by obtain ⟨_, _, _, gb, cp, h4, _⟩ := hr; exact (Array.getElem?_eq_some_iff.1 h4).1
  by_cases h0 : nextCode n (l.length - at_) = 0
  · have hn : 0 ≤ n := by
      rcases Int.lt_or_le n 0 with h | h
      · unfold nextCode at h0; rw [if_pos h] at h0; cases h0
      · exact h
    obtain ⟨k, rfl⟩ := Int.eq_ofNat_of_zero_le hn
    have hk : at_ + k ≤ l.length := by
      have hat := hr.left
      rcases Nat.lt_or_ge (l.length - at_) k with h | h
      · unfold nextCode at h0; rw [if_neg (by omega), if_pos (by omega)] at h0; cases h0
      · omega
    have hat := hr.left
    have HN := Lib.hid h0
    have HX := Lib.hid (show nextBytes l at_ (k : Int) = (l.drop at_).take k by simp [nextBytes, HN.out])
    have HA := Lib.hid (show tkAt l at_ (k : Int) = at_ + k by simp [tkAt, HN.out])
    have HL := Lib.hid (show ((l.drop at_).take k).length = k by simp; omega)
    obtain ⟨i0, hi, hz0, hz1, hz2⟩ := info_parts infoU8
    clear h0 hn
    go_enter Try.func24, Try.ntmps24
    go_wp2_with fail
    refine (next_any base g l at_ (k : Int) _ hr hn1).mono ?_
    rintro e w1 ⟨v, rfl, hb, hx⟩
    rw [HN.out]
    rw [HX.out] at hb
    have hr1 := hr.below hx
    obtain ⟨c1, f1⟩ := hr1.cells
    have hm := hr1.move (at_ + k) hk
    rw [show ((at_ + k : Nat) : Int) = (at_ : Int) + (k : Int) by omega] at hm
    have hb2 := bytes_apart hb hr1 hm.2
    have HM := Lib.hid hm
    have hs1 := hx.size
    have hown0 := own_none (w1.setCell ⟨g, 1, none⟩ (.int .i64 ((at_ : Int) + (k : Int)))) w.heap.size (by simpa using hs1)
    have esz : (w1.setCell ⟨g, 1, none⟩ (.int .i64 ((at_ : Int) + (k : Int)))).heap.size = w1.heap.size := by simp
    rw [esz] at hown0
    have HE := Lib.hid esz
    have hbx := hb2.alloc (.cells #[] 5)
    have HB := Lib.hid hbx
    have HO := Lib.hid hown0
    clear hm hr hb hbx hown0 hb2 esz
    go_wp2_with (at_builtin; refine wpList_append_has _ rfl _ _ 22 rfl w.heap.size 5 i0 (.int .u8 0) 1 1 Try.underlying22 hi hz0 hz1 hz2 rfl (by decide) _ _ _ rfl (Hid.out HO) _ _ _ rfl (Hid.out HB) ?c0 ?c2 ?c3 ?c4 ?c5 ?_)
    case c0 => rw [bs_length, Nat.mul_one]
    case c2 => exact bs_one _
    case c3 => rw [HL.out]; unfold maxLen; omega
    case c4 => rw [HL.out]; omega
    case c5 => simp; omega
    intro v' w2 hown' hgrow _
    have hr2 : Reader base w2 g l (at_ + k) := HM.out.1.grown ((World.grownBy_alloc _ _ _).trans hgrow) (by intro i hi; simp [Value.ownBlock] at hi; rw [HE.out]; omega)
    obtain ⟨v2, hv2⟩ : ∃ v2, v' = v2 := ⟨_, rfl⟩
    subst hv2
    have hgr : w.grownBy w2 (some g) := by
      have h1 : w.grownBy (w1.setCell ⟨g, 1, none⟩ (.int .i64 ((at_ : Int) + (k : Int)))) (some g) := (grown_of_below hx _).trans HM.out.2
      refine ⟨hgrow.os.trans h1.os, hgrow.tape.trans h1.tape, hgrow.output.trans h1.output, ?_, fun i hi hne => ?_⟩
      · have h2 := h1.size
        have h3 := hgrow.size
        simp only [size_alloc] at h3
        omega
      · have h2 := h1.size
        rw [hgrow.block i (by simp only [size_alloc]; omega) (by simp only [Value.ownBlock]; intro e; have := Option.some.inj e; omega), heap_alloc_old _ _ (by omega)]
        exact h1.block i hi hne
    clear hgrow
    go_wp2_with fail
    go_ret2
    refine ⟨_, by rw [HN.out]; rfl, ?_, by rw [HA.out]; exact hr2, hgr⟩
    rw [HX.out, show ((l.drop at_).take k).length = min k (l.length - at_) by simp]
    exact hown'
  · have HX := Lib.hid (show nextBytes l at_ n = [] by simp [nextBytes, h0])
    have HA := Lib.hid (show tkAt l at_ n = at_ by simp [tkAt, h0])
    have ht : ((nextCode n (l.length - at_) : Int) != 0) = true := by rw [bne_iff_ne]; omega
    clear h0
    go_enter Try.func24, Try.ntmps24
    go_wp2_with fail
    refine (next_any base g l at_ n _ hr hn1).mono ?_
    rintro e w1 ⟨v, rfl, hb, hx⟩
    go_wp2_with fail
    go_ret2
    refine ⟨_, rfl, ?_, by rw [HA.out]; exact hr.below hx, grown_of_below hx _⟩
    rw [HX.out]
    exact World.ownsRow_nil _ _ _ _
end Go.Proofs.Ytcmoajbdepohmaa
