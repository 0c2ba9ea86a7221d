/- The walk of the reader's Take, once more: what it answers may be written over, the reader stays. And of octavolaw01.one where it takes. -/
import Derived.Test.YtcmoajbdepohmaaLeJ
import Derived.Lib.SmallJoins
namespace Go.Proofs.Ytcmoajbdepohmaa
open Go.RowKit Go.Oct

def TakePost2 (base g : Nat) (l : List UInt8) (at_ : Nat) (n : Int) (w : World) (e : Ending) (w' : World) : Prop :=
  ∃ v H, e = .returned (.tuple #[v, .int .i64 (nextCode n (l.length - at_) : Nat)]) ∧ (w.heap.size ≤ H ∧ H ≤ w'.heap.size) ∧ w'.ownsRow H 5 1 v (nextBytes l at_ n).length (bs (nextBytes l at_ n)) ∧ (∀ w3, Below H w' w3 → Reader base w3 g l (tkAt l at_ n)) ∧ w.grownBy w' (some g)
set_option maxHeartbeats 400000 in
theorem take2_any (base g : Nat) (l : List UInt8) (at_ : Nat) (n : Int) (w : World) (hr : Reader base w g l at_) (hn1 : n ≤ 9223372036854775807) :
    Calls Try.prog 24 #[.pointer (some ⟨g, 0, none⟩), .int .i64 n] w (TakePost2 base g l at_ n w) := by
  have hgl : g < w.heap.size := by obtain ⟨_, _, _, gb, cp, h4, _⟩ := hr; exact (Array.getElem?_eq_some_iff.1 h4).1
  by_cases h0 : nextCode n (l.length - at_) = 0
  · have hn : 0 ≤ n := by
      rcases Int.lt_or_le n 0 with h | h
      · unfold nextCode at h0; rw [if_pos h] at h0; cases h0
      · exact h
    obtain ⟨k, rfl⟩ := Int.eq_ofNat_of_zero_le hn
    have hk : at_ + k ≤ l.length := by
      have hat := hr.left
      rcases Nat.lt_or_ge (l.length - at_) k with h | h
      · unfold nextCode at h0; rw [if_neg (by omega), if_pos (by omega)] at h0; cases h0
      · omega
    have hat := hr.left
    have HN := Lib.hid h0
    have HX := Lib.hid (show nextBytes l at_ (k : Int) = (l.drop at_).take k by simp [nextBytes, HN.out])
    have HA := Lib.hid (show tkAt l at_ (k : Int) = at_ + k by simp [tkAt, HN.out])
    have HL := Lib.hid (show ((l.drop at_).take k).length = k by simp; omega)
    obtain ⟨i0, hi, hz0, hz1, hz2⟩ := info_parts infoU8
    clear h0 hn
    go_enter Try.func24, Try.ntmps24
    go_wp2_with fail
    refine (next_any base g l at_ (k : Int) _ hr hn1).mono ?_
    rintro e w1 ⟨v, rfl, hb, hx⟩
    rw [HN.out]
    rw [HX.out] at hb
    have hr1 := hr.below hx
    obtain ⟨c1, f1⟩ := hr1.cells
    have hm := hr1.move (at_ + k) hk
    rw [show ((at_ + k : Nat) : Int) = (at_ : Int) + (k : Int) by omega] at hm
    have hb2 := bytes_apart hb hr1 hm.2
    have HM := Lib.hid hm
    have hs1 := hx.size
    have hown0 := own_none (w1.setCell ⟨g, 1, none⟩ (.int .i64 ((at_ : Int) + (k : Int)))) w1.heap.size (by simp)
    have esz : (w1.setCell ⟨g, 1, none⟩ (.int .i64 ((at_ : Int) + (k : Int)))).heap.size = w1.heap.size := by simp
    rw [esz] at hown0
    have HE := Lib.hid esz
    have hbx := hb2.alloc (.cells #[] 5)
    have HB := Lib.hid hbx
    have HO := Lib.hid hown0
    clear hm hr hb hbx hown0 hb2 esz
    go_wp2_with (at_builtin; refine wpList_append_has _ rfl _ _ 22 rfl w1.heap.size 5 i0 (.int .u8 0) 1 1 Try.underlying22 hi hz0 hz1 hz2 rfl (by decide) _ _ _ rfl (Hid.out HO) _ _ _ rfl (Hid.out HB) ?c0 ?c2 ?c3 ?c4 ?c5 ?_)
    case c0 => rw [bs_length, Nat.mul_one]
    case c2 => exact bs_one _
    case c3 => rw [HL.out]; unfold maxLen; omega
    case c4 => rw [HL.out]; omega
    case c5 => simp
    intro v' w2 hown' hgrow _
    have hx2 : Below w1.heap.size (w1.setCell ⟨g, 1, none⟩ (.int .i64 ((at_ : Int) + (k : Int)))) w2 := by
      refine ((Below.refl _ _).alloc (by rw [HE.out]; exact Nat.le_refl _) _).grown hgrow (by simp) (fun k hk => ?_)
      simp [Value.ownBlock] at hk
      omega
    have hst : ∀ w3, Below w1.heap.size w2 w3 → Reader base w3 g l (at_ + k) := fun w3 h3 => HM.out.1.below (by have := hx2.trans h3; rwa [← HE.out] at this)
    obtain ⟨v2, hv2⟩ : ∃ v2, v' = v2 := ⟨_, rfl⟩
    subst hv2
    have hgr : w.grownBy w2 (some g) := by
      have h1 : w.grownBy (w1.setCell ⟨g, 1, none⟩ (.int .i64 ((at_ : Int) + (k : Int)))) (some g) := (grown_of_below hx _).trans HM.out.2
      refine ⟨hgrow.os.trans h1.os, hgrow.tape.trans h1.tape, hgrow.output.trans h1.output, ?_, fun i hi hne => ?_⟩
      · have h2 := h1.size
        have h3 := hgrow.size
        simp only [size_alloc] at h3
        omega
      · have h2 := h1.size
        rw [hgrow.block i (by simp only [size_alloc]; omega) (by simp only [Value.ownBlock]; intro e; have := Option.some.inj e; omega), heap_alloc_old _ _ (by omega)]
        exact h1.block i hi hne
    clear hgrow
    go_wp2_with fail
    go_ret2
    refine ⟨_, w1.heap.size, by rw [HN.out]; rfl, ⟨hs1, by have h9 := hx2.size; rw [HE.out] at h9; exact h9⟩, ?_, by rw [HA.out]; exact hst, hgr⟩
    rw [HX.out, show ((l.drop at_).take k).length = min k (l.length - at_) by simp]
    exact hown'
  · have HX := Lib.hid (show nextBytes l at_ n = [] by simp [nextBytes, h0])
    have HA := Lib.hid (show tkAt l at_ n = at_ by simp [tkAt, h0])
    have ht : ((nextCode n (l.length - at_) : Int) != 0) = true := by rw [bne_iff_ne]; omega
    clear h0
    go_enter Try.func24, Try.ntmps24
    go_wp2_with fail
    refine (next_any base g l at_ n _ hr hn1).mono ?_
    rintro e w1 ⟨v, rfl, hb, hx⟩
    go_wp2_with fail
    go_ret2
    refine ⟨_, w1.heap.size, rfl, ⟨hx.size, Nat.le_refl _⟩, ?_, by rw [HA.out]; exact fun w3 h3 => (hr.below hx).below h3, grown_of_below hx _⟩
    rw [HX.out]
    exact World.ownsRow_nil _ _ _ _
theorem Bytes.empty (w : World) (a : Option Addr) (c : Nat) (h : c ≤ maxLen) : Bytes w (.slice a 0 c) [] := ⟨a, c, rfl, Nat.zero_le _, h, fun h => by simp [bs] at h⟩
/-- what a call's own row holds, if every element is a byte -/
def Bytish (ys : List Value) (n : Nat) : Prop := ∀ j, j < n → ∃ z : Int, ys[j]? = some (.int .u8 z)
theorem Bytish.bs (Y : List UInt8) : Bytish (bs Y) Y.length := fun j hj => ⟨_, bs_get Y j hj⟩
theorem Bytish.set {ys : List Value} {n : Nat} (h : Bytish ys n) (i : Nat) (z : Int) : Bytish (ys.set i (.int .u8 z)) n := by
  intro j hj
  obtain ⟨x, hx⟩ := h j hj
  by_cases e : i = j
  · subst e
    exact ⟨z, by rw [List.getElem?_set_self (List.getElem?_eq_some_iff.1 hx).1]⟩
  · exact ⟨x, by rw [List.getElem?_set_ne e]; exact hx⟩
theorem own_shape {w : World} {base size n : Nat} {e : TypeId} {v : Value} {xs : List Value} (h : w.ownsRow base e size v n xs) : ∃ a cp, v = .slice a n cp := by
  rcases Joins.ownsRow_forms h with ⟨rfl, rfl⟩ | ⟨g, cap, rfl⟩
  · exact ⟨_, _, rfl⟩
  · exact ⟨_, _, rfl⟩
theorem below_rows {H : Nat} {w w' : World} {row : Option Nat} (k : w.grownBy w' row) (hr : ∀ i, row = some i → H ≤ i) (hH : H ≤ w.heap.size) : Below H w w' :=
  ⟨k.os, k.tape, k.output, k.size, fun i hi => k.block i (by omega) (fun e => by have := hr i e.symm; omega)⟩
set_option maxRecDepth 100000 in
set_option maxHeartbeats 4000000 in
theorem one1_zero (base g : Nat) (l : List UInt8) (at_ : Nat) (vb : Value) (w : World) (hr : Reader base w g l at_) (hbase : base ≤ w.heap.size)
    (hB : ∀ w', Below base w w' → Bytes w' vb l) :
    Calls Try.prog 28 #[.pointer (some ⟨g, 0, none⟩), vb, .int .i64 at_, .agg #[.int .u8 1, .int .i64 0]] w (OnePost base g l at_ at_ w) := by
  obtain ⟨a, cap, rfl, hcap, hmax, hcells⟩ := (hB w (Below.refl _ _)).open
  have hmx := hmax
  unfold maxLen at hmax
  have hgl := hr.lt
  obtain ⟨hat, hll⟩ := hr.left
  obtain ⟨hg0, hg1⟩ := hgl
  have HR := Lib.hid (hr.below ((Below.refl _ _).alloc (Nat.le_refl _) (.cells #[.int .u8 1, .int .i64 0] 48)))
  have HB := Lib.hid hB
  have fin : ∀ w1, (w.alloc (.cells #[.int .u8 1, .int .i64 0] 48)).grownBy w1 (some g) → Below base w w1 := fun w1 h2 =>
    (((Below.refl _ _).alloc hbase _)).trans (below_at h2 hg0 (by simp; omega))
  have FIN := Lib.hid fin
  have hc : nextCode 0 (l.length - at_) = 0 := by unfold nextCode; rw [if_neg (by omega), if_neg (by omega)]
  have HC := Lib.hid hc
  have HA := Lib.hid (show tkAt l at_ 0 = at_ by unfold tkAt; rw [if_pos hc]; rfl)
  have HX := Lib.hid (show nextBytes l at_ 0 = [] by unfold nextBytes; rw [if_pos hc]; rfl)
  have hi1 : (0 : Int) ≤ (l.length : Int) - (at_ : Int) := by omega
  have q0 : (0 : Int) ≤ (at_ : Int) := by omega
  have q2 : (at_ : Int) ≤ (cap : Int) := by omega
  clear hr hB fin hc hcells
  by_cases hca : cap = at_
  all_goals
    rcases a with _ | ⟨b', o', s'⟩
    all_goals
      go_enter Try.func28, Try.ntmps28
      go_wp2_with fail
      refine (take2_any _ g l at_ 0 _ HR.out (by decide)).mono ?_
      rintro e w1 ⟨v, H, rfl, ⟨hH, hHl⟩, hown, hst, hx⟩
      rw [HX.out] at hown
      rw [HA.out] at hst
      rw [HC.out]
      have hw1 := FIN.out w1 hx
      have hs1 : w.heap.size + 1 ≤ H := by simpa using hH
      have hown : w1.ownsRow H 5 1 v 0 (bs []) := hown
      obtain ⟨gv, cv, rfl⟩ := own_shape hown
      have HST := Lib.hid hst
      have hV : Bytes w1 (.slice gv 0 cv) [] := Bytes.own (l := []) hown
      have HV := Lib.hid hV
      clear hx hown hst hV
      go_wp2_with fail
      refine (same_yes _ _ [] _ HV.out (Bytes.empty _ _ _ (by omega))).mono ?_
      rintro e w2 ⟨rfl, hx2⟩
      have hrd := HST.out w2 (hx2.mono hHl)
      have hw2 : Below base w w2 := hw1.trans (hx2.mono (by omega))
      clear hx2 HV
      go_wp2_with fail
      refine wp_loop_rounds 1 ?_
      rw [rounds_succ]
      go_wp2_with fail
      go_ret2
      exact ⟨rfl, hrd, hw2⟩
set_option maxRecDepth 100000 in
set_option maxHeartbeats 4000000 in
theorem one1_any (base g : Nat) (l : List UInt8) (at_ : Nat) (n : Int) (vb : Value) (w : World) (hr : Reader base w g l at_) (hn0 : -9223372036854775808 ≤ n) (hn1 : n ≤ 9223372036854775807) (hbase : base ≤ w.heap.size)
    (hB : ∀ w', Below base w w' → Bytes w' vb l) :
    Calls Try.prog 28 #[.pointer (some ⟨g, 0, none⟩), vb, .int .i64 at_, .agg #[.int .u8 1, .int .i64 n]] w (OnePost base g l at_ (tkAt l at_ n) w) := by
  obtain ⟨a, cap, rfl, hcap, hmax, hcells⟩ := (hB w (Below.refl _ _)).open
  have hmx := hmax
  unfold maxLen at hmax
  have hgl := hr.lt
  obtain ⟨hat, hll⟩ := hr.left
  obtain ⟨hg0, hg1⟩ := hgl
  have HR := Lib.hid (hr.below ((Below.refl _ _).alloc (Nat.le_refl _) (.cells #[.int .u8 1, .int .i64 n] 48)))
  have HB := Lib.hid hB
  have fin : ∀ w1, (w.alloc (.cells #[.int .u8 1, .int .i64 n] 48)).grownBy w1 (some g) → Below base w w1 := fun w1 h2 =>
    (((Below.refl _ _).alloc hbase _)).trans (below_at h2 hg0 (by simp; omega))
  have FIN := Lib.hid fin
  have HRR := Lib.hid hr
  clear hr hB fin
  by_cases hc : nextCode n (l.length - at_) = 0
  · obtain ⟨m, rfl⟩ : ∃ m : Nat, n = m := by
      rcases Int.lt_or_le n 0 with h | h
      · unfold nextCode at hc; rw [if_pos h] at hc; cases hc
      · exact Int.eq_ofNat_of_zero_le h
    have hfit : at_ + m ≤ l.length := by
      rcases Nat.lt_or_ge (l.length - at_) m with h | h
      · unfold nextCode at hc; rw [if_neg (by omega), if_pos (by omega)] at hc; cases hc
      · omega
    obtain ⟨Y, hY⟩ : ∃ y, (l.drop at_).take m = y := ⟨_, rfl⟩
    have hln : Y.length = m := by rw [← hY]; simp; omega
    have HC := Lib.hid hc
    have HA := Lib.hid (show tkAt l at_ m = at_ + m by unfold tkAt; rw [if_pos hc, Int.toNat_natCast])
    have HX := Lib.hid (show nextBytes l at_ m = Y by unfold nextBytes; rw [if_pos hc, Int.toNat_natCast, hY])
    have HLN := Lib.hid hln
    have HY := Lib.hid hY
    have hi1 : (m : Int) ≤ (l.length : Int) - (at_ : Int) := by omega
    have q0 : (0 : Int) ≤ (at_ : Int) := by omega
    have q1 : (at_ : Int) ≤ (at_ : Int) + (m : Int) := by omega
    have q2 : (at_ : Int) + (m : Int) ≤ (cap : Int) := by omega
    have q5 : IntKind.i64.wrap ((at_ : Int) + (m : Int)) = ((at_ + m : Nat) : Int) := by rw [IntWalk.i64_in _ (by omega)]; omega
    have hm0 : (0 : Int) ≤ (m : Int) := by omega
    rw [HA.out]
    clear hc hY hln
    by_cases hm : m = 0
    · subst hm
      have := one1_zero base g l at_ (.slice a l.length cap) w HRR.out hbase HB.out
      rw [Nat.add_zero]
      exact this
    · obtain ⟨bb, oo, rfl⟩ : ∃ bb oo, a = some ⟨bb, oo, none⟩ := by
        obtain ⟨b', o', h, _⟩ := hcells (by omega)
        exact ⟨b', o', h⟩
      have q3 : ¬ cap = at_ := by omega
      have q4 : (at_ : Int) < (cap : Int) := by omega
      clear hcells
      go_enter Try.func28, Try.ntmps28
      go_wp2_with fail
      refine (take2_any _ g l at_ m _ HR.out hn1).mono ?_
      rintro e w1 ⟨v, H, rfl, ⟨hH, hHl⟩, hown, hst, hx⟩
      rw [HX.out, HLN.out] at hown
      rw [HA.out] at hst
      rw [HC.out]
      have hw1 := FIN.out w1 hx
      have hs1 : w.heap.size + 1 ≤ H := by simpa using hH
      have hcut : Bytes w1 (.slice (some ⟨bb, oo + at_, none⟩) m (cap - at_)) ((l.drop at_).take m) := Bytes.cut (HB.out w1 hw1) at_ m _ hfit (by omega) (by unfold maxLen; omega)
      rw [HY.out] at hcut
      have HCUT := Lib.hid hcut
      have HO1 := Lib.hid hown
      have HST := Lib.hid hst
      obtain ⟨gv, cv, rfl⟩ := Joins.ownsRow_form hown (by omega)
      clear hx hown hst hcut
      go_wp2_with fail
      refine (same_yes _ _ Y _ (by unfold Bytes; rw [HLN.out]; exact Has.own HO1.out) (by have := HCUT.out; unfold Bytes at this ⊢; rw [HLN.out] at this ⊢; exact this)).mono ?_
      rintro e w2 ⟨rfl, hx2⟩
      have hgv : H ≤ gv ∧ gv < w1.heap.size := HO1.out.lt gv rfl
      have HO2 := Lib.hid (own_keep HO1.out hx2)
      have hb2 : Below H w1 w2 := hx2.mono (by omega)
      have hBt := Bytish.bs Y
      rw [HLN.out] at hBt
      obtain ⟨hgv0, hgv1⟩ := hgv
      clear hx2 HCUT HO1
      go_wp2_with fail
      go_loopw [18] (fun i wr => ∃ (j : Nat) (ys : List Value), j ≤ m ∧ i = .int .i64 j ∧ Bytish ys m ∧ wr.ownsRow H 5 1 (.slice (some ⟨gv, 0, none⟩) m cv) m ys ∧ Below H w1 wr) (fun i _ => m - (intOf i).toNat)
      case atStart => exact ⟨0, _, Nat.zero_le _, rfl, hBt, HO2.out, hb2⟩
      case round =>
        clear hBt HO2 hb2
        obtain ⟨j, ys, hj, rfl, hbt, hown, hnx⟩ := hrel
        by_cases hlt : j < m
        · obtain ⟨z, hz⟩ := hbt j hlt
          have hcell := (hown.cellAt j (by omega)).trans hz
          have hfr := hown.frozenAt j
          have hgb := (hown.lt gv rfl).2
          have r0 : (0 : Int) ≤ (j : Int) := by omega
          have r1 : (j : Int) < (m : Int) := by omega
          have HO := Lib.hid hown
          have HBT := Lib.hid hbt
          clear hown hbt hz
          go_wp2_with fail
          go_roundw
          case rel => exact ⟨j + 1, _, by omega, by go_num, HBT.out.set j _, (HO.out.stored j _).1, hnx.setCell hgv0 _⟩
          case measure => simp [intOf]; omega
        · have hrd := HST.out wr hnx
          have hbw : Below base w wr := hw1.trans (hnx.mono (by omega))
          clear hown hbt
          go_wp2_with fail
          go_ret2
          refine ⟨?_, hrd, hbw⟩
          rw [Int.natCast_add]
          rfl
  · have HX := Lib.hid (show nextBytes l at_ n = [] by unfold nextBytes; rw [if_neg hc])
    have HA := Lib.hid (show tkAt l at_ n = at_ by unfold tkAt; rw [if_neg hc])
    rw [HA.out]
    by_cases h0 : n < 0
    · have HC := Lib.hid (show nextCode n (l.length - at_) = 1 by unfold nextCode; rw [if_pos h0])
      clear hc hcells
      go_enter Try.func28, Try.ntmps28
      go_wp2_with fail
      refine (take2_any _ g l at_ n _ HR.out hn1).mono ?_
      rintro e w1 ⟨v, H, rfl, ⟨hH, hHl⟩, hown, hst, hx⟩
      rw [HX.out] at hown
      rw [HA.out] at hst
      rw [HC.out]
      have hw1 := FIN.out w1 hx
      have hrd := hst w1 (Below.refl _ _)
      have hown : w1.ownsRow H 5 1 v 0 (bs []) := hown
      obtain ⟨gv, cv, rfl⟩ := own_shape hown
      clear hx hown hst
      go_wp2_with fail
      refine wp_loop_rounds 1 ?_
      rw [rounds_succ]
      go_wp2_with fail
      go_ret2
      exact ⟨rfl, hrd, hw1⟩
    · have hgt : ((l.length - at_ : Nat) : Int) < n := by
        apply Classical.byContradiction
        intro h
        exact hc (by unfold nextCode; rw [if_neg h0, if_neg h])
      have HC := Lib.hid (show nextCode n (l.length - at_) = 3 by unfold nextCode; rw [if_neg h0, if_pos hgt])
      have hi1 : (l.length : Int) - (at_ : Int) < n := by omega
      clear hc hcells hgt
      go_enter Try.func28, Try.ntmps28
      go_wp2_with fail
      refine (take2_any _ g l at_ n _ HR.out hn1).mono ?_
      rintro e w1 ⟨v, H, rfl, ⟨hH, hHl⟩, hown, hst, hx⟩
      rw [HX.out] at hown
      rw [HA.out] at hst
      rw [HC.out]
      have hw1 := FIN.out w1 hx
      have hrd := hst w1 (Below.refl _ _)
      have hown : w1.ownsRow H 5 1 v 0 (bs []) := hown
      obtain ⟨gv, cv, rfl⟩ := own_shape hown
      clear hx hown hst
      go_wp2_with fail
      refine wp_loop_rounds 1 ?_
      rw [rounds_succ]
      go_wp2_with fail
      go_ret2
      exact ⟨rfl, hrd, hw1⟩
end Go.Proofs.Ytcmoajbdepohmaa
