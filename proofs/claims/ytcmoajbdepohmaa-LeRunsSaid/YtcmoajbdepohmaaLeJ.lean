/- The walk of octavolaw01.one: a reader and bytes of which so many were read answer the same. -/
import Derived.Test.YtcmoajbdepohmaaLeI
import Derived.Test.YtcmoajbdepohmaaRdrF
import Derived.Test.YtcmoajbdepohmaaCut
namespace Go.Proofs.Ytcmoajbdepohmaa
open Go.RowKit Go.Oct

/-- how far a call brings a reader -/
def oneAt (l : List UInt8) (at_ : Nat) (kd : Nat) (n : Int) : Nat := if kd = 0 then rdAt l at_ n else if kd = 1 then tkAt l at_ n else zrAt l at_ n
def OnePost (base g : Nat) (l : List UInt8) (at_ : Nat) (to : Nat) (w : World) (e : Ending) (w' : World) : Prop :=
  e = .returned (.tuple #[.bool true, .int .i64 (to : Nat)]) ∧ Reader base w' g l to ∧ Below base w w'
theorem below_at {base : Nat} {w w' : World} {g : Nat} (k : w.grownBy w' (some g)) (hg : base ≤ g) (hb : base ≤ w.heap.size) : Below base w w' :=
  ⟨k.os, k.tape, k.output, k.size, fun i hi => k.block i (by omega) (by intro e; have := Option.some.inj e; omega)⟩
set_option maxRecDepth 100000 in
set_option maxHeartbeats 2000000 in
theorem one0_any (base g : Nat) (l : List UInt8) (at_ : Nat) (n : Int) (vb : Value) (w : World) (hr : Reader base w g l at_) (hn0 : -9223372036854775808 ≤ n) (hn1 : n ≤ 9223372036854775807) (hbase : base ≤ w.heap.size)
    (hB : ∀ w', Below base w w' → Bytes w' vb l) :
    Calls Try.prog 28 #[.pointer (some ⟨g, 0, none⟩), vb, .int .i64 at_, .agg #[.int .u8 0, .int .i64 n]] w (OnePost base g l at_ (rdAt l at_ n) w) := by
  obtain ⟨a, cap, rfl, hcap, hmax, -⟩ := (hB w (Below.refl _ _)).open
  unfold maxLen at hmax
  have hgl := hr.lt
  obtain ⟨hat, hll⟩ := hr.left
  obtain ⟨hg0, hg1⟩ := hgl
  have HR := Lib.hid (hr.below ((Below.refl _ _).alloc (Nat.le_refl _) (.cells #[.int .u8 0, .int .i64 n] 48)))
  have HB := Lib.hid hB
  clear hr hB
  by_cases hbad : n < 1 ∨ 8 < n
  · have hc : rdCode l at_ n = 1 := by unfold rdCode; rw [if_pos hbad]
    have HC := Lib.hid hc
    have HV := Lib.hid (show rdVal l at_ n = 0 by unfold rdVal; rw [hc]; rfl)
    have HA := Lib.hid (show rdAt l at_ n = at_ by unfold rdAt; rw [hc]; rfl)
    clear hc
    rw [HA.out]
    have fin : ∀ w1, Reader base w1 g l (rdAt l at_ n) → (w.alloc (.cells #[.int .u8 0, .int .i64 n] 48)).grownBy w1 (some g) → Reader base w1 g l at_ ∧ Below base w w1 := by
      intro w1 h1 h2
      rw [HA.out] at h1
      exact ⟨h1, (((Below.refl _ _).alloc hbase _)).trans (below_at h2 hg0 (by simp; omega))⟩
    have FIN := Lib.hid fin
    clear fin
    by_cases h0 : n < 0
    · clear hbad
      go_enter Try.func28, Try.ntmps28
      go_wp2_with fail
      refine (rdInt_any _ g l at_ n _ HR.out hn1).mono ?_
      rintro e w1 ⟨rfl, hr1, hx1⟩
      obtain ⟨f1, f2⟩ := FIN.out w1 hr1 hx1
      rw [HV.out, HC.out]
      clear hr1 hx1
      go_wp2_with fail
      go_ret2
      exact ⟨rfl, f1, f2⟩
    by_cases h1 : n < 1
    · clear hbad
      go_enter Try.func28, Try.ntmps28
      go_wp2_with fail
      refine (rdInt_any _ g l at_ n _ HR.out hn1).mono ?_
      rintro e w1 ⟨rfl, hr1, hx1⟩
      obtain ⟨f1, f2⟩ := FIN.out w1 hr1 hx1
      rw [HV.out, HC.out]
      clear hr1 hx1
      go_wp2_with fail
      go_ret2
      exact ⟨rfl, f1, f2⟩
    · have h8 : 8 < n := by omega
      clear hbad
      go_enter Try.func28, Try.ntmps28
      go_wp2_with fail
      refine (rdInt_any _ g l at_ n _ HR.out hn1).mono ?_
      rintro e w1 ⟨rfl, hr1, hx1⟩
      obtain ⟨f1, f2⟩ := FIN.out w1 hr1 hx1
      rw [HV.out, HC.out]
      clear hr1 hx1
      go_wp2_with fail
      go_ret2
      exact ⟨rfl, f1, f2⟩
  · obtain ⟨m, rfl⟩ := Int.eq_ofNat_of_zero_le (show 0 ≤ n by omega)
    have m1 : 1 ≤ m := by omega
    have m8 : m ≤ 8 := by omega
    by_cases hleft : l.length - at_ < m
    · have hc : rdCode l at_ m = 3 := by unfold rdCode; rw [if_neg hbad, if_pos (by omega)]
      have HC := Lib.hid hc
      have HV := Lib.hid (show rdVal l at_ m = 0 by unfold rdVal; rw [hc]; rfl)
      have HA := Lib.hid (show rdAt l at_ m = at_ by unfold rdAt; rw [hc]; rfl)
      have hi1 : (l.length : Int) - (at_ : Int) < (m : Int) := by omega
      rw [HA.out]
      clear hc hbad hleft
      go_enter Try.func28, Try.ntmps28
      go_wp2_with fail
      refine (rdInt_any _ g l at_ m _ HR.out hn1).mono ?_
      rintro e w1 ⟨rfl, hr1, hx1⟩
      rw [HA.out] at hr1
      rw [HV.out, HC.out]
      have hw1 : Below base w w1 := (((Below.refl _ _).alloc hbase _)).trans (below_at hx1 hg0 (by simp; omega))
      clear hx1
      go_wp2_with fail
      go_ret2
      exact ⟨rfl, hr1, hw1⟩
    · have hfit : at_ + m ≤ l.length := by omega
      have hln : ((l.drop at_).take m).length = m := by simp; omega
      obtain ⟨Y, hY⟩ : ∃ y, (l.drop at_).take m = y := ⟨_, rfl⟩
      have hc : rdCode l at_ m = valCode Y := by unfold rdCode; rw [if_neg hbad, if_neg (by omega), Int.toNat_natCast, hY]
      have hv : rdVal l at_ m = numOf Y := by
        unfold rdVal numOf
        rw [hc, Int.toNat_natCast, hY]
      have ha : rdAt l at_ m = if valCode Y = 0 then at_ + m else at_ := by unfold rdAt; rw [hc, Int.toNat_natCast]
      rw [hY] at hln
      obtain ⟨K, hK⟩ : ∃ k, valCode Y = k := ⟨_, rfl⟩
      obtain ⟨Q, hQ⟩ : ∃ k, numOf Y = k := ⟨_, rfl⟩
      rw [hK] at hc ha
      rw [hQ] at hv
      have HC := Lib.hid hc
      have HV := Lib.hid hv
      have HA := Lib.hid ha
      have HK := Lib.hid hK
      have HQ := Lib.hid hQ
      have HY := Lib.hid hY
      have HLN := Lib.hid hln
      obtain ⟨bb, oo, rfl⟩ : ∃ bb oo, a = some ⟨bb, oo, none⟩ := by
        obtain ⟨a', c', hf, _, _, hcs⟩ := (HB.out w (Below.refl _ _)).open
        simp only [Value.slice.injEq] at hf
        obtain ⟨rfl, -, rfl⟩ := hf
        obtain ⟨b', o', h, _⟩ := hcs (by omega)
        exact ⟨b', o', h⟩
      have hi1 : (m : Int) ≤ (l.length : Int) - (at_ : Int) := by omega
      have q3 : ¬ cap = at_ := by omega
      have q4 : (at_ : Int) < (cap : Int) := by omega
      have q5 : IntKind.i64.wrap ((at_ : Int) + (m : Int)) = ((at_ + m : Nat) : Int) := by rw [IntWalk.i64_in _ (by omega)]; omega
      have q0 : (0 : Int) ≤ (at_ : Int) := by omega
      have q1 : (at_ : Int) ≤ (at_ : Int) + (m : Int) := by omega
      have q2 : (at_ : Int) + (m : Int) ≤ (cap : Int) := by omega
      clear hc hv ha hK hQ hY hln hbad hleft
      go_enter Try.func28, Try.ntmps28
      go_wp2_with fail
      refine (rdInt_any _ g l at_ m _ HR.out hn1).mono ?_
      rintro e w1 ⟨rfl, hr1, hx1⟩
      rw [HA.out] at hr1
      rw [HV.out, HC.out]
      have hw1 : Below base w w1 := (((Below.refl _ _).alloc hbase _)).trans (below_at hx1 hg0 (by simp; omega))
      have HB1 := Lib.hid (HB.out w1 hw1)
      have HR1 := Lib.hid hr1
      have hcut : Bytes w1 (.slice (some ⟨bb, oo + at_, none⟩) m (cap - at_)) ((l.drop at_).take m) := HB1.out.cut at_ m _ hfit (by omega) (by unfold maxLen; omega)
      rw [HY.out] at hcut
      have HCUT := Lib.hid hcut
      clear hx1 hr1 hcut
      go_wp2_with fail
      refine (refInt_any _ Y _ (by have := HCUT.out; unfold Bytes at this ⊢; rw [HLN.out] at this ⊢; exact this)).mono ?_
      rintro e w' ⟨rfl, rfl⟩
      rw [HQ.out, HK.out]
      by_cases hK0 : K = 0
      · have HAN := Lib.hid (show rdAt l at_ m = at_ + m by rw [HA.out, if_pos hK0])
        subst hK0
        have hr2 := HR1.out
        rw [if_pos rfl] at hr2
        go_wp2_with fail
        go_ret2
        refine ⟨?_, by rw [HAN.out]; exact hr2, hw1⟩
        rw [HAN.out, Int.natCast_add]
        rfl
      · have HAN := Lib.hid (show rdAt l at_ m = at_ by rw [HA.out, if_neg hK0])
        have hr2 := HR1.out
        rw [if_neg hK0] at hr2
        have hKi : ((K : Int) == 0) = false := by rw [beq_eq_false_iff_ne]; omega
        clear hK0
        go_wp2_with fail
        go_ret2
        refine ⟨?_, by rw [HAN.out]; exact hr2, hw1⟩
        rw [HAN.out]
        rfl
end Go.Proofs.Ytcmoajbdepohmaa
