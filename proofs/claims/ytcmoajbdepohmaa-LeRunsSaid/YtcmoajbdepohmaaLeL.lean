/- The walk of octavolaw01.one where it reads bytes 0. -/
import Derived.Test.YtcmoajbdepohmaaLeK
namespace Go.Proofs.Ytcmoajbdepohmaa
open Go.RowKit Go.Oct

/-- how so many bytes are refused as bytes 0 -/
def zc (l : List UInt8) : Nat := if allZero l then 0 else 4
theorem zc_zero (l : List UInt8) : zc l = 0 ∨ zc l = 4 := by unfold zc; split <;> simp
theorem zc_take (l : List UInt8) (j : Nat) (h : j < l.length) : zc (l.take (j + 1)) = if zc (l.take j) = 0 then (if l[j] = 0 then 0 else 4) else 4 := by
  unfold zc
  rw [allZero_take l j h]
  by_cases h1 : allZero (l.take j) = true
  · rw [h1]
    by_cases h2 : l[j] = 0 <;> simp [h2]
  · simp [h1]
theorem zc_more (l : List UInt8) (j : Nat) (h : zc (l.take j) = 4) : zc l = 4 := by
  unfold zc at h ⊢
  rw [if_neg]
  intro h2
  rw [if_pos] at h
  · cases h
  · unfold allZero at h2 ⊢
    rw [List.all_eq_true] at h2 ⊢
    exact fun x hx => h2 x (List.mem_of_mem_take hx)
set_option maxRecDepth 100000 in
set_option maxHeartbeats 4000000 in
theorem one2_any (base g : Nat) (l : List UInt8) (at_ kd : Nat) (n : Int) (vb : Value) (w : World) (hk : 2 ≤ kd) (hr : Reader base w g l at_) (hn0 : -9223372036854775808 ≤ n) (hn1 : n ≤ 9223372036854775807) (hbase : base ≤ w.heap.size)
    (hB : ∀ w', Below base w w' → Bytes w' vb l) :
    Calls Try.prog 28 #[.pointer (some ⟨g, 0, none⟩), vb, .int .i64 at_, .agg #[.int .u8 (kd : Nat), .int .i64 n]] w (OnePost base g l at_ (zrAt l at_ n) w) := by
  obtain ⟨a, cap, rfl, hcap, hmax, hcells⟩ := (hB w (Below.refl _ _)).open
  have hmx := hmax
  unfold maxLen at hmax
  have hgl := hr.lt
  obtain ⟨hat, hll⟩ := hr.left
  obtain ⟨hg0, hg1⟩ := hgl
  have HR := Lib.hid (hr.below ((Below.refl _ _).alloc (Nat.le_refl _) (.cells #[.int .u8 (kd : Nat), .int .i64 n] 48)))
  have HB := Lib.hid hB
  have fin : ∀ w1, (w.alloc (.cells #[.int .u8 (kd : Nat), .int .i64 n] 48)).grownBy w1 (some g) → Below base w w1 := fun w1 h2 =>
    (((Below.refl _ _).alloc hbase _)).trans (below_at h2 hg0 (by simp; omega))
  have FIN := Lib.hid fin
  have k0 : ((kd : Int) == 0) = false := by rw [beq_eq_false_iff_ne]; omega
  have k1 : ((kd : Int) == 1) = false := by rw [beq_eq_false_iff_ne]; omega
  clear hr hB fin
  by_cases hc : nextCode n (l.length - at_) = 0
  · obtain ⟨m, rfl⟩ : ∃ m : Nat, n = m := by
      rcases Int.lt_or_le n 0 with h | h
      · unfold nextCode at hc; rw [if_pos h] at hc; cases hc
      · exact Int.eq_ofNat_of_zero_le h
    have hfit : at_ + m ≤ l.length := by
      rcases Nat.lt_or_ge (l.length - at_) m with h | h
      · unfold nextCode at hc; rw [if_neg (by omega), if_pos (by omega)] at hc; cases hc
      · omega
    obtain ⟨Y, hY⟩ : ∃ y, (l.drop at_).take m = y := ⟨_, rfl⟩
    have hln : Y.length = m := by rw [← hY]; simp; omega
    have hzc : zrCode l at_ m = zc Y := by unfold zrCode zc; rw [if_pos hc, Int.toNat_natCast, hY]
    have hza : zrAt l at_ m = if zc Y = 0 then at_ + m else at_ := by unfold zrAt; rw [hzc, Int.toNat_natCast]
    have HLN := Lib.hid hln
    have HYE := Lib.hid hY
    obtain ⟨Z, hZ⟩ : ∃ z, zc Y = z := ⟨_, rfl⟩
    rw [hZ] at hzc hza
    have HZ := Lib.hid hZ
    have HZC := Lib.hid hzc
    have HZA := Lib.hid hza
    have hi1 : (m : Int) ≤ (l.length : Int) - (at_ : Int) := by omega
    have q0 : (0 : Int) ≤ (at_ : Int) := by omega
    have hm0 : (0 : Int) ≤ (m : Int) := by omega
    have HCE := Lib.hid hcells
    clear hc hY hln hzc hza hZ hcells
    go_enter Try.func28, Try.ntmps28
    go_wp2_with fail
    refine (zeros_any _ g l at_ m _ HR.out hn1).mono ?_
    rintro e w1 ⟨rfl, hrd, hx⟩
    rw [HZC.out]
    have hw1 := FIN.out w1 hx
    have HRD := Lib.hid hrd
    clear hx hrd
    go_wp2_with fail
    go_loop [12, 20] (fun c i => ∃ j : Nat, j ≤ m ∧ i = .int .i64 j ∧ c = .int .i64 (zc (Y.take j) : Nat)) (fun _ i => m - (intOf i).toNat)
    case atStart => exact ⟨0, Nat.zero_le _, rfl, rfl⟩
    case round =>
      obtain ⟨j, hj, rfl, rfl⟩ := hrel
      have fin2 : zc (Y.take j) = zc Y → True := fun _ => trivial
      clear fin2
      by_cases hz4 : zc (Y.take j) = 4
      · have hz : Z = 4 := by rw [← HZ.out]; exact zc_more Y j hz4
        rw [hz4]
        have HAN := Lib.hid (show zrAt l at_ m = at_ by rw [HZA.out, if_neg (by omega)])
        have hr2 := HRD.out
        rw [HAN.out] at hr2
        subst hz
        clear hz4
        go_wp2_with fail
        go_ret2
        refine ⟨?_, by rw [HAN.out]; exact hr2, hw1⟩
        rw [HAN.out]
        rfl
      · have hz0 : zc (Y.take j) = 0 := (zc_zero _).resolve_right hz4
        have HZ0 := Lib.hid hz0
        rw [hz0]
        clear hz4 hz0
        by_cases hlt : j < m
        · have hjY : j < Y.length := by rw [HLN.out]; exact hlt
          have hgo := zc_take Y j hjY
          rw [if_pos HZ0.out] at hgo
          obtain ⟨bb, oo, rfl⟩ : ∃ bb oo, a = some ⟨bb, oo, none⟩ := by
            obtain ⟨b', o', h, _⟩ := HCE.out (by omega)
            exact ⟨b', o', h⟩
          have hb1 := HB.out w1 hw1
          obtain ⟨a', c', hf, _, _, hcs⟩ := hb1.open
          simp only [Value.slice.injEq] at hf
          obtain ⟨hf1, -, -⟩ := hf
          subst hf1
          obtain ⟨b', o', hf, hcs⟩ := hcs (by omega)
          simp only [Option.some.injEq, Addr.mk.injEq, and_true] at hf
          obtain ⟨rfl, rfl⟩ := hf
          have hcell := hcs (at_ + j) (by omega)
          have hlY : l[at_ + j]'(by omega) = Y[j] := by
            have h1 : Y[j]? = l[at_ + j]? := by rw [← HYE.out, List.getElem?_take, if_pos hlt, List.getElem?_drop]
            rw [List.getElem?_eq_getElem hjY, List.getElem?_eq_getElem (by omega)] at h1
            exact (Option.some.inj h1).symm
          rw [hlY] at hcell
          obtain ⟨x, hx⟩ : ∃ x, Y[j] = x := ⟨_, rfl⟩
          rw [hx] at hcell hgo
          have r0 : (0 : Int) ≤ (j : Int) := by omega
          have r1 : (j : Int) < (m : Int) := by omega
          have r2 : (0 : Int) ≤ (at_ : Int) + (j : Int) := by omega
          have r3 : (at_ : Int) + (j : Int) < (l.length : Int) := by omega
          have HGO := Lib.hid hgo
          clear hb1 hcs hlY hx hgo
          by_cases hx0 : x = 0
          · have hxb : ((x.toNat : Int) != 0) = false := by rw [hx0]; rfl
            have HG2 := Lib.hid (show zc (Y.take (j + 1)) = 0 by rw [HGO.out, if_pos hx0])
            clear hx0
            go_wp2_with fail
            go_round
            case rel => exact ⟨j + 1, by omega, by go_num, by first | (rw [HG2.out]; done) | (rw [HG2.out]; rfl)⟩
            case measure => simp [intOf]; omega
          · have hxb : ((x.toNat : Int) != 0) = true := by
              rw [bne_iff_ne]
              intro e
              exact hx0 (UInt8.toNat_inj.1 (by simpa using e))
            have HG2 := Lib.hid (show zc (Y.take (j + 1)) = 4 by rw [HGO.out, if_neg hx0])
            clear hx0
            go_wp2_with fail
            go_round
            case rel => exact ⟨j + 1, by omega, by go_num, by first | (rw [HG2.out]; done) | (rw [HG2.out]; rfl)⟩
            case measure => simp [intOf]; omega
        · have hjm : j = m := by omega
          have hz : Z = 0 := by
            have h1 := HZ0.out
            rw [hjm, List.take_of_length_le (by rw [HLN.out]; exact Nat.le_refl _), HZ.out] at h1
            exact h1
          have HAN := Lib.hid (show zrAt l at_ m = at_ + m by rw [HZA.out, if_pos hz])
          have hr2 := HRD.out
          rw [HAN.out] at hr2
          subst hz
          clear hjm
          go_wp2_with fail
          go_ret2
          refine ⟨?_, by rw [HAN.out]; exact hr2, hw1⟩
          rw [HAN.out, Int.natCast_add]
          rfl
  · have HZA := Lib.hid (show zrAt l at_ n = at_ by unfold zrAt zrCode; rw [if_neg hc, if_neg hc])
    have hzc : zrCode l at_ n = nextCode n (l.length - at_) := by unfold zrCode; rw [if_neg hc]
    rw [HZA.out]
    by_cases h0 : n < 0
    · have HC := Lib.hid (show zrCode l at_ n = 1 by rw [hzc]; unfold nextCode; rw [if_pos h0])
      clear hc hcells hzc
      go_enter Try.func28, Try.ntmps28
      go_wp2_with fail
      refine (zeros_any _ g l at_ n _ HR.out hn1).mono ?_
      rintro e w1 ⟨rfl, hrd, hx⟩
      rw [HC.out]
      rw [HZA.out] at hrd
      have hw1 := FIN.out w1 hx
      clear hx
      go_wp2_with fail
      refine wp_loop_rounds 1 ?_
      rw [rounds_succ]
      go_wp2_with fail
      go_ret2
      exact ⟨rfl, hrd, hw1⟩
    · have hgt : ((l.length - at_ : Nat) : Int) < n := by
        apply Classical.byContradiction
        intro h
        exact hc (by unfold nextCode; rw [if_neg h0, if_neg h])
      have HC := Lib.hid (show zrCode l at_ n = 3 by rw [hzc]; unfold nextCode; rw [if_neg h0, if_pos hgt])
      have hi1 : (l.length : Int) - (at_ : Int) < n := by omega
      clear hc hcells hgt hzc
      go_enter Try.func28, Try.ntmps28
      go_wp2_with fail
      refine (zeros_any _ g l at_ n _ HR.out hn1).mono ?_
      rintro e w1 ⟨rfl, hrd, hx⟩
      rw [HC.out]
      rw [HZA.out] at hrd
      have hw1 := FIN.out w1 hx
      clear hx
      go_wp2_with fail
      refine wp_loop_rounds 1 ?_
      rw [rounds_succ]
      go_wp2_with fail
      go_ret2
      exact ⟨rfl, hrd, hw1⟩
end Go.Proofs.Ytcmoajbdepohmaa
