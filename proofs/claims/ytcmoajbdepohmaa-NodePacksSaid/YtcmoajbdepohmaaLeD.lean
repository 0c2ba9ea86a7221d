/- The answers that are fixed: octavolaw01.awake answers true. -/
import Derived.Test.YtcmoajbdepohmaaRdrN
namespace Go.Proofs.Ytcmoajbdepohmaa
open Go.RowKit Go.Oct

theorem below_of_grown {w w' : World} {B g : Nat} (h : w.grownBy w' (some g)) (hB : B ≤ w.heap.size) (hg : B ≤ g) : Below B w w' :=
  ⟨h.os, h.tape, h.output, h.size, fun k hk => h.block k (by omega) (fun e => by have := Option.some.inj e; omega)⟩
theorem below_step {w w1 w2 : World} (h : Below w.heap.size w w1) (k : Below w1.heap.size w1 w2) : Below w.heap.size w w2 := h.trans (k.mono h.size)
set_option maxHeartbeats 400000 in
theorem awake01_any (w : World) : Calls Try.prog 17 #[] w fun e w' => e = .returned (.bool true) ∧ Below w.heap.size w w' := by
  have p1 : numCode 258 2 = 0 := by decide
  have p2 : numBytes 258 2 = [2, 1] := by decide
  have p3 : valCode [2, 1] = 0 := by decide
  have p4 : numOf [2, 1] = 258 := by decide
  have p5 : rdCode [7] 0 1 = 0 := by decide
  have p6 : rdVal [7] 0 1 = 7 := by decide
  have p7 : rdAt [7] 0 1 = 1 := by decide
  have P1 := Lib.hid p1
  have P2 := Lib.hid p2
  have P3 := Lib.hid p3
  have P4 := Lib.hid p4
  have P5 := Lib.hid p5
  have P6 := Lib.hid p6
  have P7 := Lib.hid p7
  clear p1 p2 p3 p4 p5 p6 p7
  go_enter Try.func17, Try.ntmps17
  go_wp2_with fail
  refine (numBytes_any 258 2 _ (by decide) (by decide) (by decide) (by decide)).mono ?_
  rintro e w1 ⟨b, rfl, hown, hx1⟩
  rw [P1.out]
  rw [P2.out] at hown
  have hb := Bytes.own hown
  clear hown
  go_wp2_with fail
  refine (leInt_any _ [2, 1] _ (Bytes.block (heap_last rfl) rfl (by decide) (by decide) rfl)).mono ?_
  rintro e w' ⟨rfl, rfl⟩
  rw [P3.out, P4.out]
  have hb2 := hb.alloc (.cells #[.int .u8 2, .int .u8 1] 5)
  clear hb
  go_wp2_with fail
  refine (on_any _ [7] _ (Bytes.block (heap_last (by simp)) rfl (by decide) (by decide) rfl) (by decide)).mono ?_
  rintro e w3 ⟨g, rfl, hr, hx3⟩
  have hb3 := (hb2.alloc (.cells #[.int .u8 7] 5)).below hx3
  have hx4 := below_step (below_new (below_new hx1 _) _) hx3
  have hgB : w.heap.size ≤ g := by
    have h1 := hr.1
    have h2 := hx1.size
    simp at h1
    omega
  clear hb2 hx3
  go_wp2_with fail
  refine (rdInt_any _ g [7] 0 1 _ hr (by decide)).mono ?_
  rintro e w4 ⟨rfl, hr4, hx5⟩
  rw [P5.out, P6.out]
  rw [P7.out] at hr4
  have hb4 := bytes_apart hb3 hr hx5
  have hx6 := hx4.trans (below_of_grown hx5 hx4.size hgB)
  clear hb3 hr hx4 hx5
  go_wp2_with fail
  refine (same_any _ _ [2, 1] [2, 1] _ (hb4.alloc _) (Bytes.block (heap_last rfl) rfl (by decide) (by decide) rfl)).mono ?_
  rintro e w5 ⟨rfl, hx7⟩
  have hr5 := (hr4.below ((Below.refl _ _).alloc (Nat.le_refl _) (.cells #[.int .u8 2, .int .u8 1] 5))).below hx7
  have hx8 := below_step (below_new hx6 _) hx7
  go_wp2_with fail
  refine (place_any _ g [7] 1 _ hr5).mono ?_
  rintro e w' ⟨rfl, rfl⟩
  go_wp2_with fail
  go_ret
  exact ⟨rfl, hx8⟩
end Go.Proofs.Ytcmoajbdepohmaa
