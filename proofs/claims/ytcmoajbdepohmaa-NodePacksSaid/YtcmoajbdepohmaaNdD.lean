/- Layer 13: the numbers of four bytes. -/
import Derived.Test.YtcmoajbdepohmaaNkPlain
import Derived.Test.YtcmoajbdepohmaaLeB
import Derived.Test.YtcmoajbdepohmaaLeC
import Derived.Test.YtcmoajbdepohmaaRdrB
namespace Go.Proofs.Ytcmoajbdepohmaa
open Go.RowKit Go.Oct
set_option maxHeartbeats 1000000 in
theorem refFour_any (n : Int) (w : World) (h0 : -9223372036854775808 ≤ n) (h1 : n ≤ 9223372036854775807) :
    Calls Try.prog 46 #[.int .i64 n] w fun e w' => ∃ v, e = .returned v ∧ w'.ownsRow w.heap.size 5 1 v (numBytes (opn n) 4).length (bs (numBytes (opn n) 4)) ∧ Below w.heap.size w w' := by
  by_cases hn : n = -1
  · subst hn
    have ho : opn (-1) = 4294967295 := rfl
    rw [ho]
    go_enter Try.func46, Try.ntmps46
    go_wp2_with fail
    refine (refBytes_any 4294967295 4 w (by decide) (by decide) (by decide) (by decide)).mono ?_
    rintro e w1 ⟨v, rfl, ho1, hx⟩
    go_wp2_with fail
    go_ret
    exact ⟨_, rfl, ho1, hx⟩
  · have ho : opn n = n := if_neg hn
    have hb : (n == -1) = false := by rw [beq_eq_false_iff_ne]; exact hn
    rw [ho]
    clear hn
    go_enter Try.func46, Try.ntmps46
    go_wp2_with fail
    refine (refBytes_any n 4 w h0 h1 (by decide) (by decide)).mono ?_
    rintro e w1 ⟨v, rfl, ho1, hx⟩
    go_wp2_with fail
    go_ret
    exact ⟨_, rfl, ho1, hx⟩
set_option maxHeartbeats 1000000 in
theorem refNumber_any (v : Value) (l : List UInt8) (w : World) (hB : Bytes w v l) :
    Calls Try.prog 51 #[v] w fun e w' => e = .returned (.int .i64 (unopn (numOf l : Nat))) ∧ w = w' := by
  obtain ⟨a, cap, rfl, -, -, -⟩ := hB.open
  obtain ⟨N, hN⟩ : ∃ N, N = numOf l := ⟨_, rfl⟩
  rw [← hN]
  have HN := Lib.hid hN
  clear hN
  by_cases hn : ((N : Nat) : Int) = 4294967295
  · have HU := Lib.hid (show unopn ((N : Nat) : Int) = -1 from if_pos hn)
    have hb : (((N : Nat) : Int) == 4294967295) = true := by rw [beq_iff_eq]; exact hn
    clear hn
    go_enter Try.func51, Try.ntmps51
    go_wp2_with fail
    refine (refInt_any _ l w hB).mono ?_
    rintro e w1 ⟨rfl, rfl⟩
    rw [← HN.out]
    go_wp2_with fail
    go_ret
    rw [HU.out]
    exact ⟨rfl, rfl⟩
  · have HU := Lib.hid (show unopn ((N : Nat) : Int) = N from if_neg hn)
    have hb : (((N : Nat) : Int) == 4294967295) = false := by rw [beq_eq_false_iff_ne]; exact hn
    clear hn
    go_enter Try.func51, Try.ntmps51
    go_wp2_with fail
    refine (refInt_any _ l w hB).mono ?_
    rintro e w1 ⟨rfl, rfl⟩
    rw [← HN.out]
    go_wp2_with fail
    go_ret
    rw [HU.out]
    exact ⟨rfl, rfl⟩
set_option maxHeartbeats 1000000 in
theorem nodeFour_any (base g : Nat) (l : List UInt8) (at_ : Nat) (w : World) (hr : Reader base w g l at_) :
    Calls Try.prog 50 #[.pointer (some ⟨g, 0, none⟩)] w fun e w' => e = .returned (.int .i64 (unopn (rdVal l at_ 4 : Nat))) ∧ Reader base w' g l (rdAt l at_ 4) ∧ w.grownBy w' (some g) := by
  obtain ⟨N, hN⟩ : ∃ N, N = rdVal l at_ 4 := ⟨_, rfl⟩
  rw [← hN]
  have HN := Lib.hid hN
  clear hN
  by_cases hn : ((N : Nat) : Int) = 4294967295
  · have HU := Lib.hid (show unopn ((N : Nat) : Int) = -1 from if_pos hn)
    have hb : (((N : Nat) : Int) == 4294967295) = true := by rw [beq_iff_eq]; exact hn
    clear hn
    go_enter Try.func50, Try.ntmps50
    go_wp2_with fail
    refine (rdInt_any base g l at_ 4 w hr (by decide)).mono ?_
    rintro e w1 ⟨rfl, h1, h2⟩
    rw [← HN.out]
    go_wp2_with fail
    go_ret
    rw [HU.out]
    exact ⟨rfl, h1, h2⟩
  · have HU := Lib.hid (show unopn ((N : Nat) : Int) = N from if_neg hn)
    have hb : (((N : Nat) : Int) == 4294967295) = false := by rw [beq_eq_false_iff_ne]; exact hn
    clear hn
    go_enter Try.func50, Try.ntmps50
    go_wp2_with fail
    refine (rdInt_any base g l at_ 4 w hr (by decide)).mono ?_
    rintro e w1 ⟨rfl, h1, h2⟩
    rw [← HN.out]
    go_wp2_with fail
    go_ret
    rw [HU.out]
    exact ⟨rfl, h1, h2⟩
end Go.Proofs.Ytcmoajbdepohmaa
