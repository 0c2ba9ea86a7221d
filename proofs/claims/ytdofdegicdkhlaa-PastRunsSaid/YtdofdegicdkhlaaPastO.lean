/- The walk of the law PastKeeps. -/
import Derived.Test.YtdofdegicdkhlaaPastN
namespace Go.Proofs.Ytdofdegicdkhlaa
open Go.RowKit Go.Oct

theorem i64_wf_bounds {n : Int} (h : (Lit.int .i64 n).wf = true) : -9223372036854775808 ≤ n ∧ n ≤ 9223372036854775807 := by
  have hmin : IntKind.i64.min = -9223372036854775808 := rfl
  have hmax : IntKind.i64.max = 9223372036854775807 := rfl
  simp only [Lit.wf, Bool.and_eq_true, decide_eq_true_eq] at h
  omega
theorem pastBox_set {w : World} {b : Nat} {v : Value} {c : Int} (h : w.heap[b]? = some (pastBox v c)) (v' : Value) (c' : Int) : ((w.setCell ⟨b, 0, none⟩ v').setCell ⟨b, 1, none⟩ (.int .i64 c')).heap[b]? = some (pastBox v' c') := by
  unfold pastBox at h ⊢
  simp [World.setCell, Array.getElem?_modify, h]
/-- what stands at the head of a round -/
structure KeepSt (w : World) (pb : Nat) (L : List Ver) (a : Option Addr) (cp : Nat) (wr : World) : Prop where
  bx : wr.heap[pb]? = some (pastBox (.slice a L.length cp) ((L.length : Int) - 1))
  vs : Vers wr (.slice a L.length cp) L
  bl : Below w.heap.size w wr
theorem newVers_alloc {base : Nat} {w : World} {v : Value} {l : List Ver} (h : NewVers base w v l) (o : Obj) : NewVers base (w.alloc o) v l := h.below ((Below.refl _ _).alloc (Nat.le_refl _) o)
set_option maxHeartbeats 4000000 in
theorem pastKeeps_walk (n most : Int) (w : World) (w0 : (Lit.int .i64 n).wf = true) (w1 : (Lit.int .i64 most).wf = true) :
    Calls Try.prog 13 #[.int .i64 n, .int .i64 most] w fun e w' => e = .returned (.bool true) ∧ Below w.heap.size w w' := by
  obtain ⟨a0, a1⟩ := i64_wf_bounds w0
  obtain ⟨d0, d1⟩ := i64_wf_bounds w1
  obtain ⟨q, hq⟩ : ∃ q : Nat, n % 40 = (q : Int) := ⟨(n % 40).toNat, by omega⟩
  obtain ⟨m, hm⟩ : ∃ m : Nat, most % 16 = (m : Int) := ⟨(most % 16).toNat, by omega⟩
  have q40 : q < 40 := by omega
  have m16 : m < 16 := by omega
  have HQ := Lib.hid hq
  have HM := Lib.hid hm
  obtain ⟨mo, hmo⟩ : ∃ mo : Nat, mo = m + 1 := ⟨_, rfl⟩
  have HMO := Lib.hid (show (1 : Int) + (m : Int) = (mo : Int) by omega)
  have mo1 : 1 ≤ mo := by omega
  have mo16 : mo ≤ 16 := by omega
  clear w0 w1 hq hm hmo
  go_enter Try.func13, Try.ntmps13
  go_wp2_with fail
  refine (pick_any n 40 _ (by decide) (by decide) (by omega) (by omega)).mono ?_
  rintro e w' ⟨rfl, rfl⟩
  rw [HQ.out]
  go_wp2_with fail
  refine (pick_any most 16 _ (by decide) (by decide) (by omega) (by omega)).mono ?_
  rintro e w' ⟨rfl, rfl⟩
  rw [HM.out]
  go_wp2_with fail
  rw [HMO.out]
  have hb0 := heap_last (w := w.alloc (.cells #[.int .i64 1, .int .i64 1] 41)) (o := pastBox (.slice (some ⟨w.heap.size, 0, none⟩) 1 1) 0) rfl
  have hv0 : Vers ((w.alloc (.cells #[.int .i64 1, .int .i64 1] 41)).alloc (pastBox (.slice (some ⟨w.heap.size, 0, none⟩) 1 1) 0)) (.slice (some ⟨w.heap.size, 0, none⟩) 1 1) [(1, 1)] := Vers.alloc (vers_block (l := [(1, 1)]) (heap_last rfl) rfl (by decide)) _
  have hw0 := below_new (below_new (Below.refl w.heap.size w) (.cells #[.int .i64 1, .int .i64 1] 41)) (pastBox (.slice (some ⟨w.heap.size, 0, none⟩) 1 1) 0)
  have hz0 : w.heap.size + 1 < ((w.alloc (.cells #[.int .i64 1, .int .i64 1] 41)).alloc (pastBox (.slice (some ⟨w.heap.size, 0, none⟩) 1 1) 0)).heap.size := by simp
  rw [sz1] at hb0
  unfold pastBox at hb0 hv0 hw0 hz0
  generalize (w.alloc (.cells #[.int .i64 1, .int .i64 1] 41)).alloc (.cells #[.slice (some ⟨w.heap.size, 0, none⟩) 1 1, .int .i64 0] 39) = w2 at hb0 hv0 hw0 hz0 ⊢
  obtain ⟨pb, hpb⟩ : ∃ pb, pb = w.heap.size + 1 := ⟨_, rfl⟩
  rw [← hpb] at hb0 hz0 ⊢
  have hpb1 : w.heap.size < pb := by omega
  clear hpb
  have hst : KeepSt w pb (keepList mo 0) (some ⟨w.heap.size, 0, none⟩) 1 w2 := ⟨hb0, hv0, hw0⟩
  clear hb0 hv0 hw0
  go_wp2_with fail
  go_loopw [6] (fun i wr => ∃ (k : Nat) (a : Option Addr) (cp : Nat), k ≤ q ∧ i = .int .i64 k ∧ KeepSt w pb (keepList mo k) a cp wr) (fun i _ => q - (intOf i).toNat)
  case atStart => exact ⟨0, _, _, Nat.zero_le _, rfl, hst⟩
  case round =>
    clear hst hz0
    obtain ⟨k, a, cp, hk, rfl, hst⟩ := hrel
    have hll := keepList_len mo k mo1
    have hmy := keepList_may mo k mo1 mo16 (by omega)
    have hkc := keep_com mo k mo1 mo16 (by omega)
    have hel := keepList_eq mo mo1 k
    obtain ⟨L2, hL2⟩ : ∃ x, keepList mo (k + 1) = x := ⟨_, rfl⟩
    obtain ⟨L, hL⟩ : ∃ x, keepList mo k = x := ⟨_, rfl⟩
    rw [hL2] at hkc
    rw [hL] at hst hll hmy hkc hel
    have HKC := Lib.hid hkc
    have HLL := Lib.hid hll
    have HMY := Lib.hid hmy
    have HEL := Lib.hid hel
    have HL2 := Lib.hid hL2
    have HST := Lib.hid hst
    have hl16 : L.length ≤ 16 := by omega
    have hl1 : 1 ≤ L.length := by omega
    have hpbl := (Array.getElem?_eq_some_iff.1 hst.bx).1
    obtain ⟨y0, y1⟩ := pastBox_cells hst.bx
    clear hkc hll hmy hel hL2 hst hL
    by_cases hlt : k < q
    · go_wp2_with fail
      refine (pastCommit_any _ L _ _ _ _ _ HST.out.vs (by omega)).mono ?_
      rintro e w3 ⟨v3, rfl, hn, hx⟩
      rw [HKC.out.2.1] at hn
      rw [HKC.out.1, HKC.out.2.2]
      obtain ⟨g3, c3, hf⟩ := hn.form
      subst hf
      have hb3 := box_below HST.out.bx hx
      have hw3 := below_step HST.out.bl hx
      have HN := Lib.hid hn
      have HB3 := Lib.hid hb3
      obtain ⟨z0, z1⟩ := pastBox_cells hb3
      have hfz := pastBox_free hb3
      have hl3 := (Array.getElem?_eq_some_iff.1 hb3).1
      clear hx hn hb3 y0 y1
      go_wp2_with fail
      go_roundw
      case rel => exact ⟨k + 1, g3, c3, by omega, by go_num, by rw [HL2.out]; exact ⟨heap_keep (pastBox_set HB3.out _ _) _, Vers.alloc (NewVers.sets2 HN.out pb (by omega) _ _).vers _, below_new (sets2_below hw3 (by omega) _ _) _⟩⟩
      case measure => simp [intOf]; omega
    · obtain rfl : k = q := by omega
      have hmin : ∀ (ts : Array TypeId) (t : TypeId) (w : World), (Builtin.min_ ts t #[.int .i64 ((k : Int) + 1), .int .i64 (mo : Int)]).run Try.prog w = .ok (.int .i64 ((L.length : Nat) : Int)) w := by
        intro ts t w
        have h := HLL.out
        have e : (if (mo : Int) < (k : Int) + 1 then (mo : Int) else (k : Int) + 1) = ((L.length : Nat) : Int) := by
          split <;> omega
        rw [run_min_int2, e]
      clear hlt hk
      go_wp2_with fail
      refine (awake17_any _).mono ?_
      rintro e w3 ⟨rfl, hx⟩
      have hb3 := box_below HST.out.bx hx
      have hv3 := HST.out.vs.below hx
      have hw3 := below_step HST.out.bl hx
      obtain ⟨z0, z1⟩ := pastBox_cells hb3
      have hl3 := (Array.getElem?_eq_some_iff.1 hb3).1
      have HV3 := Lib.hid hv3
      clear hx y0 y1 hv3 hb3
      obtain ⟨av, cv, hf, _, _, hcs⟩ := Vers.open HV3.out
      simp only [Value.slice.injEq] at hf
      obtain ⟨rfl, -, rfl⟩ := hf
      obtain ⟨bv, ov, rfl, hbv, hcs⟩ := hcs (by omega)
      have HCS := Lib.hid hcs
      clear hcs
      by_cases hq0 : 0 < k
      all_goals
        go_wp2_with fail
        go_loopw [9] (fun i wr => ∃ j : Nat, j ≤ L.length ∧ i = .int .i64 j ∧ Below w3.heap.size w3 wr) (fun i _ => L.length - (intOf i).toNat)
        case atStart => exact ⟨0, Nat.zero_le _, rfl, Below.refl _ _⟩
        case round =>
          obtain ⟨j, hj, rfl, hnx⟩ := hrel
          have x0 := (hnx.cell hl3).trans z0
          by_cases hlt : j < L.length
          · have hc := (HCS.out j hlt).1
            have hval : L[j].1 = (k : Int) + 1 - ((L.length : Int) - 1 - (j : Int)) := by
              have h1 := HEL.out
              have h2 := HLL.out
              have h3 : L[j] = (diag (k + 2 - min (k + 1) mo) (min (k + 1) mo))[j]'(by rw [diag_length]; omega) := by congr 1
              rw [h3, diag_get]
              simp only
              omega
            rw [hval] at hc
            have c1 := (hnx.cell hbv).trans hc
            have q0 : (0 : Int) ≤ (j : Int) := by omega
            have q1 : (j : Int) < (L.length : Int) := by omega
            have hs1 : IntKind.i64.wrap ((k : Int) + 1) = (k : Int) + 1 := IntWalk.i64_in _ (by omega)
            have hs2 : IntKind.i64.wrap ((L.length : Int) - 1) = (L.length : Int) - 1 := IntWalk.i64_in _ (by omega)
            have hs3 : IntKind.i64.wrap ((L.length : Int) - 1 - (j : Int)) = (L.length : Int) - 1 - (j : Int) := IntWalk.i64_in _ (by omega)
            have hs4 : IntKind.i64.wrap ((k : Int) + 1 - ((L.length : Int) - 1 - (j : Int))) = (k : Int) + 1 - ((L.length : Int) - 1 - (j : Int)) := IntWalk.i64_in _ (by omega)
            clear hc hval
            go_wp2_with fail
            go_quiet (fail)
            clear hs1 hs2 hs3 hs4
            go_wp2_with fail
            go_roundw
            case rel => exact ⟨j + 1, by omega, by go_num, hnx.trans (below_drawn _ _ _)⟩
            case measure => simp [intOf]; omega
          · go_wp2_with fail
            go_ret
            exact ⟨rfl, hw3.trans (hnx.mono hw3.size)⟩
end Go.Proofs.Ytdofdegicdkhlaa
