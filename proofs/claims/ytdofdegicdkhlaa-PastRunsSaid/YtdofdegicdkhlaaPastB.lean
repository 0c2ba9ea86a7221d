/- The walks of past.listed and octavoref17.Listed: whether a list of versions may be. -/
import Derived.Test.YtdofdegicdkhlaaPastA
namespace Go.Proofs.Ytdofdegicdkhlaa
open Go.RowKit Go.Oct

set_option maxHeartbeats 1000000 in
theorem listed17_any (v : Value) (l : List Ver) (w : World) (hB : Vers w v l) :
    Calls Try.prog 46 #[v] w fun e w' => e = .returned (.bool (decide (listMay l))) ∧ Below w.heap.size w w' := by
  obtain ⟨a, cap, rfl, hcap, hmax, hcells⟩ := hB.open
  unfold maxLen at hmax
  by_cases h0 : l.length = 0
  · rw [show decide (listMay l) = false from decide_eq_false (by unfold listMay; omega)]
    rw [h0]
    clear hB hcells hcap h0
    go_enter Try.func46, Try.ntmps46
    go_wp2_with fail
    refine wp_loop_rounds 1 ?_
    rw [rounds_succ]
    go_wp2_with fail
    go_ret
    exact ⟨rfl, Below.refl _ _⟩
  obtain ⟨b, o, rfl, hbl, hcs⟩ := hcells (by omega)
  have HCS := Lib.hid hcs
  clear hcells hcs hB
  go_enter Try.func46, Try.ntmps46
  go_wp2_with fail
  go_loopw [7] (fun i wr => ∃ k : Nat, k ≤ l.length ∧ i = .int .i64 k ∧ (∀ v ∈ l.take k, verMay v) ∧ Below w.heap.size w wr) (fun i _ => l.length - (intOf i).toNat)
  case atStart => exact ⟨0, Nat.zero_le _, rfl, by simp, Below.refl _ _⟩
  case round =>
    obtain ⟨k, hk, rfl, hall, hnx⟩ := hrel
    have HA := Lib.hid hall
    have hsz := hnx.size
    clear hall
    by_cases hlt : k < l.length
    · have hc1 := (hnx.cell (p := ⟨b, o + k * 2, none⟩) hbl).trans (HCS.out k hlt).1
      have hc2 := (hnx.cell (p := ⟨b, o + k * 2 + 1, none⟩) hbl).trans (HCS.out k hlt).2
      have HT := Lib.hid (show l.take (k + 1) = l.take k ++ [l[k]] by rw [List.take_succ_eq_append_getElem hlt])
      have HN := Lib.hid (fun (h : ¬ verMay l[k]) => show ¬ listMay l from fun hl => h (hl.2.2 _ (List.getElem_mem _)))
      obtain ⟨x, hx⟩ : ∃ x, x = l[k] := ⟨_, rfl⟩
      rw [← hx] at hc1 hc2 HT HN
      clear hx
      obtain ⟨x1, x2⟩ := x
      go_wp2_with fail
      refine (may17_any x1 x2 _).mono ?_
      rintro e w2 ⟨rfl, hx2⟩
      have hnx2 : Below w.heap.size w w2 := (below_new hnx _).trans (hx2.mono (by simp; omega))
      clear hc1 hc2 hx2
      by_cases hm : verMay (x1, x2)
      · have HM := Lib.hid hm
        rw [show decide (verMay (x1, x2)) = true from decide_eq_true hm]
        clear hm
        go_wp2_with fail
        go_roundw
        case rel =>
          refine ⟨k + 1, by omega, by go_num, ?_, hnx2⟩
          rw [HT.out]
          intro v hv
          rcases List.mem_append.1 hv with h | h
          · exact HA.out v h
          · rw [List.mem_singleton.1 h]; exact HM.out
        case measure => simp [intOf]; omega
      · have HF := Lib.hid (HN.out hm)
        rw [show decide (verMay (x1, x2)) = false from decide_eq_false hm]
        clear hm
        go_wp2_with fail
        go_ret
        exact ⟨by rw [show decide (listMay l) = false from decide_eq_false HF.out]; rfl, hnx2⟩
    · have hall2 := HA.out
      rw [List.take_of_length_le (by omega)] at hall2
      have HL := Lib.hid hall2
      clear hall2
      by_cases h16 : l.length ≤ 16
      · have HF := Lib.hid (show listMay l from ⟨by omega, h16, HL.out⟩)
        go_wp2_with fail
        go_ret
        exact ⟨by rw [show decide (listMay l) = true from decide_eq_true HF.out]; simp; omega, hnx⟩
      · have HF := Lib.hid (show ¬ listMay l from fun h => h16 h.2.1)
        go_wp2_with fail
        go_ret
        exact ⟨by rw [show decide (listMay l) = false from decide_eq_false HF.out]; simp; omega, hnx⟩
set_option maxHeartbeats 1000000 in
theorem refListed17_any (v : Value) (l : List Ver) (w : World) (hB : Vers w v l) :
    Calls Try.prog 45 #[v] w fun e w' => e = .returned (.bool (decide (listMay l))) ∧ Below w.heap.size w w' := by
  obtain ⟨a, cap, rfl, hcap, hmax, hcells⟩ := hB.open
  unfold maxLen at hmax
  by_cases h0 : l.length < 1
  · rw [show decide (listMay l) = false from decide_eq_false (by unfold listMay; omega)]
    clear hB hcells hcap
    go_enter Try.func45, Try.ntmps45
    go_wp2_with fail
    go_ret
    exact ⟨rfl, Below.refl _ _⟩
  by_cases h16 : 16 < l.length
  · rw [show decide (listMay l) = false from decide_eq_false (by unfold listMay; omega)]
    clear hB hcells hcap
    go_enter Try.func45, Try.ntmps45
    go_wp2_with fail
    go_ret
    exact ⟨rfl, Below.refl _ _⟩
  obtain ⟨b, o, rfl, hbl, hcs⟩ := hcells (by omega)
  have HCS := Lib.hid hcs
  clear hcells hcs hB
  go_enter Try.func45, Try.ntmps45
  go_wp2_with fail
  go_loopw [3] (fun i wr => ∃ k : Nat, k ≤ l.length ∧ i = .int .i64 k ∧ (∀ v ∈ l.take k, verMay v) ∧ Below w.heap.size w wr) (fun i _ => l.length - (intOf i).toNat)
  case atStart => exact ⟨0, Nat.zero_le _, rfl, by simp, Below.refl _ _⟩
  case round =>
    obtain ⟨k, hk, rfl, hall, hnx⟩ := hrel
    have HA := Lib.hid hall
    have hsz := hnx.size
    clear hall
    by_cases hlt : k < l.length
    · have hc1 := (hnx.cell (p := ⟨b, o + k * 2, none⟩) hbl).trans (HCS.out k hlt).1
      have hc2 := (hnx.cell (p := ⟨b, o + k * 2 + 1, none⟩) hbl).trans (HCS.out k hlt).2
      have HT := Lib.hid (show l.take (k + 1) = l.take k ++ [l[k]] by rw [List.take_succ_eq_append_getElem hlt])
      have HN := Lib.hid (fun (h : ¬ verMay l[k]) => show ¬ listMay l from fun hl => h (hl.2.2 _ (List.getElem_mem _)))
      obtain ⟨x, hx⟩ : ∃ x, x = l[k] := ⟨_, rfl⟩
      rw [← hx] at hc1 hc2 HT HN
      clear hx
      obtain ⟨x1, x2⟩ := x
      go_wp2_with fail
      refine (one17_any x1 x2 _).mono ?_
      rintro e w2 ⟨rfl, hx2⟩
      have hnx2 : Below w.heap.size w w2 := hnx.trans (hx2.mono hsz)
      clear hc1 hc2 hx2
      by_cases hm : verMay (x1, x2)
      · have HM := Lib.hid hm
        rw [show decide (verMay (x1, x2)) = true from decide_eq_true hm]
        clear hm
        go_wp2_with fail
        go_roundw
        case rel =>
          refine ⟨k + 1, by omega, by go_num, ?_, hnx2⟩
          rw [HT.out]
          intro v hv
          rcases List.mem_append.1 hv with h | h
          · exact HA.out v h
          · rw [List.mem_singleton.1 h]; exact HM.out
        case measure => simp [intOf]; omega
      · have HF := Lib.hid (HN.out hm)
        rw [show decide (verMay (x1, x2)) = false from decide_eq_false hm]
        clear hm
        go_wp2_with fail
        go_ret
        exact ⟨by rw [show decide (listMay l) = false from decide_eq_false HF.out]; rfl, hnx2⟩
    · have hall2 := HA.out
      rw [List.take_of_length_le (by omega)] at hall2
      have HF := Lib.hid (show listMay l from ⟨by omega, by omega, hall2⟩)
      clear hall2
      go_wp2_with fail
      go_ret
      exact ⟨by rw [show decide (listMay l) = true from decide_eq_true HF.out]; rfl, hnx⟩
end Go.Proofs.Ytdofdegicdkhlaa
