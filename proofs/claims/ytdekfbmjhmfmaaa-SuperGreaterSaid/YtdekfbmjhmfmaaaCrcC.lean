/- The walks of the sums over bytes: crc.Of over pieces, the document's Of over one text. -/
import Derived.Test.YtdekfbmjhmfmaaaCrcA
import Derived.Test.YtdekfbmjhmfmaaaBase
namespace Go.Proofs.Ytdekfbmjhmfmaaa
open Go.RowKit Go.Oct

theorem take_snoc' (l : List UInt8) (k : Nat) (h : k < l.length) : l.take (k + 1) = l.take k ++ [l[k]] := by
  rw [List.take_succ_eq_append_getElem h]
theorem u32xorbyte (s : Nat) (b : UInt8) (hs : s < 4294967296) : bits .xor .u32 (s : Int) ((b.toNat : Int) % 4294967296) = ((s ^^^ b.toNat : Nat) : Int) := by
  rw [Int.emod_eq_of_lt (by omega) (by have := b.toNat_lt; omega)]
  exact u32_xor_nat s b.toNat hs (by have := b.toNat_lt; omega)
theorem u32not (s : Nat) (hs : s < 4294967296) : bits .xor .u32 (s : Int) 4294967295 = ((s ^^^ 4294967295 : Nat) : Int) := u32_xor_nat s 4294967295 hs (by omega)
set_option maxHeartbeats 400000 in
theorem refOf_any (v : Value) (l : List UInt8) (w : World) (hb : Bytes w v l) :
    Calls Try.prog 26 #[v] w fun e w' => e = .returned (.int .u32 (OctCrc.crc l : Nat)) ∧ w = w' := by
  obtain ⟨a, cap, rfl, hcap, hmax, hcells⟩ := hb.open
  unfold maxLen at hmax
  by_cases h0 : l.length = 0
  · rw [h0]
    rw [List.eq_nil_of_length_eq_zero h0]
    clear hcells hb h0
    go_enter Try.func26, Try.ntmps26
    go_wp2
    refine wp_loop_rounds 1 ?_
    rw [rounds_succ]
    go_wp2
    go_ret
    exact ⟨rfl, rfl⟩
  obtain ⟨b, o, rfl, hcs⟩ := hcells (by omega)
  clear hcells hb
  go_enter Try.func26, Try.ntmps26
  go_wp2
  go_loop [3, 4] (fun v i => ∃ k t : Nat, k ≤ l.length ∧ i = .int .i64 k ∧ t < 4294967296 ∧ v = .int .u32 (t : Nat) ∧ t = OctCrc.run 4294967295 (l.take k)) (fun _ i => l.length - (intOf i).toNat)
  case atStart => exact ⟨0, 4294967295, by omega, rfl, by omega, rfl, rfl⟩
  case round =>
    obtain ⟨k, t, hk, rfl, ht, rfl, he⟩ := hrel
    have HE := Lib.hid he
    clear he
    by_cases hlt : k < l.length
    · have hcell := hcs k hlt
      have e1 := u32xorbyte t l[k] ht
      have hxl := OctCrc.xor_byte_lt t l[k] ht
      have HT := Lib.hid (take_snoc' l k hlt)
      clear hcs
      go_wp2_with (go_at_call 48; refine (move_any _ hxl _).mono ?_; rintro e w' ⟨rfl, rfl⟩)
      go_round
      case rel => exact ⟨k + 1, OctCrc.sts 8 (t ^^^ l[k].toNat), by omega, by go_num, OctCrc.sts_lt _ _ hxl, rfl, by rw [HE.out, HT.out, OctCrc.run_snoc]⟩
      case measure => simp [intOf]; omega
    · have e1 := u32not t ht
      go_wp2
      go_ret
      exact ⟨ret_u32 (by have h1 := HE.out; rw [List.take_of_length_le (by omega)] at h1; rw [h1]; rfl), rfl⟩
theorem flatten_snoc (ls : List (List UInt8)) (k : Nat) (h : k < ls.length) : (ls.take (k + 1)).flatten = (ls.take k).flatten ++ ls[k] := by
  rw [List.take_succ_eq_append_getElem h, List.flatten_append]; simp
theorem u32com (s : Nat) (hs : s < 4294967296) : bits .xor .u32 IntKind.u32.max (s : Int) = ((s ^^^ 4294967295 : Nat) : Int) := by
  have h := u32_xor_nat 4294967295 s (by omega) hs
  rw [Nat.xor_comm]
  exact h
/-- v is a slice of slices of bytes that read as these -/
def Pieces (w : World) (v : Value) (ls : List (List UInt8)) : Prop :=
  ∃ vs : List Value, vs.length = ls.length ∧ Has w v ls.length vs ∧ ∀ i (h : i < vs.length) (h' : i < ls.length), Bytes w vs[i] ls[i]
theorem Pieces.below {w w' : World} {v : Value} {ls : List (List UInt8)} (h : Pieces w v ls) (k : Below w.heap.size w w') : Pieces w' v ls := by
  obtain ⟨vs, h1, h2, h3⟩ := h
  exact ⟨vs, h1, h2.below k, fun i hi hi' => (h3 i hi hi').below k⟩
theorem Pieces.two {w : World} {a b : Value} {l m : List UInt8} {g : Nat} {t : TypeId} {f : Nat × Nat} (h : w.heap[g]? = some (.cells #[a, b] t f))
    (ha : Bytes w a l) (hb : Bytes w b m) : Pieces w (.slice (some ⟨g, 0, none⟩) 2 2) [l, m] :=
  ⟨[a, b], rfl, Has.block h (Nat.le_refl _) (by decide) (fun i x hi => by simpa using hi), fun i h h' => by
    match i, h with
    | 0, _ => exact ha
    | 1, _ => exact hb⟩
theorem Pieces.one {w : World} {a : Value} {l : List UInt8} {g : Nat} {t : TypeId} {f : Nat × Nat} (h : w.heap[g]? = some (.cells #[a] t f))
    (ha : Bytes w a l) : Pieces w (.slice (some ⟨g, 0, none⟩) 1 1) [l] :=
  ⟨[a], rfl, Has.block h (Nat.le_refl _) (by decide) (fun i x hi => by simpa using hi), fun i h h' => by
    match i, h with
    | 0, _ => exact ha⟩
set_option maxHeartbeats 800000 in
theorem of_any (v : Value) (ls : List (List UInt8)) (w : World) (hb : Pieces w v ls) :
    Calls Try.prog 39 #[v] w fun e w' => e = .returned (.int .u32 (OctCrc.crc ls.flatten : Nat)) ∧ w = w' := by
  obtain ⟨vs, hvl, hh, hB⟩ := hb
  obtain ⟨a, cap, rfl, hcap, hmax, hcells⟩ := hh.open
  unfold maxLen at hmax
  by_cases h0 : ls.length = 0
  · rw [h0]
    rw [List.eq_nil_of_length_eq_zero h0]
    clear hcells hB hh hvl h0 hcap
    go_enter Try.func39, Try.ntmps39
    go_wp2
    refine wp_loop_rounds 1 ?_
    rw [rounds_succ]
    go_wp2
    go_ret
    exact ⟨rfl, rfl⟩
  obtain ⟨b, o, rfl, hcs⟩ := hcells (by omega)
  clear hcells hh
  have HV := Lib.hid hvl
  have hvl1 : vs.length ≤ ls.length := Nat.le_of_eq hvl
  have hvl2 : ls.length ≤ vs.length := Nat.le_of_eq hvl.symm
  have HC := Lib.hid hcs
  have HB := Lib.hid hB
  clear hvl hcs hB
  go_enter Try.func39, Try.ntmps39
  go_wp2
  go_loop [3, 10] (fun v i => ∃ k t : Nat, k ≤ ls.length ∧ i = .int .i64 k ∧ t < 4294967296 ∧ v = .int .u32 (t : Nat) ∧ t = OctCrc.run 4294967295 (ls.take k).flatten) (fun _ i => ls.length - (intOf i).toNat)
  case atStart => exact ⟨0, 4294967295, by omega, rfl, by omega, rfl, rfl⟩
  case round =>
    obtain ⟨k, t, hk, rfl, ht, rfl, he⟩ := hrel
    have HE := Lib.hid he
    clear he
    by_cases hlt : k < ls.length
    · have hcell := HC.out k (by omega)
      have HT := Lib.hid (flatten_snoc ls k hlt)
      obtain ⟨a2, cap2, hv2, hcap2, hmax2, hcells2⟩ := (HB.out k (by omega) hlt).open
      rw [hv2] at hcell
      clear hv2
      unfold maxLen at hmax2
      by_cases hz : ls[k].length = 0
      · rw [hz] at hcell hcap2
        have HZ := Lib.hid (List.eq_nil_of_length_eq_zero hz)
        clear hcells2 hz
        go_wp2
        refine wp_loop_rounds 1 ?_
        rw [rounds_succ]
        go_wp2
        go_round
        case rel => exact ⟨k + 1, t, by omega, by go_num, ht, rfl, by rw [HE.out, HT.out, HZ.out, List.append_nil]⟩
        case measure => simp [intOf]; omega
      obtain ⟨b2, o2, rfl, hc2⟩ := hcells2 (by omega)
      have HC2 := Lib.hid hc2
      clear hcells2 hc2
      obtain ⟨m, hm⟩ : ∃ m : List UInt8, m = ls[k] := ⟨_, rfl⟩
      rw [← hm] at hcell hcap2 HC2 HT hz
      clear hm
      go_wp2
      go_loop [3, 16] (fun v i => ∃ j t : Nat, j ≤ m.length ∧ i = .int .i64 j ∧ t < 4294967296 ∧ v = .int .u32 (t : Nat) ∧ t = OctCrc.run 4294967295 ((ls.take k).flatten ++ m.take j)) (fun _ i => m.length - (intOf i).toNat)
      case atStart => exact ⟨0, t, by omega, rfl, ht, rfl, by rw [HE.out, List.take_zero, List.append_nil]⟩
      case round =>
        obtain ⟨j, t2, hj, rfl, ht2, rfl, he⟩ := hrel
        have HE2 := Lib.hid he
        clear he
        by_cases hlt2 : j < m.length
        · have hcell2 := HC2.out j hlt2
          have e1 := u32xorbyte t2 m[j] ht2
          have hxl := OctCrc.xor_byte_lt t2 m[j] ht2
          have HT2 := Lib.hid (take_snoc' m j hlt2)
          go_wp2
          go_loop [3, 24] (fun v i => ∃ r t3 : Nat, r ≤ 8 ∧ i = .int .i64 r ∧ t3 < 4294967296 ∧ v = .int .u32 (t3 : Nat) ∧ OctCrc.sts (8 - r) t3 = OctCrc.sts 8 (t2 ^^^ m[j].toNat)) (fun _ i => 8 - (intOf i).toNat)
          case atStart => exact ⟨0, _, by omega, rfl, hxl, rfl, rfl⟩
          case round =>
            obtain ⟨r, t3, hr, rfl, ht3, rfl, he⟩ := hrel
            have HE3 := Lib.hid he
            clear he
            by_cases hlt3 : r < 8
            · have HN := Lib.hid (show OctCrc.sts (8 - r) t3 = OctCrc.sts (8 - (r + 1)) (OctCrc.st t3) by rw [show 8 - r = (8 - (r + 1)) + 1 by omega]; rfl)
              go_wp2_with (go_at_call 50; refine (step_any t3 ht3 _).mono ?_; rintro e w' ⟨rfl, rfl⟩)
              go_round
              case rel => exact ⟨r + 1, OctCrc.st t3, by omega, by go_num, OctCrc.st_lt _ ht3, rfl, by rw [← HN.out, HE3.out]⟩
              case measure => simp [intOf]; omega
            · have HX := Lib.hid (show t3 = OctCrc.sts 8 (t2 ^^^ m[j].toNat) by have h1 := HE3.out; rw [show 8 - r = 0 by omega] at h1; exact h1)
              go_wp2
              go_round
              case rel => exact ⟨j + 1, t3, by omega, by go_num, ht3, rfl, by rw [HX.out, HE2.out, HT2.out, ← List.append_assoc, OctCrc.run_snoc]⟩
              case measure => simp [intOf]; omega
        · go_wp2
          go_round
          case rel => exact ⟨k + 1, t2, by omega, by go_num, ht2, rfl, by have h1 := HE2.out; rw [show m.take j = m from List.take_of_length_le (by omega)] at h1; rw [h1, HT.out]⟩
          case measure => simp [intOf]; omega
    · have e1 := u32com t ht
      go_wp2
      go_ret
      exact ⟨ret_u32 (by have h1 := HE.out; rw [List.take_of_length_le (by omega)] at h1; rw [h1]; rfl), rfl⟩
theorem of_one (a : Value) (l : List UInt8) (g : Nat) (t : TypeId) (f : Nat × Nat) (w : World) (h : w.heap[g]? = some (.cells #[a] t f)) (ha : Bytes w a l) :
    Calls Try.prog 39 #[.slice (some ⟨g, 0, none⟩) 1 1] w fun e w' => e = .returned (.int .u32 (OctCrc.crc l : Nat)) ∧ w = w' := by
  have := of_any _ [l] w (Pieces.one h ha)
  simpa using this
theorem of_two (a b : Value) (l m : List UInt8) (g : Nat) (t : TypeId) (f : Nat × Nat) (w : World) (h : w.heap[g]? = some (.cells #[a, b] t f)) (ha : Bytes w a l) (hb : Bytes w b m) :
    Calls Try.prog 39 #[.slice (some ⟨g, 0, none⟩) 2 2] w fun e w' => e = .returned (.int .u32 (OctCrc.crc (l ++ m) : Nat)) ∧ w = w' := by
  have := of_any _ [l, m] w (Pieces.two h ha hb)
  simpa using this
end Go.Proofs.Ytdekfbmjhmfmaaa
