/- The walks of the laws SuperOpens, SuperSealed, SuperTurned. -/
import Derived.Test.YtdekfbmjhmfmaaaSupG
import Derived.Test.YtdekfbmjhmfmaaaLent
import Derived.Test.YtdekfbmjhmfmaaaBit
namespace Go.Proofs.Ytdekfbmjhmfmaaa
open Go.RowKit Go.Oct

set_option maxHeartbeats 1000000 in
theorem superOpens_walk (v0 : Value) (l0 : List UInt8) (w : World) (B0 : Bytes w v0 l0) (n0 : l0.length ≤ 140737488351232) :
    Calls Try.prog 4 #[v0] w fun e w' => e = .returned (.bool true) ∧ Below w.heap.size w w' := by
  obtain ⟨a0, c0, rfl, -, -, -⟩ := B0.open
  go_enter Try.func4, Try.ntmps4
  go_wp2_with fail
  refine (lent_any _ _ _ B0 (by omega)).mono ?_
  rintro e w1 ⟨v1, rfl, hl1, hx1⟩
  have hb1 := hl1.bytes
  go_wp2_with fail
  refine (superOpen_any _ l0 _ hb1).mono ?_
  rintro e w2 ⟨rfl, hx2⟩
  have B2 := (B0.below hx1).below hx2
  have hl2 := hl1.below hx2
  have hw2 := below_step hx1 hx2
  clear hl1 hb1 hx1 hx2
  go_wp2_with fail
  refine (refOpen16_any _ l0 _ (B2.alloc _)).mono ?_
  rintro e w3 ⟨rfl, hx3⟩
  have B3 := (B2.alloc _).below hx3
  have hl3 := (hl2.below ((Below.refl _ _).alloc (Nat.le_refl _) _)).below hx3
  have hw3 := (below_new hw2 _).trans (hx3.mono (by have := hw2.size; simp; omega))
  have hbx := box_below (heap_last (o := supBox (supOf l0 8 6 : Nat) (supOf l0 14 4 : Nat) (supOf l0 18 1 : Nat) (supOf l0 19 4 : Nat) (supOf l0 23 4 : Nat)) rfl) hx3
  clear hx3 hl2 B2 hw2
  go_wp2_with fail
  refine (awake16_any _).mono ?_
  rintro e w4 ⟨rfl, hx4⟩
  have hw4 := (below_new hw3 _).trans (hx4.mono (by have := hw3.size; simp; omega))
  have hbx4 := box_below (heap_keep hbx _) hx4
  have hbz4 := box_below (heap_last (o := supBox (supOf l0 8 6 : Nat) (supOf l0 14 4 : Nat) (supOf l0 18 1 : Nat) (supOf l0 19 4 : Nat) (supOf l0 23 4 : Nat)) rfl) hx4
  have B4 := (B3.alloc _).below hx4
  have hl4 := (hl3.below ((Below.refl _ _).alloc (Nat.le_refl _) _)).below hx4
  obtain ⟨y0, y1, y2, y3, y4⟩ := supBox_cells hbx4
  obtain ⟨z0, z1, z2, z3, z4⟩ := supBox_cells hbz4
  clear hx4 hl3 B3 hw3 hbx hbx4 hbz4
  go_wp2_with fail
  refine (kept_any _ _ _ l0 _ hl4 B4 (by omega)).mono ?_
  rintro e w5 ⟨rfl, hx5⟩
  go_wp2_with fail
  go_ret
  exact ⟨by simp, below_step hw4 hx5⟩
/-- sixty bytes with their sum behind them -/
theorem sealed_form {l : List UInt8} (h : l.length = 60) : (l ++ numBytes (OctCrc.crc l : Nat) 4).length = 64 ∧ supOpen (l ++ numBytes (OctCrc.crc l : Nat) 4) = if supForm (l ++ numBytes (OctCrc.crc l : Nat) 4) then 0 else 4 := by
  have hl : (l ++ numBytes (OctCrc.crc l : Nat) 4).length = 64 := by rw [List.length_append, crc_bytes, numList_length, h]
  refine ⟨hl, ?_⟩
  unfold supOpen
  rw [if_neg (by rw [hl]; decide), if_neg ?_]
  rw [← h, List.drop_left, List.take_left, crc_bytes, numVal_numList, Nat.mod_eq_of_lt (OctCrc.crc_lt _)]
  simp
theorem supPack_ok {X : List UInt8} (h : supOpen X = 0) : supPack (supOf X 8 6 : Nat) (supOf X 14 4 : Nat) (supOf X 18 1 : Nat) (supOf X 19 4 : Nat) (supOf X 23 4 : Nat) = X ∧ supCode (supOf X 8 6 : Nat) (supOf X 14 4 : Nat) (supOf X 18 1 : Nat) (supOf X 19 4 : Nat) (supOf X 23 4 : Nat) = 0 := by
  obtain ⟨h1, h2⟩ := supPack_of h
  simp only [supOf, h, if_true]
  exact ⟨h1, by rw [supCode, if_pos h2]⟩
set_option maxHeartbeats 1000000 in
theorem superSealed_walk (v0 : Value) (l0 : List UInt8) (w : World) (B0 : Bytes w v0 l0) (_n0 : l0.length ≤ 140737488351232) :
    Calls Try.prog 5 #[v0] w fun e w' => e = .returned (.bool true) ∧ Below w.heap.size w w' := by
  obtain ⟨a0, c0, rfl, hc0, hm0, -⟩ := B0.open
  unfold maxLen at hm0
  by_cases h60 : l0.length = 60
  · obtain ⟨hl, hso⟩ := sealed_form h60
    have HL := Lib.hid hl
    have HSO := Lib.hid hso
    have HS := Lib.hid (show (numBytes (OctCrc.crc l0 : Nat) 4).length = 4 by rw [crc_bytes, numList_length])
    have HC := Lib.hid (show numCode (OctCrc.crc l0 : Nat) 4 = 0 from numCode_ok' (k := 4) (by have := OctCrc.crc_lt l0; omega) (by decide) (by decide))
    have H60 := Lib.hid h60
    have hcr := OctCrc.crc_lt l0
    obtain ⟨i0, hi, hz0, hz1, hz2⟩ := info_parts infoU8
    rw [h60] at B0 hc0 ⊢
    clear hl hso h60
    go_enter Try.func5, Try.ntmps5
    go_wp2_with fail
    refine (awake16_any _).mono ?_
    rintro e w1 ⟨rfl, hx1⟩
    have B1 := B0.below hx1
    go_wp2_with fail
    refine (refOf_any _ l0 _ B1).mono ?_
    rintro e w' ⟨rfl, rfl⟩
    go_wp2_with fail
    refine (refBytes_any _ _ _ (by omega) (by omega) (by omega) (by omega)).mono ?_
    rintro e w2 ⟨vs, rfl, howns, hx2⟩
    rw [HC.out]
    have B2 := B1.below hx2
    have hw2 := below_step hx1 hx2
    go_wp2_with fail
    refine (copy_any _ l0 _ B2 (by rw [H60.out]; decide)).mono ?_
    rintro e w3 ⟨vc, rfl, hownc, hx3⟩
    have hsv := (Has.own howns).below hx3
    rw [H60.out] at hownc
    rw [HS.out] at hsv
    have hw3 := below_step hw2 hx3
    have HSV := Lib.hid hsv
    have HOC := Lib.hid hownc
    have hs2 := hw2.size
    have hs3 := hx3.size
    clear howns hsv hownc B1 B2 hx1 hx2 hx3 hw2
    go_wp2_with (at_builtin; go_loud (refine wpList_append_has _ rfl (.tmp 28) (.tmp 29) 24 rfl w2.heap.size 5 i0 (.int .u8 0) 1 1 Try.underlying24 hi hz0 hz1 hz2 rfl (by decide) vc 60 (bs l0) rfl HOC.out vs 4 _ rfl HSV.out ?c2 (bs_one _) (by decide) (by decide) ?c5 ?_))
    case c2 => rw [bs_length, HS.out]
    case c5 => omega
    intro v4 w4 hown4 hgr4 _
    have hw4 : Below w.heap.size w w4 := hw3.grown hgr4 hw3.size (fun k hk => by have := (HOC.out.lt k hk).1; omega)
    obtain ⟨X, hX⟩ : ∃ X, X = l0 ++ numBytes (OctCrc.crc l0 : Nat) 4 := ⟨_, rfl⟩
    have hB4 : Bytes w4 v4 X := by
      have := Has.own hown4
      rw [← bs_append, ← hX] at this
      unfold Bytes
      rwa [show X.length = 60 + 4 by rw [hX, HL.out]]
    have hso := HSO.out
    have hl := HL.out
    rw [← hX] at hso hl
    have HSX := Lib.hid hso
    have HLX := Lib.hid hl
    clear hX hso hl hgr4 hw3 hown4 HSO HL HOC HSV HC HS
    obtain ⟨g4, c4, hf⟩ : ∃ g c, v4 = .slice g 64 c := by obtain ⟨a, c, h, _⟩ := hB4.open; rw [HLX.out] at h; exact ⟨a, c, h⟩
    subst hf
    go_wp2_with fail
    refine (superOpen_any _ X _ hB4).mono ?_
    rintro e w5 ⟨rfl, hx5⟩
    have hB5 := (hB4.below hx5).alloc (supBox (supOf X 8 6 : Nat) (supOf X 14 4 : Nat) (supOf X 18 1 : Nat) (supOf X 19 4 : Nat) (supOf X 23 4 : Nat))
    have hw5 := below_new (below_step hw4 hx5) (supBox (supOf X 8 6 : Nat) (supOf X 14 4 : Nat) (supOf X 18 1 : Nat) (supOf X 19 4 : Nat) (supOf X 23 4 : Nat))
    clear hx5 hw4 hB4
    go_wp2_with fail
    refine (refOpen16_any _ X _ hB5).mono ?_
    rintro e w6 ⟨rfl, hx6⟩
    have hB6 := hB5.below hx6
    have hbx := box_below (heap_last (o := supBox (supOf X 8 6 : Nat) (supOf X 14 4 : Nat) (supOf X 18 1 : Nat) (supOf X 19 4 : Nat) (supOf X 23 4 : Nat)) rfl) hx6
    have hw6 := below_new (hw5.trans (hx6.mono hw5.size)) (supBox (supOf X 8 6 : Nat) (supOf X 14 4 : Nat) (supOf X 18 1 : Nat) (supOf X 19 4 : Nat) (supOf X 23 4 : Nat))
    have hbx7 := heap_keep hbx (supBox (supOf X 8 6 : Nat) (supOf X 14 4 : Nat) (supOf X 18 1 : Nat) (supOf X 19 4 : Nat) (supOf X 23 4 : Nat))
    have hB7 := hB6.alloc (supBox (supOf X 8 6 : Nat) (supOf X 14 4 : Nat) (supOf X 18 1 : Nat) (supOf X 19 4 : Nat) (supOf X 23 4 : Nat))
    clear hx6 hB5 hw5 hB6
    obtain ⟨y0, y1, y2, y3, y4⟩ := supBox_cells hbx
    have hls := (Array.getElem?_eq_some_iff.1 hbx).1
    clear hbx7
    by_cases hf : supForm X
    · have hz : supOpen X = 0 := by rw [HSX.out, if_pos hf]
      have HSP := Lib.hid (supPack_ok hz)
      rw [hz]
      clear hf hz hbx
      go_wp2_with fail
      refine (superPack_any _ _ _ _ _ _).mono ?_
      rintro e w8 ⟨v8, rfl, hown8, hx8⟩
      rw [HSP.out.1] at hown8
      rw [HSP.out.2]
      have hB8 := hB7.below hx8
      have hD8 : Bytes w8 v8 X := Bytes.own hown8
      have hw8 := below_step hw6 hx8
      clear hown8 hx8 hB7 hw6 y0 y1 y2 y3 y4
      go_wp2_with fail
      refine (same_yes _ _ X _ hD8 hB8).mono ?_
      rintro e w9 ⟨rfl, hx9⟩
      go_wp2_with fail
      go_ret
      exact ⟨rfl, below_step hw8 hx9⟩
    · have hz : supOpen X = 4 := by rw [HSX.out, if_neg hf]
      have h0 : ∀ a k, supOf X a k = 0 := fun a k => by simp [supOf, hz]
      rw [h0 8 6] at y0
      rw [h0 14 4] at y1
      rw [h0 18 1] at y2
      rw [h0 19 4] at y3
      rw [h0 23 4] at y4
      rw [h0 8 6, h0 14 4, h0 18 1, h0 19 4, h0 23 4] at hw6
      rw [hz, h0 8 6, h0 14 4, h0 18 1, h0 19 4, h0 23 4]
      clear hf hz hbx h0 hB7
      go_wp2_with fail
      go_ret
      exact ⟨rfl, hw6⟩
  · have hne : ((l0.length : Int) != 60) = true := by rw [bne_iff_ne]; omega
    clear h60
    go_enter Try.func5, Try.ntmps5
    go_wp2_with fail
    refine (awake16_any _).mono ?_
    rintro e w1 ⟨rfl, hx1⟩
    go_wp2_with fail
    refine (awake16_any _).mono ?_
    rintro e w2 ⟨rfl, hx2⟩
    go_wp2_with fail
    go_ret
    exact ⟨rfl, below_step hx1 hx2⟩
end Go.Proofs.Ytdekfbmjhmfmaaa
