/- The walk of the layer's awake. -/
import Derived.Test.YtdekfbmjhmfmaaaPgC
import Derived.Test.YtdekfbmjhmfmaaaLent
import Derived.Test.YtdekfbmjhmfmaaaBit
namespace Go.Proofs.Ytdekfbmjhmfmaaa
open Go.RowKit Go.Oct

theorem pgOpen_other4 {no m : Int} {b : List UInt8} (h : pgOpen no b = 0) (hm : m ≠ no) (h0 : 0 ≤ m) (h1 : m < 1048576) : pgOpen m b = 4 := by
  obtain ⟨_, _, hl, hs, hf⟩ := pgOpen_ok h
  exact pgForm_code (by omega) hl hs (fun h2 => hm (h2.2.2.2.2.1.symm.trans hf.2.2.2.2.1))
theorem PgV.full {base : Nat} {w : World} {v : Value} {P : List UInt8} (h : PgV base w v P) (hl : P.length = 256) : ∃ g, v = .slice (some ⟨g, 0, none⟩) 256 256 ∧ base ≤ g ∧ w.heap[g]? = some (.cells (bs P).toArray 80 (0, 0)) := by
  rcases h with ⟨_, rfl⟩ | ⟨g, h1, h2, _, h3⟩
  · simp at hl
  · exact ⟨g, h1, h2, h3⟩
theorem page_cell {w : World} {g : Nat} {P : List UInt8} {t : TypeId} {f : Nat × Nat} (h : w.heap[g]? = some (.cells (bs P).toArray t f)) (i : Nat) (b : UInt8) (hi : P[i]? = some b) : w.cell? ⟨g, i, none⟩ = some (.int .u8 (b.toNat : Int)) := by
  rw [World.cell_block h]
  simp [bs, hi]
theorem page_free {w : World} {g : Nat} {P : List UInt8} {t : TypeId} (h : w.heap[g]? = some (.cells (bs P).toArray t (0, 0))) (i : Nat) : w.frozen? ⟨g, i, none⟩ = false := by simp [World.frozen?, h]
theorem page_bytes {w : World} {g : Nat} {P : List UInt8} {t : TypeId} {f : Nat × Nat} (h : w.heap[g]? = some (.cells (bs P).toArray t f)) (hl : P.length = 256) : Bytes w (.slice (some ⟨g, 0, none⟩) 256 256) P :=
  Bytes.block (n := 256) (cap := 256) h hl.symm (Nat.le_refl _) (by decide) (by rw [List.take_of_length_le]; simp [bs_length, hl])
set_option maxRecDepth 100000 in
set_option maxHeartbeats 2000000 in
theorem awake05_any (w : World) : Calls Try.prog 30 #[] w fun e w' => e = .returned (.bool true) ∧ Below w.heap.size w w' := by
  have hM : pgMay 3 2 := by decide
  have hL : ([7] : List UInt8).length ≤ 244 := by decide
  have HC := Lib.hid (pgCode_mk (l := [7]) hM hL)
  obtain ⟨o1, o2, o3⟩ := pgOpen_pack (l := [7]) hM hL
  have hlen := pgPack_len (l := [7]) hM hL
  obtain ⟨_, _, p3, p4, _⟩ := pgPack_parts (l := [7]) hM hL
  obtain ⟨P, hP⟩ : ∃ P, pgPack 3 2 [7] = P := ⟨_, rfl⟩
  rw [hP] at o1 o2 o3 hlen p3 p4
  have o4 := pgOpen_other4 (m := 4) o1 (by decide) (by decide) (by decide)
  have h12 : P[12]? = some 7 := by
    have : (P.drop 12)[0]? = some 7 := by rw [p3]; rfl
    simpa using this
  have hfr : P.take 8 = [2, 0, 1, 0, 3, 0, 0, 0] := by rw [p4]; decide
  have HP := Lib.hid hP
  have HL := Lib.hid hlen
  have H12 := Lib.hid h12
  have HFR := Lib.hid hfr
  have HO1 := Lib.hid o1
  have HO2 := Lib.hid (show pgKind 3 P = 2 by omega)
  have HO3 := Lib.hid o3
  have HO4 := Lib.hid o4
  clear o1 o2 o3 o4 hlen p3 p4 hP h12 hfr hM hL
  go_enter Try.func30, Try.ntmps30
  go_wp2_with fail
  refine (pagePack_any 3 2 _ [7] _ (Bytes.block (l := [7]) (n := 1) (cap := 1) (heap_last rfl) rfl (by decide) (by decide) rfl) (by decide) (by decide)).mono ?_
  rintro e w1 ⟨v1, rfl, hv, hx⟩
  rw [HP.out] at hv
  rw [HC.out]
  obtain ⟨g, rfl, hg, hbx⟩ := hv.full HL.out
  have hw1 := (below_new (Below.refl w.heap.size w) _).trans (hx.mono (by simp))
  have HBX := Lib.hid hbx
  have hB1 := page_bytes hbx HL.out
  have hT := hB1.take 8 (by decide)
  rw [HFR.out] at hT
  have HB1 := Lib.hid hB1
  have HT := Lib.hid hT
  clear hx hv hbx hB1 hT hg
  go_wp2_with fail
  refine (same_yes _ _ [2, 0, 1, 0, 3, 0, 0, 0] _ (HT.out.alloc _) (Bytes.block (l := [2, 0, 1, 0, 3, 0, 0, 0]) (n := 8) (cap := 8) (heap_last rfl) rfl (by decide) (by decide) rfl)).mono ?_
  rintro e w2 ⟨rfl, hx⟩
  have hbx2 := box_below (heap_keep HBX.out _) hx
  have hw2 := (below_new hw1 _).trans (hx.mono (by have := hw1.size; simp; omega))
  have c12 : w2.cell? ⟨g, 12, none⟩ = some (.int .u8 7) := page_cell hbx2 12 7 H12.out
  have HBX2 := Lib.hid hbx2
  clear hx hw1 hbx2 HBX HB1 HT
  go_wp2_with fail
  refine (pageOpen_any 3 _ P _ (page_bytes HBX2.out HL.out)).mono ?_
  rintro e w3 ⟨v3, rfl, hown, hx⟩
  rw [HO3.out] at hown
  rw [HO1.out, HO2.out]
  have HBX3 := Lib.hid (box_below HBX2.out hx)
  have HV3 := Lib.hid (show Bytes w3 v3 [7] from Bytes.own hown)
  have hw3 := below_step hw2 hx
  clear hx hown hw2 HBX2 c12
  go_wp2_with fail
  refine (pageOpen_any 4 _ P _ (page_bytes HBX3.out HL.out)).mono ?_
  rintro e w4 ⟨v4, rfl, -, hx⟩
  rw [HO4.out]
  have HV4 := Lib.hid (HV3.out.below hx)
  have hw4 := below_step hw3 hx
  clear hx hw3 HBX3 HV3
  go_wp2_with fail
  refine (same_yes _ _ [7] _ (HV4.out.alloc _) (Bytes.block (l := [7]) (n := 1) (cap := 1) (heap_last rfl) rfl (by decide) (by decide) rfl)).mono ?_
  rintro e w5 ⟨rfl, hx⟩
  have hw5 := (below_new hw4 _).trans (hx.mono (by have := hw4.size; simp; omega))
  clear hx hw4
  go_wp2_with fail
  go_ret
  exact ⟨rfl, hw5⟩
end Go.Proofs.Ytdekfbmjhmfmaaa
