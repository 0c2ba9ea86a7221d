/- The walks of the laws PagePacks and PageOpens. -/
import Derived.Test.YtdekfbmjhmfmaaaPgE
import Derived.Test.YtdekfbmjhmfmaaaSupM
namespace Go.Proofs.Ytdekfbmjhmfmaaa
open Go.RowKit Go.Oct

theorem i64_wf_bounds {n : Int} (h : (Lit.int .i64 n).wf = true) : -9223372036854775808 ≤ n ∧ n ≤ 9223372036854775807 := by
  have hmin : IntKind.i64.min = -9223372036854775808 := rfl
  have hmax : IntKind.i64.max = 9223372036854775807 := rfl
  simp only [Lit.wf, Bool.and_eq_true, decide_eq_true_eq] at h
  omega
set_option maxHeartbeats 1000000 in
theorem pagePacks_walk (no kind : Int) (v : Value) (l : List UInt8) (w : World) (w0 : (Lit.int .i64 no).wf = true) (_w1 : (Lit.int .i64 kind).wf = true) (B : Bytes w v l) (n0 : l.length ≤ 140737488351232) :
    Calls Try.prog 7 #[.int .i64 no, .int .i64 kind, v] w fun e w' => e = .returned (.bool true) ∧ Below w.heap.size w w' := by
  obtain ⟨a0, a1⟩ := i64_wf_bounds w0
  obtain ⟨ab, cb, rfl, -, -, -⟩ := B.open
  obtain ⟨P, hP⟩ : ∃ P, pgPack no kind l = P := ⟨_, rfl⟩
  obtain ⟨K, hK⟩ : ∃ K, pgCode no kind l = K := ⟨_, rfl⟩
  have HP := Lib.hid hP
  have HK := Lib.hid hK
  have HB := Lib.hid B
  clear hP hK w0 B
  go_enter Try.func7, Try.ntmps7
  go_wp2_with fail
  refine (lent_any _ _ _ HB.out (by omega)).mono ?_
  rintro e w1 ⟨v1, rfl, hl1, hx1⟩
  have HL1 := Lib.hid hl1
  have hw1 := hx1
  clear hl1 hx1
  go_wp2_with fail
  refine (pagePack_any no kind _ l _ HL1.out.bytes a0 a1).mono ?_
  rintro e w2 ⟨v2, rfl, hv2, hx⟩
  rw [HP.out] at hv2
  rw [HK.out]
  have HV2 := Lib.hid hv2.bytes
  have HL2 := Lib.hid (HL1.out.below hx)
  have hw2 := below_step hw1 hx
  clear hx hv2 hw1 HL1
  go_wp2_with fail
  refine (refPack05_any no kind _ l _ (HB.out.below hw2) a0 a1).mono ?_
  rintro e w3 ⟨v3, rfl, hown, hx⟩
  rw [HP.out] at hown
  rw [HK.out]
  have HV3 := Lib.hid (show Bytes w3 v3 P from Bytes.own hown)
  have HV23 := Lib.hid (HV2.out.below hx)
  have HL3 := Lib.hid (HL2.out.below hx)
  have hw3 := below_step hw2 hx
  clear hx hown hw2 HL2 HV2
  go_wp2_with fail
  refine (awake05_any _).mono ?_
  rintro e w4 ⟨rfl, hx⟩
  have HV4 := Lib.hid (HV3.out.below hx)
  have HV24 := Lib.hid (HV23.out.below hx)
  have HL4 := Lib.hid (HL3.out.below hx)
  have hw4 := below_step hw3 hx
  clear hx hw3 HL3 HV3 HV23
  go_wp2_with fail
  refine (same_yes _ _ P _ HV24.out HV4.out).mono ?_
  rintro e w5 ⟨rfl, hx⟩
  have HL5 := Lib.hid (HL4.out.below hx)
  have hw5 := below_step hw4 hx
  clear hx hw4 HL4 HV4 HV24
  go_wp2_with fail
  refine (kept_any _ _ _ l _ HL5.out (HB.out.below hw5) (by omega)).mono ?_
  rintro e w6 ⟨rfl, hx⟩
  go_wp2_with fail
  go_ret
  exact ⟨by simp, below_step hw5 hx⟩
/-- what a call's own row holds, if every element is a byte -/
def Bytish (ys : List Value) (n : Nat) : Prop := ∀ j, j < n → ∃ z : Int, ys[j]? = some (.int .u8 z)
theorem Bytish.bs (Y : List UInt8) : Bytish (bs Y) Y.length := fun j hj => ⟨_, bs_get Y j hj⟩
theorem Bytish.set {ys : List Value} {n : Nat} (h : Bytish ys n) (i : Nat) (z : Int) : Bytish (ys.set i (.int .u8 z)) n := by
  intro j hj
  obtain ⟨x, hx⟩ := h j hj
  by_cases e : i = j
  · subst e
    exact ⟨z, by rw [List.getElem?_set_self (List.getElem?_eq_some_iff.1 hx).1]⟩
  · exact ⟨x, by rw [List.getElem?_set_ne e]; exact hx⟩
set_option maxHeartbeats 2000000 in
theorem pageOpens_walk (no : Int) (v : Value) (l : List UInt8) (w : World) (w0 : (Lit.int .i64 no).wf = true) (B : Bytes w v l) (n0 : l.length ≤ 140737488351232) :
    Calls Try.prog 8 #[.int .i64 no, v] w fun e w' => e = .returned (.bool true) ∧ Below w.heap.size w w' := by
  obtain ⟨a0, a1⟩ := i64_wf_bounds w0
  obtain ⟨ab, cb, rfl, -, -, -⟩ := B.open
  obtain ⟨K, hK⟩ : ∃ K, pgKind no l = K := ⟨_, rfl⟩
  obtain ⟨Y, hY⟩ : ∃ Y, pgBody no l = Y := ⟨_, rfl⟩
  obtain ⟨E, hE⟩ : ∃ E, pgOpen no l = E := ⟨_, rfl⟩
  have hyl : Y.length ≤ 140737488351232 := by rw [← hY]; unfold pgBody; split <;> simp; omega
  have HK := Lib.hid hK
  have HY := Lib.hid hY
  have HE := Lib.hid hE
  have HB := Lib.hid B
  clear hK hY hE w0 B
  go_enter Try.func8, Try.ntmps8
  go_wp2_with fail
  refine (lent_any _ _ _ HB.out (by omega)).mono ?_
  rintro e w1 ⟨v1, rfl, hl1, hx1⟩
  have HLB := Lib.hid hl1.bytes
  obtain ⟨gl, cl, rfl, hol⟩ := hl1
  have hgl : gl < w1.heap.size := (hol.lt gl rfl).2
  have HL1 := Lib.hid hol
  have hw1 := hx1
  clear hol hx1
  go_wp2_with fail
  refine (pageOpen_any no _ l _ HLB.out).mono ?_
  rintro e w2 ⟨v2, rfl, hown, hx⟩
  rw [HY.out] at hown
  rw [HK.out, HE.out]
  have hs1 := hw1.size
  have HO2 := Lib.hid hown
  have HL2 := Lib.hid (own_keep HL1.out hx)
  have hw2 := below_step hw1 hx
  have hx12 := hx
  obtain ⟨H, hH⟩ : ∃ H, H = w1.heap.size := ⟨_, rfl⟩
  rw [← hH] at HO2 hgl
  have hHw : w.heap.size ≤ H := by omega
  clear hx hown hw1 HL1 HLB hx12 hH
  go_wp2_with fail
  refine (refOpen05_any no _ l _ (HB.out.below hw2) a0 a1).mono ?_
  rintro e w3 ⟨v3, rfl, hown, hx⟩
  rw [HY.out] at hown
  rw [HK.out, HE.out]
  have HV3 := Lib.hid (show Bytes w3 v3 Y from Bytes.own hown)
  have HO3 := Lib.hid (own_keep HO2.out hx)
  have HL3 := Lib.hid (own_keep HL2.out hx)
  have hw3 := below_step hw2 hx
  clear hx hown hw2 HL2 HO2
  go_wp2_with fail
  refine (same_yes _ _ Y _ (Bytes.own HO3.out) HV3.out).mono ?_
  rintro e w4 ⟨rfl, hx⟩
  have HO4 := Lib.hid (own_keep HO3.out hx)
  have HL4 := Lib.hid (own_keep HL3.out hx)
  have hw4 := below_step hw3 hx
  obtain ⟨a2, c2, rfl⟩ := own_shape HO4.out
  clear hx hw3 HL3 HV3 HO3
  go_wp2_with fail
  go_loopw [13] (fun i wr => ∃ (j : Nat) (ys : List Value), j ≤ Y.length ∧ i = .int .i64 j ∧ Bytish ys Y.length ∧ wr.ownsRow H 5 1 (.slice a2 Y.length c2) Y.length ys ∧ w4.grownBy wr (Value.slice a2 Y.length c2).ownBlock) (fun i _ => Y.length - (intOf i).toNat)
  case atStart => exact ⟨0, _, Nat.zero_le _, rfl, Bytish.bs Y, HO4.out, World.grownBy.refl _ _⟩
  case round =>
    obtain ⟨j, ys, hj, rfl, hbt, hown, hgr⟩ := hrel
    by_cases hlt : j < Y.length
    · obtain ⟨gb, cb', hf⟩ := Joins.ownsRow_form hown (by omega)
      simp only [Value.slice.injEq] at hf
      obtain ⟨rfl, -, rfl⟩ := hf
      obtain ⟨z, hz⟩ := hbt j hlt
      have hcell := (hown.cellAt j (by omega)).trans hz
      have hfr := hown.frozenAt j
      have hgb := (hown.lt gb rfl).2
      have q0 : (0 : Int) ≤ (j : Int) := by omega
      have q1 : (j : Int) < (Y.length : Int) := by omega
      have HO := Lib.hid hown
      have HG := Lib.hid hgr
      have HBT := Lib.hid hbt
      clear hown hgr hbt hz
      go_wp2_with fail
      go_roundw
      case rel => exact ⟨j + 1, _, by omega, by go_num, HBT.out.set j _, (HO.out.stored j _).1, HG.out.trans (HO.out.stored j _).2⟩
      case measure => simp [intOf]; omega
    · have hne : ∀ i, (Value.slice a2 Y.length c2).ownBlock = some i → H ≤ i := fun i hi => (hown.lt i hi).1
      have HLr := Lib.hid (own_apart HL4.out hgr (fun i j hi hj e => by have := hne j hj; have : gl = i := Option.some.inj hi; omega))
      have hwr := below_row hw4 hgr (fun r hr => by have := hne r hr; omega)
      clear hown hgr hne hbt
      go_wp2_with fail
      refine (awake05_any _).mono ?_
      rintro e w5 ⟨rfl, hx⟩
      have HL5 := Lib.hid (own_keep HLr.out hx)
      have hw5 := below_step hwr hx
      clear hx hwr HLr
      go_wp2_with fail
      refine (kept_any _ _ _ l _ ⟨gl, cl, rfl, HL5.out⟩ (HB.out.below hw5) (by omega)).mono ?_
      rintro e w6 ⟨rfl, hx⟩
      go_wp2_with fail
      go_ret
      exact ⟨rfl, below_step hw5 hx⟩
end Go.Proofs.Ytdekfbmjhmfmaaa
