/- The walk of the law LeRuns. -/
import Derived.Test.YtcmoajbdepohmaaLeL
import Derived.Test.YtcmoajbdepohmaaLeE
import Derived.Test.YtcmoajbdepohmaaFull
namespace Go.Proofs.Ytcmoajbdepohmaa
open Go.RowKit Go.Oct

/-- calls as cells: each a kind, a number -/
def cls : List (Nat × Int) → List Value
  | [] => []
  | v :: l => .int .u8 (v.1 : Nat) :: .int .i64 v.2 :: cls l
theorem cls_get (l : List (Nat × Int)) (i : Nat) (h : i < l.length) : (cls l)[i * 2]? = some (.int .u8 (l[i].1 : Nat)) ∧ (cls l)[i * 2 + 1]? = some (.int .i64 l[i].2) := by
  induction l generalizing i with
  | nil => simp at h
  | cons v l ih =>
    cases i with
    | zero => simp [cls]
    | succ i =>
      have := ih i (by simpa using h)
      rw [show (i + 1) * 2 = i * 2 + 1 + 1 by omega]
      simpa [cls] using this
/-- v is a slice of these calls -/
def CallsOf (w : World) (v : Value) (l : List (Nat × Int)) : Prop := Has w v l.length (cls l)
theorem CallsOf.open {w : World} {v : Value} {l : List (Nat × Int)} (h : CallsOf w v l) : ∃ a cap, v = .slice a l.length cap ∧ l.length ≤ cap ∧ cap ≤ maxLen ∧
    (0 < l.length → ∃ b o, a = some ⟨b, o, none⟩ ∧ b < w.heap.size ∧ ∀ i (hi : i < l.length), w.cell? ⟨b, o + i * 2, none⟩ = some (.int .u8 (l[i].1 : Nat)) ∧ w.cell? ⟨b, o + i * 2 + 1, none⟩ = some (.int .i64 l[i].2)) := by
  obtain ⟨a, cap, hv, h1, h2, h3⟩ := h
  refine ⟨a, cap, hv, h1, h2, fun hl => ?_⟩
  obtain ⟨b, o, ha, hc⟩ := h3 (by cases l with | nil => simp at hl | cons v l => simp [cls])
  have hcell : ∀ i (hi : i < l.length), w.cell? ⟨b, o + i * 2, none⟩ = some (.int .u8 (l[i].1 : Nat)) ∧ w.cell? ⟨b, o + i * 2 + 1, none⟩ = some (.int .i64 l[i].2) :=
    fun i hi => ⟨hc _ _ (cls_get l i hi).1, by rw [Nat.add_assoc]; exact hc _ _ (cls_get l i hi).2⟩
  exact ⟨b, o, ha, World.block_lt_of_cell? w _ (hcell 0 hl).1, hcell⟩
theorem own_apart {w w' : World} {base size n : Nat} {e : TypeId} {v : Value} {xs : List Value} {row : Option Nat} (h : w.ownsRow base e size v n xs) (k : w.grownBy w' row) (hne : ∀ i j, v.ownBlock = some i → row = some j → i ≠ j) : w'.ownsRow base e size v n xs := by
  refine h.kept k ?_
  cases hvo : v.ownBlock with
  | none => exact .inl rfl
  | some g => right; intro e; exact hne g g hvo e.symm rfl
theorem Reader.low {base : Nat} {w w' : World} {g : Nat} {l : List UInt8} {at_ : Nat} {row : Option Nat} (h : Reader base w g l at_) (k : w.grownBy w' row) (hr : ∀ i, row = some i → i < base) : Reader base w' g l at_ := by
  obtain ⟨h1, h2, h3, gb, cp, h4, h5⟩ := h
  refine ⟨h1, h2, h3, gb, cp, box_grown h4 k (fun e => by have := hr g e; omega), own_apart h5 k (fun i j hi hj e => ?_)⟩
  have := hr j hj
  have := (h5.lt i hi).1
  omega
theorem one_any (base g : Nat) (l : List UInt8) (at_ kd : Nat) (n : Int) (vb : Value) (w : World) (hr : Reader base w g l at_) (hn0 : -9223372036854775808 ≤ n) (hn1 : n ≤ 9223372036854775807) (hbase : base ≤ w.heap.size)
    (hB : ∀ w', Below base w w' → Bytes w' vb l) :
    Calls Try.prog 28 #[.pointer (some ⟨g, 0, none⟩), vb, .int .i64 at_, .agg #[.int .u8 (kd : Nat), .int .i64 n]] w (OnePost base g l at_ (oneAt l at_ kd n) w) := by
  by_cases h0 : kd = 0
  · subst h0
    exact one0_any base g l at_ n vb w hr hn0 hn1 hbase hB
  by_cases h1 : kd = 1
  · subst h1
    exact one1_any base g l at_ n vb w hr hn0 hn1 hbase hB
  have e : oneAt l at_ kd n = zrAt l at_ n := by unfold oneAt; rw [if_neg h0, if_neg h1]
  rw [e]
  exact one2_any base g l at_ kd n vb w (by omega) hr hn0 hn1 hbase hB
set_option maxRecDepth 100000 in
set_option maxHeartbeats 4000000 in
theorem leRuns_walk (v : Value) (l : List UInt8) (vc : Value) (cs : List (Nat × Int)) (w : World) (B : Bytes w v l) (n0 : l.length ≤ 140737488351232) (C : CallsOf w vc cs) (hcw : ∀ c ∈ cs, -9223372036854775808 ≤ c.2 ∧ c.2 ≤ 9223372036854775807) :
    Calls Try.prog 9 #[v, vc] w fun e w' => e = .returned (.bool true) ∧ Below w.heap.size w w' := by
  obtain ⟨ab, cb, rfl, -, hmb, -⟩ := B.open
  obtain ⟨ac, cc, rfl, hc1, hc2, hcc⟩ := C.open
  unfold maxLen at hmb hc2
  have HB := Lib.hid B
  have HCC := Lib.hid hcc
  have HCW := Lib.hid hcw
  clear B C hcc hcw
  go_enter Try.func9, Try.ntmps9
  go_wp2_with fail
  refine (copy_any _ l _ HB.out (by omega)).mono ?_
  rintro e w1 ⟨v1, rfl, hown, hw1⟩
  have HO1 := Lib.hid hown
  obtain ⟨a1, c1, rfl⟩ := own_shape hown
  have hB1 : Bytes w1 (.slice a1 l.length c1) l := Bytes.own hown
  clear hown
  go_wp2_with fail
  refine (on_any _ l _ hB1 (by omega)).mono ?_
  rintro e w2 ⟨g, rfl, hrd, hx⟩
  have HR2 := Lib.hid hrd
  have HO2 := Lib.hid (own_keep HO1.out hx)
  have hw2 := below_step hw1 hx
  obtain ⟨base, hbs⟩ : ∃ b, b = w1.heap.size := ⟨_, rfl⟩
  rw [← hbs] at HR2
  have hbase2 : base ≤ w2.heap.size := by have := hx.size; omega
  have hbase0 : w.heap.size ≤ base := by have := hw1.size; omega
  have hlt1 : ∀ i, (Value.slice a1 l.length c1).ownBlock = some i → i < base := fun i hi => by rw [hbs]; exact (HO1.out.lt i hi).2
  have HLT := Lib.hid hlt1
  clear hrd hx hB1 hw1 HO1 hbs hlt1
  go_wp2_with fail
  refine (awake01_any _).mono ?_
  rintro e w3 ⟨rfl, hx⟩
  have HR3 := Lib.hid (HR2.out.below hx)
  have HO3 := Lib.hid (own_keep HO2.out hx)
  have hw3 := below_step hw2 hx
  have hbase3 : base ≤ w3.heap.size := by have := hx.size; omega
  clear hx hw2 HO2 HR2 hbase2
  go_wp2_with fail
  go_loopw [7] (fun i wr => ∃ (j : Nat) (ys : List Value), j ≤ l.length ∧ i = .int .i64 j ∧ Bytish ys l.length ∧ wr.ownsRow w.heap.size 5 1 (.slice a1 l.length c1) l.length ys ∧ w3.grownBy wr (Value.slice a1 l.length c1).ownBlock) (fun i _ => l.length - (intOf i).toNat)
  case atStart => exact ⟨0, _, Nat.zero_le _, rfl, Bytish.bs l, HO3.out, World.grownBy.refl _ _⟩
  case round =>
    clear HO3
    obtain ⟨j, ys, hj, rfl, hbt, hown, hgr⟩ := hrel
    by_cases hlt : j < l.length
    · obtain ⟨gb, cb', hf⟩ := Joins.ownsRow_form hown (by omega)
      simp only [Value.slice.injEq] at hf
      obtain ⟨rfl, -, rfl⟩ := hf
      obtain ⟨z, hz⟩ := hbt j hlt
      have hcell := (hown.cellAt j (by omega)).trans hz
      have hfr := hown.frozenAt j
      have hgb := (hown.lt gb rfl).2
      have r0 : (0 : Int) ≤ (j : Int) := by omega
      have r1 : (j : Int) < (l.length : Int) := by omega
      have HO := Lib.hid hown
      have HG := Lib.hid hgr
      have HBT := Lib.hid hbt
      clear hown hgr hbt hz
      go_wp2_with fail
      go_roundw
      case rel => exact ⟨j + 1, _, by omega, by go_num, HBT.out.set j _, (HO.out.stored j _).1, HG.out.trans (HO.out.stored j _).2⟩
      case measure => simp [intOf]; omega
    · obtain ⟨w4, rfl⟩ : ∃ x : World, x = wr := ⟨_, rfl⟩
      have hge : ∀ i, (Value.slice a1 l.length c1).ownBlock = some i → w.heap.size ≤ i := fun i hi => (hown.lt i hi).1
      have HR4 := Lib.hid (HR3.out.low hgr HLT.out)
      have hw4 : Below w.heap.size w w4 := hw3.trans (below_rows hgr hge hw3.size)
      have hbase4 : base ≤ w4.heap.size := by have := hgr.size; omega
      clear hown hgr hge hbt HR3 HLT hw3
      go_wp2_with fail
      go_loopw [8, 9] (fun t i wr => ∃ k at_ : Nat, k ≤ cs.length ∧ i = .int .i64 k ∧ t = .int .i64 at_ ∧ Reader base wr g l at_ ∧ Below base w4 wr) (fun _ i _ => cs.length - (intOf i).toNat)
      case atStart => exact ⟨0, 0, Nat.zero_le _, rfl, rfl, HR4.out, Below.refl _ _⟩
      case round =>
        clear HR4
        obtain ⟨k, at_, hk, rfl, rfl, hrd, hnx⟩ := hrel
        have hwr : Below w.heap.size w wr := hw4.trans (hnx.mono hbase0)
        by_cases hlt : k < cs.length
        · by_cases h200 : k < 200
          · obtain ⟨bc, oc, rfl, hbc, hcs⟩ := HCC.out (by omega)
            obtain ⟨c0, c1'⟩ := hcs k hlt
            have d0 := (hwr.cell (p := ⟨bc, oc + k * 2, none⟩) hbc).trans c0
            have d1 := (hwr.cell (p := ⟨bc, oc + k * 2 + 1, none⟩) hbc).trans c1'
            obtain ⟨kd, hkd⟩ : ∃ x, cs[k].1 = x := ⟨_, rfl⟩
            obtain ⟨n, hn⟩ : ∃ x, cs[k].2 = x := ⟨_, rfl⟩
            have hnb := HCW.out cs[k] (List.getElem_mem _)
            rw [hn] at hnb d1
            rw [hkd] at d0
            obtain ⟨n1, n2⟩ := hnb
            have HRD := Lib.hid hrd
            have hll := hrd.left
            have r0 : (0 : Int) ≤ (k : Int) := by omega
            have r1 : (k : Int) < (cs.length : Int) := by omega
            clear hcs c0 c1' hrd hkd hn
            go_wp2_with fail
            refine (one_any base g l at_ kd n _ wr HRD.out n1 n2 (by have := hnx.size; omega) (fun w' h' => HB.out.below (hwr.trans (h'.mono hbase0)))).mono ?_
            rintro e w5 ⟨rfl, hrd, hx⟩
            obtain ⟨to, hto⟩ : ∃ x, oneAt l at_ kd n = x := ⟨_, rfl⟩
            rw [hto] at hrd ⊢
            have HR5 := Lib.hid hrd
            have hl5 := hrd.left
            have hnx5 : Below base w4 w5 := hnx.trans hx
            clear hx hrd hto d0 d1
            go_wp2_with fail
            refine (place_any base g l to _ HR5.out).mono ?_
            rintro e w' ⟨rfl, rfl⟩
            go_wp2_with fail
            refine (left_any base g l to _ HR5.out).mono ?_
            rintro e w6 ⟨rfl, hx⟩
            have HR6 := Lib.hid (HR5.out.below hx)
            have hnx6 : Below base w4 w6 := hnx5.trans (hx.mono (by have := hnx5.size; omega))
            have hcast : ((l.length - to : Nat) : Int) = (l.length : Int) - (to : Int) := by omega
            rw [hcast]
            clear hx HR5 hcast
            go_wp2_with fail
            go_roundw
            case rel => exact ⟨k + 1, to, by omega, by go_num, rfl, HR6.out, hnx6⟩
            case measure => simp [intOf]; omega
          · go_wp2_with fail
            go_ret
            exact ⟨rfl, hwr⟩
        · go_wp2_with fail
          go_ret
          exact ⟨rfl, hwr⟩
end Go.Proofs.Ytcmoajbdepohmaa
