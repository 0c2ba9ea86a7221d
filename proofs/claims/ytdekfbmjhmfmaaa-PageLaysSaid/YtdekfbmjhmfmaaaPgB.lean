/- What pages answer, in words; the walk of octavoref05.Pack. -/
import Derived.Test.YtdekfbmjhmfmaaaPgA
import Derived.Test.YtdekfbmjhmfmaaaSupC
namespace Go.Proofs.Ytdekfbmjhmfmaaa
open Go.RowKit Go.Oct

/-- what the two Opens answer -/
def PgOp (no : Int) (b : List UInt8) (w : World) (e : Ending) (w' : World) : Prop :=
  ∃ v, e = .returned (.tuple #[.int .i64 (pgKind no b : Nat), v, .int .i64 (pgOpen no b : Nat)]) ∧ w'.ownsRow w.heap.size 5 1 v (pgBody no b).length (bs (pgBody no b)) ∧ Below w.heap.size w w'
theorem pgOp_bad {no : Int} {b : List UInt8} {c : Nat} (h : pgOpen no b = c) (hc : c ≠ 0) (w w' : World) (e : Ending) (he : e = .returned (.tuple #[.int .i64 0, .slice none 0 0, .int .i64 (c : Int)])) (hb : Below w.heap.size w w') : PgOp no b w e w' := by
  have hn : ¬ pgOpen no b = 0 := by omega
  refine ⟨.slice none 0 0, ?_, ?_, hb⟩
  · rw [he, h, pgKind, if_neg hn]; rfl
  · rw [pgBody, if_neg hn]; exact World.ownsRow_nil _ _ _ _
/-- what octavoref05.Pack answers -/
def RpPost (no kind : Int) (l : List UInt8) (w : World) (e : Ending) (w' : World) : Prop :=
  ∃ v, e = .returned (.tuple #[v, .int .i64 (pgCode no kind l : Nat)]) ∧ w'.ownsRow w.heap.size 5 1 v (pgPack no kind l).length (bs (pgPack no kind l)) ∧ Below w.heap.size w w'
theorem rpPost_bad {no kind : Int} {l : List UInt8} {c : Nat} (h : pgCode no kind l = c) (hc : c ≠ 0) (w : World) (e : Ending) (he : e = .returned (.tuple #[.slice none 0 0, .int .i64 (c : Int)])) : RpPost no kind l w e w := by
  refine ⟨.slice none 0 0, by rw [he, h], ?_, Below.refl _ _⟩
  unfold pgPack
  rw [if_neg (by omega)]
  exact World.ownsRow_nil _ _ _ _
theorem own_shape {w : World} {base size n : Nat} {e : TypeId} {v : Value} {xs : List Value} (h : w.ownsRow base e size v n xs) : ∃ a cp, v = .slice a n cp := by
  rcases Joins.ownsRow_forms h with ⟨rfl, rfl⟩ | ⟨g, cap, rfl⟩
  · exact ⟨_, _, rfl⟩
  · exact ⟨_, _, rfl⟩
theorem own_apart {w w' : World} {base size n : Nat} {e : TypeId} {v : Value} {xs : List Value} {row : Option Nat} (h : w.ownsRow base e size v n xs) (k : w.grownBy w' row) (hne : ∀ i j, v.ownBlock = some i → row = some j → i ≠ j) : w'.ownsRow base e size v n xs := by
  refine h.kept k ?_
  cases hvo : v.ownBlock with
  | none => exact .inl rfl
  | some g => right; intro e; exact hne g g hvo e.symm rfl
theorem own_two (w : World) (base : Nat) (a b : Value) (h : base ≤ w.heap.size) : (w.alloc (.cells #[a, b] 5)).ownsRow base 5 1 (.slice (some ⟨w.heap.size, 0, none⟩) 2 2) 2 [a, b] :=
  by have := World.ownsRow_lit (size := 1) (e := 5) w #[a, b] 2 h (by decide) rfl; simpa using this
set_option maxRecDepth 100000 in
set_option maxHeartbeats 2000000 in
theorem refPack05_any (no kind : Int) (vb : Value) (l : List UInt8) (w : World) (hB : Bytes w vb l) (wn : -9223372036854775808 ≤ no) (wn1 : no ≤ 9223372036854775807) :
    Calls Try.prog 29 #[.int .i64 no, .int .i64 kind, vb] w (RpPost no kind l w) := by
  obtain ⟨ab, cb, rfl, hcap, hmax, -⟩ := hB.open
  unfold maxLen at hmax
  by_cases h1 : no < 0
  · have HC := Lib.hid (show pgCode no kind l = 1 by unfold pgCode; rw [if_neg (by unfold pgMay; omega)])
    go_enter Try.func29, Try.ntmps29
    go_wp2_with fail
    go_ret2
    exact rpPost_bad HC.out (by decide) _ _ rfl
  by_cases h2 : 1048576 ≤ no
  · have HC := Lib.hid (show pgCode no kind l = 1 by unfold pgCode; rw [if_neg (by unfold pgMay; omega)])
    go_enter Try.func29, Try.ntmps29
    go_wp2_with fail
    go_ret2
    exact rpPost_bad HC.out (by decide) _ _ rfl
  by_cases h3 : kind < 1
  · have HC := Lib.hid (show pgCode no kind l = 1 by unfold pgCode; rw [if_neg (by unfold pgMay; omega)])
    go_enter Try.func29, Try.ntmps29
    go_wp2_with fail
    go_ret2
    exact rpPost_bad HC.out (by decide) _ _ rfl
  by_cases h4 : 9 < kind
  · have HC := Lib.hid (show pgCode no kind l = 1 by unfold pgCode; rw [if_neg (by unfold pgMay; omega)])
    go_enter Try.func29, Try.ntmps29
    go_wp2_with fail
    go_ret2
    exact rpPost_bad HC.out (by decide) _ _ rfl
  have hM : pgMay no kind := by unfold pgMay; omega
  by_cases h5 : 244 < l.length
  · have HC := Lib.hid (show pgCode no kind l = 10 by unfold pgCode; rw [if_pos hM, if_pos h5])
    go_enter Try.func29, Try.ntmps29
    go_wp2_with fail
    go_ret2
    exact rpPost_bad HC.out (by decide) _ _ rfl
  have hL : l.length ≤ 244 := by omega
  obtain ⟨l1, l2, l3, l4, l5⟩ := pg_lens hM hL
  obtain ⟨i0, hi, hz0, hz1, hz2⟩ := info_parts infoU8
  have HC := Lib.hid (pgCode_mk hM hL)
  have HPL := Lib.hid (pgPack_len hM hL)
  have HPE := Lib.hid (pgPack_eq hM hL)
  have HBK := Lib.hid (show pgBack l = l ++ List.replicate (244 - l.length) 0 from rfl)
  have hk := byte_kind (kind := kind) (by omega) (by omega)
  have hkm : kind % 256 = kind := by omega
  have hN1 : numCode (l.length : Nat) 2 = 0 := numCode_ok' (k := 2) (by omega) (by decide) (by decide)
  have hN2 : numCode no 4 = 0 := numCode_of (k := 4) (by omega) (by simp only [Nat.reducePow]; omega) (by decide) (by decide)
  have HN1 := Lib.hid hN1
  have HN2 := Lib.hid hN2
  obtain ⟨K, hK⟩ : ∃ K, UInt8.ofNat kind.toNat = K := ⟨_, rfl⟩
  have HF := Lib.hid (show pgFront no kind l = [K, 0] ++ numBytes (l.length : Nat) 2 ++ numBytes no 4 by rw [← hK]; rfl)
  rw [hK] at hk
  have HK := Lib.hid (show [Value.int .u8 kind, .int .u8 0] = bs [K, 0] by simp only [bs, List.map_cons, List.map_nil, hk]; rfl)
  obtain ⟨X1, e1⟩ : ∃ x, numBytes (l.length : Nat) 2 = x := ⟨_, rfl⟩
  obtain ⟨X2, e2⟩ : ∃ x, numBytes no 4 = x := ⟨_, rfl⟩
  obtain ⟨X3, e3⟩ : ∃ x, pgSum no kind l = x := ⟨_, rfl⟩
  rw [e1] at l1
  rw [e2] at l2
  rw [e3] at l5 HPE
  rw [e1, e2] at HF
  obtain ⟨Fr, q3⟩ : ∃ x, pgFront no kind l = x := ⟨_, rfl⟩
  obtain ⟨Bk, q4⟩ : ∃ x, pgBack l = x := ⟨_, rfl⟩
  rw [pgSum, q3, q4] at e3
  rw [q3] at HF HPE l3
  rw [q4] at HBK HPE l4
  have HFB := Lib.hid (show bs Fr = Value.int .u8 kind :: .int .u8 0 :: (bs X1 ++ bs X2) by
    rw [HF.out, bs_append, bs_append, ← HK.out]
    rfl)
  have hcr := OctCrc.crc_lt (Fr ++ Bk)
  obtain ⟨cr, ec⟩ : ∃ x, OctCrc.crc (Fr ++ Bk) = x := ⟨_, rfl⟩
  rw [ec] at hcr e3
  have HN3 := Lib.hid (show numCode (cr : Nat) 4 = 0 from numCode_ok' (k := 4) (by omega) (by decide) (by decide))
  have HCR := Lib.hid ec
  have E1 := Lib.hid e1
  have E2 := Lib.hid e2
  have E3 := Lib.hid e3
  have L1 := Lib.hid l1
  have L2 := Lib.hid l2
  have L3 := Lib.hid l3
  have L4 := Lib.hid l4
  have L5 := Lib.hid l5
  have HB := Lib.hid hB
  clear e1 e2 e3 ec l1 l2 l3 l4 l5 q3 q4 hK hk hM h5 hB hN1 hN2
  go_enter Try.func29, Try.ntmps29
  go_wp2_with fail
  refine (refBytes_any _ _ _ (by omega) (by omega) (by omega) (by omega)).mono ?_
  rintro e w1 ⟨v1, rfl, hown, hx1⟩
  rw [E1.out, L1.out] at hown
  rw [HN1.out]
  have HV1 := Lib.hid (Has.own hown)
  clear hown
  go_wp2_with fail
  refine (refBytes_any _ _ _ (by omega) (by omega) (by omega) (by omega)).mono ?_
  rintro e w2 ⟨v2, rfl, hown, hx2⟩
  rw [E2.out, L2.out] at hown
  rw [HN2.out]
  have HV2 := Lib.hid (Has.own hown)
  have HV12 := Lib.hid (HV1.out.below hx2)
  have hw2 := below_step hx1 hx2
  have hs2 := hw2.size
  clear hown hx1 hx2 HV1
  go_wp2_with (at_builtin; go_loud (refine wpList_append_has _ rfl (.tmp 48) (.tmp 49) 24 rfl w.heap.size 5 i0 (.int .u8 0) 1 1 Try.underlying24 hi hz0 hz1 hz2 rfl (by decide) _ 2 _ rfl (own_two w2 w.heap.size _ _ hs2) v1 2 (bs X1) rfl (HV12.out.alloc _) ?c2 (bs_one _) (by decide) (by decide) ?c5 ?_))
  case c2 => rw [bs_length, L1.out]
  case c5 => simp; omega
  intro va w3 hown hgr _
  have hx3 : Below w2.heap.size w2 w3 := grown_below (below_new (Below.refl _ _) _) hgr (own_two w2 w2.heap.size _ _ (Nat.le_refl _))
  have HV23 := Lib.hid (HV2.out.below hx3)
  have hw3 := below_step hw2 hx3
  have hs3 := hw3.size
  have HO3 := Lib.hid hown
  clear hown hgr hx3 hw2 HV2 HV12
  go_wp2_with (at_builtin; go_loud (refine wpList_append_has _ rfl (.tmp 51) (.tmp 52) 24 rfl w.heap.size 5 i0 (.int .u8 0) 1 1 Try.underlying24 hi hz0 hz1 hz2 rfl (by decide) va 4 _ rfl HO3.out v2 4 (bs X2) rfl HV23.out ?c2 (bs_one _) (by decide) (by decide) ?c5 ?_))
  case c2 => rw [bs_length, L2.out]
  case c5 => omega
  intro vf w4 hown hgr _
  have hw4 : Below w.heap.size w w4 := grown_below hw3 hgr HO3.out
  have hs4 := hw4.size
  rw [← HFB.out] at hown
  have HO4 := Lib.hid hown
  clear hown hgr hw3 hs3 HO3 HV23
  go_wp2_with fail
  refine (copy_any _ l _ (HB.out.below hw4) (by omega)).mono ?_
  rintro e w5 ⟨vc, rfl, hown, hx5⟩
  have HO5 := Lib.hid (own_keep HO4.out hx5)
  have HFL0 := Lib.hid (show ∀ g, vf.ownBlock = some g → g < w4.heap.size from fun g hg => (HO4.out.lt g hg).2)
  have HC5 := Lib.hid hown
  have hw5 := below_step hw4 hx5
  obtain ⟨ac, cc, rfl⟩ := own_shape hown
  obtain ⟨H, hH⟩ : ∃ H, H = w4.heap.size := ⟨_, rfl⟩
  rw [← hH] at HC5 HFL0
  have HFL := HFL0
  have hlH : w.heap.size ≤ H := by omega
  have hH5 : H ≤ w5.heap.size := by have := hx5.size; omega
  have HC5b := Lib.hid (show w5.ownsRow H 5 1 (.slice ac l.length cc) l.length (bs (l ++ List.replicate (l.length - l.length) 0)) by rw [Nat.sub_self]; simpa using HC5.out)
  clear hown hx5 hw4 HO4 hH HC5
  go_wp2_with fail
  go_loopw [13] (fun v wr => ∃ (k : Nat) (a : Option Addr) (cp : Nat), l.length ≤ k ∧ k ≤ 244 ∧ v = .slice a k cp ∧ wr.ownsRow H 5 1 v k (bs (l ++ List.replicate (k - l.length) 0)) ∧ wr.ownsRow w.heap.size 5 1 vf 8 (bs Fr) ∧ (∀ g, vf.ownBlock = some g → g < H) ∧ Below w.heap.size w wr ∧ H ≤ wr.heap.size) (fun v _ => 244 - sliceLen v)
  case atStart => exact ⟨l.length, ac, cc, Nat.le_refl _, hL, rfl, HC5b.out, HO5.out, HFL.out, hw5, hH5⟩
  case round =>
    obtain ⟨k, a, cp, hk1, hk2, rfl, hown, hof, hfl, hnx, hsz⟩ := hrel
    have HO := Lib.hid hown
    have HOF := Lib.hid hof
    have HFL2 := Lib.hid hfl
    clear hown hof hfl
    by_cases hlt : k < 244
    · go_wp2_with (at_builtin; go_loud (refine wpList_append_own _ rfl (.tmp 59) (.tmp 60) 24 rfl H 5 i0 (.int .u8 0) 1 1 Try.underlying24 hi hz0 hz1 hz2 rfl (by decide) _ _ _ rfl (HO.out.alloc _) ⟨wr.heap.size, 0, none⟩ 1 1 [.int .u8 0] rfl rfl ?c1 ?c2 ?c3 ?c4 ?c5 ?_))
      case c1 => exact cell_one_new _ _ _
      case c2 => intro u hu; simp at hu; subst hu; rfl
      case c3 => unfold maxLen; omega
      case c4 => omega
      case c5 => simp; omega
      intro v' w9 hown' hgrow _
      have hof9 : w9.ownsRow w.heap.size 5 1 vf 8 (bs Fr) := by
        refine (HOF.out.alloc _).kept hgrow ?_
        cases hvo : vf.ownBlock with
        | none => exact .inl rfl
        | some gg =>
          right
          intro e
          have h1 := HFL2.out gg hvo
          have h2 := (HO.out.lt gg e.symm).1
          omega
      have hnx1 : Below w.heap.size w w9 := (hnx.alloc hnx.size _).grown hgrow (by simp; omega) (fun k hk => by have := (HO.out.lt k hk).1; omega)
      have hsz1 : H ≤ w9.heap.size := by have := hgrow.size; simp at this; omega
      have HO3 := Lib.hid hown'
      have HF9 := Lib.hid hof9
      clear hgrow hnx hown' hof9 HO HOF
      go_wp2_with fail
      go_roundw
      case rel =>
        obtain ⟨a', cp', hf⟩ := own_shape HO3.out
        refine ⟨k + 1, a', cp', by omega, by omega, hf, ?_, HF9.out, HFL2.out, hnx1, hsz1⟩
        have e9 : l ++ List.replicate (k + 1 - l.length) 0 = l ++ List.replicate (k - l.length) 0 ++ [0] := by
          rw [show k + 1 - l.length = (k - l.length) + 1 by omega, List.replicate_succ', List.append_assoc]
        rw [e9, bs_append]
        exact HO3.out
      case measure =>
        obtain ⟨a', cp', hf⟩ := own_shape HO3.out
        rw [hf]
        show 244 - (k + 1) < 244 - k
        omega
    · obtain rfl : k = 244 := by omega
      have hbk := HO.out
      rw [← HBK.out] at hbk
      have HBW := Lib.hid hbk
      have HBL2 := Lib.hid (show ∀ g, (Value.slice a 244 cp).ownBlock = some g → H ≤ g ∧ g < wr.heap.size from fun g hg => HBW.out.lt g hg)
      clear hbk HO HBK
      go_wp2_with fail
      refine (copy_any _ Fr _ (by unfold Bytes; rw [L3.out]; exact Has.own HOF.out) (by rw [L3.out]; decide)).mono ?_
      rintro e w6 ⟨vd, rfl, hown, hx6⟩
      rw [L3.out] at hown
      have hbl6 := (Has.own HBW.out).below hx6
      have HBL6 := Lib.hid hbl6
      have HOF6 := Lib.hid (own_keep HOF.out hx6)
      have HBW6 := Lib.hid (own_keep HBW.out hx6)
      have HD6 := Lib.hid hown
      have hw6 := below_step hnx hx6
      have hx6s := hx6.size
      have hw60 := hw6.size
      clear hown hbl6 hnx hx6 HOF HBW
      go_wp2_with (at_builtin; go_loud (refine wpList_append_has _ rfl (.tmp 63) (.tmp 64) 24 rfl wr.heap.size 5 i0 (.int .u8 0) 1 1 Try.underlying24 hi hz0 hz1 hz2 rfl (by decide) vd 8 _ rfl HD6.out (.slice a 244 cp) 244 (bs Bk) rfl HBL6.out ?c2 (bs_one _) (by decide) (by decide) ?c5 ?_))
      case c2 => rw [bs_length, L4.out]
      case c5 => omega
      intro vall w7 hown hgr _
      rw [← bs_append] at hown
      have hne1 : ∀ i j, vf.ownBlock = some i → vd.ownBlock = some j → i ≠ j := fun i j hi hj e => by have := HFL2.out i hi; have := (HD6.out.lt j hj).1; omega
      have hne2 : ∀ i j, (Value.slice a 244 cp).ownBlock = some i → vd.ownBlock = some j → i ≠ j := fun i j hi hj e => by have := (HBL2.out i hi).2; have := (HD6.out.lt j hj).1; omega
      have HOF7 := Lib.hid (own_apart HOF6.out hgr hne1)
      have HBW7 := Lib.hid (own_apart HBW6.out hgr hne2)
      have hw7 : Below w.heap.size w w7 := hw6.grown hgr hw6.size (fun k hk => by have := (HD6.out.lt k hk).1; omega)
      have hB7 : Bytes w7 vall (Fr ++ Bk) := by unfold Bytes; rw [List.length_append, L3.out, L4.out]; exact Has.own hown
      have HB7 := Lib.hid hB7
      clear hown hgr hne1 hne2 hw6 hB7 HD6 HOF6 HBW6 HBL6 hx6s hw60
      go_wp2_with fail
      refine (refOf_any _ (Fr ++ Bk) _ HB7.out).mono ?_
      rintro e w' ⟨rfl, rfl⟩
      rw [HCR.out]
      go_wp2_with fail
      refine (refBytes_any _ _ _ (by omega) (by omega) (by omega) (by omega)).mono ?_
      rintro e w8 ⟨v8, rfl, hown, hx8⟩
      rw [E3.out, L5.out] at hown
      rw [HN3.out]
      have HV8 := Lib.hid (Has.own hown)
      have HOF8 := Lib.hid (own_keep HOF7.out hx8)
      have HBW8 := Lib.hid (own_keep HBW7.out hx8)
      have hw8 := below_step hw7 hx8
      have hs8 := hw8.size
      clear hown hx8 hw7 HOF7 HBW7 HB7
      go_wp2_with (at_builtin; go_loud (refine wpList_append_has _ rfl (.tmp 73) (.tmp 74) 24 rfl w.heap.size 5 i0 (.int .u8 0) 1 1 Try.underlying24 hi hz0 hz1 hz2 rfl (by decide) vf 8 _ rfl HOF8.out v8 4 (bs X3) rfl HV8.out ?c2 (bs_one _) (by decide) (by decide) ?c5 ?_))
      case c2 => rw [bs_length, L5.out]
      case c5 => omega
      intro vg w9 hown hgr _
      have hne1 : ∀ i j, (Value.slice a 244 cp).ownBlock = some i → vf.ownBlock = some j → i ≠ j := fun i j hi hj e => by have := (HBL2.out i hi).1; have := HFL2.out j hj; omega
      have HB9 := Lib.hid (Has.own (own_apart HBW8.out hgr hne1))
      have hw9 : Below w.heap.size w w9 := grown_below hw8 hgr HOF8.out
      have hs9 := hw9.size
      rw [← bs_append] at hown
      have HG9 := Lib.hid hown
      clear hown hgr hne1 hw8 HOF8 HBW8 HV8
      go_wp2_with (at_builtin; go_loud (refine wpList_append_has _ rfl (.tmp 76) (.tmp 77) 24 rfl w.heap.size 5 i0 (.int .u8 0) 1 1 Try.underlying24 hi hz0 hz1 hz2 rfl (by decide) vg 12 _ rfl HG9.out (.slice a 244 cp) 244 (bs Bk) rfl HB9.out ?c2 (bs_one _) (by decide) (by decide) ?c5 ?_))
      case c2 => rw [bs_length, L4.out]
      case c5 => omega
      intro vz w10 hown hgr _
      have hw10 : Below w.heap.size w w10 := grown_below hw9 hgr HG9.out
      rw [← bs_append, ← HPE.out] at hown
      have HZ10 := Lib.hid hown
      clear hown hgr hw9 HG9 HB9
      go_wp2_with fail
      go_ret2
      refine ⟨vz, by rw [HC.out]; rfl, ?_, hw10⟩
      rw [HPL.out]
      exact HZ10.out
end Go.Proofs.Ytdekfbmjhmfmaaa
