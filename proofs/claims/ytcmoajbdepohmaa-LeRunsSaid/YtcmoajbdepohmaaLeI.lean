/- The walk of LeParts: what a reader takes in two parts is what it takes at once. -/
import Derived.Test.YtcmoajbdepohmaaLeF
import Derived.Test.YtcmoajbdepohmaaCopy
namespace Go.Proofs.Ytcmoajbdepohmaa
open Go.RowKit Go.Oct

/-- 'append' behind a guard that says yes -/
theorem wpList_append_want {P : Program} (w : World) {ops : Array Oper} {rest : List Oper} {o : Oper} {a : Act} {Q : Exit → Act → World → Prop} (hgd : Region.wanted o (yielded ops a.tmps) = true) (s x : Operand) (t : TypeId)
    (ho : o.op = .call { callee := .builtin .append, args := #[s, x], argTypes := #[t, t] })
    (base : Nat) (e : TypeId) (i : TypeInfo) (z : Value) (size bytes : Nat) (ht : P.underlying t = some (.slice e)) (hi : P.info? e = some i) (hz : i.zero = some z)
    (hsize : i.size = size) (hby : i.bytes = bytes) (hzs : z.cells.size = size) (hsz : 0 < size)
    (v : Value) (n : Nat) (xs : List Value) (hs : a.eval s = v) (hown : w.ownsRow base e size v n xs)
    (vx : Value) (m : Nat) (news : List Value) (hvx : a.eval x = vx) (hx : Has w vx m news) (hl : news.length = m * size) (h1 : ∀ u ∈ news, u.oneCell' = true)
    (h63 : n + m ≤ maxLen) (hbytes : (n + m) * bytes ≤ 140737488355328) (hbase : base ≤ w.heap.size)
    (h : ∀ v' w', w'.ownsRow base e size v' (n + m) (xs ++ news) → w.grownBy w' v.ownBlock → wpList P ops Q rest (a.put o.dst v') w') : wpList P ops Q (o :: rest) a w := by
  refine BigFrame.wpList_want hgd fun K hK => ?_
  obtain ⟨v', w', hr, h2, h3, h4⟩ := run_append_has (P := P) w base t o.type e i z size bytes ht hi hz hsize hby hzs hsz v n xs hown vx m news hx hl h1 h63 hbytes hbase
  unfold Oper.wp execOp
  simp only [ho, resolve, invoke, builtin, Sem.run_bind, Sem.run_pure, Result.andThen_ok, List.map_toArray, List.map_cons, List.map_nil, hs, hvx, hr]
  exact hK _ _ (h v' w' h2 h3)
/-- a reader stays while another one moves -/
theorem Reader.apart {base base2 : Nat} {w w' : World} {g g2 : Nat} {l l2 : List UInt8} {at_ at2 : Nat} (h : Reader base w g l at_) (h2 : Reader base2 w g2 l2 at2) (hne : g ≠ g2) (k : w.grownBy w' (some g2)) : Reader base w' g l at_ := by
  obtain ⟨b1, b2, b3, gb, cp, b4, b5⟩ := h
  obtain ⟨_, _, _, gb2, cp2, c4, _⟩ := h2
  have hn : gb ≠ g2 := by
    rintro rfl
    rcases b5.2 with ⟨h', _⟩ | ⟨g', cap', cur, h', hb, hg, _⟩
    · simp at h'
    · simp only [Value.slice.injEq, Option.some.injEq, Addr.mk.injEq, and_true, true_and] at h'
      obtain ⟨rfl, rfl⟩ := h'
      rw [c4] at hg
      simp at hg
  refine ⟨b1, b2, b3, gb, cp, ?_, b5.kept k (.inr (by simp [Value.ownBlock]; exact hn))⟩
  rw [k.block g (Array.getElem?_eq_some_iff.1 b4).1 (by simpa using hne)]
  exact b4
theorem below_copy {w w1 w2 : World} {v : Value} {e : TypeId} {size n : Nat} {xs : List Value} (h : Below w.heap.size w w1) (k : w1.grownBy w2 v.ownBlock) (ho : w1.ownsRow w.heap.size e size v n xs) : Below w.heap.size w w2 :=
  h.grown k h.size (fun i hi => (ho.lt i hi).1)
theorem Reader.lt {base : Nat} {w : World} {g : Nat} {l : List UInt8} {at_ : Nat} (h : Reader base w g l at_) : base ≤ g ∧ g < w.heap.size := by
  obtain ⟨b1, _, _, gb, cp, b4, _⟩ := h
  exact ⟨b1, (Array.getElem?_eq_some_iff.1 b4).1⟩
set_option maxHeartbeats 1000000 in
theorem leParts_walk (v0 : Value) (l : List UInt8) (n m : Int) (w : World) (B0 : Bytes w v0 l) (n0 : l.length ≤ 140737488351232) (w1 : (Lit.int .i64 n).wf = true) (w2 : (Lit.int .i64 m).wf = true) :
    Calls Try.prog 8 #[v0, .int .i64 n, .int .i64 m] w fun e w' => e = .returned (.bool true) ∧ Below w.heap.size w w' := by
  obtain ⟨a0, a1⟩ := i64_of_wf w1
  obtain ⟨b0, b1⟩ := i64_of_wf w2
  clear w1 w2
  obtain ⟨a, c, rfl, _, _, _⟩ := B0.open
  by_cases h1 : n < 0
  · go_enter Try.func8, Try.ntmps8
    go_wp2_with fail
    refine (awake01_any _).mono ?_
    rintro e w1 ⟨rfl, hx1⟩
    go_wp2_with fail
    refine (awake01_any _).mono ?_
    rintro e w2 ⟨rfl, hx2⟩
    go_wp2_with fail
    go_ret
    exact ⟨rfl, below_step hx1 hx2⟩
  by_cases h2 : m < 0
  · go_enter Try.func8, Try.ntmps8
    go_wp2_with fail
    refine (awake01_any _).mono ?_
    rintro e w1 ⟨rfl, hx1⟩
    go_wp2_with fail
    refine (awake01_any _).mono ?_
    rintro e w2 ⟨rfl, hx2⟩
    go_wp2_with fail
    go_ret
    exact ⟨rfl, below_step hx1 hx2⟩
  by_cases h3 : n > (l.length : Int)
  · go_enter Try.func8, Try.ntmps8
    go_wp2_with fail
    refine (awake01_any _).mono ?_
    rintro e w1 ⟨rfl, hx1⟩
    go_wp2_with fail
    refine (awake01_any _).mono ?_
    rintro e w2 ⟨rfl, hx2⟩
    go_wp2_with fail
    go_ret
    exact ⟨rfl, below_step hx1 hx2⟩
  have hsub : IntKind.i64.wrap ((l.length : Int) - n) = (l.length : Int) - n := IntWalk.i64_in _ (by omega)
  by_cases h4 : m > (l.length : Int) - n
  · go_enter Try.func8, Try.ntmps8
    go_wp2_with fail
    refine (awake01_any _).mono ?_
    rintro e w1 ⟨rfl, hx1⟩
    go_wp2_with fail
    refine (awake01_any _).mono ?_
    rintro e w2 ⟨rfl, hx2⟩
    go_wp2_with fail
    go_ret
    exact ⟨rfl, below_step hx1 hx2⟩
  obtain ⟨N, rfl⟩ : ∃ N : Nat, n = N := ⟨n.toNat, by omega⟩
  obtain ⟨M, rfl⟩ : ∃ M : Nat, m = M := ⟨m.toNat, by omega⟩
  have hN : N ≤ l.length := by omega
  have hM : N + M ≤ l.length := by omega
  have hadd : IntKind.i64.wrap ((N : Int) + (M : Int)) = ((N + M : Nat) : Int) := by rw [IntWalk.i64_in _ (by omega)]; omega
  have hsub2 : IntKind.i64.wrap ((l.length : Int) - (N : Int) - (M : Int)) = (l.length : Int) - (N : Int) - (M : Int) := IntWalk.i64_in _ (by omega)
  have k1 : nextCode (N : Int) (l.length - 0) = 0 := by unfold nextCode; rw [if_neg (by omega), if_neg (by omega)]
  have k2 : nextCode (M : Int) (l.length - N) = 0 := by unfold nextCode; rw [if_neg (by omega), if_neg (by omega)]
  have k3 : nextCode ((N + M : Nat) : Int) (l.length - 0) = 0 := by unfold nextCode; rw [if_neg (by omega), if_neg (by omega)]
  have K1 := Lib.hid k1
  have K2 := Lib.hid k2
  have K3 := Lib.hid k3
  obtain ⟨X, hX⟩ : ∃ X, X = l.take N := ⟨_, rfl⟩
  obtain ⟨Y, hY⟩ : ∃ Y, Y = (l.drop N).take M := ⟨_, rfl⟩
  have X1 := Lib.hid (show nextBytes l 0 (N : Int) = X by simp only [hX, nextBytes, k1, if_true, List.drop_zero, Int.toNat_natCast])
  have X2 := Lib.hid (show nextBytes l N (M : Int) = Y by simp [hY, nextBytes, k2])
  have X3 := Lib.hid (show nextBytes l 0 ((N + M : Nat) : Int) = X ++ Y by simp only [hX, hY, nextBytes, k3, if_true, List.drop_zero, Int.toNat_natCast]; exact List.take_add)
  have T1 := Lib.hid (show tkAt l 0 (N : Int) = N by simp only [tkAt, k1, if_true, Int.toNat_natCast, Nat.zero_add])
  have T2 := Lib.hid (show tkAt l N (M : Int) = N + M by simp [tkAt, k2])
  have T3 := Lib.hid (show tkAt l 0 ((N + M : Nat) : Int) = N + M by simp only [tkAt, k3, if_true, Int.toNat_natCast, Nat.zero_add])
  have L1 := Lib.hid (show X.length = N by simp [hX]; omega)
  have L2 := Lib.hid (show Y.length = M by simp [hY]; omega)
  have L3 := Lib.hid (show ((l.length - (N + M) : Nat) : Int) = (l.length : Int) - (N : Int) - (M : Int) by omega)
  obtain ⟨i0, hi, hz0, hz1, hz2⟩ := info_parts infoU8
  clear k1 k2 k3 hX hY
  go_enter Try.func8, Try.ntmps8
  go_wp2_with fail
  refine (awake01_any _).mono ?_
  rintro e w0 ⟨rfl, hx0⟩
  have B1 := B0.below hx0
  clear B0
  go_wp2_with fail
  refine (on_any _ l _ B1 (by omega)).mono ?_
  rintro e w1 ⟨g1, rfl, R1, hx1⟩
  have B2 := B1.below hx1
  have hy1 := below_step hx0 hx1
  clear B1
  go_wp2_with fail
  refine (on_any _ l _ B2 (by omega)).mono ?_
  rintro e w2 ⟨g2, rfl, R2, hx2⟩
  have R12 := R1.below hx2
  have hy2 := below_step hy1 hx2
  have hg1 := R1.lt
  have hg2 := R2.lt
  have hs0 := hx0.size
  have hs1 := hx1.size
  have hs2 := hx2.size
  have hne : g1 ≠ g2 := by omega
  clear R1 B2 hx0 hx1 hx2 hy1
  go_wp2_with fail
  refine (take_any _ g1 l 0 (N : Int) _ R12 (by omega)).mono ?_
  rintro e w3 ⟨v3, rfl, hown3, R13, hgr3⟩
  have R23 := R2.apart R12 (Ne.symm hne) hgr3
  rw [K1.out]
  rw [X1.out] at hown3
  rw [T1.out] at R13
  have hb3 := Bytes.own hown3
  have hs3 := hgr3.size
  have hy3 := hy2.trans (below_of_grown (B := w.heap.size) hgr3 (by omega) (by omega))
  clear hown3 R12 R2 hgr3 hy2
  go_wp2_with fail
  refine (take_any _ g1 l N (M : Int) _ R13 (by omega)).mono ?_
  rintro e w4 ⟨v4, rfl, hown4, R14, hgr4⟩
  have R24 := R23.apart R13 (Ne.symm hne) hgr4
  rw [K2.out]
  rw [X2.out] at hown4
  rw [T2.out] at R14
  have hb4 := Bytes.own hown4
  have hb34 := bytes_apart hb3 R13 hgr4
  have hs4 := hgr4.size
  have hy4 := hy3.trans (below_of_grown (B := w.heap.size) hgr4 (by omega) (by omega))
  clear hown4 R13 R23 hgr4 hy3 hb3
  go_wp2_with fail
  refine (take_any _ g2 l 0 ((N + M : Nat) : Int) _ R24 (by omega)).mono ?_
  rintro e w5 ⟨v5, rfl, hown5, R25, hgr5⟩
  have R15 := R14.apart R24 hne hgr5
  rw [K3.out]
  rw [X3.out] at hown5
  rw [T3.out] at R25
  have hb5 := Bytes.own hown5
  have hb35 := bytes_apart hb34 R24 hgr5
  have hb45 := bytes_apart hb4 R24 hgr5
  have hs5 := hgr5.size
  have hy5 := hy4.trans (below_of_grown (B := w.heap.size) hgr5 (by omega) (by omega))
  clear hown5 R14 R24 hgr5 hy4 hb34 hb4
  go_wp2_with fail
  refine (copy_any _ _ _ hb35 (by rw [L1.out]; omega)).mono ?_
  rintro e w6 ⟨v6, rfl, hown6, hx6⟩
  have hb46 := hb45.below hx6
  have hy6 := hy5.trans (hx6.mono (by omega))
  have hs6 := hx6.size
  have HO := Lib.hid hown6
  obtain ⟨ay, cy, rfl, _, _, _⟩ := hb46.open
  have HB := Lib.hid (show Has w6 (.slice ay (Y).length cy) (Y).length (bs (Y)) from hb46)
  clear hb45 hb46 hb35 hy5 hown6
  go_wp2_with (at_builtin; go_loud (refine wpList_append_want _ ?hgd (.tmp 76) (.tmp 77) 22 rfl w5.heap.size 5 i0 (.int .u8 0) 1 1 Try.underlying22 hi hz0 hz1 hz2 rfl (by decide) v6 _ _ ?hv6 (Hid.out HO) (.slice ay (Y).length cy) _ _ ?hv4 (Hid.out HB) ?c0 ?c2 ?c3 ?c4 ?c5 ?_))
  case hv6 => rfl
  case hv4 => rfl
  case c0 => rw [bs_length, Nat.mul_one]
  case c2 => exact bs_one _
  case c3 => rw [L1.out, L2.out]; unfold maxLen; omega
  case c4 => rw [L1.out, L2.out]; omega
  case c5 => omega
  intro v7 w7 hown7 hgr7
  rw [← bs_append, ← List.length_append] at hown7
  have hb7 := Bytes.own hown7
  have hx7 : Below w5.heap.size w6 w7 := (Below.refl _ _).grown hgr7 (by omega) (fun k hk => (HO.out.lt k hk).1)
  have hb57 : Bytes w7 v5 (X ++ Y) := hb5.below (below_copy hx6 hgr7 HO.out)
  have R17 : Reader w0.heap.size w7 g1 l (N + M) := R15.below (below_copy hx6 hgr7 HO.out)
  have R27 : Reader w1.heap.size w7 g2 l (N + M) := R25.below (below_copy hx6 hgr7 HO.out)
  have hy7 := hy6.trans (hx7.mono (by omega))
  have hs7 := hgr7.size
  clear hown7 hgr7 hx7 R15 R25 hb5 hx6 hy6 HO HB
  obtain ⟨v8, hv8⟩ : ∃ v8, v7 = v8 := ⟨_, rfl⟩
  subst hv8
  go_wp2_with fail
  refine (same_any _ _ _ _ _ hb7 hb57).mono ?_
  rintro e w8 ⟨rfl, hx8⟩
  rw [decide_eq_true rfl]
  have R18 := R17.below hx8
  have R28 := R27.below hx8
  have hy8 := hy7.trans (hx8.mono (by omega))
  have hs8 := hx8.size
  clear R17 R27 hb7 hb57 hy7
  go_wp2_with fail
  refine (place_any _ g1 l (N + M) _ R18).mono ?_
  rintro e w' ⟨rfl, rfl⟩
  go_wp2_with fail
  refine (place_any _ g2 l (N + M) _ R28).mono ?_
  rintro e w' ⟨rfl, rfl⟩
  go_wp2_with fail
  refine (left_any _ g1 l (N + M) _ R18).mono ?_
  rintro e w9 ⟨rfl, hx9⟩
  rw [L3.out]
  go_wp2_with fail
  go_ret
  exact ⟨by simp, hy8.trans (hx9.mono (by omega))⟩
end Go.Proofs.Ytcmoajbdepohmaa
