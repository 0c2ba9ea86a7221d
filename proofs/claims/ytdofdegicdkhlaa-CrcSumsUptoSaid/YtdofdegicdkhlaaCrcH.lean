/- The walk of CrcSums: the sum of bytes in any number of pieces; the pieces stay. -/
import Derived.Test.YtdofdegicdkhlaaCrcD
import Derived.Test.YtdofdegicdkhlaaLent
import Derived.Test.YtdofdegicdkhlaaRely
namespace Go.Proofs.Ytdofdegicdkhlaa
open Go.RowKit Go.Oct

theorem infoSlice : (Try.prog.info? 23).map (fun i => (i.zero, i.size, i.bytes)) = some (some (.slice none 0 0), 1, 24) := by kernel_rfl
/-- the lent pieces so far: each is lent, none lies in the block of the joined text -/
def Lends (base : Nat) (w : World) (va : Value) (xs : List Value) (ls : List (List UInt8)) : Prop :=
  xs.length = ls.length ∧ ∀ j (h : j < xs.length) (h' : j < ls.length), Lend base w xs[j] ls[j] ∧ (xs[j].ownBlock ≠ va.ownBlock)
theorem Lend.block {base : Nat} {w : World} {v : Value} {l : List UInt8} (h : Lend base w v l) : ∃ g cs, v.ownBlock = some g ∧ base ≤ g ∧ w.heap[g]? = some (.cells cs 5 (0, 0)) := by
  obtain ⟨g, cp, rfl, ho⟩ := h
  rcases ho.2 with ⟨h', _⟩ | ⟨g', cap', cur, h', hb, hg, _⟩
  · simp at h'
  · simp only [Value.slice.injEq, Option.some.injEq, Addr.mk.injEq, and_true, true_and] at h'
    obtain ⟨rfl, _⟩ := h'
    exact ⟨g, cur, rfl, hb, hg⟩
theorem Lend.kept {base : Nat} {w w' : World} {v : Value} {l : List UInt8} {row : Option Nat} (h : Lend base w v l) (k : w.grownBy w' row) (hne : v.ownBlock ≠ row) : Lend base w' v l := by
  obtain ⟨g, cp, rfl, ho⟩ := h
  exact ⟨g, cp, rfl, ho.kept k (.inr hne)⟩
theorem Lend.mono {base base' : Nat} {w : World} {v : Value} {l : List UInt8} (h : Lend base w v l) (hb : base' ≤ base) : Lend base' w v l := by
  obtain ⟨g, cp, rfl, ho⟩ := h
  refine ⟨g, cp, rfl, ho.1, ho.2.imp id fun ⟨g, c, cur, hv, hg, r⟩ => ⟨g, c, cur, hv, by omega, r⟩⟩
theorem Lends.step {base : Nat} {w w' : World} {va va' : Value} {xs : List Value} {ls : List (List UInt8)} (h : Lends base w va xs ls) (k : w.grownBy w' va.ownBlock)
    (hb : va'.ownBlock = va.ownBlock ∨ va'.ownBlock = some w.heap.size) : Lends base w' va' xs ls := by
  refine ⟨h.1, fun j hj hj' => ?_⟩
  obtain ⟨h1, h2⟩ := h.2 j hj hj'
  refine ⟨h1.kept k h2, ?_⟩
  rcases hb with hb | hb
  · rw [hb]; exact h2
  · rw [hb]
    obtain ⟨g, cs, hg, _, hh⟩ := h1.block
    rw [hg]
    intro e
    have := (Array.getElem?_eq_some_iff.1 hh).1
    have := Option.some.inj e
    omega
theorem Lends.below {base : Nat} {w w' : World} {va : Value} {xs : List Value} {ls : List (List UInt8)} (h : Lends base w va xs ls) (k : Below w.heap.size w w') : Lends base w' va xs ls :=
  ⟨h.1, fun j hj hj' => ⟨(h.2 j hj hj').1.below k, (h.2 j hj hj').2⟩⟩
/-- a row of slices is another block than a row of bytes -/
theorem row_unlike {base : Nat} {w : World} {v x : Value} {n g : Nat} {ys : List Value} {cs : Array Value} (ho : w.ownsRow base 23 1 v n ys) (hx : x.ownBlock = some g) (hg : w.heap[g]? = some (.cells cs 5 (0, 0))) : x.ownBlock ≠ v.ownBlock := by
  rw [hx]
  intro e
  rcases ho.2 with ⟨rfl, _⟩ | ⟨g', cap', cur, rfl, hb, hg', _⟩
  · simp [Value.ownBlock] at e
  · simp only [Value.ownBlock, Option.some.injEq] at e
    subst e
    rw [hg] at hg'
    simp at hg'

theorem len_flat (ls : List (List UInt8)) (k : Nat) (h : k < ls.length) : (ls.take k).flatten.length + ls[k].length ≤ ls.flatten.length := by
  have h1 : ls.flatten = (ls.take (k + 1)).flatten ++ (ls.drop (k + 1)).flatten := by rw [← List.flatten_append, List.take_append_drop]
  have h2 := flatten_snoc ls k h
  rw [h1, h2]
  simp
set_option maxHeartbeats 1000000 in
theorem crcSums_walk (v0 : Value) (ls : List (List UInt8)) (w : World) (hp : Pieces w v0 ls) (hn : ls.length ≤ 1048576) (hf : ls.flatten.length ≤ 1048576) :
    Calls Try.prog 3 #[v0] w fun e w' => e = .returned (.bool true) ∧ Below w.heap.size w w' := by
  obtain ⟨vs, hvl, hh, hB⟩ := hp
  obtain ⟨a, cap, rfl, hcap, hmax, hcells⟩ := hh.open
  unfold maxLen at hmax
  obtain ⟨i0, hi, hz0, hz1, hz2⟩ := info_parts infoU8
  obtain ⟨i1, ki, kz0, kz1, kz2⟩ := info_parts infoSlice
  by_cases h0 : ls.length = 0
  · have hl : ls = [] := List.eq_nil_of_length_eq_zero h0
    subst hl
    clear h0 hn hf hvl hB hcells hh hcap
    simp only [List.length_nil]
    go_enter Try.func3, Try.ntmps3
    go_wp2_with fail
    refine wp_loop_rounds 1 ?_
    rw [rounds_succ]
    go_wp2_with fail
    refine (awake02_any _).mono ?_
    rintro e w1 ⟨rfl, hx1⟩
    have hP : Pieces w1 (.slice none 0 0) [] := ⟨[], rfl, ⟨none, 0, rfl, Nat.le_refl _, by decide, fun h => by simp at h⟩, fun i h => by simp at h⟩
    go_wp2_with fail
    refine (of_any _ [] _ hP).mono ?_
    rintro e w' ⟨rfl, rfl⟩
    go_wp2_with fail
    refine (refOf_any _ [] _ (Bytes.nil _)).mono ?_
    rintro e w' ⟨rfl, rfl⟩
    go_wp2_with fail
    refine wp_loop_rounds 1 ?_
    rw [rounds_succ]
    go_wp2_with fail
    go_ret
    exact ⟨rfl, hx1⟩
  obtain ⟨b, o, rfl, hcs⟩ := hcells (by omega)
  have hvl1 : vs.length ≤ ls.length := Nat.le_of_eq hvl
  have hvl2 : ls.length ≤ vs.length := Nat.le_of_eq hvl.symm
  have HV := Lib.hid hvl
  have HC := Lib.hid hcs
  have HB := Lib.hid hB
  have HH := Lib.hid hh
  have hbB : b < w.heap.size := World.block_lt_of_cell? w _ (hcs 0 (by omega))
  clear hvl hcs hB hcells hh
  go_enter Try.func3, Try.ntmps3
  go_wp2_with fail
  go_loopw [3, 4, 5] (fun va vi i wr => ∃ (k : Nat) (xs : List Value), k ≤ ls.length ∧ i = .int .i64 k ∧ wr.ownsRow w.heap.size 5 1 va (ls.take k).flatten.length (bs (ls.take k).flatten) ∧ wr.ownsRow w.heap.size 23 1 vi k xs ∧ Lends w.heap.size wr va xs (ls.take k) ∧ Below w.heap.size w wr) (fun _ _ i _ => ls.length - (intOf i).toNat)
  case atStart => exact ⟨0, [], Nat.zero_le _, rfl, World.ownsRow_nil _ _ _ _, World.ownsRow_nil _ _ _ _, ⟨rfl, fun j h => by simp at h⟩, Below.refl _ _⟩
  case round =>
    obtain ⟨k, xs, hk, rfl, hown, howi, hlen, hnx⟩ := hrel
    by_cases hlt : k < ls.length
    · have hBk := HB.out k (by omega) hlt
      have hcell : wr.cell? ⟨b, o + k, none⟩ = some (vs[k]'(by omega)) := (hnx.cell hbB).trans (HC.out k (by omega))
      have hBr := hBk.below (hnx.mono (Nat.le_refl _))
      obtain ⟨x, hx⟩ : ∃ x, x = vs[k]'(by omega) := ⟨_, rfl⟩
      rw [← hx] at hcell hBr
      clear hBk hx
      have HF := Lib.hid (len_flat ls k hlt)
      have HFS := Lib.hid (flatten_snoc ls k hlt)
      have hsz := hnx.size
      obtain ⟨m, hm⟩ : ∃ m, m = ls[k] := ⟨_, rfl⟩
      obtain ⟨F, hF⟩ : ∃ F, F = (ls.take k).flatten := ⟨_, rfl⟩
      rw [← hm] at hBr HF HFS
      rw [← hF] at hown HF HFS
      clear hF
      have HM := Lib.hid hm
      clear hm
      obtain ⟨ax, cx, rfl, _, _, _⟩ := hBr.open
      have HA := Lib.hid (show Has wr (.slice ax m.length cx) m.length (bs m) from hBr)
      go_wp2_with (at_builtin; go_loud (refine wpList_append_has_at _ rfl (.tmp 13) (.tmp 17) 23 rfl w.heap.size 5 i0 (.int .u8 0) 1 1 Try.underlying23 hi hz0 hz1 hz2 rfl (by decide) u3 _ _ rfl hown (.slice ax m.length cx) _ _ rfl HA.out ?c0 ?c2 ?c3 ?c4 ?c5 ?_))
      case c0 => rw [bs_length, Nat.mul_one]
      case c2 => exact bs_one _
      case c3 => have := HF.out; unfold maxLen; omega
      case c4 => have := HF.out; omega
      case c5 => omega
      intro va' w1 hown1 hgr hblk
      have hlen1 := hlen.step hgr hblk
      have hnx1 : Below w.heap.size w w1 := hnx.grown hgr hsz (fun k hk => (hown.lt k hk).1)
      have howi1 : w1.ownsRow w.heap.size 23 1 u4 k xs := by
        refine howi.kept hgr ?_
        by_cases hv : u4.ownBlock = none
        · exact .inl hv
        · right
          intro e
          rcases howi.2 with ⟨rfl, _⟩ | ⟨g', cap', cur, rfl, hb, hg', _⟩
          · simp [Value.ownBlock] at hv
          · rcases hown.2 with ⟨rfl, _⟩ | ⟨g2, cap2, cur2, rfl, _, hg2, _⟩
            · simp [Value.ownBlock] at e
            · simp only [Value.ownBlock, Option.some.injEq] at e
              subst e
              rw [hg2] at hg'
              simp at hg'
      have hcell1 : w1.cell? ⟨b, o + k, none⟩ = some (.slice ax m.length cx) := ((hnx1.cell hbB).trans (hnx.cell hbB).symm).trans hcell
      have hB1 : Bytes w1 (.slice ax m.length cx) m := by
        have h1 := (HB.out k (by omega) hlt)
        have h2 := (hnx.cell hbB (p := ⟨b, o + k, none⟩)).symm.trans hcell
        rw [HC.out k (by omega)] at h2
        have h3 := Option.some.inj h2
        rw [h3, ← HM.out] at h1
        exact h1.below (hnx1.mono (Nat.le_refl _))
      have hsz1 := hnx1.size
      have hblk2 := hown1.lt
      clear hown howi hlen hnx hcell hBr HA hgr hblk hi hz0 hz1 hz2 hsz
      go_wp2_with fail
      refine (lent_any _ _ _ hB1 (by have := HF.out; omega)).mono ?_
      rintro e w2 ⟨v2, rfl, hl2, hx2⟩
      have hown2 := own_keep hown1 hx2
      have howi2 := own_keep howi1 hx2
      have hlen2 := hlen1.below hx2
      have hnx2 := hnx1.trans (hx2.mono hsz1)
      have hsz2 := hnx2.size
      obtain ⟨gl, cs, hgl, hgb, hgh⟩ := hl2.block
      have hglt : gl < w2.heap.size := (Array.getElem?_eq_some_iff.1 hgh).1
      have hne : v2.ownBlock ≠ va'.ownBlock := by
        rw [hgl]
        intro e
        have := (hblk2 gl e.symm).2
        omega
      obtain ⟨g2, c2, hv2, _⟩ := id hl2
      subst hv2
      have hl3 : Lend w.heap.size w2 (.slice (some ⟨g2, 0, none⟩) m.length c2) m := hl2.mono hsz1
      have HL3 := Lib.hid hl3
      have HNE := Lib.hid hne
      clear hown1 howi1 hlen1 hx2 hnx1 hl2 hl3 hblk2 hcell1 hB1 hne hgl hgb hgh hglt
      go_wp2_with (at_builtin; go_loud (refine wpList_append_own _ rfl (.tmp 19) (.tmp 25) 22 rfl w.heap.size 23 i1 (.slice none 0 0) 1 24 Try.underlying22 ki kz0 kz1 kz2 rfl (by decide) u4 _ _ rfl (howi2.alloc _) ⟨w2.heap.size, 0, none⟩ 1 1 [.slice (some ⟨g2, 0, none⟩) m.length c2] rfl rfl ?c1 ?c2 ?c3 ?c4 ?c5 ?_))
      case c1 => exact cell_one_new _ _ _
      case c2 => intro u hu; simp at hu; subst hu; rfl
      case c3 => unfold maxLen; omega
      case c4 => omega
      case c5 => simp; omega
      intro vi' w3 howi3 hgr3 _
      have hal : Below w2.heap.size w2 (w2.alloc (.cells #[.slice (some ⟨g2, 0, none⟩) m.length c2] 23)) := (Below.refl _ _).alloc (Nat.le_refl _) _
      have hnx3 : Below w.heap.size w w3 := (hnx2.alloc hsz2 _).grown hgr3 (by simp; omega) (fun k hk => (howi2.lt k hk).1)
      have hown3 : w3.ownsRow w.heap.size 5 1 va' (F.length + m.length) (bs F ++ bs m) := by
        refine (own_keep hown2 hal).kept hgr3 ?_
        by_cases hv : va'.ownBlock = none
        · exact .inl hv
        · right
          rcases hown2.2 with ⟨rfl, _⟩ | ⟨g', cap', cur, rfl, hb, hg', _⟩
          · simp [Value.ownBlock] at hv
          · exact row_unlike howi2 rfl hg'
      have hlen3 : Lends w.heap.size w3 va' (xs ++ [.slice (some ⟨g2, 0, none⟩) m.length c2]) (ls.take (k + 1)) := by
        have hk1 : xs.length = k := by have := howi2.1; omega
        have htk : (ls.take k).length = k := by simp; omega
        have htk1 : (ls.take (k + 1)).length = k + 1 := by simp; omega
        refine ⟨by simp [hk1, htk1], fun j hj hj' => ?_⟩
        have step : ∀ {x : Value} {l : List UInt8}, Lend w.heap.size w2 x l → Lend w.heap.size w3 x l := fun {x l} hx => by
          obtain ⟨g, cs, hg, _, hh⟩ := hx.block
          exact (hx.below hal).kept hgr3 (row_unlike howi2 hg hh)
        by_cases hjk : j < k
        · have h1 := hlen2.2 j (by omega) (by omega)
          rw [List.getElem_append_left (by omega)]
          have e : (ls.take (k + 1))[j] = (ls.take k)[j]'(by omega) := by simp
          rw [e]
          exact ⟨step h1.1, h1.2⟩
        · have hj2 : j = k := by omega
          subst hj2
          rw [List.getElem_append_right (by omega)]
          have e : (ls.take (j + 1))[j] = m := by rw [HM.out]; simp
          rw [e]
          simp only [hk1, Nat.sub_self, List.getElem_cons_zero]
          exact ⟨step HL3.out, HNE.out⟩
      clear hown2 howi2 hlen2 hgr3 hnx2 hal
      go_wp2_with fail
      go_roundw
      case rel =>
        refine ⟨k + 1, _, by omega, by go_num, ?_, howi3, hlen3, hnx3⟩
        rw [HFS.out, bs_append, List.length_append]
        exact hown3
      case measure => simp [intOf]; omega
    · have hkl : k = ls.length := by omega
      subst hkl
      rw [List.take_length] at hown hlen
      have hBa : Bytes wr u3 ls.flatten := Bytes.own hown
      have hxl : xs.length = ls.length := hlen.1
      have hh4 : Has wr u4 ls.length xs := Has.own howi
      have hP : Pieces wr u4 ls := ⟨xs, hxl, hh4, fun i h h' => (hlen.2 i h h').1.bytes⟩
      obtain ⟨a4, c4, rfl, hc4, hmax4, hcells4⟩ := hh4.open
      unfold maxLen at hmax4
      obtain ⟨b4, o4, rfl, hcs4⟩ := hcells4 (by omega)
      have hb4 : b4 < wr.heap.size := World.block_lt_of_cell? wr _ (hcs4 0 (by omega))
      have HC4 := Lib.hid hcs4
      have HLE := Lib.hid hlen
      have HXL := Lib.hid hxl
      clear hown howi hh4 hlen hcells4 hcs4 hxl
      go_wp2_with fail
      refine (awake02_any _).mono ?_
      rintro e w1 ⟨rfl, hx1⟩
      have hP1 := hP.below hx1
      have hBa1 := hBa.below hx1
      clear hP hBa
      go_wp2_with fail
      refine (of_any _ ls _ hP1).mono ?_
      rintro e w' ⟨rfl, rfl⟩
      go_wp2_with fail
      refine (refOf_any _ ls.flatten _ hBa1).mono ?_
      rintro e w' ⟨rfl, rfl⟩
      have hs1 := hx1.size
      have hsz := hnx.size
      have hnx1 := hnx.trans (hx1.mono hsz)
      clear hP1 hBa1
      go_wp2_with fail
      go_loopw [6] (fun i wq => ∃ j : Nat, j ≤ ls.length ∧ i = .int .i64 j ∧ Below w1.heap.size w1 wq) (fun i _ => ls.length - (intOf i).toNat)
      case atStart => exact ⟨0, Nat.zero_le _, rfl, Below.refl _ _⟩
      case round =>
        obtain ⟨j, hj, rfl, hnq⟩ := hrel
        by_cases hlt2 : j < ls.length
        · have hjx : j < xs.length := by have := HXL.out; omega
          have hjv : j < vs.length := by omega
          have hL := (HLE.out.2 j hjx hlt2).1
          have hB := HB.out j hjv hlt2
          have hq4 := HC4.out j hjx
          have hqv := HC.out j hjv
          have hall := hx1.trans (hnq.mono hs1)
          have hallw := hnx.trans (hall.mono hsz)
          have hcx0 : wr.cell? ⟨b4, o4 + j, none⟩ = some xs[j] := (hall.cell hb4).trans hq4
          have hcy0 : wr.cell? ⟨b, o + j, none⟩ = some vs[j] := (hallw.cell hbB).trans hqv
          have hLx0 := hL.below hall
          have hBy0 := hB.below hallw
          have hm0 : ls[j].length ≤ 140737488355320 := by have := len_flat ls j hlt2; omega
          obtain ⟨x, hx⟩ : ∃ x, x = xs[j] := ⟨_, rfl⟩
          obtain ⟨y, hy⟩ : ∃ y, y = vs[j] := ⟨_, rfl⟩
          obtain ⟨m, hmm⟩ : ∃ m, m = ls[j] := ⟨_, rfl⟩
          have hcx : wr.cell? ⟨b4, o4 + j, none⟩ = some x := by rw [hx]; exact hcx0
          have hcy : wr.cell? ⟨b, o + j, none⟩ = some y := by rw [hy]; exact hcy0
          have hLx : Lend w.heap.size wr x m := by rw [hx, hmm]; exact hLx0
          have hBy : Bytes wr y m := by rw [hy, hmm]; exact hBy0
          have hm : m.length ≤ 140737488355320 := by rw [hmm]; exact hm0
          have q0 : (0 : Int) ≤ (j : Int) := by omega
          have q1 : (j : Int) < (ls.length : Int) := by omega
          clear hx hy hmm hm0 hLx0 hBy0 hcx0 hcy0 hL hB hq4 hqv hall hallw
          go_wp2_with fail
          refine region_each 10 [some 42, some 43, some 44, some 45, some 46, some 47, some 48, some 49, some 50, some 51] [[], [], [0, 1], [2], [], [], [4, 5], [6], [3, 7], [8]]
            [kIs (.slice (some ⟨b4, o4, none⟩) ls.length c4), kIs (.int .i64 j), kIs (.pointer (some ⟨b4, o4 + j, none⟩)), kIs x, kIs (.slice (some ⟨b, o, none⟩) ls.length cap), kIs (.int .i64 j), kIs (.pointer (some ⟨b, o + j, none⟩)), kIs y, kIs (.bool true), kIs (.bool false)]
            (by kernel_rfl) (by kernel_rfl) (by kernel_rfl) (by kernel_rfl) ?_ ?_
          · simp only [obligsD]
            refine ⟨?_, ?_, ?_, ?_, ?_, ?_, ?_, ?_, ?_, ?_, trivial⟩
            · intro us w1 _ _
              change Oper.wp _ _ _ _ _ _
              go_simp
              exact ⟨_, rfl, Below.refl _ _, rfl⟩
            · intro us w1 _ _
              change Oper.wp _ _ _ _ _ _
              go_simp
              exact ⟨_, rfl, Below.refl _ _, rfl⟩
            · intro us w1 _ hd
              simp only [List.mem_cons, List.not_mem_nil, or_false, forall_eq_or_imp, forall_eq, List.getD_cons_zero, List.getD_cons_succ, kIs] at hd
              simp only [putD, List.getD_cons_zero, List.getD_cons_succ, Act.put, hd]
              go_simp
              exact ⟨_, rfl, Below.refl _ _, rfl⟩
            · intro us w1 hb hd
              simp only [List.mem_cons, List.not_mem_nil, or_false, forall_eq, List.getD_cons_zero, List.getD_cons_succ, kIs] at hd
              simp only [putD, List.getD_cons_zero, List.getD_cons_succ, Act.put, hd]
              have hc := (hb.cell (World.block_lt_of_cell? _ _ hcx)).trans hcx
              go_simp
              exact ⟨_, rfl, Below.refl _ _, rfl⟩
            · intro us w1 _ _
              change Oper.wp _ _ _ _ _ _
              go_simp
              exact ⟨_, rfl, Below.refl _ _, rfl⟩
            · intro us w1 _ _
              change Oper.wp _ _ _ _ _ _
              go_simp
              exact ⟨_, rfl, Below.refl _ _, rfl⟩
            · intro us w1 _ hd
              simp only [List.mem_cons, List.not_mem_nil, or_false, forall_eq_or_imp, forall_eq, List.getD_cons_zero, List.getD_cons_succ, kIs] at hd
              simp only [putD, List.getD_cons_zero, List.getD_cons_succ, Act.put, hd]
              go_simp
              exact ⟨_, rfl, Below.refl _ _, rfl⟩
            · intro us w1 hb hd
              simp only [List.mem_cons, List.not_mem_nil, or_false, forall_eq, List.getD_cons_zero, List.getD_cons_succ, kIs] at hd
              simp only [putD, List.getD_cons_zero, List.getD_cons_succ, Act.put, hd]
              have hc := (hb.cell (World.block_lt_of_cell? _ _ hcy)).trans hcy
              go_simp
              exact ⟨_, rfl, Below.refl _ _, rfl⟩
            · intro us w1 hb hd
              simp only [List.mem_cons, List.not_mem_nil, or_false, forall_eq_or_imp, forall_eq, List.getD_cons_zero, List.getD_cons_succ, kIs] at hd
              simp only [putD, List.getD_cons_zero, List.getD_cons_succ, Act.put, hd]
              go_simp
              refine (kept_any _ x y m _ (hLx.below hb) (hBy.below hb) hm).mono ?_
              rintro e w2 ⟨rfl, hb2⟩
              exact ⟨_, rfl, hb2, rfl⟩
            · intro us w1 _ hd
              simp only [List.mem_cons, List.not_mem_nil, or_false, forall_eq, List.getD_cons_zero, List.getD_cons_succ, kIs] at hd
              simp only [putD, List.getD_cons_zero, List.getD_cons_succ, Act.put, hd]
              go_simp
              exact ⟨_, rfl, Below.refl _ _, rfl⟩
          · intro us w2 hb hp
            have h9 := hp 9 (by simp)
            simp only [List.getD_cons_zero, List.getD_cons_succ, kIs] at h9
            rw [show List.range 10 = [0, 1, 2, 3, 4, 5, 6, 7, 8, 9] from rfl]
            simp only [List.drop_succ_cons, List.drop_zero, putD, List.getD_cons_zero, List.getD_cons_succ, Act.put, List.setIfInBounds_toArray, List.set_cons_zero, List.set_cons_succ, h9]
            go_wp2_with fail
            go_roundw
            case rel => exact ⟨j + 1, by omega, by go_num, hnq.trans (hb.mono hnq.size)⟩
            case measure => simp [intOf]; omega
        · go_wp2_with fail
          go_ret
          exact ⟨rfl, hnx1.trans (hnq.mono (by omega))⟩
end Go.Proofs.Ytdofdegicdkhlaa
