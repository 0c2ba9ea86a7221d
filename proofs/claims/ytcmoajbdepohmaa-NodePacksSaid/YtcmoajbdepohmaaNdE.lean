/- Layer 13: node.put: numbers behind a body. -/
import Derived.Test.YtcmoajbdepohmaaNdD
import Derived.Test.YtcmoajbdepohmaaNdC
namespace Go.Proofs.Ytcmoajbdepohmaa
open Go.RowKit Go.Oct
theorem grown_next {a b c : World} {row row' : Option Nat} (h : a.grownBy b row) (k : b.grownBy c row') (hr : row' = row ∨ ∀ j, row' = some j → a.heap.size ≤ j) : a.grownBy c row :=
  ⟨k.os.trans h.os, k.tape.trans h.tape, k.output.trans h.output, Nat.le_trans h.size k.size, fun i hi hne =>
    (k.block i (Nat.lt_of_lt_of_le hi h.size) (fun e => by
      rcases hr with h1 | h1
      · exact hne (e.trans h1)
      · have := h1 i e.symm; omega)).trans (h.block i hi hne)⟩
def PutPost (base : Nat) (L : List UInt8) (width : Int) (ns : List Int) (v : Value) (w : World) (e : Ending) (w' : World) : Prop :=
  ∃ v', e = .returned v' ∧ w'.ownsRow base 5 1 v' (L ++ layAll width ns).length (bs (L ++ layAll width ns)) ∧ w.grownBy w' v.ownBlock ∧ (v'.ownBlock = v.ownBlock ∨ ∀ i, v'.ownBlock = some i → w.heap.size ≤ i)
set_option maxHeartbeats 2000000 in
theorem put_any (base : Nat) (v : Value) (L : List UInt8) (width : Int) (ns : List Int) (bn o cap : Nat) (w : World) (hb : base ≤ w.heap.size) (hown : w.ownsRow base 5 1 v L.length (bs L)) (hL : L.length ≤ 1000000) (hn8 : ns.length ≤ 8)
    (hns : ∀ x ∈ ns, -9223372036854775808 ≤ x ∧ x ≤ 9223372036854775807) (hw0 : -9223372036854775808 ≤ width) (hw1 : width ≤ 9223372036854775807)
    (hcs : ∀ i (hi : i < ns.length), w.cell? ⟨bn, o + i, none⟩ = some (.int .i64 ns[i])) (hne : ∀ i, v.ownBlock = some i → i ≠ bn) :
    Calls Try.prog 45 #[v, .int .i64 width, .slice (some ⟨bn, o, none⟩) ns.length cap] w (PutPost base L width ns v w) := by
  obtain ⟨i0', hi, hz0, hz1, hz2⟩ := info_parts infoU8
  have HCS := Lib.hid hcs
  have HO0 := Lib.hid hown
  have HNE := Lib.hid hne
  have HNS := Lib.hid hns
  clear hcs hown hne hns
  go_enter Try.func45, Try.ntmps45
  go_wp2_with fail
  go_loopw [0, 13] (fun b i wr => ∃ k : Nat, k ≤ ns.length ∧ i = .int .i64 k ∧ wr.ownsRow base 5 1 b (L ++ layAll width (ns.take k)).length (bs (L ++ layAll width (ns.take k))) ∧ w.grownBy wr v.ownBlock ∧ (b.ownBlock = v.ownBlock ∨ ∀ i, b.ownBlock = some i → w.heap.size ≤ i)) (fun _ i _ => ns.length - (intOf i).toNat)
  case atStart => exact ⟨0, Nat.zero_le _, rfl, by simpa [layAll] using HO0.out, World.grownBy.refl _ _, .inl rfl⟩
  case round =>
    obtain ⟨k, hk, rfl, hown, hgr, hbk⟩ := hrel
    have HO := Lib.hid hown
    have HGR := Lib.hid hgr
    have HBK := Lib.hid hbk
    by_cases hlt : k < ns.length
    · have hbn : bn < w.heap.size := World.block_lt_of_cell? w _ (HCS.out k hlt)
      have c0 : wr.cell? ⟨bn, o + k, none⟩ = some (.int .i64 ns[k]) := hgr.cell (HCS.out k hlt) (fun e => HNE.out bn e.symm rfl)
      obtain ⟨hx0, hx1⟩ := HNS.out ns[k] (List.getElem_mem _)
      have HT := Lib.hid (show layAll width (ns.take (k + 1)) = layAll width (ns.take k) ++ opn4 width ns[k] by rw [List.take_succ_eq_append_getElem hlt, layAll_append]; simp [layAll])
      have hle := layAll_le width (ns.take k)
      have hlk : (ns.take k).length = k := by simp; omega
      have hz8 := opn4_le width ns[k]
      obtain ⟨X, eX⟩ : ∃ y, opn4 width ns[k] = y := ⟨_, rfl⟩
      rw [eX] at hz8
      obtain ⟨M, eM⟩ : ∃ y, L ++ layAll width (ns.take k) = y := ⟨_, rfl⟩
      have hM : M.length ≤ 1000064 := by rw [← eM, List.length_append]; omega
      have EM := Lib.hid eM
      have EX := Lib.hid eX
      have r0 : (0 : Int) ≤ (k : Int) := by omega
      have r1 : (k : Int) < (ns.length : Int) := by omega
      have hbase : base ≤ wr.heap.size := Nat.le_trans hb hgr.size
      obtain ⟨x, hx⟩ : ∃ x, ns[k] = x := ⟨_, rfl⟩
      rw [hx] at c0 hx0 hx1 EX
      have HX := Lib.hid hx
      clear hx eX eM hle hlk hown hgr hbk
      by_cases hn : x = -1
      · subst hn
        have E1 := Lib.hid (show numBytes 4294967295 width = X from EX.out)
        go_wp2_with fail
        refine (numBytes_any 4294967295 width _ (by decide) (by decide) hw0 hw1).mono ?_
        rintro e wa ⟨va, rfl, howna, hxa⟩
        rw [E1.out] at howna
        have HVA := Lib.hid (Has.own howna)
        have HOA := Lib.hid (own_keep HO.out hxa)
        have hsa := hxa.size
        have HGA := Lib.hid (grown_next HGR.out (grown_of_below hxa none) (.inr (fun j e => by cases e)))
        clear howna hxa c0
        go_wp2_with (at_builtin; go_loud (refine wpList_append_has_at _ rfl (.tmp 25) (.tmp 26) 22 rfl base 5 i0' (.int .u8 0) 1 1 Try.underlying22 hi hz0 hz1 hz2 rfl (by decide) _ _ _ rfl HOA.out va X.length (bs X) rfl HVA.out ?c2 (bs_one _) ?c3 ?c4 ?c5 ?_))
        case c2 => rw [bs_length, Nat.mul_one]
        case c3 => rw [EM.out]; unfold maxLen; omega
        case c4 => rw [EM.out]; omega
        case c5 => omega
        intro vb wb hownb hgrb hbb
        have HOB := Lib.hid (show wb.ownsRow base 5 1 vb (L ++ layAll width (ns.take (k + 1))).length (bs (L ++ layAll width (ns.take (k + 1)))) by
          rw [HT.out, ← List.append_assoc, EM.out, HX.out, EX.out, bs_append, List.length_append]
          rw [EM.out, ← List.length_append, EM.out] at hownb
          exact hownb)
        have HBB := Lib.hid (show vb.ownBlock = v.ownBlock ∨ ∀ i, vb.ownBlock = some i → w.heap.size ≤ i by
          rcases hbb with h | h
          · rw [h]; exact HBK.out
          · right; intro i hi; rw [h] at hi; have := Option.some.inj hi; have := HGA.out.size; omega)
        have HGB := Lib.hid (grown_next HGA.out hgrb HBK.out)
        clear hownb hgrb hbb
        go_wp2_with fail
        go_roundw
        case rel => exact ⟨k + 1, by omega, by go_num, HOB.out, HGB.out, HBB.out⟩
        case measure => simp [intOf]; omega
      · have E1 := Lib.hid (show numBytes x width = X by have := EX.out; unfold opn4 opn at this; rw [if_neg hn] at this; exact this)
        have hb1 : (x == -1) = false := by rw [beq_eq_false_iff_ne]; exact hn
        clear hn
        go_wp2_with fail
        refine (numBytes_any x width _ hx0 hx1 hw0 hw1).mono ?_
        rintro e wa ⟨va, rfl, howna, hxa⟩
        rw [E1.out] at howna
        have HVA := Lib.hid (Has.own howna)
        have HOA := Lib.hid (own_keep HO.out hxa)
        have hsa := hxa.size
        have HGA := Lib.hid (grown_next HGR.out (grown_of_below hxa none) (.inr (fun j e => by cases e)))
        clear howna hxa c0
        go_wp2_with (at_builtin; go_loud (refine wpList_append_has_at _ rfl (.tmp 25) (.tmp 26) 22 rfl base 5 i0' (.int .u8 0) 1 1 Try.underlying22 hi hz0 hz1 hz2 rfl (by decide) _ _ _ rfl HOA.out va X.length (bs X) rfl HVA.out ?c2 (bs_one _) ?c3 ?c4 ?c5 ?_))
        case c2 => rw [bs_length, Nat.mul_one]
        case c3 => rw [EM.out]; unfold maxLen; omega
        case c4 => rw [EM.out]; omega
        case c5 => omega
        intro vb wb hownb hgrb hbb
        have HOB := Lib.hid (show wb.ownsRow base 5 1 vb (L ++ layAll width (ns.take (k + 1))).length (bs (L ++ layAll width (ns.take (k + 1)))) by
          rw [HT.out, ← List.append_assoc, EM.out, HX.out, EX.out, bs_append, List.length_append]
          rw [EM.out, ← List.length_append, EM.out] at hownb
          exact hownb)
        have HBB := Lib.hid (show vb.ownBlock = v.ownBlock ∨ ∀ i, vb.ownBlock = some i → w.heap.size ≤ i by
          rcases hbb with h | h
          · rw [h]; exact HBK.out
          · right; intro i hi; rw [h] at hi; have := Option.some.inj hi; have := HGA.out.size; omega)
        have HGB := Lib.hid (grown_next HGA.out hgrb HBK.out)
        clear hownb hgrb hbb
        go_wp2_with fail
        go_roundw
        case rel => exact ⟨k + 1, by omega, by go_num, HOB.out, HGB.out, HBB.out⟩
        case measure => simp [intOf]; omega
    · obtain rfl : k = ns.length := by omega
      clear hown hgr hbk
      go_wp2_with fail
      go_ret
      have ho := HO.out
      rw [List.take_length] at ho
      exact ⟨_, rfl, ho, HGR.out, HBK.out⟩
/-- the numbers lie in a block that is known whole -/
theorem put_block (base : Nat) (v : Value) (L : List UInt8) (width : Int) (ns : List Int) (bn : Nat) (cs : Array Value) (t : TypeId) (f : Nat × Nat) (w : World) (hbx : w.heap[bn]? = some (.cells cs t f)) (hcs : cs = (ns.map (Value.int .i64)).toArray)
    (hb : base ≤ w.heap.size) (hown : w.ownsRow base 5 1 v L.length (bs L)) (hL : L.length ≤ 1000000) (hn8 : ns.length ≤ 8)
    (hns : ∀ x ∈ ns, -9223372036854775808 ≤ x ∧ x ≤ 9223372036854775807) (hw0 : -9223372036854775808 ≤ width) (hw1 : width ≤ 9223372036854775807) (hne : ∀ i, v.ownBlock = some i → i ≠ bn) :
    Calls Try.prog 45 #[v, .int .i64 width, .slice (some ⟨bn, 0, none⟩) ns.length ns.length] w (PutPost base L width ns v w) := by
  refine put_any base v L width ns bn 0 ns.length w hb hown hL hn8 hns hw0 hw1 (fun i hi => ?_) hne
  rw [World.cell_block hbx, hcs]
  simp [hi]
theorem put_1 (base : Nat) (v : Value) (L : List UInt8) (width : Int) (x : Int) (bn : Nat) (w : World) (hbx : w.heap[bn]? = some (.cells #[.int .i64 x] 3 (0, 0)))
    (hb : base ≤ w.heap.size) (hown : w.ownsRow base 5 1 v L.length (bs L)) (hL : L.length ≤ 1000000) (hw0 : -9223372036854775808 ≤ width) (hw1 : width ≤ 9223372036854775807)
    (hns : (-9223372036854775808 ≤ x ∧ x ≤ 9223372036854775807)) (hne : ∀ i, v.ownBlock = some i → i ≠ bn) :
    Calls Try.prog 45 #[v, .int .i64 width, .slice (some ⟨bn, 0, none⟩) 1 1] w (PutPost base L width [x] v w) :=
  put_block base v L width [x] bn _ _ _ w hbx rfl hb hown hL (by simp) (by intro q hq; simp only [List.mem_cons, List.not_mem_nil, or_false] at hq; rcases hq with rfl <;> simp only [hns, and_self]) hw0 hw1 hne
theorem put_3 (base : Nat) (v : Value) (L : List UInt8) (width : Int) (x y z : Int) (bn : Nat) (w : World) (hbx : w.heap[bn]? = some (.cells #[.int .i64 x, .int .i64 y, .int .i64 z] 3 (0, 0)))
    (hb : base ≤ w.heap.size) (hown : w.ownsRow base 5 1 v L.length (bs L)) (hL : L.length ≤ 1000000) (hw0 : -9223372036854775808 ≤ width) (hw1 : width ≤ 9223372036854775807)
    (hns : (-9223372036854775808 ≤ x ∧ x ≤ 9223372036854775807) ∧ (-9223372036854775808 ≤ y ∧ y ≤ 9223372036854775807) ∧ (-9223372036854775808 ≤ z ∧ z ≤ 9223372036854775807)) (hne : ∀ i, v.ownBlock = some i → i ≠ bn) :
    Calls Try.prog 45 #[v, .int .i64 width, .slice (some ⟨bn, 0, none⟩) 3 3] w (PutPost base L width [x, y, z] v w) :=
  put_block base v L width [x, y, z] bn _ _ _ w hbx rfl hb hown hL (by simp) (by intro q hq; simp only [List.mem_cons, List.not_mem_nil, or_false] at hq; rcases hq with rfl | rfl | rfl <;> simp only [hns, and_self]) hw0 hw1 hne
theorem put_4 (base : Nat) (v : Value) (L : List UInt8) (width : Int) (x y z u : Int) (bn : Nat) (w : World) (hbx : w.heap[bn]? = some (.cells #[.int .i64 x, .int .i64 y, .int .i64 z, .int .i64 u] 3 (0, 0)))
    (hb : base ≤ w.heap.size) (hown : w.ownsRow base 5 1 v L.length (bs L)) (hL : L.length ≤ 1000000) (hw0 : -9223372036854775808 ≤ width) (hw1 : width ≤ 9223372036854775807)
    (hns : (-9223372036854775808 ≤ x ∧ x ≤ 9223372036854775807) ∧ (-9223372036854775808 ≤ y ∧ y ≤ 9223372036854775807) ∧ (-9223372036854775808 ≤ z ∧ z ≤ 9223372036854775807) ∧ (-9223372036854775808 ≤ u ∧ u ≤ 9223372036854775807)) (hne : ∀ i, v.ownBlock = some i → i ≠ bn) :
    Calls Try.prog 45 #[v, .int .i64 width, .slice (some ⟨bn, 0, none⟩) 4 4] w (PutPost base L width [x, y, z, u] v w) :=
  put_block base v L width [x, y, z, u] bn _ _ _ w hbx rfl hb hown hL (by simp) (by intro q hq; simp only [List.mem_cons, List.not_mem_nil, or_false] at hq; rcases hq with rfl | rfl | rfl | rfl <;> simp only [hns, and_self]) hw0 hw1 hne
end Go.Proofs.Ytcmoajbdepohmaa
