/- Layer 13: what stands while a node is opened; the openings that are refused at once. -/
import Derived.Test.YtcmoajbdepohmaaNdG
import Derived.Test.YtcmoajbdepohmaaNoPlain
import Derived.Test.YtcmoajbdepohmaaRdrL
namespace Go.Oct
open Go.RowKit
/-- append of a row that is read, one operation alone (in a region that draws its order) -/
theorem oper_append_has_at {P : Program} (w : World) {o : Oper} {a : Act} {K : Act → World → Prop} {Q : Exit → Act → World → Prop} (s x : Operand) (t : TypeId)
    (ho : o.op = .call { callee := .builtin .append, args := #[s, x], argTypes := #[t, t] })
    (base : Nat) (e : TypeId) (i : TypeInfo) (z : Value) (size bytes : Nat) (ht : P.underlying t = some (.slice e)) (hi : P.info? e = some i) (hz : i.zero = some z)
    (hsize : i.size = size) (hby : i.bytes = bytes) (hzs : z.cells.size = size) (hsz : 0 < size)
    (v : Value) (n : Nat) (xs : List Value) (hs : a.eval s = v) (hown : w.ownsRow base e size v n xs)
    (vx : Value) (m : Nat) (news : List Value) (hvx : a.eval x = vx) (hx : Has w vx m news) (hl : news.length = m * size) (h1 : ∀ u ∈ news, u.oneCell' = true)
    (h63 : n + m ≤ maxLen) (hbytes : (n + m) * bytes ≤ 140737488355328) (hbase : base ≤ w.heap.size)
    (h : ∀ v' w', w'.ownsRow base e size v' (n + m) (xs ++ news) → w.grownBy w' v.ownBlock → (v'.ownBlock = v.ownBlock ∨ v'.ownBlock = some w.heap.size) → K (a.put o.dst v') w') : o.wp P a w K Q := by
  obtain ⟨v', w', hr, h2, h3, h4⟩ := run_append_has_at (P := P) w base t o.type e i z size bytes ht hi hz hsize hby hzs hsz v n xs hown vx m news hx hl h1 h63 hbytes hbase
  unfold Oper.wp
  simp only [execOp, ho, resolve, invoke, builtin, Sem.run_bind, Sem.run_pure, Result.andThen_ok, List.map_toArray, List.map_cons, List.map_nil, hs, hvx, hr]
  exact h v' w' h2 h3 h4
end Go.Oct
namespace Go.Proofs.Ytcmoajbdepohmaa
open Go.RowKit Go.Oct
theorem rd_any {l : List UInt8} (a k : Nat) (hk : a + k ≤ l.length) (k1 : 1 ≤ k) (k7 : k ≤ 7) : rdVal l a k = fld l a k ∧ rdAt l a k = a + k ∧ rdCode l a k = 0 := by
  have hlk : ((l.drop a).take k).length = k := by simp; omega
  have hc : rdCode l a k = 0 := by
    unfold rdCode
    rw [if_neg (by omega), if_neg (by omega), Int.toNat_natCast]
    unfold valCode
    rw [if_neg (by omega), if_neg (by have := numVal_seven ((l.drop a).take k) (by omega); omega)]
  refine ⟨?_, ?_, hc⟩
  · simp only [rdVal, hc, if_true, Int.toNat_natCast, fld]
  · simp only [rdAt, hc, if_true, Int.toNat_natCast]
theorem reader_box {base : Nat} {w : World} {g : Nat} {l : List UInt8} {at_ : Nat} (h : Reader base w g l at_) : ∃ cs, w.heap[g]? = some (.cells cs 76 (0, 0)) := by
  obtain ⟨_, _, _, gb, cp, h4, _⟩ := h
  exact ⟨_, h4⟩
theorem infoEnt : (Try.prog.info? 80).map (fun i => (i.zero, i.size, i.bytes)) = some (some (.agg #[.int .i64 0, .int .i64 0, .int .i64 0, .int .i64 0]), 4, 32) := by kernel_rfl
theorem infoKid : (Try.prog.info? 82).map (fun i => (i.zero, i.size, i.bytes)) = some (some (.agg #[.int .i64 0, .int .i64 0, .int .i64 0, .int .i64 0]), 4, 32) := by kernel_rfl
/-- what the two Opens answer -/
def NoPost (kind : Int) (b : List UInt8) (w : World) (e : Ending) (w' : World) : Prop :=
  ∃ ve vk, e = .returned (.tuple #[.agg #[.bool (noLeaf kind b), ve, vk], .int .i64 (noCode kind b : Nat)]) ∧ Quads w' ve (noEs kind b) ∧ Quads w' vk (noKs kind b) ∧ Below w.heap.size w w'
theorem Quads.nil (w : World) : Quads w (.slice none 0 0) [] := ⟨none, 0, rfl, Nat.le_refl _, by decide, fun h => by simp [qs] at h⟩
theorem no_bad {kind : Int} {b : List UInt8} (h : ¬ ndOpens kind b) {w w' : World} {e : Ending} (he : e = .returned (.tuple #[.agg #[.bool false, .slice none 0 0, .slice none 0 0], .int .i64 4])) (hb : Below w.heap.size w w') : NoPost kind b w e w' := by
  refine ⟨.slice none 0 0, .slice none 0 0, ?_, ?_, ?_, hb⟩
  · rw [he, noLeaf, noCode, if_neg h, if_neg h]; rfl
  · rw [noEs, if_neg h]; exact Quads.nil _
  · rw [noKs, if_neg h]; exact Quads.nil _
theorem ndBox_free {w : World} {b : Nat} {leaf : Bool} {ve vk : Value} (h : w.heap[b]? = some (ndBox leaf ve vk)) : ∀ i, w.frozen? ⟨b, i, none⟩ = false := by
  intro i; unfold ndBox at h; simp [World.frozen?, h]
theorem sets3_below {w0 w : World} {B b : Nat} (h : Below B w0 w) (hb : B ≤ b) (v0 v1 v2 : Value) : Below B w0 (((w.setCell ⟨b, 0, none⟩ v0).setCell ⟨b, 1, none⟩ v1).setCell ⟨b, 2, none⟩ v2) := ((h.setCell hb _).setCell hb _).setCell hb _

set_option maxHeartbeats 1000000 in
theorem nodeOpen_short (kind : Int) (v : Value) (l : List UInt8) (w : World) (hB : Bytes w v l) (h0 : l.length < 1) : Calls Try.prog 40 #[.int .i64 kind, v] w (NoPost kind l w) := by
  obtain ⟨a, cap, rfl, hcap, hmax, -⟩ := hB.open
  unfold maxLen at hmax
  have HB := Lib.hid hB
  have HN := Lib.hid (ndOpens_short (kind := kind) h0)
  have hll : l.length ≤ 140737488355328 := by omega
  have HC := Lib.hid (show rdCode l 0 1 = 3 by unfold rdCode; rw [if_neg (by omega), if_pos (by omega)])
  clear hB h0
  go_enter Try.func40, Try.ntmps40
  go_wp2_with fail
  refine (on_any _ l _ (HB.out.alloc _) hll).mono ?_
  rintro e w1 ⟨g, rfl, hr1, hx⟩
  have HZ1 := Lib.hid (box_below (heap_last (w := w) (o := ndBox false (.slice none 0 0) (.slice none 0 0)) rfl) hx)
  have hw1 := below_step (below_new (Below.refl _ w) (ndBox false (.slice none 0 0) (.slice none 0 0))) hx
  have hg0 : w.heap.size < g := by have := hr1.1; simp at this; omega
  have HR1 := Lib.hid hr1
  clear hr1 hx
  go_wp2_with fail
  refine (rdInt_any _ g l 0 1 _ HR1.out (by decide)).mono ?_
  rintro e w2 ⟨rfl, -, hx⟩
  rw [HC.out]
  have hw2 := below_grown hw1 hx (by omega) hw1.size
  have hbz := box_grown HZ1.out hx (by intro e; have := Option.some.inj e; omega)
  obtain ⟨z0, z1, z2⟩ := ndBox_cells hbz
  have hfz := ndBox_free hbz
  have hls := (Array.getElem?_eq_some_iff.1 hbz).1
  clear hx hbz
  go_wp2_with fail
  refine bodyPost_ret (v := .tuple #[.agg #[.bool false, .slice none 0 0, .slice none 0 0], .int .i64 4]) (by simp [results, Try.results40, go_sem, z0, z1, z2]) rfl ?_
  exact no_bad HN.out rfl (sets3_below hw2 (by omega) _ _ _)
set_option maxHeartbeats 1000000 in
theorem nodeOpen_kind (kind : Int) (v : Value) (l : List UInt8) (w : World) (hB : Bytes w v l) (hll : l.length ≤ 140737488355328) (hk1 : kind ≠ 1) (hk2 : kind ≠ 2) (h1 : ¬ l.length < 1) : Calls Try.prog 40 #[.int .i64 kind, v] w (NoPost kind l w) := by
  obtain ⟨a, cap, rfl, hcap, hmax, -⟩ := hB.open
  unfold maxLen at hmax
  have HB := Lib.hid hB
  have HN := Lib.hid (ndOpens_kind (b := l) hk1 hk2)
  have r1 := rd_any (l := l) 0 1 (by omega) (by decide) (by decide)
  have HC := Lib.hid (show rdCode l 0 1 = 0 from r1.2.2)
  have e1 : (kind != 1) = true := by rw [bne_iff_ne]; exact hk1
  have e2 : (kind != 2) = true := by rw [bne_iff_ne]; exact hk2
  clear hB h1 r1 hk1 hk2
  go_enter Try.func40, Try.ntmps40
  go_wp2_with fail
  refine (on_any _ l _ (HB.out.alloc _) hll).mono ?_
  rintro e w1 ⟨g, rfl, hr1, hx⟩
  have HZ1 := Lib.hid (box_below (heap_last (w := w) (o := ndBox false (.slice none 0 0) (.slice none 0 0)) rfl) hx)
  have hw1 := below_step (below_new (Below.refl _ w) (ndBox false (.slice none 0 0) (.slice none 0 0))) hx
  have hg0 : w.heap.size < g := by have := hr1.1; simp at this; omega
  have HR1 := Lib.hid hr1
  clear hr1 hx
  go_wp2_with fail
  refine (rdInt_any _ g l 0 1 _ HR1.out (by decide)).mono ?_
  rintro e w2 ⟨rfl, -, hx⟩
  rw [HC.out]
  have hw2 := below_grown hw1 hx (by omega) hw1.size
  have hbz := box_grown HZ1.out hx (by intro e; have := Option.some.inj e; omega)
  obtain ⟨z0, z1, z2⟩ := ndBox_cells hbz
  have hfz := ndBox_free hbz
  have hls := (Array.getElem?_eq_some_iff.1 hbz).1
  clear hx hbz
  go_wp2_with fail
  refine bodyPost_ret (v := .tuple #[.agg #[.bool false, .slice none 0 0, .slice none 0 0], .int .i64 4]) (by simp [results, Try.results40, go_sem, z0, z1, z2]) rfl ?_
  exact no_bad HN.out rfl (sets3_below hw2 (by omega) _ _ _)
end Go.Proofs.Ytcmoajbdepohmaa
