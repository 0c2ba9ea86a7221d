/- append of bytes that are read to a slice that is full, whoever's it is: what comes is the call's own. No program is named here. -/
import Derived.Test.YtcmoajbdepohmaaAppend
import Derived.ArgAppend
namespace Go.Oct
open Go.RowKit
theorem wpList_append_full {P : Program} (w : World) {ops : Array Oper} {rest : List Oper} {o : Oper} {a : Act} {Q : Exit → Act → World → Prop} (hgd : o.guard = none) (s x : Operand) (t : TypeId)
    (ho : o.op = .call { callee := .builtin .append, args := #[s, x], argTypes := #[t, t] })
    (e : TypeId) (i : TypeInfo) (z : Value) (size bytes : Nat) (ht : P.underlying t = some (.slice e)) (hi : P.info? e = some i) (hz : i.zero = some z)
    (hsize : i.size = size) (hby : i.bytes = bytes) (hzs : z.cells.size = size) (hsz : 0 < size)
    (b off n : Nat) (olds : List Value) (hs : a.eval s = .slice (some ⟨b, off, none⟩) n n) (hlo : olds.length = n * size) (holds : ∀ j u, olds[j]? = some u → w.cell? ⟨b, off + j, none⟩ = some u)
    (vx : Value) (m : Nat) (news : List Value) (hvx : a.eval x = vx) (hx : Has w vx m news) (hl : news.length = m * size) (h1 : ∀ u ∈ news, u.oneCell' = true) (hm : 0 < m)
    (h63 : n + m ≤ maxLen) (hbytes : (n + m) * bytes ≤ 140737488355328)
    (h : ∀ v' w', w'.ownsRow w.heap.size e size v' (n + m) (olds ++ news) → w.grownBy w' none → wpList P ops Q rest (a.put o.dst v') w') : wpList P ops Q (o :: rest) a w := by
  obtain ⟨ad, cap, rfl, hmc, hcm, hc⟩ := hx
  have hne : news ≠ [] := by
    intro e
    have := Nat.mul_pos hm hsz
    rw [e] at hl
    simp at hl
    omega
  obtain ⟨bx, ox, rfl, hcl⟩ := hc hne
  have hadd : ∀ (b o j : Nat), (⟨b, o, none⟩ : Addr).add j = ⟨b, o + j, none⟩ := by intro b o j; unfold Addr.add; split <;> simp_all
  refine wpList_append_grows w hgd s x t ho e i z size bytes ht hi hz hsize hby hzs hsz (some ⟨b, off, none⟩) n n olds hs (fun h => by cases h) hlo (fun b' hb' j u hj => ?_) ⟨bx, ox, none⟩ m cap news hvx hl (fun j u hj => ?_) h1 (by omega) h63 hbytes h
  · obtain rfl := Option.some.inj hb'
    rw [hadd]; exact holds j u hj
  · rw [hadd]; exact hcl j u hj
/-- the same, one operation alone (in a region that draws its order) -/
theorem oper_append_full {P : Program} (w : World) {o : Oper} {a : Act} {K : Act → World → Prop} {Q : Exit → Act → World → Prop} (s x : Operand) (t : TypeId)
    (ho : o.op = .call { callee := .builtin .append, args := #[s, x], argTypes := #[t, t] })
    (e : TypeId) (i : TypeInfo) (z : Value) (size bytes : Nat) (ht : P.underlying t = some (.slice e)) (hi : P.info? e = some i) (hz : i.zero = some z)
    (hsize : i.size = size) (hby : i.bytes = bytes) (hzs : z.cells.size = size) (hsz : 0 < size)
    (b off n : Nat) (olds : List Value) (hs : a.eval s = .slice (some ⟨b, off, none⟩) n n) (hlo : olds.length = n * size) (holds : ∀ j u, olds[j]? = some u → w.cell? ⟨b, off + j, none⟩ = some u)
    (vx : Value) (m : Nat) (news : List Value) (hvx : a.eval x = vx) (hx : Has w vx m news) (hl : news.length = m * size) (hm : 0 < m)
    (h63 : n + m ≤ maxLen) (hbytes : (n + m) * bytes ≤ 140737488355328)
    (h : ∀ v' w', w'.ownsRow w.heap.size e size v' (n + m) (olds ++ news) → w.grownBy w' none → K (a.put o.dst v') w') : o.wp P a w K Q := by
  obtain ⟨ad, cap, rfl, hmc, hcm, hc⟩ := hx
  have hne : news ≠ [] := by
    intro e
    have := Nat.mul_pos hm hsz
    rw [e] at hl
    simp at hl
    omega
  obtain ⟨bx, ox, rfl, hcl⟩ := hc hne
  have hadd : ∀ (b o j : Nat), (⟨b, o, none⟩ : Addr).add j = ⟨b, o + j, none⟩ := by intro b o j; unfold Addr.add; split <;> simp_all
  obtain ⟨v', w', hrun, r1, r2⟩ := run_append_arg_grows (P := P) w t o.type e i z size bytes ht hi hz hsize hby hzs hsz ⟨b, off, none⟩ n n olds hlo (fun j u hj => by rw [hadd]; exact holds j u hj) ⟨bx, ox, none⟩ m cap news hl (fun j u hj => by rw [hadd]; exact hcl j u hj) (by omega) h63 hbytes
  unfold Oper.wp
  simp [execOp, ho, resolve, invoke, builtin, hs, hvx, hrun, Result.andThen]
  exact h v' w' r1 r2
/-- only new blocks -/
theorem below_none {w w' : World} (h : w.grownBy w' none) : Below w.heap.size w w' := ⟨h.os, h.tape, h.output, h.size, fun k hk => h.block k hk (by simp)⟩
/-- a block that stands since before stands on -/
theorem box_below {w w' : World} {g : Nat} {o : Obj} (h : w.heap[g]? = some o) (k : Below w.heap.size w w') : w'.heap[g]? = some o :=
  (k.block g (Array.getElem?_eq_some_iff.1 h).1).trans h
theorem box_grown {w w' : World} {g : Nat} {row : Option Nat} {o : Obj} (h : w.heap[g]? = some o) (k : w.grownBy w' row) (hr : row ≠ some g) : w'.heap[g]? = some o :=
  (k.block g (Array.getElem?_eq_some_iff.1 h).1 (fun e => hr e.symm)).trans h
theorem own_block_ge {w : World} {base : Nat} {e : TypeId} {size n : Nat} {v : Value} {xs : List Value} (h : w.ownsRow base e size v n xs) {g : Nat} (hg : g < base) : v.ownBlock ≠ some g := by
  intro e'
  have := h.lt g e'
  omega
end Go.Oct
