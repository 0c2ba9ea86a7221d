/- A region that draws its order and whose operations only make new memory: one look at each operation serves every order. No program is named here. -/
import Derived.Orders
import Derived.Below
import Derived.Still
import Derived.StillTail
import Derived.Test.YtcmoajbdepohmaaBase
namespace Go.Oct
open Go.RowKit
/-- which operation of the region writes this slot -/
def writer (ops : Array Oper) (t : Tmp) : Option Nat := (List.range ops.size).find? fun j => (ops[j]?).bind (·.dst) == some t
/-- does the operation wait for that one -/
def waits (o : Oper) (j : Nat) : Bool := o.after.any fun e => Region.binds .any e && e.on == j
/-- the operations whose results an operation looks at -/
def needs (ops : Array Oper) (o : Oper) : List Nat := ((o.looksAt ops).filterMap (writer ops)).filter (waits o)
def putAll (ops : Array Oper) (us : Nat → Value) : List Nat → Act → Act
  | [], a => a
  | j :: r, a => putAll ops us r (a.put ((ops[j]?).bind (·.dst)) (us j))
/-- the region's form: no operation is a choice; each waits only for earlier ones; each that writes writes a slot of its own that the frame has; of a slot that is looked at either the writer is waited for or the writer waits -/
def relyB (ops : Array Oper) (n : Nat) : Bool :=
  Region.noSelect ops &&
  (List.range ops.size).all fun i => match ops[i]? with
    | none => false
    | some o => (o.after.all fun e => !Region.binds .any e || decide (e.on < i)) &&
      (match o.dst with | some d => decide (d < n) && writer ops d == some i | none => true) &&
      ((o.looksAt ops).filterMap (writer ops)).all fun j => waits o j || (match ops[j]? with | some oj => waits oj i | none => false)
/-- what is known of a value, and stays known while memory is only added to -/
structure Keeps where
  p : Value → World → Prop
  keep : ∀ v w w', p v w → Below w.heap.size w w' → p v w'
/-- nothing is known -/
def kAny : Keeps := ⟨fun _ _ => True, fun _ _ _ _ _ => trivial⟩
/-- it is this value -/
def kIs (x : Value) : Keeps := ⟨fun v _ => v = x, fun _ _ _ h _ => h⟩
def post (Posts : List Keeps) (i : Nat) : Value → World → Prop := (Posts.getD i kAny).p
theorem post_keep (Posts : List Keeps) : ∀ j v w w', post Posts j v w → Below w.heap.size w w' → post Posts j v w' := fun _ v w w' => Keeps.keep _ v w w'
/-- no panic leaves the region -/
def noPanic (Q : Exit → Act → World → Prop) : Exit → Act → World → Prop
  | .outgrown, a, w => Q .outgrown a w
  | _, _, _ => False
/-- what an operation leaves -/
def Done (o : Oper) (a : Act) (w : World) (R : Value → World → Prop) (a' : Act) (w' : World) : Prop := ∃ v, a' = a.put o.dst v ∧ Below w.heap.size w w' ∧ R v w'
/-- what is to be shown of one operation -/
def oblig (P : Program) (Q : Exit → Act → World → Prop) (a0 : Act) (w0 : World) (ops : Array Oper) (Posts : List Keeps) (i : Nat) (o : Oper) : Prop :=
  ∀ us w, Below w0.heap.size w0 w → (∀ j ∈ needs ops o, post Posts j (us j) w) →
    if Region.wanted o (yielded ops (putAll ops us (needs ops o) a0).tmps) then o.wp P (putAll ops us (needs ops o) a0) w (Done o (putAll ops us (needs ops o) a0) w (post Posts i)) (noPanic Q)
    else post Posts i undef w
def obligs (P : Program) (Q : Exit → Act → World → Prop) (a0 : Act) (w0 : World) (ops : Array Oper) (Posts : List Keeps) : Nat → List Oper → Prop
  | _, [] => True
  | i, o :: r => oblig P Q a0 w0 ops Posts i o ∧ obligs P Q a0 w0 ops Posts (i + 1) r
/-- the same of one operation, with the numbers of those that it looks at and what is known of them written out -/
def obligN (P : Program) (Q : Exit → Act → World → Prop) (a0 : Act) (w0 : World) (ops : Array Oper) (Posts : List Keeps) (ns : List Nat) (k : Keeps) (o : Oper) : Prop :=
  ∀ us w, Below w0.heap.size w0 w → (∀ j ∈ ns, (Posts.getD j kAny).p (us j) w) →
    if Region.wanted o (yielded ops (putAll ops us ns a0).tmps) then o.wp P (putAll ops us ns a0) w (Done o (putAll ops us ns a0) w k.p) (noPanic Q)
    else k.p undef w
/-- a conjunction over the operations -/
def obligsN (P : Program) (Q : Exit → Act → World → Prop) (a0 : Act) (w0 : World) (ops : Array Oper) (Posts : List Keeps) : List (List Nat) → List Keeps → List Oper → Prop
  | ns :: nss, k :: ks, o :: r => obligN P Q a0 w0 ops Posts ns k o ∧ obligsN P Q a0 w0 ops Posts nss ks r
  | [], [], [] => True
  | _, _, _ => False
section
variable {P : Program} {Q : Exit → Act → World → Prop} {a0 : Act} {w0 : World} {ops : Array Oper} {Posts : List Keeps}
theorem obligs_at : ∀ (l : List Oper) (k : Nat), obligs P Q a0 w0 ops Posts k l → ∀ j o, l[j]? = some o → oblig P Q a0 w0 ops Posts (k + j) o
  | [], _, _, _, _, h => by simp at h
  | x :: r, k, h, 0, o, ho => by simp at ho; subst ho; exact h.1
  | x :: r, k, h, j + 1, o, ho => by
    have := obligs_at r (k + 1) h.2 j o (by simpa using ho)
    rwa [show k + 1 + j = k + (j + 1) by omega] at this
/-- the slot's value: the writer's where it has come up, else the old one -/
def slot (ops : Array Oper) (a0 : Act) (us : Nat → Value) (l : Nat → Bool) (t : Tmp) : Option Value :=
  match writer ops t with
  | some j => if l j then some (us j) else a0.tmps[t]?
  | none => a0.tmps[t]?
structure Inv (ops : Array Oper) (a0 : Act) (w0 : World) (Posts : List Keeps) (listed : Array Bool) (us : Nat → Value) (a : Act) (w : World) : Prop where
  size : listed.size = ops.size
  defers : a.defers = a0.defers
  slots : ∀ t, t < a0.tmps.size → a.tmps[t]? = slot ops a0 us (fun j => listed.getD j false) t
  len : a.tmps.size = a0.tmps.size
  below : Below w0.heap.size w0 w
  posts : ∀ j, listed.getD j false = true → post Posts j (us j) w
  closed : ∀ j o, ops[j]? = some o → listed.getD j false = true → ∀ i, waits o i = true → listed.getD i false = true
theorem relyB_spec {n : Nat} (h : relyB ops n = true) {i : Nat} {o : Oper} (hi : ops[i]? = some o) :
    (∀ e ∈ o.after, Region.binds .any e = true → e.on < i) ∧ (∀ d, o.dst = some d → d < n ∧ writer ops d = some i) ∧
    (∀ t ∈ o.looksAt ops, ∀ j, writer ops t = some j → waits o j = true ∨ ∃ oj, ops[j]? = some oj ∧ waits oj i = true) := by
  simp only [relyB, Bool.and_eq_true, List.all_eq_true] at h
  have hlt : i < ops.size := (Array.getElem?_eq_some_iff.1 hi).1
  have h1 := h.2 i (by simpa using hlt)
  rw [hi] at h1
  simp only [Bool.and_eq_true] at h1
  obtain ⟨⟨h2, h3⟩, h4⟩ := h1
  refine ⟨fun e he hb => ?_, fun d hd => ?_, fun t ht j hj => ?_⟩
  · have := Array.all_eq_true'.1 h2 e he
    simp only [hb, Bool.not_true, Bool.false_or, decide_eq_true_eq] at this
    exact this
  · rw [hd] at h3
    simpa using h3
  · have := List.all_eq_true.1 h4 j (List.mem_filterMap.2 ⟨t, ht, hj⟩)
    simp only [Bool.or_eq_true] at this
    refine this.imp id fun h5 => ?_
    split at h5
    · rename_i oj hoj; exact ⟨oj, hoj, h5⟩
    · cases h5
theorem writer_spec {t : Tmp} {j : Nat} (h : writer ops t = some j) : ∃ o, ops[j]? = some o ∧ o.dst = some t := by
  have := List.find?_some h
  cases ho : ops[j]? with
  | none => simp [ho] at this
  | some o => exact ⟨o, rfl, by simpa [ho] using this⟩
theorem none_listed (m j : Nat) : (Array.replicate m false).getD j false = false := by
  rw [Array.getD_eq_getD_getElem?, Array.getElem?_replicate]
  split <;> rfl
theorem putAll_len (us : Nat → Value) : ∀ (l : List Nat) (a : Act), (putAll ops us l a).tmps.size = a.tmps.size
  | [], _ => rfl
  | j :: r, a => by
    rw [putAll, putAll_len us r]
    cases (ops[j]?).bind (·.dst) <;> simp [Act.put]
theorem putAll_defers (us : Nat → Value) : ∀ (l : List Nat) (a : Act), (putAll ops us l a).defers = a.defers
  | [], _ => rfl
  | j :: r, a => by
    rw [putAll, putAll_defers us r]
    cases (ops[j]?).bind (·.dst) <;> simp [Act.put]
/-- what stands in a slot behind the fillings -/
theorem putAll_slot (us : Nat → Value) (hw : ∀ j o d, ops[j]? = some o → o.dst = some d → writer ops d = some j) : ∀ (l : List Nat) (a : Act) (t : Tmp), t < a.tmps.size →
    (putAll ops us l a).tmps[t]? = match writer ops t with
      | some j => if j ∈ l then some (us j) else a.tmps[t]?
      | none => a.tmps[t]?
  | [], a, t, _ => by simp [putAll]; split <;> rfl
  | k :: r, a, t, ht => by
    have hsz : (a.put ((ops[k]?).bind (·.dst)) (us k)).tmps.size = a.tmps.size := by cases (ops[k]?).bind (·.dst) <;> simp [Act.put]
    rw [putAll, putAll_slot us hw r _ t (by rw [hsz]; exact ht)]
    cases hwt : writer ops t with
    | none =>
      simp only []
      cases hd : (ops[k]?).bind (·.dst) with
      | none => rfl
      | some d =>
        have hne : d ≠ t := by
          rintro rfl
          cases ho : ops[k]? with
          | none => simp [ho] at hd
          | some o => rw [hw k o d ho (by simpa [ho] using hd)] at hwt; cases hwt
        simp [Act.put, Array.getElem?_setIfInBounds_ne hne]
    | some j =>
      simp only []
      by_cases hjr : j ∈ r
      · simp [hjr]
      · by_cases hjk : j = k
        · subst hjk
          obtain ⟨o, ho, hd⟩ := writer_spec hwt
          simp [hjr, ho, hd, Act.put, ht]
        · have : (a.put ((ops[k]?).bind (·.dst)) (us k)).tmps[t]? = a.tmps[t]? := by
            cases hd : (ops[k]?).bind (·.dst) with
            | none => rfl
            | some d =>
              have hne : d ≠ t := by
                rintro rfl
                cases ho : ops[k]? with
                | none => simp [ho] at hd
                | some o =>
                  rw [hw k o d ho (by simpa [ho] using hd)] at hwt
                  exact hjk (Option.some.inj hwt).symm
              simp [Act.put, Array.getElem?_setIfInBounds_ne hne]
          simp [hjr, hjk, this]
theorem getD_of_get {xs ys : Array Value} {t : Nat} (h : xs[t]? = ys[t]?) : xs.getD t undef = ys.getD t undef := by
  simp [h]
theorem looks_same {n : Nat} (hB : relyB ops n = true) {listed : Array Bool} {us : Nat → Value} {a : Act} {w : World} (inv : Inv ops a0 w0 Posts listed us a w)
    {i : Nat} {o : Oper} (hi : ops[i]? = some o) (hr : i ∈ Region.ready .any ops listed) (t : Tmp) (ht : t ∈ o.looksAt ops) :
    a.tmps[t]? = (putAll ops us (needs ops o) a0).tmps[t]? := by
  have hwr : ∀ j o d, ops[j]? = some o → o.dst = some d → writer ops d = some j := fun j o d ho hd => ((relyB_spec hB ho).2.1 d hd).2
  by_cases hlt : t < a0.tmps.size
  · rw [inv.slots t hlt, putAll_slot us hwr _ _ _ hlt]
    unfold slot
    cases hw : writer ops t with
    | none => rfl
    | some j =>
      simp only []
      obtain ⟨hun, o', ho', hall⟩ := mem_ready.1 hr
      rw [hi] at ho'
      obtain rfl := Option.some.inj ho'
      by_cases hwt : waits o j = true
      · have hj : listed.getD j false = true := by
          simp only [waits, Array.any_eq_true', Bool.and_eq_true, beq_iff_eq] at hwt
          obtain ⟨e, he, hb, rfl⟩ := hwt
          exact hall e he hb
        have hmem : j ∈ needs ops o := List.mem_filter.2 ⟨List.mem_filterMap.2 ⟨t, ht, hw⟩, hwt⟩
        simp [hj, hmem]
      · have hmem : j ∉ needs ops o := fun h => hwt (List.mem_filter.1 h).2
        have hj : listed.getD j false ≠ true := by
          intro hj
          rcases (relyB_spec hB hi).2.2 t ht j hw with h | ⟨oj, hoj, h⟩
          · exact hwt h
          · have := inv.closed j oj hoj hj i h
            have hlt : i < listed.size := by
              rcases Nat.lt_or_ge i listed.size with h | h
              · exact h
              · simp [Array.getElem?_eq_none h] at this
            simp [hlt] at this hun
            rw [this] at hun; cases hun
        simp [hj, hmem]
  · rw [Array.getElem?_eq_none (by rw [inv.len]; exact Nat.le_of_not_lt hlt), Array.getElem?_eq_none (by rw [putAll_len]; exact Nat.le_of_not_lt hlt)]
theorem exec_same {o : Oper} {a A : Act} (hs : ∀ cs b, o.op ≠ .select cs b) (h : ∀ t ∈ o.looksAt ops, a.tmps[t]? = A.tmps[t]?) : execOp a.eval o = execOp A.eval o :=
  execOp_congr o hs fun x hx => by
    cases x with
    | tmp t => exact getD_of_get (h t (List.mem_append_left _ (List.mem_filterMap.2 ⟨.tmp t, by simpa using hx, rfl⟩)))
    | _ => rfl
theorem wanted_same {o : Oper} {a A : Act} (h : ∀ t ∈ o.looksAt ops, a.tmps[t]? = A.tmps[t]?) : Region.wanted o (yielded ops a.tmps) = Region.wanted o (yielded ops A.tmps) := by
  unfold Region.wanted
  cases hg : o.guard with
  | none => rfl
  | some gw =>
    obtain ⟨g, want⟩ := gw
    have hy : yielded ops a.tmps g = yielded ops A.tmps g := by
      unfold yielded
      cases ht : (ops[g]?).bind (·.dst) with
      | none => rfl
      | some t =>
        have := h t (by simp [Oper.looksAt, hg, ht])
        simp [this]
    simp only [hy]
def upd (us : Nat → Value) (i : Nat) (v : Value) : Nat → Value := fun j => if j = i then v else us j
theorem inv_step {n : Nat} (hB : relyB ops n = true)
    {listed : Array Bool} {us : Nat → Value} {a : Act} {w w' : World} (inv : Inv ops a0 w0 Posts listed us a w)
    {i : Nat} {o : Oper} (hi : ops[i]? = some o) (hr : i ∈ Region.ready .any ops listed) (v : Value) (hb : Below w.heap.size w w') (hp : post Posts i v w') :
    Inv ops a0 w0 Posts (listed.setIfInBounds i true) (upd us i v) (a.put o.dst v) w' := by
  have hwr : ∀ j o d, ops[j]? = some o → o.dst = some d → writer ops d = some j := fun j o d ho hd => ((relyB_spec hB ho).2.1 d hd).2
  have hlt : i < ops.size := (Array.getElem?_eq_some_iff.1 hi).1
  have hil : i < listed.size := by rw [inv.size]; exact hlt
  obtain ⟨hun, o', ho', hall⟩ := mem_ready.1 hr
  rw [hi] at ho'
  obtain rfl := Option.some.inj ho'
  have hset : ∀ j, (listed.setIfInBounds i true).getD j false = (if j = i then true else listed.getD j false) := by
    intro j
    by_cases hj : j = i
    · subst hj; simp [hil]
    · rw [if_neg hj, getD_set_ne false (fun e => hj e.symm)]
  refine ⟨by simpa using inv.size, by cases o.dst <;> exact inv.defers, fun t ht => ?_, by cases o.dst <;> simpa [Act.put] using inv.len, inv.below.trans (hb.mono inv.below.size), fun j hj => ?_, fun j oj hoj hj k hk => ?_⟩
  · have h0 := inv.slots t ht
    unfold slot at h0 ⊢
    cases hw : writer ops t with
    | none =>
      rw [hw] at h0
      simp only [] at h0 ⊢
      rw [← h0]
      cases hd : o.dst with
      | none => rfl
      | some d =>
        have hne : d ≠ t := by rintro rfl; rw [hwr i o d hi hd] at hw; cases hw
        simp [Act.put, Array.getElem?_setIfInBounds_ne hne]
    | some j =>
      rw [hw] at h0
      simp only [hset] at h0 ⊢
      by_cases hj : j = i
      · subst hj
        obtain ⟨o2, ho2, hd⟩ := writer_spec hw
        rw [hi] at ho2
        obtain rfl := Option.some.inj ho2
        have : t < a.tmps.size := by rw [inv.len]; exact ht
        simp [hd, Act.put, this, upd]
      · have hsame : (a.put o.dst v).tmps[t]? = a.tmps[t]? := by
          cases hd : o.dst with
          | none => rfl
          | some d =>
            have hne : d ≠ t := by
              rintro rfl
              rw [hwr i o d hi hd] at hw
              exact hj (Option.some.inj hw).symm
            simp [Act.put, Array.getElem?_setIfInBounds_ne hne]
        rw [hsame, h0]
        simp [hj, upd]
  · rw [hset] at hj
    by_cases hji : j = i
    · subst hji; simpa [upd] using hp
    · rw [if_neg hji] at hj
      simpa [upd, hji] using post_keep Posts _ _ _ _ (inv.posts j hj) hb
  · rw [hset] at hj ⊢
    by_cases hki : k = i
    · simp [hki]
    · rw [if_neg hki]
      by_cases hji : j = i
      · subst hji
        rw [hi] at hoj
        obtain rfl := Option.some.inj hoj
        simp only [waits, Array.any_eq_true', Bool.and_eq_true, beq_iff_eq] at hk
        obtain ⟨e, he, hb, rfl⟩ := hk
        exact hall e he hb
      · rw [if_neg hji] at hj
        exact inv.closed j oj hoj hj k hk
theorem put_inj {a : Act} {d : Option Tmp} {u v : Value} (hd : ∀ t, d = some t → t < a.tmps.size) (h : a.put d u = a.put d v) : a.put d u = a.put d v ∧ (d = none ∨ u = v) := by
  refine ⟨h, ?_⟩
  cases d with
  | none => exact .inl rfl
  | some t =>
    right
    have ht := hd t rfl
    have := congrArg (fun x : Act => x.tmps[t]?) h
    simpa [Act.put, ht] using this
theorem op_step {n : Nat} (hn : a0.tmps.size = n) (hB : relyB ops n = true)
    {listed : Array Bool} {us : Nat → Value} {a : Act} {w : World} (inv : Inv ops a0 w0 Posts listed us a w) {i : Nat} (hob : ∀ o, ops[i]? = some o → oblig P Q a0 w0 ops Posts i o) (hr : i ∈ Region.ready .any ops listed) {K : Act → World → Prop}
    (hK : ∀ us' a' w', Inv ops a0 w0 Posts (listed.setIfInBounds i true) us' a' w' → K a' w') : wpOp P ops Q i K a w := by
  obtain ⟨hun, o, hi, hall⟩ := mem_ready.1 hr
  have hsel : ∀ cs b, o.op ≠ .select cs b := fun cs b => Region.noSelect_spec (by simp only [relyB, Bool.and_eq_true] at hB; exact hB.1) i o cs b hi
  have hsame := looks_same hB inv hi hr
  have hneed : ∀ j ∈ needs ops o, post Posts j (us j) w := fun j hj => inv.posts j (by
    have hwt := (List.mem_filter.1 hj).2
    simp only [waits, Array.any_eq_true', Bool.and_eq_true, beq_iff_eq] at hwt
    obtain ⟨e, he, hb, rfl⟩ := hwt
    exact hall e he hb)
  have h := hob o hi us w inv.below hneed
  generalize hA : putAll ops us (needs ops o) a0 = A at h hsame
  have hAs : ∀ t, o.dst = some t → t < A.tmps.size := fun t ht => by rw [← hA, putAll_len, hn]; exact ((relyB_spec hB hi).2.1 t ht).1
  unfold wpOp
  simp only [hi]
  rw [wanted_same hsame]
  have fin : ∀ v w', Done o A w (post Posts i) (A.put o.dst v) w' → K (a.put o.dst v) w' := by
    rintro v w' ⟨v', he, hb, hp⟩
    rcases (put_inj hAs he).2 with hd | rfl
    · have h1 := hK _ _ _ (inv_step hB inv hi hr v' hb hp)
      have e1 : a.put o.dst v = a.put o.dst v' := by rw [hd]; rfl
      rw [e1]; exact h1
    · exact hK _ _ _ (inv_step hB inv hi hr v hb hp)
  by_cases hw : Region.wanted o (yielded ops A.tmps) = true
  · rw [if_pos hw] at h ⊢
    left
    unfold Oper.wp at h ⊢
    rw [exec_same hsel hsame]
    generalize (execOp A.eval o).run P w = r at h ⊢
    cases r with
    | ok nx w' =>
      cases nx <;> simp only [Oper.upon] at h ⊢
      case value v => exact fin v w' h
      case skip => exact fin _ w' h
      case defer d =>
        obtain ⟨v, he, _⟩ := h
        have := congrArg Act.defers he
        exfalso
        cases hd : o.dst <;> simp [hd, Act.put] at this
      case enter f args =>
        refine Calls.mono h fun e w'' he => ?_
        cases e with
        | returned v => exact fin v w'' he
        | panicked c => exact he.elim
        | outgrown => exact he
      case row row args => exact Rows.mono h fun v w'' he => fin v w'' he
    | halt x w' =>
      cases x <;> simp only [Oper.upon] at h ⊢
      case panic u => exact h.elim
  · rw [if_neg hw] at h ⊢
    exact hK _ _ _ (inv_step hB inv hi hr undef (Below.refl _ _) h)
theorem ready_some {n : Nat} (hB : relyB ops n = true) {listed : Array Bool} (hs : listed.size = ops.size) (h : Region.ready .any ops listed = []) : ∀ j, j < ops.size → listed.getD j false = true := by
  intro j
  induction j using Nat.strongRecOn with
  | _ j ih =>
    intro hj
    cases hl : listed.getD j false with
    | true => rfl
    | false =>
      have hm : j ∈ Region.ready .any ops listed := by
        refine mem_ready.2 ⟨?_, ops[j], Array.getElem?_eq_getElem hj, fun e he hb => ?_⟩
        · have : j < listed.size := by omega
          simpa [this] using hl
        · have := (relyB_spec hB (Array.getElem?_eq_getElem hj)).1 e he hb
          exact ih _ this (by omega)
      rw [h] at hm; cases hm
theorem any_of_inv {n : Nat} (hn : a0.tmps.size = n) (hB : relyB ops n = true)
    (hob : ∀ i o, ops[i]? = some o → oblig P Q a0 w0 ops Posts i o)
    (hend : ∀ us w, Below w0.heap.size w0 w → (∀ j, j < ops.size → post Posts j (us j) w) → Q .normal (putAll ops us (List.range ops.size) a0) w) :
    ∀ (fuel : Nat) (listed : Array Bool) (us : Nat → Value) (a : Act) (w : World), Inv ops a0 w0 Posts listed us a w → listed.toList.count false ≤ fuel → wpAny P .any ops Q fuel listed a w := by
  have hwr : ∀ j o d, ops[j]? = some o → o.dst = some d → writer ops d = some j := fun j o d ho hd => ((relyB_spec hB ho).2.1 d hd).2
  have done : ∀ (listed : Array Bool) (us : Nat → Value) (a : Act) (w : World), Inv ops a0 w0 Posts listed us a w → Region.ready .any ops listed = [] → Q .normal a w := by
    intro listed us a w inv hr
    have hl := ready_some hB inv.size hr
    have he : a = putAll ops us (List.range ops.size) a0 := by
      have ht : a.tmps = (putAll ops us (List.range ops.size) a0).tmps := by
        apply Array.ext_getElem?
        intro t
        by_cases hlt : t < a0.tmps.size
        · rw [inv.slots t hlt, putAll_slot us hwr _ _ _ hlt]
          unfold slot
          cases hw : writer ops t with
          | none => rfl
          | some j =>
            obtain ⟨o, ho, _⟩ := writer_spec hw
            have hj : j < ops.size := (Array.getElem?_eq_some_iff.1 ho).1
            simp [hl j hj, hj]
        · rw [Array.getElem?_eq_none (by rw [inv.len]; exact Nat.le_of_not_lt hlt), Array.getElem?_eq_none (by rw [putAll_len]; exact Nat.le_of_not_lt hlt)]
      have hd : a.defers = (putAll ops us (List.range ops.size) a0).defers := by rw [inv.defers, putAll_defers]
      cases a; simp only at ht hd; rw [ht, hd]
    rw [he]
    exact hend us w inv.below fun j hj => inv.posts j (hl j hj)
  intro fuel
  induction fuel with
  | zero =>
    intro listed us a w inv hc
    have hr : Region.ready .any ops listed = [] := by
      apply List.eq_nil_iff_forall_not_mem.2
      intro i hi
      obtain ⟨hun, o, ho, _⟩ := mem_ready.1 hi
      have hlt : i < listed.size := by rw [inv.size]; exact (Array.getElem?_eq_some_iff.1 ho).1
      have : false ∈ listed.toList := by
        rw [Array.getD_eq_getD_getElem?] at hun
        simp [hlt] at hun
        rw [← hun]; exact Array.mem_toList_iff.2 (Array.getElem_mem hlt)
      have := List.count_pos_iff.2 this
      omega
    exact ⟨hr, done listed us a w inv hr⟩
  | succ fuel ih =>
    intro listed us a w inv hc
    refine ⟨fun hr => done listed us a w inv hr, fun i hi => ?_⟩
    refine op_step hn hB inv (hob i) hi fun us' a' w' inv' => ih _ us' a' w' inv' ?_
    obtain ⟨hun, o, ho, _⟩ := mem_ready.1 hi
    have hlt : i < listed.size := by rw [inv.size]; exact (Array.getElem?_eq_some_iff.1 ho).1
    have hf : listed[i] = false := by simpa [hlt] using hun
    have : (listed.setIfInBounds i true).toList.count false + 1 = listed.toList.count false := by
      rw [Array.toList_setIfInBounds, List.count_set (by simpa using hlt)]
      have h1 : listed.toList[i]'(by simpa using hlt) = false := by simpa using hf
      have h2 : 0 < listed.toList.count false := List.count_pos_iff.2 (h1 ▸ List.getElem_mem _)
      have h4 : (if listed.toList[i]'(by simpa using hlt) == false then 1 else 0) = 1 := by rw [h1]; rfl
      rw [h4]
      have h5 : (if true == false then 1 else 0) = 0 := rfl
      rw [h5]
      omega
    omega
/-- A region that draws its order, whose operations only make new memory: each operation is looked at once, with what is known of those that it waits for. -/
theorem wp_region_rely {id : Nat} {l : List Oper} {Posts : List Keeps} (hm : P.follows .mixedOrders = true) (hB : relyB l.toArray a0.tmps.size = true)
   
    (hob : obligs P Q a0 w0 l.toArray Posts 0 l)
    (hend : ∀ us w, Below w0.heap.size w0 w → (∀ j, j < l.length → post Posts j (us j) w) → Q .normal (putAll l.toArray us (List.range l.length) a0) w) :
    (Code.region id l.toArray true).wp P Q a0 w0 := by
  refine wp_region_any hm ?_
  refine any_of_inv (w0 := w0) rfl hB (fun i o ho => ?_) (by simpa using hend) _ _ (fun _ => undef) a0 _ ⟨by simp, rfl, fun t _ => ?_, rfl, ⟨rfl, rfl, rfl, Nat.le_refl _, fun _ _ => rfl⟩, fun j hj => ?_, fun j o _ hj => ?_⟩ ?_
  · have := obligs_at l 0 hob i o (by simpa using ho)
    rwa [Nat.zero_add] at this
  · unfold slot
    cases writer l.toArray t with
    | none => rfl
    | some j => simp only []; rw [none_listed]; rfl
  · rw [none_listed] at hj; cases hj
  · rw [none_listed] at hj; cases hj
  · simp
theorem obligs_of_N (all : List Keeps) (ops : Array Oper) : ∀ (nss : List (List Nat)) (ks pre : List Keeps) (r : List Oper), all = pre ++ ks → nss = r.map (needs ops) →
    obligsN P Q a0 w0 ops all nss ks r → obligs P Q a0 w0 ops all pre.length r
  | [], [], _, [], _, _, _ => trivial
  | ns :: nss, k :: ks, pre, o :: r, hall, hn, h => by
    simp only [List.map_cons, List.cons.injEq] at hn
    refine ⟨fun us w hb hd => ?_, ?_⟩
    · have h1 := h.1 us w hb (by rw [hn.1]; exact hd)
      rw [hn.1] at h1
      have e : post all pre.length = k.p := by
        unfold post
        rw [hall]; simp
      rw [e]; exact h1
    · have := obligs_of_N all ops nss ks (pre ++ [k]) r (by rw [hall]; simp) hn.2 h.2
      simpa using this
  | [], [], _, _ :: _, _, _, h => h.elim
  | [], _ :: _, _, _, _, _, h => h.elim
  | _ :: _, [], _, _, _, _, h => h.elim
  | _ :: _, _ :: _, _, [], _, _, h => h.elim
/-- A region that draws its order, whose operations only make new memory: each operation is looked at once, with what is known of those that it waits for. -/
theorem region_rely {id : Nat} {l : List Oper} (nss : List (List Nat)) (ks : List Keeps) (hm : P.follows .mixedOrders = true) (hB : relyB l.toArray a0.tmps.size = true) (hN : nss = l.map (needs l.toArray))
    (hob : obligsN P Q a0 w0 l.toArray ks nss ks l)
    (hend : ∀ us w, Below w0.heap.size w0 w → (∀ j, j < l.length → (ks.getD j kAny).p (us j) w) → Q .normal (putAll l.toArray us (List.range l.length) a0) w) :
    (Code.region id l.toArray true).wp P Q a0 w0 :=
  wp_region_rely hm hB (obligs_of_N ks _ nss ks [] l rfl hN hob) hend
/-- the first n have come up, no other -/
def headUp (n m : Nat) : Array Bool := (List.replicate n true ++ List.replicate (m - n) false).toArray
theorem any_of_tail {n m : Nat} (hn : a0.tmps.size = m) (hB : relyB ops m = true) (hs : Region.sinkB .any ops n = true) (hc : Region.chainB .any ops n = true) (hlt : n < ops.size)
    (hq : Region.seqB .any ops (ops.size - n) n (headUp n ops.size) = true)
    (hob : ∀ i o, i < n → ops[i]? = some o → oblig P Q a0 w0 ops Posts i o)
    (hend : ∀ us w, Below w0.heap.size w0 w → (∀ j, j < n → post Posts j (us j) w) → wpList P ops Q (ops.toList.drop n) (putAll ops us (List.range n) a0) w) :
    ∀ (fuel : Nat) (listed : Array Bool) (us : Nat → Value) (a : Act) (w : World), Inv ops a0 w0 Posts listed us a w → (∀ t, n ≤ t → t < ops.size → listed.getD t true = false) → listed.toList.count false = fuel → wpAny P .any ops Q fuel listed a w := by
  have hwr : ∀ j o d, ops[j]? = some o → o.dst = some d → writer ops d = some j := fun j o d ho hd => ((relyB_spec hB ho).2.1 d hd).2
  intro fuel
  induction fuel with
  | zero =>
    intro listed us a w inv htl hcnt
    have h1 := htl n (Nat.le_refl _) hlt
    have hl : n < listed.size := by rw [inv.size]; exact hlt
    have : false ∈ listed.toList := by
      rw [Array.getD_eq_getD_getElem?] at h1
      simp [hl] at h1
      rw [← h1]; exact Array.mem_toList_iff.2 (Array.getElem_mem hl)
    have := List.count_pos_iff.2 this
    omega
  | succ fuel ih =>
    intro listed us a w inv htl hcnt
    by_cases hall : ∀ i, i < n → listed.getD i false = true
    · have he : listed = headUp n ops.size := by
        apply Array.ext_getElem?
        intro i
        by_cases hi : i < n
        · have h1 := hall i hi
          have hl : i < listed.size := by rw [inv.size]; omega
          rw [Array.getD_eq_getD_getElem?] at h1
          simp [hl] at h1
          simp [headUp, hl, h1, List.getElem?_append, hi]
        · by_cases hi2 : i < ops.size
          · have h1 := htl i (by omega) hi2
            have hl : i < listed.size := by rw [inv.size]; omega
            rw [Array.getD_eq_getD_getElem?] at h1
            simp [hl] at h1
            simp [headUp, hl, h1, List.getElem?_append, hi, show i - n < ops.size - n by omega]
          · have hl : listed.size ≤ i := by rw [inv.size]; omega
            rw [Array.getElem?_eq_none hl]
            simp [headUp, List.getElem?_append, hi, show ops.size - n ≤ i - n by omega]
      have hcnt2 : fuel + 1 = (ops.toList.drop n).length := by
        rw [← hcnt, he]
        simp [headUp, List.count_replicate]
      have hae : a = putAll ops us (List.range n) a0 := by
        have ht : a.tmps = (putAll ops us (List.range n) a0).tmps := by
          apply Array.ext_getElem?
          intro t
          by_cases hlt2 : t < a0.tmps.size
          · rw [inv.slots t hlt2, putAll_slot us hwr _ _ _ hlt2]
            unfold slot
            cases hw : writer ops t with
            | none => rfl
            | some j =>
              simp only []
              by_cases hj : j < n
              · simp [hall j hj, hj]
              · obtain ⟨o, ho, _⟩ := writer_spec hw
                have hj2 : j < ops.size := (Array.getElem?_eq_some_iff.1 ho).1
                have h1 := getD_both (htl j (by omega) hj2)
                have h2 : j ∉ List.range n := by simp [hj]
                rw [if_neg h2, if_neg (by rw [h1]; simp)]
          · rw [Array.getElem?_eq_none (by rw [inv.len]; exact Nat.le_of_not_lt hlt2), Array.getElem?_eq_none (by rw [putAll_len]; exact Nat.le_of_not_lt hlt2)]
        have hd : a.defers = (putAll ops us (List.range n) a0).defers := by rw [inv.defers, putAll_defers]
        cases a; simp only at ht hd; rw [ht, hd]
      rw [hcnt2, hae, he]
      refine wpAny_of_seq (ops.toList.drop n) n _ _ _ (fun j => by simp) ?_ (hend us w inv.below fun j hj => inv.posts j (hall j hj))
      have : (ops.toList.drop n).length = ops.size - n := by simp
      rw [this]
      exact hq
    · have hex : ∃ i, i < n ∧ listed.getD i false = false := by
        apply Classical.byContradiction
        intro h
        apply hall
        intro i hi
        cases hl : listed.getD i false with
        | true => rfl
        | false => exact absurd ⟨i, hi, hl⟩ h
      obtain ⟨i0, hi0, hl0⟩ := hex
      have hinv : HeadInv .any ops n listed := ⟨inv.size, fun j o ho hl e he hb => inv.closed j o ho hl e.on (by
        simp only [waits, Array.any_eq_true', Bool.and_eq_true, beq_iff_eq]
        exact ⟨e, he, hb, rfl⟩), htl⟩
      have hl1 : listed.getD i0 true = false := getD_in (by rw [inv.size]; omega) hl0
      have hno := tail_waits hs hc hlt hinv _ i0 rfl hi0 hl1
      have hin : ∀ i ∈ Region.ready .any ops listed, i < n := fun i hi => by
        rcases Nat.lt_or_ge i n with h | h
        · exact h
        · exact absurd hi (hno i h)
      refine ⟨fun hr => ?_, fun i hi => ?_⟩
      · have := ready_some hB inv.size hr i0 (by omega)
        rw [hl0] at this; cases this
      · have hi2 := hin i hi
        obtain ⟨hun, o, ho, _⟩ := mem_ready.1 hi
        have hil : i < listed.size := by rw [inv.size]; exact (Array.getElem?_eq_some_iff.1 ho).1
        have hf : listed[i] = false := by simpa [hil] using hun
        refine op_step hn hB inv (hob i · hi2) hi fun us' a' w' inv' => ih _ us' a' w' inv' (fun t ht ht2 => ?_) ?_
        · rw [getD_set_ne true (by omega)]; exact htl t ht ht2
        · have : (listed.setIfInBounds i true).toList.count false + 1 = listed.toList.count false := by
            rw [Array.toList_setIfInBounds, List.count_set (by simpa using hil)]
            have h1 : listed.toList[i]'(by simpa using hil) = false := by simpa using hf
            have h2 : 0 < listed.toList.count false := List.count_pos_iff.2 (h1 ▸ List.getElem_mem _)
            have h4 : (if listed.toList[i]'(by simpa using hil) == false then 1 else 0) = 1 := by rw [h1]; rfl
            rw [h4]
            have h5 : (if true == false then 1 else 0) = 0 := rfl
            rw [h5]
            omega
          omega
/-- As region_rely; the operations from number n on come last, one behind the other, and may do whatever they do. -/
theorem region_rely_tail {id : Nat} {l : List Oper} (n : Nat) (nss : List (List Nat)) (ks : List Keeps) (hm : P.follows .mixedOrders = true) (hB : relyB l.toArray a0.tmps.size = true)
    (hs : (Region.sinkB .any l.toArray n && Region.chainB .any l.toArray n && decide (n < l.length) && Region.seqB .any l.toArray (l.length - n) n (headUp n l.length)) = true)
    (hN : nss = (l.take n).map (needs l.toArray)) (hob : obligsN P Q a0 w0 l.toArray ks nss ks (l.take n))
    (hend : ∀ us w, Below w0.heap.size w0 w → (∀ j, j < n → (ks.getD j kAny).p (us j) w) → wpList P l.toArray Q (l.drop n) (putAll l.toArray us (List.range n) a0) w) :
    (Code.region id l.toArray true).wp P Q a0 w0 := by
  simp only [Bool.and_eq_true, decide_eq_true_eq] at hs
  obtain ⟨⟨⟨hs1, hs2⟩, hs3⟩, hs4⟩ := hs
  refine wp_region_any hm ?_
  refine any_of_tail (w0 := w0) (Posts := ks) rfl hB hs1 hs2 (by simpa using hs3) (by simpa using hs4) (fun i o hi ho => ?_) (fun us w hb hp => hend us w hb hp) _ _ (fun _ => undef) a0 _ ⟨by simp, rfl, fun t _ => ?_, rfl, ⟨rfl, rfl, rfl, Nat.le_refl _, fun _ _ => rfl⟩, fun j hj => ?_, fun j o _ hj => ?_⟩ (fun t _ ht => ?_) ?_
  · have h1 := obligs_of_N ks l.toArray nss ks [] (l.take n) rfl hN hob
    have h2 := obligs_at (l.take n) 0 h1 i o (by rw [List.getElem?_take, if_pos hi]; simpa using ho)
    rwa [Nat.zero_add] at h2
  · unfold slot
    cases writer l.toArray t with
    | none => rfl
    | some j => simp only []; rw [none_listed]; rfl
  · rw [none_listed] at hj; cases hj
  · rw [none_listed] at hj; cases hj
  · have : t < l.length := by simpa using ht
    simp [this]
  · simp
/-- fills the slots of these operations, whose slots are given -/
def putD (ds : List (Option Tmp)) (us : Nat → Value) : List Nat → Act → Act
  | [], a => a
  | j :: r, a => putD ds us r (a.put (ds.getD j none) (us j))
/-- what is to be shown of one operation, without the region's text -/
def obligD (P : Program) (Q : Exit → Act → World → Prop) (a0 : Act) (w0 : World) (ds : List (Option Tmp)) (Posts : List Keeps) (ns : List Nat) (k : Keeps) (o : Oper) : Prop :=
  ∀ us w, Below w0.heap.size w0 w → (∀ j ∈ ns, (Posts.getD j kAny).p (us j) w) →
    match o.guard with
    | none => o.wp P (putD ds us ns a0) w (Done o (putD ds us ns a0) w k.p) (noPanic Q)
    | some (g, want) => (us g = .bool want → o.wp P (putD ds us ns a0) w (Done o (putD ds us ns a0) w k.p) (noPanic Q)) ∧ (us g ≠ .bool want → k.p undef w)
def obligsD (P : Program) (Q : Exit → Act → World → Prop) (a0 : Act) (w0 : World) (ds : List (Option Tmp)) (Posts : List Keeps) : List (List Nat) → List Keeps → List Oper → Prop
  | ns :: nss, k :: ks, o :: r => obligD P Q a0 w0 ds Posts ns k o ∧ obligsD P Q a0 w0 ds Posts nss ks r
  | [], [], [] => True
  | _, _, _ => False
/-- each guard is among the needs, and writes a slot -/
def guardsB (ops : Array Oper) : List (List Nat) → List Oper → Bool
  | ns :: nss, o :: r => (match o.guard with | none => true | some (g, _) => ns.contains g && ((ops[g]?).bind (·.dst)).isSome) && guardsB ops nss r
  | _, _ => true
theorem putD_eq {l : List Oper} {ds : List (Option Tmp)} (hd : ds = l.map (·.dst)) (us : Nat → Value) : ∀ (ns : List Nat) (a : Act), putAll l.toArray us ns a = putD ds us ns a
  | [], _ => rfl
  | j :: r, a => by
    have e : (l.toArray[j]?).bind (·.dst) = ds.getD j none := by
      rw [hd, List.getD_eq_getElem?_getD, List.getElem?_map]
      simp only [List.getElem?_toArray]
      cases l[j]? <;> rfl
    rw [putAll, putD, e, putD_eq hd us r]
theorem obligsN_of_D {l : List Oper} {ds : List (Option Tmp)} (hd : ds = l.map (·.dst)) (hB : relyB l.toArray a0.tmps.size = true) : ∀ (nss : List (List Nat)) (ks : List Keeps) (r : List Oper), guardsB l.toArray nss r = true →
    obligsD P Q a0 w0 ds Posts nss ks r → obligsN P Q a0 w0 l.toArray Posts nss ks r
  | [], [], [], _, _ => trivial
  | ns :: nss, k :: ks, o :: r, hg, h => by
    simp only [guardsB, Bool.and_eq_true] at hg
    refine ⟨fun us w hb hp => ?_, obligsN_of_D hd hB nss ks r hg.2 h.2⟩
    have h1 := h.1 us w hb hp
    rw [putD_eq hd]
    cases hgd : o.guard with
    | none =>
      rw [hgd] at h1
      rw [if_pos (by simp [Region.wanted, hgd])]
      exact h1
    | some gw =>
      obtain ⟨g, want⟩ := gw
      rw [hgd] at h1
      have hg1 := hg.1
      rw [hgd] at hg1
      simp only [Bool.and_eq_true] at hg1
      obtain ⟨hmem, hsome⟩ := hg1
      obtain ⟨d, hdd⟩ := Option.isSome_iff_exists.1 hsome
      cases hog : l.toArray[g]? with
      | none => rw [hog] at hdd; cases hdd
      | some og =>
        rw [hog] at hdd
        have hsp := (relyB_spec hB hog).2.1 d (by simpa using hdd)
        have hslot := putAll_slot (ops := l.toArray) us (fun j o d ho hd => ((relyB_spec hB ho).2.1 d hd).2) ns a0 d hsp.1
        rw [hsp.2] at hslot
        simp only [] at hslot
        rw [if_pos (by simpa using hmem), putD_eq hd] at hslot
        have hy : yielded l.toArray (putD ds us ns a0).tmps g = (match us g with | .bool b => some b | _ => none) := by
          unfold yielded
          rw [hog]
          have : (some og).bind (·.dst) = some d := by simpa using hdd
          rw [this]
          simp only [Option.bind_some, hslot]
          cases us g <;> rfl
        by_cases hw : us g = .bool want
        · rw [if_pos (by simp [Region.wanted, hgd, hy, hw])]
          exact h1.1 hw
        · rw [if_neg]
          · exact h1.2 hw
          · intro hh
            apply hw
            simp only [Region.wanted, hgd, hy] at hh
            cases hu : us g <;> simp [hu] at hh
            rw [hh]
  | [], [], _ :: _, _, h => h.elim
  | [], _ :: _, _, _, h => h.elim
  | _ :: _, [], _, _, h => h.elim
  | _ :: _, _ :: _, [], _, h => h.elim
/-- A region that draws its order, whose operations only make new memory: each operation is looked at once, with what is known of those that it waits for. ds: the slots that are written; nss: whom each operation looks at; ks: what it leaves. -/
theorem region_each {id : Nat} {l : List Oper} (m : Nat) (ds : List (Option Tmp)) (nss : List (List Nat)) (ks : List Keeps) (hm : P.follows .mixedOrders = true)
    (hB : (relyB l.toArray a0.tmps.size && guardsB l.toArray nss l && decide (l.length = m)) = true) (hd : ds = l.map (·.dst)) (hN : nss = l.map (needs l.toArray))
    (hob : obligsD P Q a0 w0 ds ks nss ks l)
    (hend : ∀ us w, Below w0.heap.size w0 w → (∀ j, j < m → (ks.getD j kAny).p (us j) w) → Q .normal (putD ds us (List.range m) a0) w) :
    (Code.region id l.toArray true).wp P Q a0 w0 := by
  simp only [Bool.and_eq_true, decide_eq_true_eq] at hB
  obtain ⟨hB, rfl⟩ := hB
  exact region_rely nss ks hm hB.1 hN (obligsN_of_D hd hB.1 nss ks l hB.2 hob) fun us w hb hp => by rw [putD_eq hd]; exact hend us w hb hp
/-- As region_each; the operations from number n on come last, one behind the other, and may do whatever they do. -/
theorem region_each_tail {id : Nat} {l : List Oper} (n : Nat) (ds : List (Option Tmp)) (nss : List (List Nat)) (ks : List Keeps) (hm : P.follows .mixedOrders = true)
    (hB : (relyB l.toArray a0.tmps.size && guardsB l.toArray nss (l.take n)) = true)
    (hs : (Region.sinkB .any l.toArray n && Region.chainB .any l.toArray n && decide (n < l.length) && Region.seqB .any l.toArray (l.length - n) n (headUp n l.length)) = true)
    (hd : ds = l.map (·.dst)) (hN : nss = (l.take n).map (needs l.toArray)) (hob : obligsD P Q a0 w0 ds ks nss ks (l.take n))
    (hend : ∀ us w, Below w0.heap.size w0 w → (∀ j, j < n → (ks.getD j kAny).p (us j) w) → wpList P l.toArray Q (l.drop n) (putD ds us (List.range n) a0) w) :
    (Code.region id l.toArray true).wp P Q a0 w0 := by
  simp only [Bool.and_eq_true] at hB
  exact region_rely_tail n nss ks hm hB.1 hs hN (obligsN_of_D hd hB.1 nss ks _ hB.2 hob) fun us w hb hp => by rw [putD_eq hd]; exact hend us w hb hp
end
/-- it points to a block that is this, from some place on -/
def kBox (base : Nat) (x : Obj) : Keeps := ⟨fun v w => ∃ g, v = .pointer (some ⟨g, 0, none⟩) ∧ base ≤ g ∧ w.heap[g]? = some x,
  fun _ _ _ ⟨g, h1, h2, h3⟩ k => ⟨g, h1, h2, (k.block g (Array.getElem?_eq_some_iff.1 h3).1).trans h3⟩⟩
/-- it owns a row from some place on -/
def kOwn (base : Nat) (e : TypeId) (size n : Nat) (xs : List Value) : Keeps := ⟨fun v w => w.ownsRow base e size v n xs, fun _ _ _ h k => own_keep h k⟩
/-- it is an empty slice without room -/
def kEmpty : Keeps := ⟨fun v _ => ∃ g, v = .slice (some ⟨g, 0, none⟩) 0 0, fun _ _ _ h _ => h⟩
/-- it is a slice of these bytes -/
def kHas (n : Nat) (xs : List Value) : Keeps := ⟨fun v w => Has w v n xs, fun _ _ _ h k => h.below k⟩
/-- it is a slice of these bytes -/
def kBytes (l : List UInt8) : Keeps := ⟨fun v w => Bytes w v l, fun _ _ _ h k => h.below k⟩
end Go.Oct
