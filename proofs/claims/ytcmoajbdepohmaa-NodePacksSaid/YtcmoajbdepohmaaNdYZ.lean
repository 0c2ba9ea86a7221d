/- Layer 13: octavoref13.Kept (printed by wip/ndz_gen.py). -/
import Derived.Test.YtcmoajbdepohmaaRely
import Derived.Test.YtcmoajbdepohmaaNdI
import Derived.Test.YtcmoajbdepohmaaNdP
import Derived.Test.YtcmoajbdepohmaaNdL
import Derived.Lib.SmallJoins
import Derived.Test.YtcmoajbdepohmaaNdS
namespace Go.Oct
open Go.RowKit
/-- known whatever the world is -/
def Hard (k : Keeps) : Prop := ∀ v w w', k.p v w → k.p v w'
theorem hard_is (x : Value) : Hard (kIs x) := fun _ _ _ h => h
theorem hard_any : Hard kAny := fun _ _ _ h => h
/-- what an operation leaves: the one that may write in place (b) leaves what stood ahead of the region -/
def DoneD (w0 : World) (b : Bool) (o : Oper) (a : Act) (w : World) (R : Value → World → Prop) (a' : Act) (w' : World) : Prop :=
  ∃ v, a' = a.put o.dst v ∧ (if b then Below w0.heap.size w0 w' else Below w.heap.size w w') ∧ R v w'
section
variable {P : Program} {Q : Exit → Act → World → Prop} {a0 : Act} {w0 : World} {ops : Array Oper} {Posts : List Keeps} {D : Nat} {sf : List Nat}
structure InvD (D : Nat) (sf : List Nat) (ops : Array Oper) (a0 : Act) (w0 : World) (Posts : List Keeps) (listed : Array Bool) (us : Nat → Value) (a : Act) (w : World) : Prop where
  inv : Inv ops a0 w0 [] listed us a w
  posts : ∀ j, listed.getD j false = true → (j ∈ sf → listed.getD D false = false) → post Posts j (us j) w
theorem getD_off {xs : Array Bool} {i : Nat} (h : xs.getD i true = false) : xs.getD i false = false := by
  rcases Nat.lt_or_ge i xs.size with h' | h'
  · simp [h'] at h ⊢; exact h
  · simp [Array.getElem?_eq_none h']
theorem invD_step {n : Nat} (hB : relyB ops n = true) (hh : ∀ j, j ∉ sf → j ≠ D → Hard (Posts.getD j kAny))
    {listed : Array Bool} {us : Nat → Value} {a : Act} {w w' : World} (inv : InvD D sf ops a0 w0 Posts listed us a w)
    {i : Nat} {o : Oper} (hi : ops[i]? = some o) (hr : i ∈ Region.ready .any ops listed) (v : Value) (hb : if decide (i = D) then Below w0.heap.size w0 w' else Below w.heap.size w w') (hp : post Posts i v w') :
    InvD D sf ops a0 w0 Posts (listed.setIfInBounds i true) (upd us i v) (a.put o.dst v) w' := by
  have hlt : i < ops.size := (Array.getElem?_eq_some_iff.1 hi).1
  have hil : i < listed.size := by rw [inv.inv.size]; exact hlt
  have hset : ∀ j, (listed.setIfInBounds i true).getD j false = (if j = i then true else listed.getD j false) := by
    intro j
    by_cases hj : j = i
    · subst hj; simp [hil]
    · rw [if_neg hj, getD_set_ne false (fun e => hj e.symm)]
  have h0 := inv_step (Posts := []) hB inv.inv hi hr v (Below.refl _ _) trivial
  have hbl : Below w0.heap.size w0 w' := by
    by_cases hd : i = D
    · rw [decide_eq_true hd] at hb; exact hb
    · rw [decide_eq_false hd] at hb; exact inv.inv.below.trans (Below.mono hb inv.inv.below.size)
  refine ⟨⟨h0.size, h0.defers, h0.slots, h0.len, hbl, fun _ _ => trivial, h0.closed⟩, fun j hj hs => ?_⟩
  rw [hset] at hj
  by_cases hji : j = i
  · subst hji; simpa [upd] using hp
  · rw [if_neg hji] at hj
    have hu : upd us i v j = us j := by simp [upd, hji]
    rw [hu]
    by_cases hd : i = D
    · subst hd
      have hjs : j ∉ sf := fun h => by have := hs h; rw [hset, if_pos rfl] at this; cases this
      exact hh j hjs hji _ _ _ (inv.posts j hj (fun h => absurd h hjs))
    · rw [decide_eq_false hd] at hb
      refine post_keep Posts _ _ _ _ (inv.posts j hj (fun h => ?_)) hb
      have := hs h
      rw [hset, if_neg (fun e => hd e.symm)] at this
      exact this
/-- what is to be shown of one operation -/
def obligO (P : Program) (Q : Exit → Act → World → Prop) (a0 : Act) (w0 : World) (ops : Array Oper) (Posts : List Keeps) (b : Bool) (i : Nat) (o : Oper) : Prop :=
  ∀ us w, Below w0.heap.size w0 w → (∀ j ∈ needs ops o, post Posts j (us j) w) →
    o.wp P (putAll ops us (needs ops o) a0) w (DoneD w0 b o (putAll ops us (needs ops o) a0) w (post Posts i)) (noPanic Q)
theorem op_stepD {n : Nat} (hn : a0.tmps.size = n) (hB : relyB ops n = true) (hh : ∀ j, j ∉ sf → j ≠ D → Hard (Posts.getD j kAny))
    {listed : Array Bool} {us : Nat → Value} {a : Act} {w : World} (inv : InvD D sf ops a0 w0 Posts listed us a w) {i : Nat} {o : Oper} (hi : ops[i]? = some o) (hg : o.guard = none) (hsf : ∀ j ∈ needs ops o, j ∈ sf → i = D)
    (hob : obligO P Q a0 w0 ops Posts (decide (i = D)) i o) (hr : i ∈ Region.ready .any ops listed) {K : Act → World → Prop}
    (hK : ∀ us' a' w', InvD D sf ops a0 w0 Posts (listed.setIfInBounds i true) us' a' w' → K a' w') : wpOp P ops Q i K a w := by
  obtain ⟨hun, o', hi', hall⟩ := mem_ready.1 hr
  rw [hi] at hi'
  obtain rfl := Option.some.inj hi'
  have hsel : ∀ cs b, o.op ≠ .select cs b := fun cs b => Region.noSelect_spec (by simp only [relyB, Bool.and_eq_true] at hB; exact hB.1) i o cs b hi
  have hsame := looks_same hB inv.inv hi hr
  have hneed : ∀ j ∈ needs ops o, post Posts j (us j) w := fun j hj => inv.posts j (by
    have hwt := (List.mem_filter.1 hj).2
    simp only [waits, Array.any_eq_true', Bool.and_eq_true, beq_iff_eq] at hwt
    obtain ⟨e, he, hb, rfl⟩ := hwt
    exact hall e he hb) (fun h => by
    have := hsf j hj h
    subst this
    exact getD_off hun)
  have h := hob us w inv.inv.below hneed
  generalize hA : putAll ops us (needs ops o) a0 = A at h hsame
  have hAs : ∀ t, o.dst = some t → t < A.tmps.size := fun t ht => by rw [← hA, putAll_len, hn]; exact ((relyB_spec hB hi).2.1 t ht).1
  unfold wpOp
  simp only [hi]
  have hw : Region.wanted o (yielded ops a.tmps) = true := by simp [Region.wanted, hg]
  have fin : ∀ v w', DoneD w0 (decide (i = D)) o A w (post Posts i) (A.put o.dst v) w' → K (a.put o.dst v) w' := by
    rintro v w' ⟨v', he, hb, hp⟩
    rcases (put_inj hAs he).2 with hd | rfl
    · have h1 := hK _ _ _ (invD_step hB hh inv hi hr v' hb hp)
      have e1 : a.put o.dst v = a.put o.dst v' := by rw [hd]; rfl
      rw [e1]; exact h1
    · exact hK _ _ _ (invD_step hB hh inv hi hr v hb hp)
  rw [if_pos hw]
  left
  unfold Oper.wp at h ⊢
  rw [exec_same hsel hsame]
  generalize (execOp A.eval o).run P w = r at h ⊢
  cases r with
  | ok nx w' =>
    cases nx <;> simp only [Oper.upon] at h ⊢
    case value v => exact fin v w' h
    case skip => exact fin _ w' h
    case defer d =>
      obtain ⟨v, he, _⟩ := h
      have := congrArg Act.defers he
      exfalso
      cases hd : o.dst <;> simp [hd, Act.put] at this
    case enter f args =>
      refine Calls.mono h fun e w'' he => ?_
      cases e with
      | returned v => exact fin v w'' he
      | panicked c => exact he.elim
      | outgrown => exact he
    case row row args => exact Rows.mono h fun v w'' he => fin v w'' he
  | halt x w' =>
    cases x <;> simp only [Oper.upon] at h ⊢
    case panic u => exact h.elim
theorem any_of_tailD {n m : Nat} (hn : a0.tmps.size = m) (hB : relyB ops m = true) (hh : ∀ j, j ∉ sf → j ≠ D → Hard (Posts.getD j kAny)) (_hDn : D < n)
    (hs : Region.sinkB .any ops n = true) (hc : Region.chainB .any ops n = true) (hlt : n < ops.size)
    (hq : Region.seqB .any ops (ops.size - n) n (headUp n ops.size) = true)
    (hg : ∀ i o, i < n → ops[i]? = some o → o.guard = none ∧ ∀ j ∈ needs ops o, j ∈ sf → i = D)
    (hob : ∀ i o, i < n → ops[i]? = some o → obligO P Q a0 w0 ops Posts (decide (i = D)) i o)
    (hend : ∀ us w, Below w0.heap.size w0 w → (∀ j, j < n → j ∉ sf → post Posts j (us j) w) → wpList P ops Q (ops.toList.drop n) (putAll ops us (List.range n) a0) w) :
    ∀ (fuel : Nat) (listed : Array Bool) (us : Nat → Value) (a : Act) (w : World), InvD D sf ops a0 w0 Posts listed us a w → (∀ t, n ≤ t → t < ops.size → listed.getD t true = false) → listed.toList.count false = fuel → wpAny P .any ops Q fuel listed a w := by
  have hwr : ∀ j o d, ops[j]? = some o → o.dst = some d → writer ops d = some j := fun j o d ho hd => ((relyB_spec hB ho).2.1 d hd).2
  intro fuel
  induction fuel with
  | zero =>
    intro listed us a w invD htl hcnt
    have inv := invD.inv
    have h1 := htl n (Nat.le_refl _) hlt
    have hl : n < listed.size := by rw [inv.size]; exact hlt
    have : false ∈ listed.toList := by
      rw [Array.getD_eq_getD_getElem?] at h1
      simp [hl] at h1
      rw [← h1]; exact Array.mem_toList_iff.2 (Array.getElem_mem hl)
    have := List.count_pos_iff.2 this
    omega
  | succ fuel ih =>
    intro listed us a w invD htl hcnt
    have inv := invD.inv
    by_cases hall : ∀ i, i < n → listed.getD i false = true
    · have he : listed = headUp n ops.size := by
        apply Array.ext_getElem?
        intro i
        by_cases hi : i < n
        · have h1 := hall i hi
          have hl : i < listed.size := by rw [inv.size]; omega
          rw [Array.getD_eq_getD_getElem?] at h1
          simp [hl] at h1
          simp [headUp, hl, h1, List.getElem?_append, hi]
        · by_cases hi2 : i < ops.size
          · have h1 := htl i (by omega) hi2
            have hl : i < listed.size := by rw [inv.size]; omega
            rw [Array.getD_eq_getD_getElem?] at h1
            simp [hl] at h1
            simp [headUp, hl, h1, List.getElem?_append, hi, show i - n < ops.size - n by omega]
          · have hl : listed.size ≤ i := by rw [inv.size]; omega
            rw [Array.getElem?_eq_none hl]
            simp [headUp, List.getElem?_append, hi, show ops.size - n ≤ i - n by omega]
      have hcnt2 : fuel + 1 = (ops.toList.drop n).length := by
        rw [← hcnt, he]
        simp [headUp, List.count_replicate]
      have hae : a = putAll ops us (List.range n) a0 := by
        have ht : a.tmps = (putAll ops us (List.range n) a0).tmps := by
          apply Array.ext_getElem?
          intro t
          by_cases hlt2 : t < a0.tmps.size
          · rw [inv.slots t hlt2, putAll_slot us hwr _ _ _ hlt2]
            unfold slot
            cases hw : writer ops t with
            | none => rfl
            | some j =>
              simp only []
              by_cases hj : j < n
              · simp [hall j hj, hj]
              · obtain ⟨o, ho, _⟩ := writer_spec hw
                have hj2 : j < ops.size := (Array.getElem?_eq_some_iff.1 ho).1
                have h1 := getD_both (htl j (by omega) hj2)
                have h2 : j ∉ List.range n := by simp [hj]
                rw [if_neg h2, if_neg (by rw [h1]; simp)]
          · rw [Array.getElem?_eq_none (by rw [inv.len]; exact Nat.le_of_not_lt hlt2), Array.getElem?_eq_none (by rw [putAll_len]; exact Nat.le_of_not_lt hlt2)]
        have hd : a.defers = (putAll ops us (List.range n) a0).defers := by rw [inv.defers, putAll_defers]
        cases a; simp only at ht hd; rw [ht, hd]
      rw [hcnt2, hae, he]
      refine wpAny_of_seq (ops.toList.drop n) n _ _ _ (fun j => by simp) ?_ (hend us w inv.below fun j hj hns => invD.posts j (hall j hj) (fun h => absurd h hns))
      have : (ops.toList.drop n).length = ops.size - n := by simp
      rw [this]
      exact hq
    · have hex : ∃ i, i < n ∧ listed.getD i false = false := by
        apply Classical.byContradiction
        intro h
        apply hall
        intro i hi
        cases hl : listed.getD i false with
        | true => rfl
        | false => exact absurd ⟨i, hi, hl⟩ h
      obtain ⟨i0, hi0, hl0⟩ := hex
      have hinv : HeadInv .any ops n listed := ⟨inv.size, fun j o ho hl e he hb => inv.closed j o ho hl e.on (by
        simp only [waits, Array.any_eq_true', Bool.and_eq_true, beq_iff_eq]
        exact ⟨e, he, hb, rfl⟩), htl⟩
      have hl1 : listed.getD i0 true = false := getD_in (by rw [inv.size]; omega) hl0
      have hno := tail_waits hs hc hlt hinv _ i0 rfl hi0 hl1
      have hin : ∀ i ∈ Region.ready .any ops listed, i < n := fun i hi => by
        rcases Nat.lt_or_ge i n with h | h
        · exact h
        · exact absurd hi (hno i h)
      refine ⟨fun hr => ?_, fun i hi => ?_⟩
      · have := ready_some hB inv.size hr i0 (by omega)
        rw [hl0] at this; cases this
      · have hi2 := hin i hi
        obtain ⟨hun, o, ho, _⟩ := mem_ready.1 hi
        have hil : i < listed.size := by rw [inv.size]; exact (Array.getElem?_eq_some_iff.1 ho).1
        have hf : listed[i] = false := by simpa [hil] using hun
        refine op_stepD hn hB hh invD ho (hg i o hi2 ho).1 (hg i o hi2 ho).2 (hob i o hi2 ho) hi fun us' a' w' inv' => ih _ us' a' w' inv' (fun t ht ht2 => ?_) ?_
        · rw [getD_set_ne true (by omega)]; exact htl t ht ht2
        · have : (listed.setIfInBounds i true).toList.count false + 1 = listed.toList.count false := by
            rw [Array.toList_setIfInBounds, List.count_set (by simpa using hil)]
            have h1 : listed.toList[i]'(by simpa using hil) = false := by simpa using hf
            have h2 : 0 < listed.toList.count false := List.count_pos_iff.2 (h1 ▸ List.getElem_mem _)
            have h4 : (if listed.toList[i]'(by simpa using hil) == false then 1 else 0) = 1 := by rw [h1]; rfl
            rw [h4]
            have h5 : (if true == false then 1 else 0) = 0 := rfl
            rw [h5]
            omega
          omega
/-- what is to be shown of each operation, one behind the other, from number i on -/
def obligsO (P : Program) (Q : Exit → Act → World → Prop) (a0 : Act) (w0 : World) (D : Nat) (ds : List (Option Tmp)) (Posts : List Keeps) : Nat → List (List Nat) → List Keeps → List Oper → Prop
  | i, ns :: nss, k :: ks, o :: r => (∀ us w, Below w0.heap.size w0 w → (∀ j ∈ ns, (Posts.getD j kAny).p (us j) w) → o.wp P (putD ds us ns a0) w (DoneD w0 (decide (i = D)) o (putD ds us ns a0) w k.p) (noPanic Q)) ∧ obligsO P Q a0 w0 D ds Posts (i + 1) nss ks r
  | _, [], [], [] => True
  | _, _, _, _ => False
theorem obligsO_at {l : List Oper} {ds : List (Option Tmp)} (hd : ds = l.map (·.dst)) : ∀ (nss : List (List Nat)) (ks pre : List Keeps) (r : List Oper), Posts = pre ++ ks → nss = r.map (needs l.toArray) → obligsO P Q a0 w0 D ds Posts pre.length nss ks r →
    ∀ j o, r[j]? = some o → obligO P Q a0 w0 l.toArray Posts (decide (pre.length + j = D)) (pre.length + j) o
  | [], [], _, [], _, _, _, _, _, ho => by simp at ho
  | ns :: nss, k :: ks, pre, x :: r, hall, hn, h, 0, o, ho => by
    simp only [List.map_cons, List.cons.injEq] at hn
    simp at ho; subst ho
    intro us w hb hp
    have h1 := h.1 us w hb (by rw [hn.1]; exact hp)
    rw [hn.1, ← putD_eq hd] at h1
    have e : post Posts (pre.length + 0) = k.p := by unfold post; rw [hall]; simp
    rw [e]; exact h1
  | ns :: nss, k :: ks, pre, x :: r, hall, hn, h, j + 1, o, ho => by
    simp only [List.map_cons, List.cons.injEq] at hn
    have := obligsO_at hd nss ks (pre ++ [k]) r (by rw [hall]; simp) hn.2 (by simpa using h.2) j o (by simpa using ho)
    rw [List.length_append, List.length_singleton, Nat.add_assoc, Nat.add_comm 1 j] at this
    exact this
  | [], [], _, _ :: _, _, hn, _, _, _, _ => by simp at hn
  | [], _ :: _, _, _, _, _, h, _, _, _ => by cases h
  | _ :: _, [], _, _, _, _, h, _, _, _ => by cases h
  | _ :: _, _ :: _, _, [], _, hn, _, _, _, _ => by simp at hn
/-- the operations' guards, and who looks at what is soft -/
def softB (ops : Array Oper) (D : Nat) (sf : List Nat) (n : Nat) : Bool :=
  (List.range n).all fun i => match ops[i]? with | none => true | some o => o.guard.isNone && (needs ops o).all fun j => !sf.contains j || i == D
/-- As region_each_tail; operation D may write into what those of sf have made, which nobody but D looks at. -/
theorem region_dirty {id : Nat} {l : List Oper} (n D : Nat) (sf : List Nat) (ds : List (Option Tmp)) (nss : List (List Nat)) (ks : List Keeps) (hm : P.follows .mixedOrders = true)
    (hB : relyB l.toArray a0.tmps.size = true) (hS : softB l.toArray D sf n = true)
    (hs : (Region.sinkB .any l.toArray n && Region.chainB .any l.toArray n && decide (n < l.length) && Region.seqB .any l.toArray (l.length - n) n (headUp n l.length) && decide (D < n)) = true)
    (hd : ds = l.map (·.dst)) (hN : nss = (l.take n).map (needs l.toArray))
    (hh : ∀ j, j ∉ sf → j ≠ D → Hard (ks.getD j kAny))
    (hob : obligsO P Q a0 w0 D ds ks 0 nss ks (l.take n))
    (hend : ∀ us w, Below w0.heap.size w0 w → (∀ j, j < n → j ∉ sf → (ks.getD j kAny).p (us j) w) → wpList P l.toArray Q (l.drop n) (putD ds us (List.range n) a0) w) :
    (Code.region id l.toArray true).wp P Q a0 w0 := by
  simp only [Bool.and_eq_true, decide_eq_true_eq] at hs
  obtain ⟨⟨⟨⟨hs1, hs2⟩, hs3⟩, hs4⟩, hs5⟩ := hs
  refine wp_region_any hm ?_
  refine any_of_tailD (w0 := w0) (Posts := ks) (D := D) (sf := sf) rfl hB hh hs5 hs1 hs2 (by simpa using hs3) (by simpa using hs4) (fun i o hi ho => ?_) (fun i o hi ho => ?_) (fun us w hb hp => by rw [putD_eq hd]; exact hend us w hb hp) _ _ (fun _ => undef) a0 _ ⟨⟨by simp, rfl, fun t _ => ?_, rfl, ⟨rfl, rfl, rfl, Nat.le_refl _, fun _ _ => rfl⟩, fun j hj => ?_, fun j o _ hj => ?_⟩, fun j hj _ => ?_⟩ (fun t _ ht => ?_) ?_
  · have h1 := List.all_eq_true.1 hS i (by simpa using hi)
    rw [ho] at h1
    simp only [Bool.and_eq_true, Option.isNone_iff_eq_none, List.all_eq_true, Bool.or_eq_true, Bool.not_eq_true', beq_iff_eq] at h1
    refine ⟨h1.1, fun j hj hjs => ?_⟩
    rcases h1.2 j hj with h | h
    · rw [List.contains_iff_mem.2 hjs] at h; cases h
    · exact h
  · have := obligsO_at hd nss ks [] (l.take n) rfl hN hob i o (by rw [List.getElem?_take, if_pos hi]; simpa using ho)
    simpa using this
  · unfold slot
    cases writer l.toArray t with
    | none => rfl
    | some j => simp only []; rw [none_listed]; rfl
  · rw [none_listed] at hj; cases hj
  · rw [none_listed] at hj; cases hj
  · rw [none_listed] at hj; cases hj
  · have : t < l.length := by simpa using ht
    simp [this]
  · simp
end
end Go.Oct
namespace Go.Proofs.Ytcmoajbdepohmaa
open Go.RowKit Go.Oct
/-- v is a slice of these quads that lies from base on, with a mark behind it -/
def LendQ (base : Nat) (t : TypeId) (mk : Quad) (w : World) (v : Value) (l : List Quad) : Prop :=
  ∃ g cp, v = .slice (some ⟨g, 0, none⟩) l.length cp ∧ l.length + 1 ≤ cp ∧ cp ≤ maxLen ∧ w.ownsRow base t 4 (.slice (some ⟨g, 0, none⟩) (l.length + 1) cp) (l.length + 1) (qs (l ++ [mk]))
theorem LendQ.below {base : Nat} {t : TypeId} {mk : Quad} {w w' : World} {v : Value} {l : List Quad} (h : LendQ base t mk w v l) (k : Below w.heap.size w w') : LendQ base t mk w' v l := by
  obtain ⟨g, cp, hv, h1, h2, ho⟩ := h
  exact ⟨g, cp, hv, h1, h2, own_keep ho k⟩
theorem LendQ.quads {base : Nat} {t : TypeId} {mk : Quad} {w : World} {v : Value} {l : List Quad} (h : LendQ base t mk w v l) : Quads w v l := by
  obtain ⟨g, cp, rfl, h1, h2, ho⟩ := h
  refine ⟨_, _, rfl, by omega, h2, fun _ => ⟨g, 0, rfl, fun i x hi => ?_⟩⟩
  have hil : i < l.length * 4 := by have := (List.getElem?_eq_some_iff.1 hi).1; rwa [qs_length] at this
  rw [Nat.zero_add, ho.cellAt i (by omega), qs_append, List.getElem?_append_left (by rw [qs_length]; exact hil)]
  exact hi
theorem own_shape_pos {w : World} {base size n : Nat} {e : TypeId} {v : Value} {xs : List Value} (h : w.ownsRow base e size v n xs) (hn : 0 < n) : ∃ g cp, v = .slice (some ⟨g, 0, none⟩) n cp ∧ n ≤ cp ∧ cp ≤ maxLen := by
  rcases h.2 with ⟨rfl, rfl⟩ | ⟨g, cap, cur, rfl, _, _, h1, h2, _⟩
  · exact absurd hn (Nat.lt_irrefl _)
  · exact ⟨g, cap, rfl, h1, h2⟩
/-- what stands while a node is copied: the box of the argument, of the answer, of the copy -/
structure CpSt (w : World) (leaf : Bool) (ve vk ce ck : Value) (W : World) : Prop where
  abx : W.heap[w.heap.size]? = some (ndBox leaf ve vk)
  rbx : W.heap[w.heap.size + 1]? = some (ndBox false (.slice none 0 0) (.slice none 0 0))
  cbx : W.heap[w.heap.size + 2]? = some (ndBox leaf ce ck)
  bl : Below w.heap.size w W
theorem CpSt.below {w : World} {leaf : Bool} {ve vk ce ck : Value} {W W' : World} (h : CpSt w leaf ve vk ce ck W) (k : Below W.heap.size W W') : CpSt w leaf ve vk ce ck W' :=
  ⟨box_below h.abx k, box_below h.rbx k, box_below h.cbx k, below_step h.bl k⟩
theorem CpSt.alloc {w : World} {leaf : Bool} {ve vk ce ck : Value} {W : World} (h : CpSt w leaf ve vk ce ck W) (o : Obj) : CpSt w leaf ve vk ce ck (W.alloc o) := h.below ((Below.refl _ _).alloc (Nat.le_refl _) o)
theorem CpSt.drew {w : World} {leaf : Bool} {ve vk ce ck : Value} {W : World} (h : CpSt w leaf ve vk ce ck W) : CpSt w leaf ve vk ce ck W.drew := h.below (Below.refl _ W).drew
theorem CpSt.size {w : World} {leaf : Bool} {ve vk ce ck : Value} {W : World} (h : CpSt w leaf ve vk ce ck W) : w.heap.size + 2 < W.heap.size := (Array.getElem?_eq_some_iff.1 h.cbx).1
theorem nd_far {W : World} {b : Nat} {leaf : Bool} {v1 v2 u : Value} {e : TypeId} {size n base : Nat} {xs : List Value} (hb : W.heap[b]? = some (ndBox leaf v1 v2)) (ho : W.ownsRow base e size u n xs) (e1 : e ≠ 56) : u.ownBlock ≠ some b := by
  intro hu
  rcases ho.2 with ⟨rfl, _⟩ | ⟨gv, cap, cur, rfl, _, hg, _⟩
  · cases hu
  · simp only [Value.ownBlock, Option.some.injEq] at hu
    subst hu
    rw [hb] at hg
    unfold ndBox at hg
    simp only [Option.some.injEq, Obj.cells.injEq] at hg
    exact e1 hg.2.1.symm
theorem CpSt.app {w : World} {leaf : Bool} {ve vk ce ck u : Value} {W W' : World} {e : TypeId} {size n : Nat} {xs : List Value} (h : CpSt w leaf ve vk ce ck W) (ho : W.ownsRow w.heap.size e size u n xs) (k : W.grownBy W' u.ownBlock) (e1 : e ≠ 56) : CpSt w leaf ve vk ce ck W' :=
  ⟨box_grown h.abx k (nd_far h.abx ho e1), box_grown h.rbx k (nd_far h.rbx ho e1), box_grown h.cbx k (nd_far h.cbx ho e1), below_put h.bl ho k⟩
theorem CpSt.app0 {w : World} {leaf : Bool} {ve vk ce ck : Value} {W W' : World} (k : W.grownBy W' none) (h : CpSt w leaf ve vk ce ck W) : CpSt w leaf ve vk ce ck W' := h.below (below_none k)
theorem CpSt.store1 {w : World} {leaf : Bool} {ve vk ce ck : Value} {W : World} (h : CpSt w leaf ve vk ce ck W) (v : Value) : CpSt w leaf ve vk v ck (W.setCell ⟨w.heap.size + 2, 1, none⟩ v) := by
  refine ⟨?_, ?_, ?_, h.bl.setCell (by show w.heap.size ≤ w.heap.size + 2; omega) _⟩
  · rw [Below.heap_setCell _ _ _ _ (show w.heap.size ≠ w.heap.size + 2 by omega)]; exact h.abx
  · rw [Below.heap_setCell _ _ _ _ (show w.heap.size + 1 ≠ w.heap.size + 2 by omega)]; exact h.rbx
  · have := heap_setCell_same W (w.heap.size + 2) 1 _ _ v h.cbx
    simpa [ndBox] using this
theorem CpSt.store2 {w : World} {leaf : Bool} {ve vk ce ck : Value} {W : World} (h : CpSt w leaf ve vk ce ck W) (v : Value) : CpSt w leaf ve vk ce v (W.setCell ⟨w.heap.size + 2, 2, none⟩ v) := by
  refine ⟨?_, ?_, ?_, h.bl.setCell (by show w.heap.size ≤ w.heap.size + 2; omega) _⟩
  · rw [Below.heap_setCell _ _ _ _ (show w.heap.size ≠ w.heap.size + 2 by omega)]; exact h.abx
  · rw [Below.heap_setCell _ _ _ _ (show w.heap.size + 1 ≠ w.heap.size + 2 by omega)]; exact h.rbx
  · have := heap_setCell_same W (w.heap.size + 2) 2 _ _ v h.cbx
    simpa [ndBox] using this
theorem CpSt.start (w : World) (leaf : Bool) (ve vk : Value) : CpSt w leaf ve vk (.slice none 0 0) (.slice none 0 0) (((w.alloc (ndBox leaf ve vk)).alloc (ndBox false (.slice none 0 0) (.slice none 0 0))).alloc (ndBox leaf (.slice none 0 0) (.slice none 0 0))) :=
  ⟨heap_keep (heap_keep (heap_last rfl) _) _, heap_keep (heap_last (by simp)) _, heap_last (by simp), below_new (below_new (below_new (Below.refl _ _) _) _) _⟩
theorem LendQ.store {base : Nat} {t : TypeId} {mk : Quad} {w0 : World} {leaf : Bool} {ve vk ce ck : Value} {W : World} {v : Value} {l : List Quad} (h : LendQ base t mk W v l) (hs : CpSt w0 leaf ve vk ce ck W) (ht : t ≠ 56) (i : Nat) (x : Value) : LendQ base t mk (W.setCell ⟨w0.heap.size + 2, i, none⟩ x) v l := by
  obtain ⟨g, cp, hv, h1, h2, ho⟩ := h
  exact ⟨g, cp, hv, h1, h2, own_far ho (grown_setCell _ _ _) hs.cbx ht⟩
theorem LendQ.sets3 {base : Nat} {t : TypeId} {mk : Quad} {leaf : Bool} {ce ck : Value} {W : World} {v : Value} {l : List Quad} {b : Nat} (h : LendQ base t mk W v l) (hr : W.heap[b]? = some (ndBox leaf ce ck)) (ht : t ≠ 56) (v0 v1 v2 : Value) : LendQ base t mk (((W.setCell ⟨b, 0, none⟩ v0).setCell ⟨b, 1, none⟩ v1).setCell ⟨b, 2, none⟩ v2) v l := by
  obtain ⟨g, cp, hv, h1, h2, ho⟩ := h
  exact ⟨g, cp, hv, h1, h2, own_far ho (sets3_grown _ _ _ _ _) hr ht⟩
theorem LendQ.app {base b2 : Nat} {t t2 : TypeId} {mk : Quad} {W W' : World} {v u : Value} {l : List Quad} {n size : Nat} {xs : List Value} (h : LendQ base t mk W v l) (ho : W.ownsRow b2 t2 size u n xs) (k : W.grownBy W' u.ownBlock) (ht : t ≠ t2) : LendQ base t mk W' v l := by
  obtain ⟨g, cp, hv, h1, h2, hr⟩ := h
  refine ⟨g, cp, hv, h1, h2, hr.kept k ?_⟩
  rcases ho.2 with ⟨rfl, _⟩ | ⟨gv, cap, cur, rfl, _, hg, _⟩
  · cases hrr : (Value.slice (some ⟨g, 0, none⟩) (l.length + 1) cp).ownBlock with
    | none => exact .inl rfl
    | some q => right; simp [Value.ownBlock]
  · right
    intro e
    simp only [Value.ownBlock, Option.some.injEq] at e
    rcases hr.2 with ⟨h', _⟩ | ⟨g', cap', cur', h', _, hg', _⟩
    · simp at h'
    · simp only [Value.slice.injEq, Option.some.injEq, Addr.mk.injEq, and_true, true_and] at h'
      obtain ⟨rfl, rfl⟩ := h'
      subst e
      rw [hg'] at hg
      simp only [Option.some.injEq, Obj.cells.injEq] at hg
      exact ht hg.2.1
set_option maxRecDepth 100000 in
set_option maxHeartbeats 4000000 in
theorem copy13_any (leaf : Bool) (ve vk : Value) (es ks : List Quad) (w : World) (He : Quads w ve es) (Hk : Quads w vk ks) (le : es.length ≤ 4398046511000) (lk : ks.length ≤ 4398046511000) :
    Calls Try.prog 31 #[.agg #[.bool leaf, ve, vk]] w fun e w' => ∃ v1 v2, e = .returned (.agg #[.bool leaf, v1, v2]) ∧ LendQ w.heap.size 80 (0, 0, 0, 77) w' v1 es ∧ LendQ w.heap.size 82 (0, 0, 77, 0) w' v2 ks ∧ Below w.heap.size w w' := by
  obtain ⟨ae, ce, rfl, he1, he2, -⟩ := He.open
  obtain ⟨ak, ck, rfl, hk1, hk2, -⟩ := Hk.open
  unfold maxLen at he2 hk2
  have HE := Lib.hid He
  have HK := Lib.hid Hk
  obtain ⟨i01, hi1, hz01, hz11, hz21⟩ := info_parts infoEnt
  obtain ⟨i02, hi2, hz02, hz12, hz22⟩ := info_parts infoKid
  clear He Hk
  go_enter Try.func31, Try.ntmps31
  go_wp2_with fail
  have HST1 := Lib.hid (CpSt.start w leaf (.slice ae es.length ce) (.slice ak ks.length ck))
  obtain ⟨wq1, hwq1⟩ : ∃ x, x = (((w.alloc (ndBox leaf (.slice ae es.length ce) (.slice ak ks.length ck))).alloc (ndBox false (.slice none 0 0) (.slice none 0 0))).alloc (ndBox leaf (.slice none 0 0) (.slice none 0 0))) := ⟨_, rfl⟩
  rw [← hwq1] at HST1
  unfold ndBox at hwq1
  rw [← hwq1]
  clear hwq1
  have HQ1 := Lib.hid (show Quads wq1 (.slice ae es.length ce) es from (HE.out.below HST1.out.bl))
  have zc := (ndBox_cells HST1.out.cbx).2.1
  have xc := (ndBox_cells HST1.out.abx).2.1
  refine region_dirty 11 7 [4, 6] [some 7, some 8, some 9, some 10, some 11, some 12, some 13, some 14, some 15, some 16, some 17, some 18, some 19, none] [[], [0], [], [2], [1, 3], [], [5], [4, 6], [], [8], [9]]
    [kIs (.pointer (some ⟨w.heap.size + 1 + 1, 1, none⟩)), kIs (.slice none 0 0), kIs (.pointer (some ⟨w.heap.size, 1, none⟩)), kIs (.slice ae es.length ce), kOwn wq1.heap.size 80 4 es.length (qs es), kIs (.agg #[.int .i64 0, .int .i64 0, .int .i64 0, .int .i64 77]), kHas 1 (qs [(0, 0, 0, 77)]), kOwn wq1.heap.size 80 4 (es.length + 1) (qs es ++ qs [(0, 0, 0, 77)]), kIs (.pointer (some ⟨w.heap.size, 1, none⟩)), kIs (.slice ae es.length ce), kIs (.int .i64 (es.length : Nat))]
    (by kernel_rfl) (by kernel_rfl) (by kernel_rfl) (by kernel_rfl) (by kernel_rfl) (by kernel_rfl) ?_ ?_ ?_
  · intro j h1 h2
    match j, h1, h2 with
    | 0, _, _ | 1, _, _ | 2, _, _ | 3, _, _ | 5, _, _ | 8, _, _ | 9, _, _ | 10, _, _ => exact hard_is _
    | 4, h, _ | 6, h, _ => exact absurd (by decide) h
    | 7, _, h => exact absurd rfl h
    | j + 11, _, _ => exact hard_any
  · simp only [List.take_succ_cons, List.take_zero, obligsO]
    refine ⟨?_, ?_, ?_, ?_, ?_, ?_, ?_, ?_, ?_, ?_, ?_, trivial⟩
    · intro us w1 hb _
      change Oper.wp _ _ _ _ _ _
      go_simp
      exact ⟨_, rfl, Below.refl _ _, rfl⟩
    · intro us w1 hb hd
      simp only [List.mem_cons, List.not_mem_nil, or_false, forall_eq, List.getD_cons_zero, kIs] at hd
      simp only [putD, List.getD_cons_zero, Act.put, hd]
      have d0 := (hb.cell (World.block_lt_of_cell? _ _ zc)).trans zc
      go_simp
      exact ⟨_, rfl, Below.refl _ _, rfl⟩
    · intro us w1 hb _
      change Oper.wp _ _ _ _ _ _
      go_simp
      exact ⟨_, rfl, Below.refl _ _, rfl⟩
    · intro us w1 hb hd
      simp only [List.mem_cons, List.not_mem_nil, or_false, forall_eq, List.getD_cons_zero, List.getD_cons_succ, kIs] at hd
      simp only [putD, List.getD_cons_zero, List.getD_cons_succ, Act.put, hd]
      have d0 := (hb.cell (World.block_lt_of_cell? _ _ xc)).trans xc
      go_simp
      exact ⟨_, rfl, Below.refl _ _, rfl⟩
    · intro us w1 hb hd
      simp only [List.mem_cons, List.not_mem_nil, or_false, forall_eq_or_imp, forall_eq, List.getD_cons_zero, List.getD_cons_succ, kIs] at hd
      obtain ⟨h1, h3⟩ := hd
      simp only [putD, List.getD_cons_zero, List.getD_cons_succ, Act.put, h1, h3]
      refine oper_append_has_at w1 (.tmp 8) (.tmp 10) 53 rfl wq1.heap.size 80 i01 (.agg #[.int .i64 0, .int .i64 0, .int .i64 0, .int .i64 0]) 4 32 Try.underlying53 hi1 hz01 hz11 hz21 rfl (by decide) (.slice none 0 0) 0 [] rfl (World.ownsRow_nil _ _ _ _) (.slice ae es.length ce) es.length (qs es) rfl (Has.below HQ1.out hb) (qs_length es) (qs_one _) (by unfold maxLen; omega) (by omega) hb.size ?_
      intro v' w2' hown hgr _
      exact ⟨_, rfl, below_none hgr, by simpa [kOwn] using hown⟩
    · intro us w1 hb _
      change Oper.wp _ _ _ _ _ _
      go_simp
      exact ⟨_, rfl, Below.refl _ _, rfl⟩
    · intro us w1 hb hd
      simp only [List.mem_cons, List.not_mem_nil, or_false, forall_eq, List.getD_cons_zero, List.getD_cons_succ, kIs] at hd
      simp only [putD, List.getD_cons_zero, List.getD_cons_succ, Act.put, hd]
      go_simp
      exact ⟨_, rfl, (Below.refl _ _).alloc (Nat.le_refl _) _, has_quad (heap_last rfl)⟩
    · intro us w1 hb hd
      simp only [List.mem_cons, List.not_mem_nil, or_false, forall_eq_or_imp, forall_eq, List.getD_cons_zero, List.getD_cons_succ, kHas, kOwn] at hd
      obtain ⟨h4, h6⟩ := hd
      simp only [putD, List.getD_cons_zero, List.getD_cons_succ, Act.put]
      refine oper_append_has_at w1 (.tmp 11) (.tmp 13) 53 rfl wq1.heap.size 80 i01 (.agg #[.int .i64 0, .int .i64 0, .int .i64 0, .int .i64 0]) 4 32 Try.underlying53 hi1 hz01 hz11 hz21 rfl (by decide) (us 4) es.length (qs es) rfl h4 (us 6) 1 (qs [(0, 0, 0, 77)]) rfl h6 rfl (qs_one _) (by unfold maxLen; omega) (by omega) hb.size ?_
      intro v' w2' hown hgr _
      exact ⟨_, rfl, below_put hb h4 hgr, hown⟩
    · intro us w1 hb _
      change Oper.wp _ _ _ _ _ _
      go_simp
      exact ⟨_, rfl, Below.refl _ _, rfl⟩
    · intro us w1 hb hd
      simp only [List.mem_cons, List.not_mem_nil, or_false, forall_eq, List.getD_cons_zero, List.getD_cons_succ, kIs] at hd
      simp only [putD, List.getD_cons_zero, List.getD_cons_succ, Act.put, hd]
      have d0 := (hb.cell (World.block_lt_of_cell? _ _ xc)).trans xc
      go_simp
      exact ⟨_, rfl, Below.refl _ _, rfl⟩
    · intro us w1 hb hd
      simp only [List.mem_cons, List.not_mem_nil, or_false, forall_eq, List.getD_cons_zero, List.getD_cons_succ, kIs] at hd
      simp only [putD, List.getD_cons_zero, List.getD_cons_succ, Act.put, hd]
      go_simp
      exact ⟨_, rfl, Below.refl _ _, rfl⟩
  intro us w4 hb hp
  have h0 := hp 0 (by decide) (by decide)
  have h7 := hp 7 (by decide) (by decide)
  have h8 := hp 8 (by decide) (by decide)
  have h9 := hp 9 (by decide) (by decide)
  have h10 := hp 10 (by decide) (by decide)
  simp only [List.getD_cons_zero, List.getD_cons_succ, kIs, kOwn] at h0 h7 h8 h9 h10
  obtain ⟨gb1, cb1, hgb, hcb1, hcb2⟩ := own_shape_pos h7 (by omega)
  rw [hgb] at h7
  rw [show List.range 11 = [0, 1, 2, 3, 4, 5, 6, 7, 8, 9, 10] from rfl]
  simp only [List.drop_succ_cons, List.drop_zero, putD, List.getD_cons_zero, List.getD_cons_succ, Act.put, List.setIfInBounds_toArray, List.set_cons_zero, List.set_cons_succ, h0, hgb, h8, h9, h10]
  have HSB := Lib.hid (HST1.out.below hb)
  have HLB := Lib.hid (show LendQ w.heap.size 80 (0, 0, 0, 77) w4 (.slice (some ⟨gb1, 0, none⟩) es.length cb1) es from ⟨gb1, cb1, rfl, hcb1, hcb2, by rw [qs_append]; exact Joins.ownsRow_le h7 HST1.out.bl.size⟩)
  have q1 : (es.length : Int) ≤ (cb1 : Int) := by omega
  have n1 := ndBox_cells HSB.out.cbx
  obtain ⟨n0, n1, n2⟩ := n1
  have hfz := ndBox_free HSB.out.cbx 1
  have hnl := HSB.out.size
  clear hp h0 h7 h8 h9 h10 hb hcb1 hcb2 zc xc hgb
  go_wp2_with fail
  clear n0 n1 n2 hfz hnl q1 HST1 HQ1
  obtain ⟨wq2, hwq⟩ : ∃ x, x = w4.setCell ⟨w.heap.size + 2, 1, none⟩ (.slice (some ⟨gb1, 0, none⟩) es.length cb1) := ⟨_, rfl⟩
  have HST2 := Lib.hid (HSB.out.store1 (.slice (some ⟨gb1, 0, none⟩) es.length cb1))
  have HLQ := Lib.hid (HLB.out.store HSB.out (by decide) 1 (.slice (some ⟨gb1, 0, none⟩) es.length cb1))
  rw [← hwq] at HST2 HLQ
  rw [show w4.setCell ⟨w.heap.size + 1 + 1, 1, none⟩ (.slice (some ⟨gb1, 0, none⟩) es.length cb1) = wq2 from hwq.symm]
  clear hwq HSB HLB
  have HQ2 := Lib.hid (show Quads wq2 (.slice ak ks.length ck) ks from (HK.out.below HST2.out.bl))
  have zc := (ndBox_cells HST2.out.cbx).2.2
  have xc := (ndBox_cells HST2.out.abx).2.2
  refine region_dirty 11 7 [4, 6] [some 20, some 21, some 22, some 23, some 24, some 25, some 26, some 27, some 28, some 29, some 30, some 31, some 32, none] [[], [0], [], [2], [1, 3], [], [5], [4, 6], [], [8], [9]]
    [kIs (.pointer (some ⟨w.heap.size + 1 + 1, 2, none⟩)), kIs (.slice none 0 0), kIs (.pointer (some ⟨w.heap.size, 2, none⟩)), kIs (.slice ak ks.length ck), kOwn wq2.heap.size 82 4 ks.length (qs ks), kIs (.agg #[.int .i64 0, .int .i64 0, .int .i64 77, .int .i64 0]), kHas 1 (qs [(0, 0, 77, 0)]), kOwn wq2.heap.size 82 4 (ks.length + 1) (qs ks ++ qs [(0, 0, 77, 0)]), kIs (.pointer (some ⟨w.heap.size, 2, none⟩)), kIs (.slice ak ks.length ck), kIs (.int .i64 (ks.length : Nat))]
    (by kernel_rfl) (by kernel_rfl) (by kernel_rfl) (by kernel_rfl) (by kernel_rfl) (by kernel_rfl) ?_ ?_ ?_
  · intro j h1 h2
    match j, h1, h2 with
    | 0, _, _ | 1, _, _ | 2, _, _ | 3, _, _ | 5, _, _ | 8, _, _ | 9, _, _ | 10, _, _ => exact hard_is _
    | 4, h, _ | 6, h, _ => exact absurd (by decide) h
    | 7, _, h => exact absurd rfl h
    | j + 11, _, _ => exact hard_any
  · simp only [List.take_succ_cons, List.take_zero, obligsO]
    refine ⟨?_, ?_, ?_, ?_, ?_, ?_, ?_, ?_, ?_, ?_, ?_, trivial⟩
    · intro us w1 hb _
      change Oper.wp _ _ _ _ _ _
      go_simp
      exact ⟨_, rfl, Below.refl _ _, rfl⟩
    · intro us w1 hb hd
      simp only [List.mem_cons, List.not_mem_nil, or_false, forall_eq, List.getD_cons_zero, kIs] at hd
      simp only [putD, List.getD_cons_zero, Act.put, hd]
      have d0 := (hb.cell (World.block_lt_of_cell? _ _ zc)).trans zc
      go_simp
      exact ⟨_, rfl, Below.refl _ _, rfl⟩
    · intro us w1 hb _
      change Oper.wp _ _ _ _ _ _
      go_simp
      exact ⟨_, rfl, Below.refl _ _, rfl⟩
    · intro us w1 hb hd
      simp only [List.mem_cons, List.not_mem_nil, or_false, forall_eq, List.getD_cons_zero, List.getD_cons_succ, kIs] at hd
      simp only [putD, List.getD_cons_zero, List.getD_cons_succ, Act.put, hd]
      have d0 := (hb.cell (World.block_lt_of_cell? _ _ xc)).trans xc
      go_simp
      exact ⟨_, rfl, Below.refl _ _, rfl⟩
    · intro us w1 hb hd
      simp only [List.mem_cons, List.not_mem_nil, or_false, forall_eq_or_imp, forall_eq, List.getD_cons_zero, List.getD_cons_succ, kIs] at hd
      obtain ⟨h1, h3⟩ := hd
      simp only [putD, List.getD_cons_zero, List.getD_cons_succ, Act.put, h1, h3]
      refine oper_append_has_at w1 (.tmp 21) (.tmp 23) 54 rfl wq2.heap.size 82 i02 (.agg #[.int .i64 0, .int .i64 0, .int .i64 0, .int .i64 0]) 4 32 Try.underlying54 hi2 hz02 hz12 hz22 rfl (by decide) (.slice none 0 0) 0 [] rfl (World.ownsRow_nil _ _ _ _) (.slice ak ks.length ck) ks.length (qs ks) rfl (Has.below HQ2.out hb) (qs_length ks) (qs_one _) (by unfold maxLen; omega) (by omega) hb.size ?_
      intro v' w2' hown hgr _
      exact ⟨_, rfl, below_none hgr, by simpa [kOwn] using hown⟩
    · intro us w1 hb _
      change Oper.wp _ _ _ _ _ _
      go_simp
      exact ⟨_, rfl, Below.refl _ _, rfl⟩
    · intro us w1 hb hd
      simp only [List.mem_cons, List.not_mem_nil, or_false, forall_eq, List.getD_cons_zero, List.getD_cons_succ, kIs] at hd
      simp only [putD, List.getD_cons_zero, List.getD_cons_succ, Act.put, hd]
      go_simp
      exact ⟨_, rfl, (Below.refl _ _).alloc (Nat.le_refl _) _, has_quad (heap_last rfl)⟩
    · intro us w1 hb hd
      simp only [List.mem_cons, List.not_mem_nil, or_false, forall_eq_or_imp, forall_eq, List.getD_cons_zero, List.getD_cons_succ, kHas, kOwn] at hd
      obtain ⟨h4, h6⟩ := hd
      simp only [putD, List.getD_cons_zero, List.getD_cons_succ, Act.put]
      refine oper_append_has_at w1 (.tmp 24) (.tmp 26) 54 rfl wq2.heap.size 82 i02 (.agg #[.int .i64 0, .int .i64 0, .int .i64 0, .int .i64 0]) 4 32 Try.underlying54 hi2 hz02 hz12 hz22 rfl (by decide) (us 4) ks.length (qs ks) rfl h4 (us 6) 1 (qs [(0, 0, 77, 0)]) rfl h6 rfl (qs_one _) (by unfold maxLen; omega) (by omega) hb.size ?_
      intro v' w2' hown hgr _
      exact ⟨_, rfl, below_put hb h4 hgr, hown⟩
    · intro us w1 hb _
      change Oper.wp _ _ _ _ _ _
      go_simp
      exact ⟨_, rfl, Below.refl _ _, rfl⟩
    · intro us w1 hb hd
      simp only [List.mem_cons, List.not_mem_nil, or_false, forall_eq, List.getD_cons_zero, List.getD_cons_succ, kIs] at hd
      simp only [putD, List.getD_cons_zero, List.getD_cons_succ, Act.put, hd]
      have d0 := (hb.cell (World.block_lt_of_cell? _ _ xc)).trans xc
      go_simp
      exact ⟨_, rfl, Below.refl _ _, rfl⟩
    · intro us w1 hb hd
      simp only [List.mem_cons, List.not_mem_nil, or_false, forall_eq, List.getD_cons_zero, List.getD_cons_succ, kIs] at hd
      simp only [putD, List.getD_cons_zero, List.getD_cons_succ, Act.put, hd]
      go_simp
      exact ⟨_, rfl, Below.refl _ _, rfl⟩
  intro us w4 hb hp
  have h0 := hp 0 (by decide) (by decide)
  have h7 := hp 7 (by decide) (by decide)
  have h8 := hp 8 (by decide) (by decide)
  have h9 := hp 9 (by decide) (by decide)
  have h10 := hp 10 (by decide) (by decide)
  simp only [List.getD_cons_zero, List.getD_cons_succ, kIs, kOwn] at h0 h7 h8 h9 h10
  obtain ⟨gb2, cb2, hgb, hcb1, hcb2⟩ := own_shape_pos h7 (by omega)
  rw [hgb] at h7
  rw [show List.range 11 = [0, 1, 2, 3, 4, 5, 6, 7, 8, 9, 10] from rfl]
  simp only [List.drop_succ_cons, List.drop_zero, putD, List.getD_cons_zero, List.getD_cons_succ, Act.put, List.setIfInBounds_toArray, List.set_cons_zero, List.set_cons_succ, h0, hgb, h8, h9, h10]
  have HSB := Lib.hid (HST2.out.below hb)
  have HLB := Lib.hid (show LendQ w.heap.size 82 (0, 0, 77, 0) w4 (.slice (some ⟨gb2, 0, none⟩) ks.length cb2) ks from ⟨gb2, cb2, rfl, hcb1, hcb2, by rw [qs_append]; exact Joins.ownsRow_le h7 HST2.out.bl.size⟩)
  have HLQ4 := Lib.hid (HLQ.out.below hb)
  have q1 : (ks.length : Int) ≤ (cb2 : Int) := by omega
  have n1 := ndBox_cells HSB.out.cbx
  obtain ⟨n0, n1, n2⟩ := n1
  have hfz := ndBox_free HSB.out.cbx 2
  have hnl := HSB.out.size
  clear hp h0 h7 h8 h9 h10 hb hcb1 hcb2 zc xc hgb
  obtain ⟨z0, z1, z2⟩ := ndBox_cells HSB.out.rbx
  have hfr := ndBox_free HSB.out.rbx
  go_wp2_with fail
  refine bodyPost_ret (v := .agg #[.bool leaf, .slice (some ⟨gb1, 0, none⟩) es.length cb1, .slice (some ⟨gb2, 0, none⟩) ks.length cb2]) (by simp [results, Try.results31, go_sem, z0, z1, z2]) rfl ?_
  have hs3 := HSB.out.store2 (.slice (some ⟨gb2, 0, none⟩) ks.length cb2)
  exact ⟨_, _, rfl, (HLQ4.out.store HSB.out (by decide) 2 _).sets3 hs3.rbx (by decide) _ _ _, (HLB.out.store HSB.out (by decide) 2 _).sets3 hs3.rbx (by decide) _ _ _, sets3_below hs3.bl (Nat.le_succ _) _ _ _⟩
end Go.Proofs.Ytcmoajbdepohmaa
namespace Go.Proofs.Ytcmoajbdepohmaa
open Go.RowKit Go.Oct
theorem LendQ.mark {base : Nat} {t : TypeId} {mk : Quad} {w : World} {g cp : Nat} {l : List Quad} (h : w.ownsRow base t 4 (.slice (some ⟨g, 0, none⟩) (l.length + 1) cp) (l.length + 1) (qs (l ++ [mk]))) :
    w.cell? ⟨g, l.length * 4 + 2, none⟩ = some (.int .i64 mk.2.2.1) ∧ w.cell? ⟨g, l.length * 4 + 3, none⟩ = some (.int .i64 mk.2.2.2) := by
  have hq := qs_get (l ++ [mk]) l.length (by simp)
  simp only [List.getElem_append_right (Nat.le_refl _), Nat.sub_self, List.getElem_cons_zero] at hq
  exact ⟨by rw [h.cellAt _ (by omega)]; exact hq.2.2.1, by rw [h.cellAt _ (by omega)]; exact hq.2.2.2⟩
set_option maxRecDepth 100000 in
set_option maxHeartbeats 4000000 in
theorem kept13_any (base : Nat) (leaf : Bool) (v1 v2 u1 u2 : Value) (es ks : List Quad) (w : World) (H1 : LendQ base 80 (0, 0, 0, 77) w v1 es) (H2 : LendQ base 82 (0, 0, 77, 0) w v2 ks) (G1 : Quads w u1 es) (G2 : Quads w u2 ks) (le : es.length ≤ 4398046511000) (lk : ks.length ≤ 4398046511000) :
    Calls Try.prog 38 #[.agg #[.bool leaf, v1, v2], .agg #[.bool leaf, u1, u2]] w (Asked true w) := by
  have hq1 := H1.quads
  have hq2 := H2.quads
  obtain ⟨g1, c1, rfl, hc1, hm1, ho1⟩ := H1
  obtain ⟨g2, c2, rfl, hc2, hm2, ho2⟩ := H2
  obtain ⟨a3, c3, rfl, -, -, -⟩ := G1.open
  obtain ⟨a4, c4, rfl, -, -, -⟩ := G2.open
  have k1 := (LendQ.mark ho1).2
  have k2 := (LendQ.mark ho2).1
  have hA0 : ((w.alloc (ndBox leaf (.slice (some ⟨g1, 0, none⟩) es.length c1) (.slice (some ⟨g2, 0, none⟩) ks.length c2))).alloc (ndBox leaf (.slice a3 es.length c3) (.slice a4 ks.length c4))).heap[w.heap.size]? = some (ndBox leaf (.slice (some ⟨g1, 0, none⟩) es.length c1) (.slice (some ⟨g2, 0, none⟩) ks.length c2)) := heap_keep (heap_last rfl) _
  have hB0 : ((w.alloc (ndBox leaf (.slice (some ⟨g1, 0, none⟩) es.length c1) (.slice (some ⟨g2, 0, none⟩) ks.length c2))).alloc (ndBox leaf (.slice a3 es.length c3) (.slice a4 ks.length c4))).heap[w.heap.size + 1]? = some (ndBox leaf (.slice a3 es.length c3) (.slice a4 ks.length c4)) := heap_last (by simp)
  have hbl : Below w.heap.size w ((w.alloc (ndBox leaf (.slice (some ⟨g1, 0, none⟩) es.length c1) (.slice (some ⟨g2, 0, none⟩) ks.length c2))).alloc (ndBox leaf (.slice a3 es.length c3) (.slice a4 ks.length c4))) := below_new (below_new (Below.refl _ _) _) _
  have HA := Lib.hid (show Quads ((w.alloc (ndBox leaf (.slice (some ⟨g1, 0, none⟩) es.length c1) (.slice (some ⟨g2, 0, none⟩) ks.length c2))).alloc (ndBox leaf (.slice a3 es.length c3) (.slice a4 ks.length c4))) (.slice (some ⟨g1, 0, none⟩) es.length c1) es from Has.below hq1 hbl)
  have HB := Lib.hid (show Quads ((w.alloc (ndBox leaf (.slice (some ⟨g1, 0, none⟩) es.length c1) (.slice (some ⟨g2, 0, none⟩) ks.length c2))).alloc (ndBox leaf (.slice a3 es.length c3) (.slice a4 ks.length c4))) (.slice (some ⟨g2, 0, none⟩) ks.length c2) ks from Has.below hq2 hbl)
  have HU := Lib.hid (show Quads ((w.alloc (ndBox leaf (.slice (some ⟨g1, 0, none⟩) es.length c1) (.slice (some ⟨g2, 0, none⟩) ks.length c2))).alloc (ndBox leaf (.slice a3 es.length c3) (.slice a4 ks.length c4))) (.slice a3 es.length c3) es from Has.below G1 hbl)
  have HV := Lib.hid (show Quads ((w.alloc (ndBox leaf (.slice (some ⟨g1, 0, none⟩) es.length c1) (.slice (some ⟨g2, 0, none⟩) ks.length c2))).alloc (ndBox leaf (.slice a3 es.length c3) (.slice a4 ks.length c4))) (.slice a4 ks.length c4) ks from Has.below G2 hbl)
  have m1 := (hbl.cell (World.block_lt_of_cell? _ _ k1)).trans k1
  have m2 := (hbl.cell (World.block_lt_of_cell? _ _ k2)).trans k2
  obtain ⟨x0, x1, x2⟩ := ndBox_cells hA0
  obtain ⟨y0, y1, y2⟩ := ndBox_cells hB0
  have hw1 : IntKind.i64.wrap ((es.length : Int) + 1) = ((es.length + 1 : Nat) : Int) := by rw [IntWalk.i64_in _ (by omega)]; omega
  have hw2 : IntKind.i64.wrap ((ks.length : Int) + 1) = ((ks.length + 1 : Nat) : Int) := by rw [IntWalk.i64_in _ (by omega)]; omega
  have t1 : (es.length : Int) < (c1 : Int) := by omega
  have t2 : (ks.length : Int) < (c2 : Int) := by omega
  have t3 : (es.length : Int) + 1 ≤ (c1 : Int) := by omega
  have t4 : (ks.length : Int) + 1 ≤ (c2 : Int) := by omega
  have t5 : (0 : Int) ≤ (es.length : Int) + 1 := by omega
  have t6 : (0 : Int) ≤ (ks.length : Int) + 1 := by omega
  have t7 : (0 : Int) ≤ (es.length : Int) := by omega
  have t8 : (0 : Int) ≤ (ks.length : Int) := by omega
  have t9 : (es.length : Int) < (es.length : Int) + 1 := by omega
  have t10 : (ks.length : Int) < (ks.length : Int) + 1 := by omega
  have HBL := Lib.hid hbl
  clear k1 k2 ho1 ho2 hq1 hq2 G1 G2 hA0 hB0 hbl
  go_enter Try.func38, Try.ntmps38
  go_wp2_with fail
  refine region_each 54 [some 5, some 6, some 7, some 8, some 9, some 10, some 11, some 12, some 13, some 14, some 15, some 16, some 17, some 18, some 19, some 20, some 21, some 22, some 23, some 24, some 25, some 26, some 27, some 28, some 29, some 30, some 31, some 32, some 33, some 34, some 35, some 36, some 37, some 38, some 39, some 40, some 41, some 42, some 43, some 44, some 45, some 46, some 47, some 48, some 49, some 50, some 51, some 52, some 53, some 54, some 55, some 56, some 57, some 4] [[], [], [0, 1], [2], [3], [4, 3], [5, 3], [3], [7, 3], [8, 3], [6, 9, 3], [3, 10], [11], [12], [13, 12], [14, 12], [12], [16, 12], [17, 12], [15, 18, 12], [12, 19], [20], [21], [22, 21], [21], [24, 21], [25, 21], [26, 21], [23, 27, 21], [21], [29, 21], [30, 21], [28, 31, 21], [32, 21], [33, 21], [34, 21], [21, 35], [36], [37], [38, 37], [37], [40, 37], [41, 37], [42, 37], [39, 43, 37], [37], [45, 37], [46, 37], [44, 47, 37], [48, 37], [49, 37], [50, 37], [37, 51], [52]]
    [kIs (.agg #[.bool leaf, (.slice (some ⟨g1, 0, none⟩) es.length c1), (.slice (some ⟨g2, 0, none⟩) ks.length c2)]), kIs (.agg #[.bool leaf, (.slice a3 es.length c3), (.slice a4 ks.length c4)]), kIs (.bool true), kIs (.bool true), kIs (.pointer (some ⟨w.heap.size, 1, none⟩)), kIs (.slice (some ⟨g1, 0, none⟩) es.length c1), kIs (.int .i64 (c1 : Nat)), kIs (.pointer (some ⟨w.heap.size + 1, 1, none⟩)), kIs (.slice a3 es.length c3), kIs (.int .i64 (es.length : Nat)), kIs (.bool true), kIs (.bool true), kIs (.bool true), kIs (.pointer (some ⟨w.heap.size, 2, none⟩)), kIs (.slice (some ⟨g2, 0, none⟩) ks.length c2), kIs (.int .i64 (c2 : Nat)), kIs (.pointer (some ⟨w.heap.size + 1, 2, none⟩)), kIs (.slice a4 ks.length c4), kIs (.int .i64 (ks.length : Nat)), kIs (.bool true), kIs (.bool true), kIs (.bool true), kIs (.pointer (some ⟨w.heap.size, 1, none⟩)), kIs (.slice (some ⟨g1, 0, none⟩) es.length c1), kIs (.pointer (some ⟨w.heap.size + 1, 1, none⟩)), kIs (.slice a3 es.length c3), kIs (.int .i64 (es.length : Nat)), kIs (.int .i64 ((es.length + 1 : Nat) : Int)), kIs (.slice (some ⟨g1, 0, none⟩) (es.length + 1) c1), kIs (.pointer (some ⟨w.heap.size + 1, 1, none⟩)), kIs (.slice a3 es.length c3), kIs (.int .i64 (es.length : Nat)), kIs (.pointer (some ⟨g1, es.length * 4, none⟩)), kIs (.pointer (some ⟨g1, es.length * 4 + 3, none⟩)), kIs (.int .i64 77), kIs (.bool true), kIs (.bool true), kIs (.bool true), kIs (.pointer (some ⟨w.heap.size, 2, none⟩)), kIs (.slice (some ⟨g2, 0, none⟩) ks.length c2), kIs (.pointer (some ⟨w.heap.size + 1, 2, none⟩)), kIs (.slice a4 ks.length c4), kIs (.int .i64 (ks.length : Nat)), kIs (.int .i64 ((ks.length + 1 : Nat) : Int)), kIs (.slice (some ⟨g2, 0, none⟩) (ks.length + 1) c2), kIs (.pointer (some ⟨w.heap.size + 1, 2, none⟩)), kIs (.slice a4 ks.length c4), kIs (.int .i64 (ks.length : Nat)), kIs (.pointer (some ⟨g2, ks.length * 4, none⟩)), kIs (.pointer (some ⟨g2, ks.length * 4 + 2, none⟩)), kIs (.int .i64 77), kIs (.bool true), kIs (.bool true), kIs (.bool true)]
    (by kernel_rfl) (by kernel_rfl) (by kernel_rfl) (by kernel_rfl) ?_ ?_
  · simp only [obligsD]
    refine ⟨?_, ?_, ?_, ?_, ?_, ?_, ?_, ?_, ?_, ?_, ?_, ?_, ?_, ?_, ?_, ?_, ?_, ?_, ?_, ?_, ?_, ?_, ?_, ?_, ?_, ?_, ?_, ?_, ?_, ?_, ?_, ?_, ?_, ?_, ?_, ?_, ?_, ?_, ?_, ?_, ?_, ?_, ?_, ?_, ?_, ?_, ?_, ?_, ?_, ?_, ?_, ?_, ?_, ?_, trivial⟩
    · intro us w1 hb _
      simp only [putD]
      have d0 := (hb.cell (World.block_lt_of_cell? _ _ x0)).trans x0
      have d1 := (hb.cell (World.block_lt_of_cell? _ _ x1)).trans x1
      have d2 := (hb.cell (World.block_lt_of_cell? _ _ x2)).trans x2
      go_simp
      exact ⟨_, rfl, Below.refl _ _, rfl⟩
    · intro us w1 hb _
      simp only [putD]
      have d0 := (hb.cell (World.block_lt_of_cell? _ _ y0)).trans y0
      have d1 := (hb.cell (World.block_lt_of_cell? _ _ y1)).trans y1
      have d2 := (hb.cell (World.block_lt_of_cell? _ _ y2)).trans y2
      go_simp
      exact ⟨_, rfl, Below.refl _ _, rfl⟩
    · intro us w1 hb hd
      simp only [List.mem_cons, List.not_mem_nil, or_false, forall_eq_or_imp, forall_eq, List.getD_cons_zero, List.getD_cons_succ, kIs] at hd
      simp only [putD, List.getD_cons_zero, List.getD_cons_succ, Act.put, hd]
      go_simp
      refine (same13_yes leaf _ _ _ _ es ks _ (Has.below HA.out hb) (Has.below HB.out hb) (Has.below HU.out hb) (Has.below HV.out hb) (by omega) (by omega)).mono ?_
      rintro e w2 ⟨rfl, hx⟩
      exact ⟨_, rfl, hx, rfl⟩
    · intro us w1 _ hd
      simp only [List.mem_cons, List.not_mem_nil, or_false, forall_eq, List.getD_cons_zero, List.getD_cons_succ, kIs] at hd
      simp only [putD, List.getD_cons_zero, List.getD_cons_succ, Act.put, hd]
      go_simp
      exact ⟨_, rfl, Below.refl _ _, rfl⟩
    · intro us w1 _ hd
      simp only [List.mem_cons, List.not_mem_nil, or_false, forall_eq, List.getD_cons_zero, List.getD_cons_succ, kIs] at hd
      refine ⟨fun _ => ?_, fun h => (h (by simp [hd])).elim⟩
      simp only [putD, List.getD_cons_zero, List.getD_cons_succ, Act.put, hd]
      go_simp
      exact ⟨_, rfl, Below.refl _ _, rfl⟩
    · intro us w1 hb hd
      simp only [List.mem_cons, List.not_mem_nil, or_false, forall_eq_or_imp, forall_eq, List.getD_cons_zero, List.getD_cons_succ, kIs] at hd
      refine ⟨fun _ => ?_, fun h => (h (by simp [hd])).elim⟩
      simp only [putD, List.getD_cons_zero, List.getD_cons_succ, Act.put, hd]
      have d0 := (hb.cell (World.block_lt_of_cell? _ _ x1)).trans x1
      go_simp
      exact ⟨_, rfl, Below.refl _ _, rfl⟩
    · intro us w1 _ hd
      simp only [List.mem_cons, List.not_mem_nil, or_false, forall_eq_or_imp, forall_eq, List.getD_cons_zero, List.getD_cons_succ, kIs] at hd
      refine ⟨fun _ => ?_, fun h => (h (by simp [hd])).elim⟩
      simp only [putD, List.getD_cons_zero, List.getD_cons_succ, Act.put, hd]
      go_simp
      exact ⟨_, rfl, Below.refl _ _, rfl⟩
    · intro us w1 _ hd
      simp only [List.mem_cons, List.not_mem_nil, or_false, forall_eq, List.getD_cons_zero, List.getD_cons_succ, kIs] at hd
      refine ⟨fun _ => ?_, fun h => (h (by simp [hd])).elim⟩
      simp only [putD, List.getD_cons_zero, List.getD_cons_succ, Act.put, hd]
      go_simp
      exact ⟨_, rfl, Below.refl _ _, rfl⟩
    · intro us w1 hb hd
      simp only [List.mem_cons, List.not_mem_nil, or_false, forall_eq_or_imp, forall_eq, List.getD_cons_zero, List.getD_cons_succ, kIs] at hd
      refine ⟨fun _ => ?_, fun h => (h (by simp [hd])).elim⟩
      simp only [putD, List.getD_cons_zero, List.getD_cons_succ, Act.put, hd]
      have d0 := (hb.cell (World.block_lt_of_cell? _ _ y1)).trans y1
      go_simp
      exact ⟨_, rfl, Below.refl _ _, rfl⟩
    · intro us w1 _ hd
      simp only [List.mem_cons, List.not_mem_nil, or_false, forall_eq_or_imp, forall_eq, List.getD_cons_zero, List.getD_cons_succ, kIs] at hd
      refine ⟨fun _ => ?_, fun h => (h (by simp [hd])).elim⟩
      simp only [putD, List.getD_cons_zero, List.getD_cons_succ, Act.put, hd]
      go_simp
      exact ⟨_, rfl, Below.refl _ _, rfl⟩
    · intro us w1 hb hd
      simp only [List.mem_cons, List.not_mem_nil, or_false, forall_eq_or_imp, forall_eq, List.getD_cons_zero, List.getD_cons_succ, kIs] at hd
      refine ⟨fun _ => ?_, fun h => (h (by simp [hd])).elim⟩
      simp only [putD, List.getD_cons_zero, List.getD_cons_succ, Act.put, hd]
      go_simp
      exact ⟨_, rfl, Below.refl _ _, by first | rfl | (simp only [kIs]; done) | (simp only [kIs]; congr 1; simp; done) | (simp only [kIs]; congr 1; simp; omega)⟩
    · intro us w1 _ hd
      simp only [List.mem_cons, List.not_mem_nil, or_false, forall_eq_or_imp, forall_eq, List.getD_cons_zero, List.getD_cons_succ, kIs] at hd
      simp only [putD, List.getD_cons_zero, List.getD_cons_succ, Act.put, hd]
      go_simp
      exact ⟨_, rfl, Below.refl _ _, rfl⟩
    · intro us w1 _ hd
      simp only [List.mem_cons, List.not_mem_nil, or_false, forall_eq, List.getD_cons_zero, List.getD_cons_succ, kIs] at hd
      simp only [putD, List.getD_cons_zero, List.getD_cons_succ, Act.put, hd]
      go_simp
      exact ⟨_, rfl, Below.refl _ _, rfl⟩
    · intro us w1 _ hd
      simp only [List.mem_cons, List.not_mem_nil, or_false, forall_eq, List.getD_cons_zero, List.getD_cons_succ, kIs] at hd
      refine ⟨fun _ => ?_, fun h => (h (by simp [hd])).elim⟩
      simp only [putD, List.getD_cons_zero, List.getD_cons_succ, Act.put, hd]
      go_simp
      exact ⟨_, rfl, Below.refl _ _, rfl⟩
    · intro us w1 hb hd
      simp only [List.mem_cons, List.not_mem_nil, or_false, forall_eq_or_imp, forall_eq, List.getD_cons_zero, List.getD_cons_succ, kIs] at hd
      refine ⟨fun _ => ?_, fun h => (h (by simp [hd])).elim⟩
      simp only [putD, List.getD_cons_zero, List.getD_cons_succ, Act.put, hd]
      have d0 := (hb.cell (World.block_lt_of_cell? _ _ x2)).trans x2
      go_simp
      exact ⟨_, rfl, Below.refl _ _, rfl⟩
    · intro us w1 _ hd
      simp only [List.mem_cons, List.not_mem_nil, or_false, forall_eq_or_imp, forall_eq, List.getD_cons_zero, List.getD_cons_succ, kIs] at hd
      refine ⟨fun _ => ?_, fun h => (h (by simp [hd])).elim⟩
      simp only [putD, List.getD_cons_zero, List.getD_cons_succ, Act.put, hd]
      go_simp
      exact ⟨_, rfl, Below.refl _ _, rfl⟩
    · intro us w1 _ hd
      simp only [List.mem_cons, List.not_mem_nil, or_false, forall_eq, List.getD_cons_zero, List.getD_cons_succ, kIs] at hd
      refine ⟨fun _ => ?_, fun h => (h (by simp [hd])).elim⟩
      simp only [putD, List.getD_cons_zero, List.getD_cons_succ, Act.put, hd]
      go_simp
      exact ⟨_, rfl, Below.refl _ _, rfl⟩
    · intro us w1 hb hd
      simp only [List.mem_cons, List.not_mem_nil, or_false, forall_eq_or_imp, forall_eq, List.getD_cons_zero, List.getD_cons_succ, kIs] at hd
      refine ⟨fun _ => ?_, fun h => (h (by simp [hd])).elim⟩
      simp only [putD, List.getD_cons_zero, List.getD_cons_succ, Act.put, hd]
      have d0 := (hb.cell (World.block_lt_of_cell? _ _ y2)).trans y2
      go_simp
      exact ⟨_, rfl, Below.refl _ _, rfl⟩
    · intro us w1 _ hd
      simp only [List.mem_cons, List.not_mem_nil, or_false, forall_eq_or_imp, forall_eq, List.getD_cons_zero, List.getD_cons_succ, kIs] at hd
      refine ⟨fun _ => ?_, fun h => (h (by simp [hd])).elim⟩
      simp only [putD, List.getD_cons_zero, List.getD_cons_succ, Act.put, hd]
      go_simp
      exact ⟨_, rfl, Below.refl _ _, rfl⟩
    · intro us w1 hb hd
      simp only [List.mem_cons, List.not_mem_nil, or_false, forall_eq_or_imp, forall_eq, List.getD_cons_zero, List.getD_cons_succ, kIs] at hd
      refine ⟨fun _ => ?_, fun h => (h (by simp [hd])).elim⟩
      simp only [putD, List.getD_cons_zero, List.getD_cons_succ, Act.put, hd]
      go_simp
      exact ⟨_, rfl, Below.refl _ _, by first | rfl | (simp only [kIs]; done) | (simp only [kIs]; congr 1; simp; done) | (simp only [kIs]; congr 1; simp; omega)⟩
    · intro us w1 _ hd
      simp only [List.mem_cons, List.not_mem_nil, or_false, forall_eq_or_imp, forall_eq, List.getD_cons_zero, List.getD_cons_succ, kIs] at hd
      simp only [putD, List.getD_cons_zero, List.getD_cons_succ, Act.put, hd]
      go_simp
      exact ⟨_, rfl, Below.refl _ _, rfl⟩
    · intro us w1 _ hd
      simp only [List.mem_cons, List.not_mem_nil, or_false, forall_eq, List.getD_cons_zero, List.getD_cons_succ, kIs] at hd
      simp only [putD, List.getD_cons_zero, List.getD_cons_succ, Act.put, hd]
      go_simp
      exact ⟨_, rfl, Below.refl _ _, rfl⟩
    · intro us w1 _ hd
      simp only [List.mem_cons, List.not_mem_nil, or_false, forall_eq, List.getD_cons_zero, List.getD_cons_succ, kIs] at hd
      refine ⟨fun _ => ?_, fun h => (h (by simp [hd])).elim⟩
      simp only [putD, List.getD_cons_zero, List.getD_cons_succ, Act.put, hd]
      go_simp
      exact ⟨_, rfl, Below.refl _ _, rfl⟩
    · intro us w1 hb hd
      simp only [List.mem_cons, List.not_mem_nil, or_false, forall_eq_or_imp, forall_eq, List.getD_cons_zero, List.getD_cons_succ, kIs] at hd
      refine ⟨fun _ => ?_, fun h => (h (by simp [hd])).elim⟩
      simp only [putD, List.getD_cons_zero, List.getD_cons_succ, Act.put, hd]
      have d0 := (hb.cell (World.block_lt_of_cell? _ _ x1)).trans x1
      go_simp
      exact ⟨_, rfl, Below.refl _ _, rfl⟩
    · intro us w1 _ hd
      simp only [List.mem_cons, List.not_mem_nil, or_false, forall_eq, List.getD_cons_zero, List.getD_cons_succ, kIs] at hd
      refine ⟨fun _ => ?_, fun h => (h (by simp [hd])).elim⟩
      simp only [putD, List.getD_cons_zero, List.getD_cons_succ, Act.put, hd]
      go_simp
      exact ⟨_, rfl, Below.refl _ _, rfl⟩
    · intro us w1 hb hd
      simp only [List.mem_cons, List.not_mem_nil, or_false, forall_eq_or_imp, forall_eq, List.getD_cons_zero, List.getD_cons_succ, kIs] at hd
      refine ⟨fun _ => ?_, fun h => (h (by simp [hd])).elim⟩
      simp only [putD, List.getD_cons_zero, List.getD_cons_succ, Act.put, hd]
      have d0 := (hb.cell (World.block_lt_of_cell? _ _ y1)).trans y1
      go_simp
      exact ⟨_, rfl, Below.refl _ _, rfl⟩
    · intro us w1 _ hd
      simp only [List.mem_cons, List.not_mem_nil, or_false, forall_eq_or_imp, forall_eq, List.getD_cons_zero, List.getD_cons_succ, kIs] at hd
      refine ⟨fun _ => ?_, fun h => (h (by simp [hd])).elim⟩
      simp only [putD, List.getD_cons_zero, List.getD_cons_succ, Act.put, hd]
      go_simp
      exact ⟨_, rfl, Below.refl _ _, rfl⟩
    · intro us w1 hb hd
      simp only [List.mem_cons, List.not_mem_nil, or_false, forall_eq_or_imp, forall_eq, List.getD_cons_zero, List.getD_cons_succ, kIs] at hd
      refine ⟨fun _ => ?_, fun h => (h (by simp [hd])).elim⟩
      simp only [putD, List.getD_cons_zero, List.getD_cons_succ, Act.put, hd]
      go_simp
      exact ⟨_, rfl, Below.refl _ _, by first | rfl | (simp only [kIs]; done) | (simp only [kIs]; rw [hw1])⟩
    · intro us w1 hb hd
      simp only [List.mem_cons, List.not_mem_nil, or_false, forall_eq_or_imp, forall_eq, List.getD_cons_zero, List.getD_cons_succ, kIs] at hd
      refine ⟨fun _ => ?_, fun h => (h (by simp [hd])).elim⟩
      simp only [putD, List.getD_cons_zero, List.getD_cons_succ, Act.put, hd]
      go_simp
      exact ⟨_, rfl, Below.refl _ _, rfl⟩
    · intro us w1 _ hd
      simp only [List.mem_cons, List.not_mem_nil, or_false, forall_eq, List.getD_cons_zero, List.getD_cons_succ, kIs] at hd
      refine ⟨fun _ => ?_, fun h => (h (by simp [hd])).elim⟩
      simp only [putD, List.getD_cons_zero, List.getD_cons_succ, Act.put, hd]
      go_simp
      exact ⟨_, rfl, Below.refl _ _, rfl⟩
    · intro us w1 hb hd
      simp only [List.mem_cons, List.not_mem_nil, or_false, forall_eq_or_imp, forall_eq, List.getD_cons_zero, List.getD_cons_succ, kIs] at hd
      refine ⟨fun _ => ?_, fun h => (h (by simp [hd])).elim⟩
      simp only [putD, List.getD_cons_zero, List.getD_cons_succ, Act.put, hd]
      have d0 := (hb.cell (World.block_lt_of_cell? _ _ y1)).trans y1
      go_simp
      exact ⟨_, rfl, Below.refl _ _, rfl⟩
    · intro us w1 _ hd
      simp only [List.mem_cons, List.not_mem_nil, or_false, forall_eq_or_imp, forall_eq, List.getD_cons_zero, List.getD_cons_succ, kIs] at hd
      refine ⟨fun _ => ?_, fun h => (h (by simp [hd])).elim⟩
      simp only [putD, List.getD_cons_zero, List.getD_cons_succ, Act.put, hd]
      go_simp
      exact ⟨_, rfl, Below.refl _ _, rfl⟩
    · intro us w1 hb hd
      simp only [List.mem_cons, List.not_mem_nil, or_false, forall_eq_or_imp, forall_eq, List.getD_cons_zero, List.getD_cons_succ, kIs] at hd
      refine ⟨fun _ => ?_, fun h => (h (by simp [hd])).elim⟩
      simp only [putD, List.getD_cons_zero, List.getD_cons_succ, Act.put, hd]
      go_simp
      exact ⟨_, rfl, Below.refl _ _, by first | rfl | simp [kIs]⟩
    · intro us w1 hb hd
      simp only [List.mem_cons, List.not_mem_nil, or_false, forall_eq_or_imp, forall_eq, List.getD_cons_zero, List.getD_cons_succ, kIs] at hd
      refine ⟨fun _ => ?_, fun h => (h (by simp [hd])).elim⟩
      simp only [putD, List.getD_cons_zero, List.getD_cons_succ, Act.put, hd]
      go_simp
      exact ⟨_, rfl, Below.refl _ _, by first | rfl | simp [kIs]⟩
    · intro us w1 hb hd
      simp only [List.mem_cons, List.not_mem_nil, or_false, forall_eq_or_imp, forall_eq, List.getD_cons_zero, List.getD_cons_succ, kIs] at hd
      refine ⟨fun _ => ?_, fun h => (h (by simp [hd])).elim⟩
      simp only [putD, List.getD_cons_zero, List.getD_cons_succ, Act.put, hd]
      have d0 := (hb.cell (World.block_lt_of_cell? _ _ m1)).trans m1
      go_simp
      exact ⟨_, rfl, Below.refl _ _, rfl⟩
    · intro us w1 hb hd
      simp only [List.mem_cons, List.not_mem_nil, or_false, forall_eq_or_imp, forall_eq, List.getD_cons_zero, List.getD_cons_succ, kIs] at hd
      refine ⟨fun _ => ?_, fun h => (h (by simp [hd])).elim⟩
      simp only [putD, List.getD_cons_zero, List.getD_cons_succ, Act.put, hd]
      go_simp
      exact ⟨_, rfl, Below.refl _ _, by first | rfl | simp [kIs]⟩
    · intro us w1 _ hd
      simp only [List.mem_cons, List.not_mem_nil, or_false, forall_eq_or_imp, forall_eq, List.getD_cons_zero, List.getD_cons_succ, kIs] at hd
      simp only [putD, List.getD_cons_zero, List.getD_cons_succ, Act.put, hd]
      go_simp
      exact ⟨_, rfl, Below.refl _ _, rfl⟩
    · intro us w1 _ hd
      simp only [List.mem_cons, List.not_mem_nil, or_false, forall_eq, List.getD_cons_zero, List.getD_cons_succ, kIs] at hd
      simp only [putD, List.getD_cons_zero, List.getD_cons_succ, Act.put, hd]
      go_simp
      exact ⟨_, rfl, Below.refl _ _, rfl⟩
    · intro us w1 _ hd
      simp only [List.mem_cons, List.not_mem_nil, or_false, forall_eq, List.getD_cons_zero, List.getD_cons_succ, kIs] at hd
      refine ⟨fun _ => ?_, fun h => (h (by simp [hd])).elim⟩
      simp only [putD, List.getD_cons_zero, List.getD_cons_succ, Act.put, hd]
      go_simp
      exact ⟨_, rfl, Below.refl _ _, rfl⟩
    · intro us w1 hb hd
      simp only [List.mem_cons, List.not_mem_nil, or_false, forall_eq_or_imp, forall_eq, List.getD_cons_zero, List.getD_cons_succ, kIs] at hd
      refine ⟨fun _ => ?_, fun h => (h (by simp [hd])).elim⟩
      simp only [putD, List.getD_cons_zero, List.getD_cons_succ, Act.put, hd]
      have d0 := (hb.cell (World.block_lt_of_cell? _ _ x2)).trans x2
      go_simp
      exact ⟨_, rfl, Below.refl _ _, rfl⟩
    · intro us w1 _ hd
      simp only [List.mem_cons, List.not_mem_nil, or_false, forall_eq, List.getD_cons_zero, List.getD_cons_succ, kIs] at hd
      refine ⟨fun _ => ?_, fun h => (h (by simp [hd])).elim⟩
      simp only [putD, List.getD_cons_zero, List.getD_cons_succ, Act.put, hd]
      go_simp
      exact ⟨_, rfl, Below.refl _ _, rfl⟩
    · intro us w1 hb hd
      simp only [List.mem_cons, List.not_mem_nil, or_false, forall_eq_or_imp, forall_eq, List.getD_cons_zero, List.getD_cons_succ, kIs] at hd
      refine ⟨fun _ => ?_, fun h => (h (by simp [hd])).elim⟩
      simp only [putD, List.getD_cons_zero, List.getD_cons_succ, Act.put, hd]
      have d0 := (hb.cell (World.block_lt_of_cell? _ _ y2)).trans y2
      go_simp
      exact ⟨_, rfl, Below.refl _ _, rfl⟩
    · intro us w1 _ hd
      simp only [List.mem_cons, List.not_mem_nil, or_false, forall_eq_or_imp, forall_eq, List.getD_cons_zero, List.getD_cons_succ, kIs] at hd
      refine ⟨fun _ => ?_, fun h => (h (by simp [hd])).elim⟩
      simp only [putD, List.getD_cons_zero, List.getD_cons_succ, Act.put, hd]
      go_simp
      exact ⟨_, rfl, Below.refl _ _, rfl⟩
    · intro us w1 hb hd
      simp only [List.mem_cons, List.not_mem_nil, or_false, forall_eq_or_imp, forall_eq, List.getD_cons_zero, List.getD_cons_succ, kIs] at hd
      refine ⟨fun _ => ?_, fun h => (h (by simp [hd])).elim⟩
      simp only [putD, List.getD_cons_zero, List.getD_cons_succ, Act.put, hd]
      go_simp
      exact ⟨_, rfl, Below.refl _ _, by first | rfl | (simp only [kIs]; done) | (simp only [kIs]; rw [hw2])⟩
    · intro us w1 hb hd
      simp only [List.mem_cons, List.not_mem_nil, or_false, forall_eq_or_imp, forall_eq, List.getD_cons_zero, List.getD_cons_succ, kIs] at hd
      refine ⟨fun _ => ?_, fun h => (h (by simp [hd])).elim⟩
      simp only [putD, List.getD_cons_zero, List.getD_cons_succ, Act.put, hd]
      go_simp
      exact ⟨_, rfl, Below.refl _ _, rfl⟩
    · intro us w1 _ hd
      simp only [List.mem_cons, List.not_mem_nil, or_false, forall_eq, List.getD_cons_zero, List.getD_cons_succ, kIs] at hd
      refine ⟨fun _ => ?_, fun h => (h (by simp [hd])).elim⟩
      simp only [putD, List.getD_cons_zero, List.getD_cons_succ, Act.put, hd]
      go_simp
      exact ⟨_, rfl, Below.refl _ _, rfl⟩
    · intro us w1 hb hd
      simp only [List.mem_cons, List.not_mem_nil, or_false, forall_eq_or_imp, forall_eq, List.getD_cons_zero, List.getD_cons_succ, kIs] at hd
      refine ⟨fun _ => ?_, fun h => (h (by simp [hd])).elim⟩
      simp only [putD, List.getD_cons_zero, List.getD_cons_succ, Act.put, hd]
      have d0 := (hb.cell (World.block_lt_of_cell? _ _ y2)).trans y2
      go_simp
      exact ⟨_, rfl, Below.refl _ _, rfl⟩
    · intro us w1 _ hd
      simp only [List.mem_cons, List.not_mem_nil, or_false, forall_eq_or_imp, forall_eq, List.getD_cons_zero, List.getD_cons_succ, kIs] at hd
      refine ⟨fun _ => ?_, fun h => (h (by simp [hd])).elim⟩
      simp only [putD, List.getD_cons_zero, List.getD_cons_succ, Act.put, hd]
      go_simp
      exact ⟨_, rfl, Below.refl _ _, rfl⟩
    · intro us w1 hb hd
      simp only [List.mem_cons, List.not_mem_nil, or_false, forall_eq_or_imp, forall_eq, List.getD_cons_zero, List.getD_cons_succ, kIs] at hd
      refine ⟨fun _ => ?_, fun h => (h (by simp [hd])).elim⟩
      simp only [putD, List.getD_cons_zero, List.getD_cons_succ, Act.put, hd]
      go_simp
      exact ⟨_, rfl, Below.refl _ _, by first | rfl | simp [kIs]⟩
    · intro us w1 hb hd
      simp only [List.mem_cons, List.not_mem_nil, or_false, forall_eq_or_imp, forall_eq, List.getD_cons_zero, List.getD_cons_succ, kIs] at hd
      refine ⟨fun _ => ?_, fun h => (h (by simp [hd])).elim⟩
      simp only [putD, List.getD_cons_zero, List.getD_cons_succ, Act.put, hd]
      go_simp
      exact ⟨_, rfl, Below.refl _ _, by first | rfl | simp [kIs]⟩
    · intro us w1 hb hd
      simp only [List.mem_cons, List.not_mem_nil, or_false, forall_eq_or_imp, forall_eq, List.getD_cons_zero, List.getD_cons_succ, kIs] at hd
      refine ⟨fun _ => ?_, fun h => (h (by simp [hd])).elim⟩
      simp only [putD, List.getD_cons_zero, List.getD_cons_succ, Act.put, hd]
      have d0 := (hb.cell (World.block_lt_of_cell? _ _ m2)).trans m2
      go_simp
      exact ⟨_, rfl, Below.refl _ _, rfl⟩
    · intro us w1 hb hd
      simp only [List.mem_cons, List.not_mem_nil, or_false, forall_eq_or_imp, forall_eq, List.getD_cons_zero, List.getD_cons_succ, kIs] at hd
      refine ⟨fun _ => ?_, fun h => (h (by simp [hd])).elim⟩
      simp only [putD, List.getD_cons_zero, List.getD_cons_succ, Act.put, hd]
      go_simp
      exact ⟨_, rfl, Below.refl _ _, by first | rfl | simp [kIs]⟩
    · intro us w1 _ hd
      simp only [List.mem_cons, List.not_mem_nil, or_false, forall_eq_or_imp, forall_eq, List.getD_cons_zero, List.getD_cons_succ, kIs] at hd
      simp only [putD, List.getD_cons_zero, List.getD_cons_succ, Act.put, hd]
      go_simp
      exact ⟨_, rfl, Below.refl _ _, rfl⟩
    · intro us w1 _ hd
      simp only [List.mem_cons, List.not_mem_nil, or_false, forall_eq, List.getD_cons_zero, List.getD_cons_succ, kIs] at hd
      simp only [putD, List.getD_cons_zero, List.getD_cons_succ, Act.put, hd]
      go_simp
      exact ⟨_, rfl, Below.refl _ _, rfl⟩
  intro us w4 hb hp
  have h53 := hp 53 (by decide)
  simp only [List.getD_cons_zero, List.getD_cons_succ, kIs] at h53
  have hbz := below_step HBL.out hb
  rw [show List.range 54 = [0, 1, 2, 3, 4, 5, 6, 7, 8, 9, 10, 11, 12, 13, 14, 15, 16, 17, 18, 19, 20, 21, 22, 23, 24, 25, 26, 27, 28, 29, 30, 31, 32, 33, 34, 35, 36, 37, 38, 39, 40, 41, 42, 43, 44, 45, 46, 47, 48, 49, 50, 51, 52, 53] from rfl]
  simp only [putD, List.getD_cons_zero, List.getD_cons_succ, Act.put, List.setIfInBounds_toArray, List.set_cons_zero, List.set_cons_succ, h53]
  clear hp x0 x1 x2 y0 y1 y2 m1 m2
  go_wp2_with fail
  go_ret
  exact ⟨rfl, hbz⟩
end Go.Proofs.Ytcmoajbdepohmaa
