/- A region that draws its order: one operation that only reckons (an address) may come at any time; the others ahead of a tail only make new memory, the tail may write. No program is named here. -/
import Derived.Test.YtcmoajbdepohmaaRely
namespace Go.Oct
open Go.RowKit
/-- the operations of the tail come up one behind the other, and then none -/
def seqT (md : Region.Mode) (ops : Array Oper) : List Nat → Array Bool → Bool
  | [], listed => (Region.ready md ops listed).isEmpty
  | t :: r, listed => decide (Region.ready md ops listed = [t]) && (ops[t]?).isSome && seqT md ops r (listed.setIfInBounds t true)
theorem wpAny_of_seqT {P : Program} {md : Region.Mode} {ops : Array Oper} {Q' : Exit → Act → World → Prop} : ∀ (ts : List Nat) (listed : Array Bool) (a : Act) (w : World),
    seqT md ops ts listed = true → wpList P ops Q' (ts.filterMap (ops[·]?)) a w → wpAny P md ops Q' ts.length listed a w
  | [], _, _, _, hB, h => ⟨by simpa [seqT] using hB, h⟩
  | t :: r, listed, a, w, hB, h => by
    simp only [seqT, Bool.and_eq_true, decide_eq_true_eq] at hB
    obtain ⟨⟨h0, h1⟩, h2⟩ := hB
    obtain ⟨o, ho⟩ := Option.isSome_iff_exists.1 h1
    refine ⟨fun h3 => (by rw [h0] at h3; cases h3), fun i hi => ?_⟩
    rw [h0] at hi
    have hik : i = t := by simpa using hi
    subst hik
    rw [List.filterMap_cons_some ho] at h
    have hw : wpOp P ops Q' i (wpList P ops Q' (r.filterMap (ops[·]?))) a w := by unfold wpOp; simp only [ho]; exact h
    exact wpOp_mono (fun a' w' h' => wpAny_of_seqT r _ a' w' h2 h') hw
/-- the first n have come up, and number f -/
def headUpF (n m f : Nat) : Array Bool := (headUp n m).setIfInBounds f true
/-- the tail's operations, but for f, wait for number n -/
def chainF (ops : Array Oper) (n f : Nat) : Bool := (List.range ops.size).all fun t => decide (t ≤ n) || t == f || Region.waitsFor .any ops t n
section
variable {P : Program} {Q : Exit → Act → World → Prop} {a0 : Act} {w0 : World} {ops : Array Oper} {Posts : List Keeps}
theorem tail_waits_f {n f : Nat} {listed : Array Bool} (hs : Region.sinkB .any ops n = true) (hc : chainF ops n f = true) (hn : n < ops.size) (hsz : listed.size = ops.size)
    (hcl : ∀ j oj, ops[j]? = some oj → listed.getD j false = true → ∀ e ∈ oj.after, Region.binds .any e = true → listed.getD e.on false = true)
    (htl : ∀ t, n ≤ t → t ≠ f → t < ops.size → listed.getD t true = false) (hnf : n ≠ f) (hff : listed.getD f false = true) :
    ∀ (d i : Nat), n - i = d → i < n → listed.getD i true = false → ∀ t, n ≤ t → t ∉ Region.ready .any ops listed := by
  intro d
  induction d using Nat.strongRecOn with
  | _ d ih =>
    intro i hd hi hun t ht hr
    obtain ⟨hunt, ot, hot, hall⟩ := mem_ready.1 hr
    have htlt : t < ops.size := (Array.getElem?_eq_some_iff.1 hot).1
    by_cases htn : t = n
    · subst htn
      have h1 := List.all_eq_true.1 hs i (List.mem_range.2 hi)
      obtain ⟨j, hj, hj2⟩ := List.any_eq_true.1 h1
      simp only [Bool.and_eq_true, decide_eq_true_eq] at hj2
      obtain ⟨oj, hoj, e, he, hb, hon⟩ := Region.waitsFor_spec hj2.2
      have hjle : j ≤ t := by have := List.mem_range.1 hj; omega
      by_cases hjt : j = t
      · subst hjt
        have : oj = ot := Option.some.inj (hoj.symm.trans hot)
        subst this
        have h2 := hall e he hb
        rw [hon, getD_both hun] at h2
        cases h2
      · cases hl : listed.getD j false with
        | true =>
          have h2 := hcl j oj hoj hl e he hb
          rw [hon, getD_both hun] at h2
          cases h2
        | false =>
          have hjs : j < listed.size := by rw [hsz]; omega
          exact ih (t - j) (by omega) j rfl (by omega) (getD_in hjs hl) t (Nat.le_refl _) hr
    · by_cases htf : t = f
      · subst htf
        have : t < listed.size := by rw [hsz]; exact htlt
        simp [this] at hunt hff
        rw [hff] at hunt; cases hunt
      · have h1 := List.all_eq_true.1 hc t (List.mem_range.2 htlt)
        simp only [Bool.or_eq_true, decide_eq_true_eq, beq_iff_eq] at h1
        rcases h1 with (h1 | h1) | h1
        · omega
        · exact htf h1
        · obtain ⟨o', ho', e, he, hb, hon⟩ := Region.waitsFor_spec h1
          have : o' = ot := Option.some.inj (ho'.symm.trans hot)
          subst this
          have h2 := hall e he hb
          rw [hon, getD_both (htl n (Nat.le_refl _) hnf hn)] at h2
          cases h2
theorem any_of_float {n m f : Nat} (ts : List Nat) (hn : a0.tmps.size = m) (hB : relyB ops m = true) (hs : Region.sinkB .any ops n = true) (hc : chainF ops n f = true) (hlt : n < ops.size) (hnf : n < f)
    (hq : seqT .any ops ts (headUpF n ops.size f) = true) (hcnt : (headUpF n ops.size f).toList.count false = ts.length)
    (hob : ∀ i o, i < n → ops[i]? = some o → oblig P Q a0 w0 ops Posts i o)
    (hend : ∀ us w, Below w0.heap.size w0 w → (∀ j, j < n ∨ j = f → post Posts j (us j) w) → wpList P ops Q (ts.filterMap (ops[·]?)) (putAll ops us (List.range n ++ [f]) a0) w) :
    ∀ (fuel : Nat) (listed : Array Bool) (us : Nat → Value) (a : Act) (w : World), Inv ops a0 w0 Posts listed us a w → (∀ t, n ≤ t → t ≠ f → t < ops.size → listed.getD t true = false) → listed.getD f false = true → listed.toList.count false = fuel → wpAny P .any ops Q fuel listed a w := by
  have hwr : ∀ j o d, ops[j]? = some o → o.dst = some d → writer ops d = some j := fun j o d ho hd => ((relyB_spec hB ho).2.1 d hd).2
  intro fuel
  induction fuel with
  | zero =>
    intro listed us a w inv htl hff hcnt
    have h1 := htl n (Nat.le_refl _) (by omega) hlt
    have hl : n < listed.size := by rw [inv.size]; exact hlt
    have : false ∈ listed.toList := by
      rw [Array.getD_eq_getD_getElem?] at h1
      simp [hl] at h1
      rw [← h1]; exact Array.mem_toList_iff.2 (Array.getElem_mem hl)
    have := List.count_pos_iff.2 this
    omega
  | succ fuel ih =>
    intro listed us a w inv htl hff hcnt2
    by_cases hall : ∀ i, i < n → listed.getD i false = true
    · have he : listed = headUpF n ops.size f := by
        apply Array.ext_getElem?
        intro i
        have hfs : f < listed.size := by
          rcases Nat.lt_or_ge f listed.size with h | h
          · exact h
          · simp [Array.getElem?_eq_none h] at hff
        by_cases hif : i = f
        · subst hif
          rw [Array.getD_eq_getD_getElem?] at hff
          simp [hfs] at hff
          have hs2 : i < n + (ops.size - n) := by rw [inv.size] at hfs; omega
          have hs3 : i < (headUp n ops.size).size := by simp [headUp]; omega
          rw [headUpF, Array.getElem?_setIfInBounds_self_of_lt hs3]
          simp [hfs, hff]
        · rw [headUpF, Array.getElem?_setIfInBounds_ne (fun e => hif e.symm)]
          by_cases hi : i < n
          · have h1 := hall i hi
            have hl : i < listed.size := by rw [inv.size]; omega
            rw [Array.getD_eq_getD_getElem?] at h1
            simp [hl] at h1
            simp [headUp, hl, h1, List.getElem?_append, hi]
          · by_cases hi2 : i < ops.size
            · have h1 := htl i (by omega) hif hi2
              have hl : i < listed.size := by rw [inv.size]; omega
              rw [Array.getD_eq_getD_getElem?] at h1
              simp [hl] at h1
              simp [headUp, hl, h1, List.getElem?_append, hi, show i - n < ops.size - n by omega]
            · have hl : listed.size ≤ i := by rw [inv.size]; omega
              rw [Array.getElem?_eq_none hl]
              simp [headUp, List.getElem?_append, hi, show ops.size - n ≤ i - n by omega]
      have hcnt3 : fuel + 1 = ts.length := by rw [← hcnt2, he, hcnt]
      have hae : a = putAll ops us (List.range n ++ [f]) a0 := by
        have ht : a.tmps = (putAll ops us (List.range n ++ [f]) a0).tmps := by
          apply Array.ext_getElem?
          intro t
          by_cases hlt2 : t < a0.tmps.size
          · rw [inv.slots t hlt2, putAll_slot us hwr _ _ _ hlt2]
            unfold slot
            cases hw : writer ops t with
            | none => rfl
            | some j =>
              simp only []
              by_cases hj : j < n
              · simp [hall j hj, hj]
              · by_cases hjf : j = f
                · subst hjf; simp [hff]
                · obtain ⟨o, ho, _⟩ := writer_spec hw
                  have hj2 : j < ops.size := (Array.getElem?_eq_some_iff.1 ho).1
                  have h1 := getD_both (htl j (by omega) hjf hj2)
                  have h2 : j ∉ List.range n ++ [f] := by simp [hj, hjf]
                  rw [if_neg h2, if_neg (by rw [h1]; simp)]
          · rw [Array.getElem?_eq_none (by rw [inv.len]; exact Nat.le_of_not_lt hlt2), Array.getElem?_eq_none (by rw [putAll_len]; exact Nat.le_of_not_lt hlt2)]
        have hd : a.defers = (putAll ops us (List.range n ++ [f]) a0).defers := by rw [inv.defers, putAll_defers]
        cases a; simp only at ht hd; rw [ht, hd]
      rw [hcnt3, hae, he]
      exact wpAny_of_seqT ts _ _ _ hq (hend us w inv.below fun j hj => inv.posts j (by rcases hj with hj | rfl; exact hall j hj; exact hff))
    · have hex : ∃ i, i < n ∧ listed.getD i false = false := by
        apply Classical.byContradiction
        intro h
        apply hall
        intro i hi
        cases hl : listed.getD i false with
        | true => rfl
        | false => exact absurd ⟨i, hi, hl⟩ h
      obtain ⟨i0, hi0, hl0⟩ := hex
      have hl1 : listed.getD i0 true = false := getD_in (by rw [inv.size]; omega) hl0
      have hno := tail_waits_f hs hc hlt inv.size (fun j o ho hl e he hb => inv.closed j o ho hl e.on (by
        simp only [waits, Array.any_eq_true', Bool.and_eq_true, beq_iff_eq]
        exact ⟨e, he, hb, rfl⟩)) htl (by omega) hff _ i0 rfl hi0 hl1
      have hin : ∀ i ∈ Region.ready .any ops listed, i < n := fun i hi => by
        rcases Nat.lt_or_ge i n with h | h
        · exact h
        · exact absurd hi (hno i h)
      refine ⟨fun hr => ?_, fun i hi => ?_⟩
      · have := ready_some hB inv.size hr i0 (by omega)
        rw [hl0] at this; cases this
      · have hi2 := hin i hi
        obtain ⟨hun, o, ho, _⟩ := mem_ready.1 hi
        have hil : i < listed.size := by rw [inv.size]; exact (Array.getElem?_eq_some_iff.1 ho).1
        have hf : listed[i] = false := by simpa [hil] using hun
        refine op_step hn hB inv (hob i · hi2) hi fun us' a' w' inv' => ih _ us' a' w' inv' (fun t ht htf ht2 => ?_) ?_ ?_
        · rw [getD_set_ne true (by omega)]; exact htl t ht htf ht2
        · rw [getD_set_ne false (by omega)]; exact hff
        · have : (listed.setIfInBounds i true).toList.count false + 1 = listed.toList.count false := by
            rw [Array.toList_setIfInBounds, List.count_set (by simpa using hil)]
            have h1 : listed.toList[i]'(by simpa using hil) = false := by simpa using hf
            have h2 : 0 < listed.toList.count false := List.count_pos_iff.2 (h1 ▸ List.getElem_mem _)
            have h4 : (if listed.toList[i]'(by simpa using hil) == false then 1 else 0) = 1 := by rw [h1]; rfl
            rw [h4]
            have h5 : (if true == false then 1 else 0) = 0 := rfl
            rw [h5]
            omega
          omega
/-- As region_each_tail; number f (behind n, an address that is reckoned) may come at any time; the tail: ts. -/
theorem region_float {id : Nat} {l : List Oper} (n f : Nat) (ts : List Nat) (ds : List (Option Tmp)) (nss : List (List Nat)) (ks : List Keeps) (of : Oper) (v : Value) (hm : P.follows .mixedOrders = true)
    (hB : (relyB l.toArray a0.tmps.size && guardsB l.toArray nss (l.take n)) = true)
    (hs : (Region.sinkB .any l.toArray n && chainF l.toArray n f && decide (n < l.length) && decide (n < f) && seqT .any l.toArray ts (headUpF n l.length f) && decide ((headUpF n l.length f).toList.count false = ts.length) &&
      Region.noSelect l.toArray && Region.free .any l.toArray (Array.replicate l.length false) f && (Region.ready .any l.toArray (Array.replicate l.length false)).contains f) = true)
    (hd : ds = l.map (·.dst)) (hN : nss = (l.take n).map (needs l.toArray)) (hof : l.toArray[f]? = some of)
    (hQ : ∀ c a w, Q (.panic c) (a.put of.dst v) w → Q (.panic c) a w) (hg : of.guard = none) (hy : ∀ w, (execOp a0.eval of).run P w = .ok (.value v) w) (hk : ks.length = n)
    (hob : obligsD P Q a0 w0 ds ks nss ks (l.take n))
    (hend : ∀ us w, Below w0.heap.size w0 w → us f = v → (∀ j, j < n → (ks.getD j kAny).p (us j) w) → wpList P l.toArray Q (ts.filterMap (l.toArray[·]?)) (putD ds us (List.range n ++ [f]) a0) w) :
    (Code.region id l.toArray true).wp P Q a0 w0 := by
  simp only [Bool.and_eq_true, decide_eq_true_eq] at hs hB
  obtain ⟨⟨⟨⟨⟨⟨⟨⟨hs1, hs2⟩, hs3⟩, hs4⟩, hs5⟩, hs6⟩, hs7⟩, hs8⟩, hs9⟩ := hs
  obtain ⟨Posts, hPo⟩ : ∃ Posts, Posts = ks ++ (List.replicate (f - n) kAny ++ [kIs v]) := ⟨_, rfl⟩
  have hp1 : ∀ j, j < n → post Posts j = post ks j := by
    intro j hj
    unfold post
    rw [hPo, List.getD_eq_getElem?_getD, List.getD_eq_getElem?_getD, List.getElem?_append_left (by omega)]
  have hp2 : post Posts f = (kIs v).p := by
    unfold post
    rw [hPo, List.getD_eq_getElem?_getD, List.getElem?_append_right (by omega), List.getElem?_append_right (by simp; omega)]
    simp [hk]
  have hfl : f < l.length := by have := (Array.getElem?_eq_some_iff.1 hof).1; simpa using this
  obtain ⟨m, hm'⟩ : ∃ m, l.toArray.size = m + 1 := ⟨l.length - 1, by simp; omega⟩
  have hrdy : f ∈ Region.ready .any l.toArray (Array.replicate l.length false) := by simpa using hs9
  have hobs : ∀ i o, i < n → l.toArray[i]? = some o → oblig P Q a0 w0 l.toArray Posts i o := by
    intro i o hi ho
    have h1 := obligs_of_N ks l.toArray nss ks [] (l.take n) rfl hN (obligsN_of_D hd hB.1 nss ks _ hB.2 hob)
    have h2 := obligs_at (l.take n) 0 h1 i o (by rw [List.getElem?_take, if_pos hi]; simpa using ho)
    rw [Nat.zero_add] at h2
    intro us w hb hneed
    rw [hp1 i hi]
    refine h2 us w hb (fun j hj => ?_)
    have hji : j < i := by
      have hw := (List.mem_filter.1 hj).2
      simp only [waits, Array.any_eq_true', Bool.and_eq_true, beq_iff_eq] at hw
      obtain ⟨e, he, hb2, rfl⟩ := hw
      exact (relyB_spec hB.1 ho).1 e he hb2
    have := hneed j hj
    rwa [hp1 j (by omega)] at this
  have inv0 : Inv l.toArray a0 w0 Posts (Array.replicate l.length false) (fun _ => undef) a0 { w0 with drawn := w0.drawn + 1 } := by
    refine ⟨by simp, rfl, fun t _ => ?_, rfl, ⟨rfl, rfl, rfl, Nat.le_refl _, fun _ _ => rfl⟩, fun j hj => ?_, fun j o _ hj => ?_⟩
    · unfold slot
      cases writer l.toArray t with
      | none => rfl
      | some j => simp only []; rw [none_listed]; rfl
    · rw [none_listed] at hj; cases hj
    · rw [none_listed] at hj; cases hj
  have inv1 := inv_step hB.1 inv0 hof hrdy v (Below.refl _ _) (by rw [hp2]; rfl)
  refine wp_region_any hm ?_
  rw [hm']
  have hrep : Array.replicate (m + 1) false = Array.replicate l.length false := by rw [← hm']; simp
  rw [hrep]
  refine wpAny_take hof hs7 hs8 hs9 hQ (.inl ⟨by simp [Region.wanted, hg], hy⟩) ?_
  refine any_of_float ts rfl hB.1 hs1 hs2 (by simpa using hs3) hs4 (by simpa using hs5) (by simpa using hs6) hobs (fun us w hb hp => ?_) m _ _ _ _ inv1 (fun t ht htf ht2 => ?_) ?_ ?_
  · rw [putD_eq hd]
    refine hend us w hb ?_ (fun j hj => ?_)
    · have := hp f (.inr rfl); rw [hp2] at this; exact this
    · have := hp j (.inl hj); rw [hp1 j hj] at this; exact this
  · have ht3 : t < l.length := by simpa using ht2
    rw [getD_set_ne true (fun e => htf e.symm)]
    simp [ht3]
  · simp [hfl]
  · have : (Array.replicate l.length false).toList.count false = m + 1 := by rw [← hm']; simp
    rw [Array.toList_setIfInBounds, List.count_set (by simpa using hfl)]
    simp
    have h : l.length = m + 1 := by simpa using hm'
    omega
end
end Go.Oct
