/- The walks of page.number and page.Pack. -/
import Derived.Test.YtdekfbmjhmfmaaaPgPlain
import Derived.Test.YtdekfbmjhmfmaaaLeB
import Derived.Test.YtdekfbmjhmfmaaaCrcC
import Derived.Test.YtdekfbmjhmfmaaaFull
import Derived.Test.YtdekfbmjhmfmaaaRely
import Derived.Test.YtdekfbmjhmfmaaaCut
import Derived.Test.YtdekfbmjhmfmaaaRdrA
import Derived.Lib.SmallJoins
import Derived.Laws.CopyOwn
namespace Go.Proofs.Ytdekfbmjhmfmaaa
open Go.RowKit Go.Oct

theorem infoU8size : (Try.prog.info? 5).map (·.size) = some 1 := by kernel_rfl
theorem splice_mid {α : Type} {A B C X : List α} {n : Nat} (h : A.length = n) (hx : X.length = B.length) : splice (A ++ B ++ C) n X = A ++ X ++ C := by
  subst h
  unfold splice
  rw [List.append_assoc A B C, List.take_left, ← List.drop_drop, List.drop_left, hx, List.drop_left, List.append_assoc]
theorem splice_bs (L X : List UInt8) (n : Nat) : splice (bs L) n (bs X) = bs (splice L n X) := by
  unfold splice
  simp [bs, List.map_take, List.map_drop]
/-- what page.Pack writes, step by step -/
theorem pgSteps {no kind : Int} {l : List UInt8} (h : pgMay no kind) (h2 : l.length ≤ 244) :
    splice (UInt8.ofNat kind.toNat :: List.replicate 255 0) 2 (numBytes (l.length : Nat) 2) = [UInt8.ofNat kind.toNat, 0] ++ numBytes (l.length : Nat) 2 ++ List.replicate 252 0 ∧
    splice ([UInt8.ofNat kind.toNat, 0] ++ numBytes (l.length : Nat) 2 ++ List.replicate 252 0) 4 (numBytes no 4) = pgFront no kind l ++ List.replicate 248 0 ∧
    splice (pgFront no kind l ++ List.replicate 248 0) 12 l = pgFront no kind l ++ List.replicate 4 0 ++ pgBack l ∧
    splice (pgFront no kind l ++ List.replicate 4 0 ++ pgBack l) 8 (pgSum no kind l) = pgPack no kind l ∧
    pgSummed (pgFront no kind l ++ List.replicate 4 0 ++ pgBack l) = pgFront no kind l ++ pgBack l ∧ (pgFront no kind l ++ List.replicate 4 0 ++ pgBack l).length = 256 ∧ (pgFront no kind l ++ List.replicate 248 0).length = 256 ∧
    ([UInt8.ofNat kind.toNat, 0] ++ numBytes (l.length : Nat) 2 ++ List.replicate 252 0).length = 256 := by
  obtain ⟨l1, l2, a, b, c⟩ := pg_lens h h2
  refine ⟨?_, ?_, ?_, ?_, ?_, ?_, ?_, ?_⟩
  · have := splice_mid (A := [UInt8.ofNat kind.toNat, 0]) (B := List.replicate 2 0) (C := List.replicate 252 0) (X := numBytes (l.length : Nat) 2) (n := 2) rfl (by rw [l1]; rfl)
    rw [← this]; rfl
  · have := splice_mid (A := [UInt8.ofNat kind.toNat, 0] ++ numBytes (l.length : Nat) 2) (B := List.replicate 4 0) (C := List.replicate 248 0) (X := numBytes no 4) (n := 4) (by simp [l1]) (by rw [l2]; rfl)
    rw [pgFront, ← this, List.append_assoc _ (List.replicate 4 0), List.replicate_append_replicate]
  · have := splice_mid (A := pgFront no kind l ++ List.replicate 4 0) (B := List.replicate l.length 0) (C := List.replicate (244 - l.length) 0) (X := l) (n := 12) (by simp [a]) (by simp)
    rw [pgBack, ← List.append_assoc, ← this, List.append_assoc _ (List.replicate l.length 0), List.replicate_append_replicate, List.append_assoc, List.replicate_append_replicate]
    congr 3
    omega
  · have := splice_mid (A := pgFront no kind l) (B := List.replicate 4 0) (C := pgBack l) (X := pgSum no kind l) (n := 8) a (by rw [c]; rfl)
    rw [pgPack_eq h h2, ← this]
  · unfold pgSummed
    have e8 : (pgFront no kind l ++ List.replicate 4 0 ++ pgBack l).take 8 = pgFront no kind l := by rw [List.append_assoc, ← a, List.take_left]
    have e12 : (pgFront no kind l ++ List.replicate 4 0 ++ pgBack l).drop 12 = pgBack l := by
      have : (pgFront no kind l ++ List.replicate 4 0).length = 12 := by rw [List.length_append, a]; rfl
      rw [← this, List.drop_left]
    rw [e8, e12]
  · simp only [List.length_append, List.length_replicate, a, b]
  · simp only [List.length_append, List.length_replicate, a]
  · simp only [List.length_append, List.length_replicate, List.length_cons, List.length_nil, l1]
set_option maxHeartbeats 400000 in
theorem number_any (g off k cap : Nat) (ni ki : Int) (cur X : List Value) (t : TypeId) (w : World) (hg : w.heap[g]? = some (.cells cur.toArray t (0, 0))) (hX : bs (numBytes ni ki) = X) (hXl : X.length = k) (hki : ki = (k : Int))
    (hn0 : 0 ≤ ni) (hn1 : ni ≤ 9223372036854775807) (k1 : 1 ≤ k) (k8 : k ≤ 8) (hfit : off + k ≤ cur.length) :
    Calls Try.prog 49 #[.slice (some ⟨g, off, none⟩) k cap, .int .i64 ni, .int .i64 ki] w
      fun e w' => e = .returned (.tuple #[]) ∧ w'.heap[g]? = some (.cells (splice cur off X).toArray t (0, 0)) ∧ Below g w w' := by
  have hgl := (Array.getElem?_eq_some_iff.1 hg).1
  have HX := Lib.hid hX
  have HXL := Lib.hid hXl
  have HG := Lib.hid hg
  have hlen : (numBytes ni ki).length = k := by rw [← hXl, ← hX, bs_length]
  have HL := Lib.hid hlen
  have h1s : ∀ v ∈ X, v.oneCell' = true := by rw [← hX]; exact bs_one _
  have H1 := Lib.hid h1s
  subst hki
  clear hX hXl hg hlen h1s
  go_enter Try.func49, Try.ntmps49
  go_wp2_with fail
  refine (numBytes_any ni (k : Int) _ (by omega) (by omega) (by omega) (by omega)).mono ?_
  rintro e w1 ⟨v, rfl, hown, hx⟩
  rw [HL.out, HX.out] at hown
  obtain ⟨gv, cv, hf⟩ := Joins.ownsRow_form hown (by omega)
  subst hf
  have HG1 := Lib.hid (box_below HG.out hx)
  have HO := Lib.hid hown
  have hxg := hx.mono (show g ≤ w.heap.size by omega)
  clear hown hx
  go_wp2_with (refine wpList_copy_splice (o := ⟨some 16, _, _, _, _, _⟩) rfl (.tmp 14) (.tmp 15) 24 24 rfl 5 Try.underlying24 infoU8size (some ⟨g, off, none⟩) (some ⟨gv, 0, none⟩) k cap k cv rfl rfl g off cur t HG1.out X ?c1 ?c2 ?c3 H1.out g w hxg (Nat.le_refl _) ?_)
  case c1 => rw [HXL.out]; exact (Nat.min_self k).symm
  case c2 =>
    intro _ j v hj
    have h := HO.out.cells (g := gv) rfl j v hj
    have e : (⟨gv, 0, none⟩ : Addr).add j = ⟨gv, j, none⟩ := by unfold Addr.add; split <;> simp_all
    rwa [e] at h
  case c3 => rw [HXL.out]; exact hfit
  intro w2 hg2 hb2
  go_wp2_with fail
  go_end0
  exact ⟨rfl, hg2.out, hb2⟩
theorem infoPage : (Try.prog.info? 80).map (fun i => i.zero) = some (some (.agg (bs (List.replicate 256 0)).toArray)) := by kernel_rfl
theorem bs256 : bs (List.replicate 256 0) = Value.int .u8 0 :: bs (List.replicate 255 0) := by
  show bs (List.replicate (255 + 1) 0) = _
  rw [List.replicate_succ]
  rfl
theorem zero_page : ∃ Z : List Value, Z = bs (List.replicate 255 0) ∧ ∀ w : World, (zeroValue 80).run Try.prog w = .ok (.agg (Value.int .u8 0 :: Z).toArray) w := by
  refine ⟨_, rfl, fun w => ?_⟩
  have h := infoPage
  cases hi : Try.prog.info? 80 with
  | none => rw [hi] at h; cases h
  | some i =>
    rw [hi] at h
    have hz : i.zero = some (.agg (bs (List.replicate 256 0)).toArray) := Option.some.inj h
    rw [bs256] at hz
    generalize bs (List.replicate 255 0) = Z at hz ⊢
    simp [zeroValue, typeInfo, hi, hz]
theorem heap_set {w : World} {g : Nat} {cs : Array Value} {t : TypeId} {f : Nat × Nat} (h : w.heap[g]? = some (.cells cs t f)) (i : Nat) (v : Value) : (w.setCell ⟨g, i, none⟩ v).heap[g]? = some (.cells (cs.setIfInBounds i v) t f) := by
  simp [World.setCell, Array.getElem?_modify, h]
/-- it points to a new row of two -/
def kPair (a b : Value) : Keeps := ⟨fun v w => ∃ g t f, v = .slice (some ⟨g, 0, none⟩) 2 2 ∧ w.heap[g]? = some (.cells #[a, b] t f), fun _ _ _ ⟨g, t, f, h1, h2⟩ k => ⟨g, t, f, h1, box_below h2 k⟩⟩
/-- a page that stands in new memory, or nothing -/
def PgV (base : Nat) (w : World) (v : Value) (P : List UInt8) : Prop :=
  (v = .slice none 0 0 ∧ P = []) ∨ ∃ g, v = .slice (some ⟨g, 0, none⟩) 256 256 ∧ base ≤ g ∧ P.length = 256 ∧ w.heap[g]? = some (.cells (bs P).toArray 80 (0, 0))
theorem PgV.bytes {base : Nat} {w : World} {v : Value} {P : List UInt8} (h : PgV base w v P) : Bytes w v P := by
  rcases h with ⟨rfl, rfl⟩ | ⟨g, rfl, _, hl, hg⟩
  · exact Bytes.nil w
  · have := Bytes.block (n := 256) (cap := 256) (l := P) hg hl.symm (Nat.le_refl _) (by decide) (by
      rw [List.take_of_length_le]; simp [bs_length, hl])
    exact this
/-- what page.Pack answers -/
def PgPost (no kind : Int) (l : List UInt8) (w : World) (e : Ending) (w' : World) : Prop :=
  ∃ v, e = .returned (.tuple #[v, .int .i64 (pgCode no kind l : Nat)]) ∧ PgV w.heap.size w' v (pgPack no kind l) ∧ Below w.heap.size w w'
theorem pgPost_bad {no kind : Int} {l : List UInt8} {c : Nat} (h : pgCode no kind l = c) (hc : c ≠ 0) (w : World) (e : Ending) (he : e = .returned (.tuple #[.slice none 0 0, .int .i64 (c : Int)])) : PgPost no kind l w e w := by
  refine ⟨.slice none 0 0, by rw [he, h], .inl ⟨rfl, ?_⟩, Below.refl _ _⟩
  unfold pgPack
  rw [if_neg (by omega)]
theorem byte_kind {kind : Int} (h1 : 1 ≤ kind) (h9 : kind ≤ 9) : ((UInt8.ofNat kind.toNat).toNat : Int) = kind := by
  rw [UInt8.toNat_ofNat_of_lt' (by simp [UInt8.size]; omega)]
  omega
set_option maxRecDepth 100000 in
set_option maxHeartbeats 2000000 in
theorem pagePack_any (no kind : Int) (vb : Value) (l : List UInt8) (w : World) (hB : Bytes w vb l) (wn : -9223372036854775808 ≤ no) (wn1 : no ≤ 9223372036854775807) :
    Calls Try.prog 28 #[.int .i64 no, .int .i64 kind, vb] w (PgPost no kind l w) := by
  obtain ⟨ab, cb, rfl, hcap, hmax, hcells⟩ := hB.open
  unfold maxLen at hmax
  by_cases h1 : no < 0
  · have HC := Lib.hid (show pgCode no kind l = 1 by unfold pgCode; rw [if_neg (by unfold pgMay; omega)])
    go_enter Try.func28, Try.ntmps28
    go_wp2_with fail
    go_ret2
    exact pgPost_bad HC.out (by decide) _ _ rfl
  by_cases h2 : 1048576 ≤ no
  · have HC := Lib.hid (show pgCode no kind l = 1 by unfold pgCode; rw [if_neg (by unfold pgMay; omega)])
    go_enter Try.func28, Try.ntmps28
    go_wp2_with fail
    go_ret2
    exact pgPost_bad HC.out (by decide) _ _ rfl
  by_cases h3 : kind < 1
  · have HC := Lib.hid (show pgCode no kind l = 1 by unfold pgCode; rw [if_neg (by unfold pgMay; omega)])
    go_enter Try.func28, Try.ntmps28
    go_wp2_with fail
    go_ret2
    exact pgPost_bad HC.out (by decide) _ _ rfl
  by_cases h4 : 9 < kind
  · have HC := Lib.hid (show pgCode no kind l = 1 by unfold pgCode; rw [if_neg (by unfold pgMay; omega)])
    go_enter Try.func28, Try.ntmps28
    go_wp2_with fail
    go_ret2
    exact pgPost_bad HC.out (by decide) _ _ rfl
  have hM : pgMay no kind := by unfold pgMay; omega
  by_cases h5 : 244 < l.length
  · have HC := Lib.hid (show pgCode no kind l = 10 by unfold pgCode; rw [if_pos hM, if_pos h5])
    go_enter Try.func28, Try.ntmps28
    go_wp2_with fail
    go_ret2
    exact pgPost_bad HC.out (by decide) _ _ rfl
  have hL : l.length ≤ 244 := by omega
  obtain ⟨s1, s2, s3, s4, s5, s6, s7, s8⟩ := pgSteps hM hL
  obtain ⟨l1, l2, -, -, l5⟩ := pg_lens hM hL
  have HC := Lib.hid (pgCode_mk hM hL)
  have HPL := Lib.hid (pgPack_len hM hL)
  have hk := byte_kind (kind := kind) (by omega) (by omega)
  have hkm : kind % 256 = kind := by omega
  obtain ⟨K, hK⟩ : ∃ K, UInt8.ofNat kind.toNat = K := ⟨_, rfl⟩
  rw [hK] at s1 s2 s8 hk
  obtain ⟨X1, e1⟩ : ∃ x, numBytes (l.length : Nat) 2 = x := ⟨_, rfl⟩
  obtain ⟨X2, e2⟩ : ∃ x, numBytes no 4 = x := ⟨_, rfl⟩
  obtain ⟨X3, e3⟩ : ∃ x, pgSum no kind l = x := ⟨_, rfl⟩
  rw [e1] at s1 s2 s8 l1
  rw [e2] at s2 l2
  rw [e3] at s4 l5
  obtain ⟨L2, q2⟩ : ∃ x, [K, 0] ++ X1 ++ List.replicate 252 0 = x := ⟨_, rfl⟩
  obtain ⟨L3, q3⟩ : ∃ x, pgFront no kind l ++ List.replicate 248 0 = x := ⟨_, rfl⟩
  obtain ⟨L4, q4⟩ : ∃ x, pgFront no kind l ++ List.replicate 4 0 ++ pgBack l = x := ⟨_, rfl⟩
  obtain ⟨P, q5⟩ : ∃ x, pgPack no kind l = x := ⟨_, rfl⟩
  obtain ⟨Y, q6⟩ : ∃ x, pgFront no kind l ++ pgBack l = x := ⟨_, rfl⟩
  rw [q2] at s1 s2 s8
  rw [q3] at s2 s3 s7
  rw [q4] at s3 s4 s5 s6
  rw [q5] at s4 HPL
  rw [q6] at s5
  rw [pgSum, q6] at e3
  have S1 := Lib.hid s1
  have S2 := Lib.hid s2
  have S3 := Lib.hid s3
  have S4 := Lib.hid s4
  have S5 := Lib.hid s5
  have N2 := Lib.hid s8
  have N3 := Lib.hid s7
  have N4 := Lib.hid s6
  have E1 := Lib.hid (show bs (numBytes (l.length : Nat) 2) = bs X1 by rw [e1])
  have E2 := Lib.hid (show bs (numBytes no 4) = bs X2 by rw [e2])
  have hcr := OctCrc.crc_lt Y
  obtain ⟨cr, ec⟩ : ∃ x, OctCrc.crc Y = x := ⟨_, rfl⟩
  rw [ec] at hcr e3
  have E3 := Lib.hid (show bs (numBytes (cr : Nat) 4) = bs X3 by rw [e3])
  have HCR := Lib.hid ec
  have LX1 := Lib.hid (show (bs X1).length = 2 by rw [bs_length, l1])
  have LX2 := Lib.hid (show (bs X2).length = 4 by rw [bs_length, l2])
  have LX3 := Lib.hid (show (bs X3).length = 4 by rw [bs_length, l5])
  have HWR := Lib.hid (show IntKind.i64.wrap (cr : Int) = (cr : Int) from IntWalk.i64_in _ (by omega))
  have HK := Lib.hid hk
  have HQ5 := Lib.hid q5
  have HB := Lib.hid hB
  have HZ := Lib.hid (show bs (K :: List.replicate 255 0) = .int .u8 kind :: bs (List.replicate 255 0) by simp only [bs, List.map_cons, hk])
  clear s1 s2 s3 s4 s5 s6 s7 s8 l1 l2 l5 e1 e2 e3 ec q2 q3 q4 q5 q6 hK hk hM h5 hB hcells
  obtain ⟨Z, hZ, hzv⟩ := zero_page
  rw [← hZ] at HZ
  have LZ := Lib.hid (show Z.length = 255 by rw [hZ, bs_length, List.length_replicate])
  clear hZ
  go_enter Try.func28, Try.ntmps28
  go_wp2_with fail
  refine (number_any w.heap.size 2 2 254 (l.length : Nat) 2 (bs (K :: List.replicate 255 0)) (bs X1) 80 _ (by rw [HZ.out]; exact heap_last rfl) E1.out LX1.out rfl (by omega) (by omega) (by omega) (by omega) (by rw [HZ.out, List.length_cons, LZ.out]; decide)).mono ?_
  rintro e w1 ⟨rfl, hg, hx⟩
  rw [splice_bs, S1.out] at hg
  have hw1 : Below w.heap.size w w1 := (below_new (Below.refl _ _) _).trans hx
  have HG1 := Lib.hid hg
  clear hx hg
  go_wp2_with fail
  refine (number_any w.heap.size 4 4 252 no 4 (bs L2) (bs X2) 80 _ HG1.out E2.out LX2.out rfl (by omega) (by omega) (by omega) (by omega) (by rw [bs_length, N2.out]; decide)).mono ?_
  rintro e w2 ⟨rfl, hg, hx⟩
  rw [splice_bs, S2.out] at hg
  have hw2 : Below w.heap.size w w2 := hw1.trans hx
  have HG2 := Lib.hid hg
  clear hx hg hw1 HG1
  have hsrc : 0 < (bs l).length → ∃ ad, ab = some ad ∧ ∀ j v, (bs l)[j]? = some v → w2.cell? (ad.add j) = some v := by
    intro hp
    obtain ⟨a', c', hv, _, _, hc⟩ := HB.out.below hw2
    simp only [Value.slice.injEq] at hv
    obtain ⟨rfl, -, rfl⟩ := hv
    obtain ⟨b, o, rfl, hcl⟩ := hc (by intro e; rw [e] at hp; simp at hp)
    refine ⟨⟨b, o, none⟩, rfl, fun j v hj => ?_⟩
    have e : (⟨b, o, none⟩ : Addr).add j = ⟨b, o + j, none⟩ := by unfold Addr.add; split <;> simp_all
    rw [e]
    exact hcl j v hj
  have HSRC := Lib.hid hsrc
  have HMIN := Lib.hid (show (bs l).length = Nat.min l.length 244 by rw [bs_length]; exact (Nat.min_eq_left (by omega)).symm)
  have HFIT := Lib.hid (show 12 + (bs l).length ≤ (bs L3).length by rw [bs_length, bs_length, N3.out]; omega)
  clear hsrc
  go_wp2_with (refine wpList_copy_splice (o := ⟨some 38, _, _, _, _, _⟩) rfl (.tmp 36) (.tmp 37) 24 24 rfl 5 Try.underlying24 infoU8size (some ⟨w.heap.size, 12, none⟩) ab 244 244 l.length cb rfl rfl w.heap.size 12 (bs L3) 80 HG2.out (bs l) HMIN.out (fun h => ⟨rfl, HSRC.out h⟩) HFIT.out (bs_one _) w.heap.size w hw2 (Nat.le_refl _) ?_)
  intro w3 hg hw3
  have hg := hg.out
  rw [splice_bs, S3.out] at hg
  have HG3 := Lib.hid hg
  have hgl := (Array.getElem?_eq_some_iff.1 hg).1
  have hB3 : Bytes w3 (.slice (some ⟨w.heap.size, 0, none⟩) 256 256) L4 := Bytes.block (n := 256) (cap := 256) hg N4.out.symm (Nat.le_refl _) (by decide) (by rw [List.take_of_length_le]; simp [bs_length, N4.out])
  have HT8 := Lib.hid (hB3.take 8 (by decide))
  have HD12 := Lib.hid (hB3.tail 12 244 244 (by decide) (by decide) (by decide))
  have HSM := Lib.hid (show L4.take 8 ++ L4.drop 12 = Y from S5.out)
  clear hg hw2 HG2 HSRC HMIN HFIT hB3
  go_wp2_with fail
  refine region_each_tail 6 [some 39, some 40, some 41, some 42, some 43, some 44, some 45] [[], [], [], [1, 2], [3], [4]]
    [kIs (.slice (some ⟨w.heap.size, 8, none⟩) 4 248), kIs (.slice (some ⟨w.heap.size, 0, none⟩) 8 256), kIs (.slice (some ⟨w.heap.size, 12, none⟩) 244 244), kPair (.slice (some ⟨w.heap.size, 0, none⟩) 8 256) (.slice (some ⟨w.heap.size, 12, none⟩) 244 244), kIs (.int .u32 (cr : Nat)), kIs (.int .i64 (cr : Nat))]
    (by kernel_rfl) (by kernel_rfl) (by kernel_rfl) (by kernel_rfl) (by kernel_rfl) ?_ ?_
  · simp only [List.take_succ_cons, List.take_zero, obligsD]
    refine ⟨?_, ?_, ?_, ?_, ?_, ?_, trivial⟩
    · intro us w1 hb _
      simp only [putD, Act.put]
      go_simp
      exact ⟨_, rfl, Below.refl _ _, rfl⟩
    · intro us w1 hb _
      simp only [putD, Act.put]
      go_simp
      exact ⟨_, rfl, Below.refl _ _, rfl⟩
    · intro us w1 hb _
      simp only [putD, Act.put]
      go_simp
      exact ⟨_, rfl, Below.refl _ _, rfl⟩
    · intro us w1 hb hd
      simp only [List.mem_cons, List.not_mem_nil, or_false, forall_eq_or_imp, forall_eq, List.getD_cons_zero, List.getD_cons_succ, kIs] at hd
      simp only [putD, List.getD_cons_zero, List.getD_cons_succ, Act.put, hd]
      go_simp
      exact ⟨_, rfl, (Below.refl _ _).alloc (Nat.le_refl _) _, _, _, _, rfl, heap_last rfl⟩
    · intro us w1 hb hd
      simp only [List.mem_cons, List.not_mem_nil, or_false, forall_eq, List.getD_cons_zero, List.getD_cons_succ, kPair] at hd
      simp only [putD, List.getD_cons_zero, List.getD_cons_succ, Act.put, hd]
      obtain ⟨gs, ts, fs, hv, hgs⟩ := hd
      rw [hv]
      go_simp
      refine (of_two _ _ (L4.take 8) (L4.drop 12) gs ts fs _ hgs (HT8.out.below hb) (HD12.out.below hb)).mono ?_
      rintro e w9 ⟨rfl, rfl⟩
      rw [HSM.out, HCR.out]
      exact ⟨_, rfl, Below.refl _ _, rfl⟩
    · intro us w1 hb hd
      simp only [List.mem_cons, List.not_mem_nil, or_false, forall_eq, List.getD_cons_zero, List.getD_cons_succ, kIs] at hd
      simp only [putD, List.getD_cons_zero, List.getD_cons_succ, Act.put, hd]
      go_simp
      exact ⟨_, rfl, Below.refl _ _, by simp only [kIs]; rw [HWR.out]⟩
  intro us w4 hb hp
  have h0 := hp 0 (by simp)
  have h5 := hp 5 (by simp)
  simp only [List.getD_cons_zero, List.getD_cons_succ, kIs] at h0 h5
  rw [show List.range 6 = [0, 1, 2, 3, 4, 5] from rfl]
  simp only [List.drop_succ_cons, List.drop_zero, putD, List.getD_cons_zero, List.getD_cons_succ, Act.put, List.setIfInBounds_toArray, List.set_cons_zero, List.set_cons_succ, h0, h5]
  clear hp h0 h5
  have HG4 := Lib.hid (box_below HG3.out hb)
  have hw4 := hw3.trans (hb.mono hw3.size)
  clear hb HG3 hw3
  go_wp2_with fail
  refine (number_any w.heap.size 8 4 248 (cr : Nat) 4 (bs L4) (bs X3) 80 _ HG4.out E3.out LX3.out rfl (by omega) (by omega) (by omega) (by omega) (by rw [bs_length, N4.out]; decide)).mono ?_
  rintro e w5 ⟨rfl, hg, hx⟩
  rw [splice_bs, S4.out] at hg
  have hw5 : Below w.heap.size w w5 := hw4.trans hx
  have HG5 := Lib.hid hg
  clear hx hg hw4 HG4
  go_wp2_with fail
  go_ret2
  refine ⟨_, by rw [HC.out]; rfl, .inr ⟨w.heap.size, rfl, Nat.le_refl _, by rw [HQ5.out]; exact HPL.out, by rw [HQ5.out]; exact HG5.out⟩, hw5⟩
end Go.Proofs.Ytdekfbmjhmfmaaa
