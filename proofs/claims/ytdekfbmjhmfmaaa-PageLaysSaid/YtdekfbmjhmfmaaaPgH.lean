/- The walk of the law PageSealed. -/
import Derived.Test.YtdekfbmjhmfmaaaPgG
namespace Go.Proofs.Ytdekfbmjhmfmaaa
open Go.RowKit Go.Oct

/-- bytes with their sum set right, as far as so many of its bytes -/
def sealTo (l S : List UInt8) (j : Nat) : List UInt8 := l.take 8 ++ S.take j ++ l.drop (8 + j)
theorem sealTo_len {l S : List UInt8} (hl : l.length = 256) (hS : S.length = 4) (j : Nat) (hj : j ≤ 4) : (sealTo l S j).length = 256 := by
  simp only [sealTo, List.length_append, List.length_take, List.length_drop, hl, hS]
  omega
theorem sealTo_set {l S : List UInt8} (hl : l.length = 256) (hS : S.length = 4) {j : Nat} (hj : j < 4) : (sealTo l S j).set (8 + j) (S[j]'(by omega)) = sealTo l S (j + 1) := by
  have e1 : (l.take 8 ++ S.take j).length = 8 + j := by simp only [List.length_append, List.length_take, hl, hS]; omega
  have e2 : l.drop (8 + j) = l[8 + j]'(by omega) :: l.drop (8 + (j + 1)) := by rw [List.drop_eq_getElem_cons (by omega)]; rfl
  unfold sealTo
  rw [e2, List.set_append_right _ _ (by omega), e1, Nat.sub_self, List.set_cons_zero, List.take_succ_eq_append_getElem (by omega : j < S.length)]
  simp only [List.append_assoc, List.cons_append, List.nil_append]
theorem sealed_page {l : List UInt8} (hl : l.length = 256) {S : List UInt8} (hS : numBytes (OctCrc.crc (pgSummed l) : Nat) 4 = S) :
    sealTo l S 0 = l ∧ S.length = 4 ∧ (∀ no, pgOpen no (sealTo l S 4) ≠ 5) := by
  have h4 : S.length = 4 := by rw [← hS, crc_bytes, numList_length]
  have h8 : (l.take 8).length = 8 := by rw [List.length_take, hl]; rfl
  have hle := sealTo_len hl h4 4 (Nat.le_refl _)
  have e : sealTo l S 4 = l.take 8 ++ S ++ l.drop 12 := by unfold sealTo; rw [show S.take 4 = S from List.take_of_length_le (by omega)]
  have e1 : (sealTo l S 4).take 8 = l.take 8 := by rw [e, List.append_assoc]; exact List.take_left' h8
  have e2 : (sealTo l S 4).drop 12 = l.drop 12 := by rw [e]; exact List.drop_left' (by rw [List.length_append, h8, h4])
  have e3 : ((sealTo l S 4).drop 8).take 4 = S := by rw [e]; exact mid' _ _ _ 8 4 h8 h4
  have e4 : fld (sealTo l S 4) 8 4 = OctCrc.crc (pgSummed (sealTo l S 4)) := by
    unfold fld pgSummed
    rw [e1, e2, e3, ← hS, crc_bytes, numVal_numList, Nat.mod_eq_of_lt (OctCrc.crc_lt _)]
    rfl
  refine ⟨by simp [sealTo], h4, fun no h5 => ?_⟩
  unfold pgOpen at h5
  rw [if_neg (show ¬ fld (sealTo l S 4) 8 4 ≠ OctCrc.crc (pgSummed (sealTo l S 4)) from fun h => h e4)] at h5
  split at h5
  · cases h5
  · split at h5
    · cases h5
    · split at h5 <;> cases h5
theorem pg_back {no : Int} {Y : List UInt8} (h : pgOpen no Y = 0) : pgCode no (pgKind no Y : Nat) (pgBody no Y) = 0 ∧ pgPack no (pgKind no Y : Nat) (pgBody no Y) = Y := by
  have := pgPack_of h
  rw [pgKind, pgBody, if_pos h, if_pos h]
  exact this
set_option maxRecDepth 100000 in
set_option maxHeartbeats 4000000 in
theorem pageSealed_walk (no : Int) (v : Value) (l : List UInt8) (w : World) (w0 : (Lit.int .i64 no).wf = true) (B : Bytes w v l) (n0 : l.length ≤ 140737488351232) :
    Calls Try.prog 9 #[.int .i64 no, v] w fun e w' => e = .returned (.bool true) ∧ Below w.heap.size w w' := by
  obtain ⟨a0, a1⟩ := i64_wf_bounds w0
  obtain ⟨ab, cb, rfl, hcap, hmax, hcells⟩ := B.open
  unfold maxLen at hmax
  by_cases hL : l.length = 256
  · obtain ⟨b, o, rfl, -⟩ := hcells (by omega)
    have HL := Lib.hid hL
    have hcapI : (256 : Int) ≤ (cb : Int) := by omega
    have hcap8 : (8 : Int) ≤ (cb : Int) := by omega
    have hcap12 : (12 : Int) ≤ (cb : Int) := by omega
    have hcapn : ¬ (cb = 12) := by omega
    rw [hL] at B hcap ⊢
    have HB := Lib.hid B
    have LT8 := Lib.hid (show (l.take 8).length = 8 by rw [List.length_take, hL]; rfl)
    have LD12 := Lib.hid (show (l.drop 12).length = 244 by rw [List.length_drop, hL])
    obtain ⟨cr, hcr⟩ : ∃ x, OctCrc.crc (pgSummed l) = x := ⟨_, rfl⟩
    obtain ⟨S, hS⟩ : ∃ x, numBytes (OctCrc.crc (pgSummed l) : Nat) 4 = x := ⟨_, rfl⟩
    obtain ⟨s0, s4, s5⟩ := sealed_page hL hS
    rw [hcr] at hS
    have hcl : cr < 4294967296 := by rw [← hcr]; exact OctCrc.crc_lt _
    have HCR := Lib.hid (show OctCrc.crc (l.take 8 ++ l.drop 12) = cr from hcr)
    have HS := Lib.hid hS
    have HN4 := Lib.hid (show numCode (cr : Nat) 4 = 0 from numCode_ok' (k := 4) (by omega) (by decide) (by decide))
    have S0 := Lib.hid s0
    have S4 := Lib.hid s4
    have S5 := Lib.hid (s5 no)
    obtain ⟨i0, hi, hz0, hz1, hz2⟩ := info_parts infoU8
    clear hcells B w0 hL hcr hS s0 s4 s5
    go_enter Try.func9, Try.ntmps9
    go_wp2_with fail
    refine (awake05_any _).mono ?_
    rintro e w1 ⟨rfl, hw1⟩
    go_wp2_with fail
    refine (copy_any _ l _ (by have := HB.out.below hw1; unfold Bytes at this ⊢; exact this) (by rw [HL.out]; decide)).mono ?_
    rintro e w2 ⟨vc, rfl, hown, hx⟩
    rw [HL.out] at hown
    have HC2 := Lib.hid (Joins.ownsRow_le hown hw1.size)
    have hw2 := below_step hw1 hx
    obtain ⟨gc, cc, rfl⟩ := Joins.ownsRow_form hown (by decide)
    have hgc : w.heap.size ≤ gc ∧ gc < w2.heap.size := HC2.out.lt gc rfl
    obtain ⟨hgc0, hgc1⟩ := hgc
    have hcc : 256 ≤ cc ∧ cc ≤ maxLen := own_cap HC2.out
    obtain ⟨hcc1, hcc2⟩ := hcc
    unfold maxLen at hcc2
    clear hx hown hw1
    have t8 : Bytes w2 (.slice (some ⟨b, o, none⟩) 8 cb) (l.take 8) := (HB.out.below hw2).take 8 (by decide)
    have d12 : Bytes w2 (.slice (some ⟨b, o + 12, none⟩) 244 (cb - 12)) (l.drop 12) := (HB.out.below hw2).tail 12 244 _ (by decide) (by omega) (by unfold maxLen; omega)
    have T8 := Lib.hid t8
    have D12 := Lib.hid d12
    clear t8 d12
    go_wp2_with fail
    refine region_each_tail 5 [some 28, some 29, some 30, some 31, some 32, some 33, some 6] [[], [0], [1], [], [3]]
      [kIs (.slice (some ⟨b, o, none⟩) 256 cb), kIs (.slice (some ⟨b, o, none⟩) 8 cb), kOwn w2.heap.size 5 1 8 (bs (l.take 8)), kIs (.slice (some ⟨b, o, none⟩) 256 cb), kIs (.slice (some ⟨b, o + 12, none⟩) 244 (cb - 12))]
      (by kernel_rfl) (by kernel_rfl) (by kernel_rfl) (by kernel_rfl) (by kernel_rfl) ?_ ?_
    · simp only [List.take_succ_cons, List.take_zero, obligsD]
      refine ⟨?_, ?_, ?_, ?_, ?_, trivial⟩
      · intro us w1 hb _
        simp only [putD, Act.put]
        go_simp
        exact ⟨_, rfl, Below.refl _ _, rfl⟩
      · intro us w1 hb hd
        simp only [List.mem_cons, List.not_mem_nil, or_false, forall_eq, List.getD_cons_zero, kIs] at hd
        simp only [putD, List.getD_cons_zero, List.getD_cons_succ, Act.put, hd]
        go_simp
        exact ⟨_, rfl, Below.refl _ _, rfl⟩
      · intro us w1 hb hd
        simp only [List.mem_cons, List.not_mem_nil, or_false, forall_eq, List.getD_cons_zero, List.getD_cons_succ, kIs] at hd
        simp only [putD, List.getD_cons_zero, List.getD_cons_succ, Act.put, hd]
        go_simp
        refine (copy_any _ (l.take 8) _ (T8.out.below hb) (by rw [LT8.out]; decide)).mono ?_
        rintro e w9 ⟨v9, rfl, hown, hx⟩
        rw [LT8.out] at hown
        exact ⟨_, rfl, hx, Joins.ownsRow_le hown hb.size⟩
      · intro us w1 hb _
        simp only [putD, Act.put]
        go_simp
        exact ⟨_, rfl, Below.refl _ _, rfl⟩
      · intro us w1 hb hd
        simp only [List.mem_cons, List.not_mem_nil, or_false, forall_eq, List.getD_cons_zero, List.getD_cons_succ, kIs] at hd
        simp only [putD, List.getD_cons_zero, List.getD_cons_succ, Act.put, hd]
        go_simp
        exact ⟨_, rfl, Below.refl _ _, rfl⟩
    intro us w3 hb hp
    have h2 := hp 2 (by simp)
    have h4 := hp 4 (by simp)
    simp only [List.getD_cons_zero, List.getD_cons_succ, kIs] at h2 h4
    rw [show List.range 5 = [0, 1, 2, 3, 4] from rfl]
    simp only [List.drop_succ_cons, List.drop_zero, putD, List.getD_cons_zero, List.getD_cons_succ, Act.put, List.setIfInBounds_toArray, List.set_cons_zero, List.set_cons_succ, h4]
    have hown2 : w3.ownsRow w2.heap.size 5 1 (us 2) 8 (bs (l.take 8)) := h2
    obtain ⟨vq, hvq⟩ : ∃ x, us 2 = x := ⟨_, rfl⟩
    rw [hvq] at hown2 ⊢
    have HO3 := Lib.hid hown2
    have hD3 := Lib.hid (D12.out.below hb)
    have HC3 := Lib.hid (own_keep HC2.out hb)
    have hs23 := hb.size
    clear hp h2 h4 hown2 hvq T8 D12 HC2
    go_wp2_with (at_builtin; go_loud (refine wpList_append_has _ rfl (.tmp 30) (.tmp 32) 24 rfl w2.heap.size 5 i0 (.int .u8 0) 1 1 Try.underlying24 hi hz0 hz1 hz2 rfl (by decide) vq 8 _ rfl HO3.out (.slice (some ⟨b, o + 12, none⟩) 244 (cb - 12)) 244 (bs (l.drop 12)) rfl (by have := hD3.out; unfold Bytes at this; rw [LD12.out] at this; exact this) ?c2 (bs_one _) (by decide) (by decide) ?c5 ?_))
    case c2 => rw [bs_length, LD12.out]
    case c5 => omega
    intro vall w4 hown hgr _
    have hx24 : Below w2.heap.size w2 w4 := grown_below hb hgr HO3.out
    have HC4 := Lib.hid (own_apart HC3.out hgr (fun i j hi hj e => by have : gc = i := Option.some.inj hi; have := (HO3.out.lt j hj).1; omega))
    have hw4 := below_step hw2 hx24
    rw [← bs_append] at hown
    have HB4 := Lib.hid (show Bytes w4 vall (l.take 8 ++ l.drop 12) by unfold Bytes; rw [List.length_append, LT8.out, LD12.out]; exact Has.own hown)
    have hs24 := hx24.size
    clear hown hgr hb HO3 hD3 HC3 hx24 hw2
    go_wp2_with fail
    refine (refOf_any _ _ _ HB4.out).mono ?_
    rintro e w' ⟨rfl, rfl⟩
    rw [HCR.out]
    go_wp2_with fail
    refine (refBytes_any _ _ _ (by omega) (by omega) (by omega) (by omega)).mono ?_
    rintro e w5 ⟨vs, rfl, hown, hx⟩
    rw [HS.out, S4.out] at hown
    rw [HN4.out]
    obtain ⟨gs, cs, rfl⟩ := Joins.ownsRow_form hown (by decide)
    have hgs : w4.heap.size ≤ gs := (hown.lt gs rfl).1
    have hne : gs ≠ gc := by omega
    have HS5 := Lib.hid hown
    have hc5 := own_keep HC4.out hx
    rw [← S0.out] at hc5
    have HC5 := Lib.hid hc5
    have hw5 := below_step hw4 hx
    clear hown hx HB4 hc5 HC4 hw4
    go_wp2_with fail
    go_loopw [9] (fun i wr => ∃ j : Nat, j ≤ 4 ∧ i = .int .i64 j ∧ wr.ownsRow w.heap.size 5 1 (.slice (some ⟨gc, 0, none⟩) 256 cc) 256 (bs (sealTo l S j)) ∧ w5.grownBy wr (some gc)) (fun i _ => 4 - (intOf i).toNat)
    case atStart => exact ⟨0, by decide, rfl, HC5.out, World.grownBy.refl _ _⟩
    case round =>
      clear HC5
      obtain ⟨j, hj, rfl, hown, hgr⟩ := hrel
      have HO := Lib.hid hown
      have HG := Lib.hid hgr
      by_cases hlt : j < 4
      · have hSj : j < S.length := by rw [S4.out]; exact hlt
        have hsr := own_grown HS5.out hgr hne
        have cS := hsr.cellAt j (by omega)
        rw [bs_get S j hSj] at cS
        have hll := sealTo_len HL.out S4.out j hj
        have cC := hown.cellAt (8 + j) (by omega)
        rw [bs_get _ (8 + j) (by rw [hll]; omega)] at cC
        obtain ⟨u, hu⟩ : ∃ u, (sealTo l S j)[8 + j]'(by rw [hll]; omega) = u := ⟨_, rfl⟩
        rw [hu] at cC
        have hfr := hown.frozenAt (8 + j)
        have hgl := (hown.lt gc rfl).2
        have HSET := Lib.hid (sealTo_set HL.out S4.out hlt)
        obtain ⟨x, hx⟩ : ∃ x, S[j] = x := ⟨_, rfl⟩
        rw [hx] at cS HSET
        have q0 : (0 : Int) ≤ (j : Int) := by omega
        have q1 : (j : Int) < 4 := by omega
        have q3 : (0 : Int) ≤ 8 + (j : Int) := by omega
        have q4 : (8 : Int) + (j : Int) < 256 := by omega
        clear hu hll hx hown hgr hsr
        go_wp2_with fail
        go_roundw
        case rel =>
          refine ⟨j + 1, by omega, by go_num, ?_, HG.out.trans (HO.out.stored (8 + j) _).2⟩
          rw [← HSET.out, bs_set]
          exact (HO.out.stored (8 + j) _).1
        case measure => simp [intOf]; omega
      · obtain rfl : j = 4 := by omega
        have hwr := below_row hw5 hgr (fun r hr => by have := Option.some.inj hr; omega)
        have hln := sealTo_len HL.out S4.out 4 hj
        obtain ⟨Y, hY⟩ : ∃ y, sealTo l S 4 = y := ⟨_, rfl⟩
        rw [hY] at HO S5 hln
        have hB : Bytes wr (.slice (some ⟨gc, 0, none⟩) 256 cc) Y := by unfold Bytes; rw [hln]; exact Has.own HO.out
        have HY := Lib.hid hB
        have HLY := Lib.hid hln
        obtain ⟨E, hE⟩ : ∃ x, pgOpen no Y = x := ⟨_, rfl⟩
        obtain ⟨K, hK⟩ : ∃ x, pgKind no Y = x := ⟨_, rfl⟩
        obtain ⟨D, hD⟩ : ∃ x, pgBody no Y = x := ⟨_, rfl⟩
        rw [hE] at S5
        have HE := Lib.hid hE
        have HK := Lib.hid hK
        have HD := Lib.hid hD
        clear hown hgr hY hB hln hE hK hD HO HG HS5 hw5 hlt
        go_wp2_with fail
        refine (pageOpen_any no _ Y _ HY.out).mono ?_
        rintro e w6 ⟨v6, rfl, hown, hx⟩
        rw [HD.out] at hown
        rw [HK.out, HE.out]
        have HV6 := Lib.hid hown
        have HY6 := Lib.hid (HY.out.below hx)
        have hw6 := below_step hwr hx
        clear hown hx HY hwr
        go_wp2_with fail
        refine (refOpen05_any no _ Y _ HY6.out a0 a1).mono ?_
        rintro e w7 ⟨v7, rfl, -, hx⟩
        rw [HK.out, HE.out]
        have HV7 := Lib.hid (own_keep HV6.out hx)
        have HY7 := Lib.hid (HY6.out.below hx)
        have hw7 := below_step hw6 hx
        obtain ⟨a7, c7, rfl⟩ := own_shape HV7.out
        have hE5 : ((E : Int) == 5) = false := by rw [beq_eq_false_iff_ne]; have := S5.out; omega
        clear hx hw6 HV6 HY6
        by_cases hE0 : E = 0
        · subst hE0
          obtain ⟨k0, k1⟩ := pg_back HE.out
          rw [HK.out, HD.out] at k0 k1
          have K0 := Lib.hid k0
          have K1 := Lib.hid k1
          clear k0 k1
          go_wp2_with fail
          refine (pagePack_any no (K : Nat) _ D _ (Bytes.own HV7.out) a0 a1).mono ?_
          rintro e w8 ⟨v8, rfl, hv, hx⟩
          rw [K1.out] at hv
          rw [K0.out]
          have hY8 := HY7.out.below hx
          have hw8 := below_step hw7 hx
          have HV8 := Lib.hid hv.bytes
          have HY8 := Lib.hid hY8
          clear hx hv hY8 hw7 HY7 HV7
          go_wp2_with fail
          refine (same_yes _ _ Y _ HV8.out HY8.out).mono ?_
          rintro e w9 ⟨rfl, hx⟩
          go_wp2_with fail
          go_ret
          exact ⟨rfl, below_step hw8 hx⟩
        · have hn0 : pgOpen no Y ≠ 0 := by rw [HE.out]; exact hE0
          obtain ⟨k0, d0⟩ := pg_none hn0
          obtain rfl : K = 0 := by rw [← HK.out]; exact k0
          obtain rfl : D = [] := by rw [← HD.out]; exact d0
          have hEb : ((E : Int) != 0) = true := by rw [bne_iff_ne]; omega
          clear k0 d0 hn0 HV7 HY7
          go_wp2_with fail
          go_ret
          exact ⟨rfl, hw7⟩
  · have hne : ((l.length : Int) != 256) = true := by rw [bne_iff_ne]; omega
    clear hL
    go_enter Try.func9, Try.ntmps9
    go_wp2_with fail
    refine (awake05_any _).mono ?_
    rintro e w1 ⟨rfl, hx1⟩
    go_wp2_with fail
    refine (awake05_any _).mono ?_
    rintro e w2 ⟨rfl, hx2⟩
    go_wp2_with fail
    go_ret
    exact ⟨rfl, below_step hx1 hx2⟩
end Go.Proofs.Ytdekfbmjhmfmaaa
