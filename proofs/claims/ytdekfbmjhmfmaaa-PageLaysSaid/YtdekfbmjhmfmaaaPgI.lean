/- The walk of the law PageLays. -/
import Derived.Test.YtdekfbmjhmfmaaaPgH
namespace Go.Proofs.Ytdekfbmjhmfmaaa
open Go.RowKit Go.Oct

/-- the bytes of a page, one by one -/
theorem pg_cells {no kind : Int} {l : List UInt8} (h : pgMay no kind) (h2 : l.length ≤ 244) :
    ∃ k x0 x1 : UInt8, (pgPack no kind l)[0]? = some k ∧ (k.toNat : Int) = kind ∧ (pgPack no kind l)[1]? = some 0 ∧ (pgPack no kind l)[2]? = some x0 ∧ (pgPack no kind l)[3]? = some x1 ∧ x0.toNat + 256 * x1.toNat = l.length ∧
      ((pgPack no kind l).drop 12).take l.length = l ∧ ∀ i, 12 + l.length ≤ i → i < 256 → (pgPack no kind l)[i]? = some 0 := by
  obtain ⟨p1, p2, p3, p4, p5, p6, p7, p8⟩ := pgPack_parts h h2
  obtain ⟨l1, l2, l3, l4, l5⟩ := pg_lens h h2
  obtain ⟨f1, f2, f3, f4, f5⟩ := pg_fields h h2
  obtain ⟨x0, x1, hx⟩ : ∃ x0 x1, numBytes (l.length : Nat) 2 = [x0, x1] := by
    match numBytes (l.length : Nat) 2, l1 with
    | [a, b], _ => exact ⟨a, b, rfl⟩
  have hm := h
  unfold pgMay at hm
  have hfr : pgFront no kind l = UInt8.ofNat kind.toNat :: 0 :: x0 :: x1 :: numBytes no 4 := by
    rw [pgFront, hx]; rfl
  have hk := byte_kind (kind := kind) (by omega) (by omega)
  have hg : ∀ i, i < 8 → (pgPack no kind l)[i]? = (pgFront no kind l)[i]? := by
    intro i hi
    rw [← p4, List.getElem?_take, if_pos hi]
  refine ⟨UInt8.ofNat kind.toNat, x0, x1, by rw [hg 0 (by decide), hfr]; rfl, hk, by rw [hg 1 (by decide), hfr]; rfl, by rw [hg 2 (by decide), hfr]; rfl, by rw [hg 3 (by decide), hfr]; rfl, ?_, by rw [p3, pgBack, List.take_left], ?_⟩
  · have := f3
    unfold fld at this
    rw [p7, hx] at this
    simpa [numVal] using this
  · intro i hi h256
    have e : (pgPack no kind l)[i]? = (pgBack l)[i - 12]? := by
      rw [← p3, List.getElem?_drop, show 12 + (i - 12) = i by omega]
    rw [e, pgBack, List.getElem?_append_right (by omega), List.getElem?_replicate, if_pos (by omega)]
set_option maxRecDepth 100000 in
set_option maxHeartbeats 8000000 in
theorem pageLays_walk (no kind : Int) (v : Value) (l : List UInt8) (w : World) (w0 : (Lit.int .i64 no).wf = true) (_w1 : (Lit.int .i64 kind).wf = true) (B : Bytes w v l) (_n0 : l.length ≤ 140737488351232) :
    Calls Try.prog 11 #[.int .i64 no, .int .i64 kind, v] w fun e w' => e = .returned (.bool true) ∧ Below w.heap.size w w' := by
  obtain ⟨a0, a1⟩ := i64_wf_bounds w0
  obtain ⟨ab, cb, rfl, -, hmax, -⟩ := B.open
  unfold maxLen at hmax
  have HB := Lib.hid B
  by_cases hK : pgCode no kind l = 0
  · obtain ⟨hM, hL⟩ := pgCode_ok hK
    have hlen := pgPack_len hM hL
    obtain ⟨k, x0, x1, p0, pk, p1, p2, p3, px, pb, pz⟩ := pg_cells hM hL
    obtain ⟨f1, f2, f3, f4, f5⟩ := pg_fields hM hL
    obtain ⟨P, hP⟩ : ∃ P, pgPack no kind l = P := ⟨_, rfl⟩
    rw [hP] at p0 p1 p2 p3 pb pz hlen f4
    have HP := Lib.hid hP
    have HK := Lib.hid hK
    have HL := Lib.hid hlen
    have P0 := Lib.hid p0
    have P1 := Lib.hid p1
    have P2 := Lib.hid p2
    have P3 := Lib.hid p3
    have PB := Lib.hid pb
    have PZ := Lib.hid pz
    have PK := Lib.hid pk
    have hkp : -9223372036854775808 ≤ kind ∧ kind ≤ 9223372036854775807 := i64_wf_bounds _w1
    have hx0 := x0.toNat_lt
    have hx1 := x1.toNat_lt
    have hkb := k.toNat_lt
    have h4l := fld_len P 4 4 (by omega)
    have HN := Lib.hid (show numOf ((P.drop 4).take 4) = fld P 4 4 from numOf_short (by rw [h4l]; decide) (by rw [h4l]; decide))
    have HV0 := Lib.hid (show valCode ((P.drop 4).take 4) = 0 from valCode_ok (by omega) (numVal_seven _ (by omega)))
    have HF4 := Lib.hid f4
    obtain ⟨d0, hd0⟩ : ∃ d, x0.toNat = d := ⟨_, rfl⟩
    obtain ⟨d1, hd1⟩ : ∃ d, x1.toNat = d := ⟨_, rfl⟩
    rw [hd0] at px hx0
    rw [hd1] at px hx1
    have D0 := Lib.hid hd0
    have D1 := Lib.hid hd1
    have hw35 : IntKind.i64.wrap (256 * (d1 : Int)) = 256 * (d1 : Int) := IntWalk.i64_in _ (by omega)
    have hw36 : IntKind.i64.wrap ((d0 : Int) + 256 * (d1 : Int)) = (l.length : Int) := by rw [IntWalk.i64_in _ (by omega)]; omega
    have hw45 : IntKind.i64.wrap (12 + (l.length : Int)) = 12 + (l.length : Int) := IntWalk.i64_in _ (by omega)
    have W07 := Lib.hid (show IntKind.i64.wrap kind = kind from IntWalk.i64_in _ (by omega))
    have W30 := Lib.hid (show IntKind.i64.wrap (d0 : Int) = (d0 : Int) from IntWalk.i64_in _ (by omega))
    have W34 := Lib.hid (show IntKind.i64.wrap (d1 : Int) = (d1 : Int) from IntWalk.i64_in _ (by omega))
    have W35 := Lib.hid hw35
    have W36 := Lib.hid hw36
    have W45 := Lib.hid hw45
    have q1 : (12 : Int) + (l.length : Int) ≤ 256 := by omega
    have q0 : (0 : Int) ≤ (l.length : Int) := by omega
    clear p0 p1 p2 p3 px pb pz hlen hP hK hM pk f1 f2 f3 f4 f5 h4l hd0 hd1 hw35 hw36 hw45 hkp B w0
    go_enter Try.func11, Try.ntmps11
    go_wp2_with fail
    refine (pagePack_any no kind _ l _ HB.out a0 a1).mono ?_
    rintro e w1 ⟨v1, rfl, hv, hx⟩
    rw [HP.out] at hv
    rw [HK.out]
    obtain ⟨g, rfl, hg, hbx⟩ := hv.full HL.out
    have HBX := Lib.hid hbx
    have hw1 := hx
    clear hx hv hbx
    go_wp2_with fail
    refine (awake05_any _).mono ?_
    rintro e w2 ⟨rfl, hx⟩
    have HBX2 := Lib.hid (box_below HBX.out hx)
    have hw2 := below_step hw1 hx
    clear hx hw1 HBX
    have hcut : Bytes w2 (.slice (some ⟨g, 4, none⟩) 4 252) ((P.drop 4).take 4) := (page_bytes HBX2.out HL.out).cut 4 4 252 (by decide) (by decide) (by decide)
    have HCUT := Lib.hid hcut
    clear hcut
    go_wp2_with fail
    refine (refInt_any _ _ _ HCUT.out).mono ?_
    rintro e w' ⟨rfl, rfl⟩
    rw [HN.out, HV0.out, HF4.out]
    clear HCUT
    have c0 := page_cell HBX2.out 0 k P0.out
    rw [PK.out] at c0
    have c1 : w2.cell? ⟨g, 1, none⟩ = some (.int .u8 0) := page_cell HBX2.out 1 0 P1.out
    have c2 := page_cell HBX2.out 2 x0 P2.out
    rw [D0.out] at c2
    have c3 := page_cell HBX2.out 3 x1 P3.out
    rw [D1.out] at c3
    have hsm : Bytes w2 (.slice (some ⟨g, 12, none⟩) l.length 244) l := by
      have := (page_bytes HBX2.out HL.out).cut 12 l.length 244 (by omega) hL (by decide)
      rwa [PB.out] at this
    have HSM := Lib.hid hsm
    have C0 := Lib.hid c0
    have C1 := Lib.hid c1
    have C2 := Lib.hid c2
    have C3 := Lib.hid c3
    clear hsm c0 c1 c2 c3
    have hkk : kind % 256 = kind := by have := PK.out; omega
    go_wp2_with fail
    refine region_each 51 [some 37, some 38, some 39, some 40, some 41, some 42, some 43, some 44, some 45, some 46, some 47, some 48, some 49, some 50, some 51, some 52, some 53, some 54, some 55, some 56, some 57, some 58, some 59, some 60, some 61, some 62, some 63, some 64, some 65, some 66, some 67, some 68, some 69, some 70, some 71, some 72, some 73, some 74, some 75, some 76, some 77, some 78, some 79, some 80, some 81, some 82, some 83, some 84, some 85, some 86, some 87] [[], [0], [1], [2], [3], [4, 3], [5, 3], [6, 3], [3], [7, 8, 3], [3, 9], [10], [11], [12, 11], [13, 11], [14, 11], [11, 15], [16], [17], [18, 17], [17, 19], [20], [21], [21], [22, 23, 21], [21, 24], [25], [26], [27, 26], [28, 26], [29, 26], [26], [31, 26], [32, 26], [33, 26], [34, 26], [30, 35, 26], [26], [37, 26], [36, 38, 26], [26, 39], [40], [41], [41], [43, 41], [44, 41], [42, 45, 41], [41], [46, 47, 41], [48, 41], [41, 49]]
      [kIs (.slice (some ⟨g, 0, none⟩) 256 256), kIs (.int .i64 256), kIs (.bool false), kIs (.bool false), kIs (.slice (some ⟨g, 0, none⟩) 256 256), kIs (.pointer (some ⟨g, 0, none⟩)), kIs (.int .u8 kind), kIs (.int .i64 kind), kIs (.int .i64 kind), kIs (.bool false), kIs (.bool false), kIs (.bool false), kIs (.slice (some ⟨g, 0, none⟩) 256 256), kIs (.pointer (some ⟨g, 1, none⟩)), kIs (.int .u8 0), kIs (.bool false), kIs (.bool false), kIs (.bool false), kIs (.int .i64 0), kIs (.bool false), kIs (.bool false), kIs (.bool false), kIs (.int .i64 no), kIs (.int .i64 no), kIs (.bool false), kIs (.bool false), kIs (.bool false), kIs (.slice (some ⟨g, 0, none⟩) 256 256), kIs (.pointer (some ⟨g, 2, none⟩)), kIs (.int .u8 (d0 : Nat)), kIs (.int .i64 (d0 : Nat)), kIs (.slice (some ⟨g, 0, none⟩) 256 256), kIs (.pointer (some ⟨g, 3, none⟩)), kIs (.int .u8 (d1 : Nat)), kIs (.int .i64 (d1 : Nat)), kIs (.int .i64 (256 * (d1 : Int))), kIs (.int .i64 (l.length : Nat)), kIs (.slice ab l.length cb), kIs (.int .i64 (l.length : Nat)), kIs (.bool false), kIs (.bool false), kIs (.bool false), kIs (.slice (some ⟨g, 0, none⟩) 256 256), kIs (.slice ab l.length cb), kIs (.int .i64 (l.length : Nat)), kIs (.int .i64 (12 + (l.length : Int))), kIs (.slice (some ⟨g, 12, none⟩) l.length 244), kIs (.slice ab l.length cb), kIs (.bool true), kIs (.bool false), kIs (.bool false)]
      (by kernel_rfl) (by kernel_rfl) (by kernel_rfl) (by kernel_rfl) ?_ ?_
    · simp only [obligsD]
      refine ⟨?_, ?_, ?_, ?_, ?_, ?_, ?_, ?_, ?_, ?_, ?_, ?_, ?_, ?_, ?_, ?_, ?_, ?_, ?_, ?_, ?_, ?_, ?_, ?_, ?_, ?_, ?_, ?_, ?_, ?_, ?_, ?_, ?_, ?_, ?_, ?_, ?_, ?_, ?_, ?_, ?_, ?_, ?_, ?_, ?_, ?_, ?_, ?_, ?_, ?_, ?_, trivial⟩
      · intro us w1 hb _
        simp only [putD, Act.put]
        go_simp
        exact ⟨_, rfl, Below.refl _ _, by first | rfl | (simp only [kIs]; done) | (simp only [kIs]; rw [W35.out]) | (simp only [kIs]; rw [W36.out]) | (simp only [kIs]; rw [W45.out]) | (simp only [kIs]; rw [W07.out]) | (simp only [kIs]; rw [W30.out]) | (simp only [kIs]; rw [W34.out])⟩
      · intro us w1 hb hd
        simp only [List.mem_cons, List.not_mem_nil, or_false, forall_eq, List.getD_cons_zero, kIs] at hd
        simp only [putD, List.getD_cons_zero, List.getD_cons_succ, Act.put, hd]
        go_simp
        exact ⟨_, rfl, Below.refl _ _, by first | rfl | (simp only [kIs]; done) | (simp only [kIs]; rw [W35.out]) | (simp only [kIs]; rw [W36.out]) | (simp only [kIs]; rw [W45.out]) | (simp only [kIs]; rw [W07.out]) | (simp only [kIs]; rw [W30.out]) | (simp only [kIs]; rw [W34.out])⟩
      · intro us w1 hb hd
        simp only [List.mem_cons, List.not_mem_nil, or_false, forall_eq, List.getD_cons_zero, List.getD_cons_succ, kIs] at hd
        simp only [putD, List.getD_cons_zero, List.getD_cons_succ, Act.put, hd]
        go_simp
        exact ⟨_, rfl, Below.refl _ _, by first | rfl | (simp only [kIs]; done) | (simp only [kIs]; rw [W35.out]) | (simp only [kIs]; rw [W36.out]) | (simp only [kIs]; rw [W45.out]) | (simp only [kIs]; rw [W07.out]) | (simp only [kIs]; rw [W30.out]) | (simp only [kIs]; rw [W34.out])⟩
      · intro us w1 hb hd
        simp only [List.mem_cons, List.not_mem_nil, or_false, forall_eq, List.getD_cons_zero, List.getD_cons_succ, kIs] at hd
        simp only [putD, List.getD_cons_zero, List.getD_cons_succ, Act.put, hd]
        go_simp
        exact ⟨_, rfl, Below.refl _ _, by first | rfl | (simp only [kIs]; done) | (simp only [kIs]; rw [W35.out]) | (simp only [kIs]; rw [W36.out]) | (simp only [kIs]; rw [W45.out]) | (simp only [kIs]; rw [W07.out]) | (simp only [kIs]; rw [W30.out]) | (simp only [kIs]; rw [W34.out])⟩
      · intro us w1 hb hd
        simp only [List.mem_cons, List.not_mem_nil, or_false, forall_eq, List.getD_cons_zero, List.getD_cons_succ, kIs] at hd
        refine ⟨fun _ => ?_, fun h => (h (by simp [hd])).elim⟩
        simp only [putD, List.getD_cons_zero, List.getD_cons_succ, Act.put, hd]
        go_simp
        exact ⟨_, rfl, Below.refl _ _, by first | rfl | (simp only [kIs]; done) | (simp only [kIs]; rw [W35.out]) | (simp only [kIs]; rw [W36.out]) | (simp only [kIs]; rw [W45.out]) | (simp only [kIs]; rw [W07.out]) | (simp only [kIs]; rw [W30.out]) | (simp only [kIs]; rw [W34.out])⟩
      · intro us w1 hb hd
        simp only [List.mem_cons, List.not_mem_nil, or_false, forall_eq_or_imp, forall_eq, List.getD_cons_zero, List.getD_cons_succ, kIs] at hd
        refine ⟨fun _ => ?_, fun h => (h (by simp [hd])).elim⟩
        simp only [putD, List.getD_cons_zero, List.getD_cons_succ, Act.put, hd]
        go_simp
        exact ⟨_, rfl, Below.refl _ _, by first | rfl | (simp only [kIs]; done) | (simp only [kIs]; rw [W35.out]) | (simp only [kIs]; rw [W36.out]) | (simp only [kIs]; rw [W45.out]) | (simp only [kIs]; rw [W07.out]) | (simp only [kIs]; rw [W30.out]) | (simp only [kIs]; rw [W34.out])⟩
      · intro us w1 hb hd
        simp only [List.mem_cons, List.not_mem_nil, or_false, forall_eq_or_imp, forall_eq, List.getD_cons_zero, List.getD_cons_succ, kIs] at hd
        refine ⟨fun _ => ?_, fun h => (h (by simp [hd])).elim⟩
        simp only [putD, List.getD_cons_zero, List.getD_cons_succ, Act.put, hd]
        have d0' := (hb.cell (World.block_lt_of_cell? _ _ C0.out)).trans C0.out
        go_simp
        exact ⟨_, rfl, Below.refl _ _, by first | rfl | (simp only [kIs]; done) | (simp only [kIs]; rw [W35.out]) | (simp only [kIs]; rw [W36.out]) | (simp only [kIs]; rw [W45.out]) | (simp only [kIs]; rw [W07.out]) | (simp only [kIs]; rw [W30.out]) | (simp only [kIs]; rw [W34.out])⟩
      · intro us w1 hb hd
        simp only [List.mem_cons, List.not_mem_nil, or_false, forall_eq_or_imp, forall_eq, List.getD_cons_zero, List.getD_cons_succ, kIs] at hd
        refine ⟨fun _ => ?_, fun h => (h (by simp [hd])).elim⟩
        simp only [putD, List.getD_cons_zero, List.getD_cons_succ, Act.put, hd]
        go_simp
        exact ⟨_, rfl, Below.refl _ _, by first | rfl | (simp only [kIs]; done) | (simp only [kIs]; rw [W35.out]) | (simp only [kIs]; rw [W36.out]) | (simp only [kIs]; rw [W45.out]) | (simp only [kIs]; rw [W07.out]) | (simp only [kIs]; rw [W30.out]) | (simp only [kIs]; rw [W34.out])⟩
      · intro us w1 hb hd
        simp only [List.mem_cons, List.not_mem_nil, or_false, forall_eq, List.getD_cons_zero, List.getD_cons_succ, kIs] at hd
        refine ⟨fun _ => ?_, fun h => (h (by simp [hd])).elim⟩
        simp only [putD, List.getD_cons_zero, List.getD_cons_succ, Act.put, hd]
        go_simp
        exact ⟨_, rfl, Below.refl _ _, by first | rfl | (simp only [kIs]; done) | (simp only [kIs]; rw [W35.out]) | (simp only [kIs]; rw [W36.out]) | (simp only [kIs]; rw [W45.out]) | (simp only [kIs]; rw [W07.out]) | (simp only [kIs]; rw [W30.out]) | (simp only [kIs]; rw [W34.out])⟩
      · intro us w1 hb hd
        simp only [List.mem_cons, List.not_mem_nil, or_false, forall_eq_or_imp, forall_eq, List.getD_cons_zero, List.getD_cons_succ, kIs] at hd
        refine ⟨fun _ => ?_, fun h => (h (by simp [hd])).elim⟩
        simp only [putD, List.getD_cons_zero, List.getD_cons_succ, Act.put, hd]
        go_simp
        exact ⟨_, rfl, Below.refl _ _, by first | rfl | (simp only [kIs]; done) | (simp only [kIs]; rw [W35.out]) | (simp only [kIs]; rw [W36.out]) | (simp only [kIs]; rw [W45.out]) | (simp only [kIs]; rw [W07.out]) | (simp only [kIs]; rw [W30.out]) | (simp only [kIs]; rw [W34.out])⟩
      · intro us w1 hb hd
        simp only [List.mem_cons, List.not_mem_nil, or_false, forall_eq_or_imp, forall_eq, List.getD_cons_zero, List.getD_cons_succ, kIs] at hd
        simp only [putD, List.getD_cons_zero, List.getD_cons_succ, Act.put, hd]
        go_simp
        exact ⟨_, rfl, Below.refl _ _, by first | rfl | (simp only [kIs]; done) | (simp only [kIs]; rw [W35.out]) | (simp only [kIs]; rw [W36.out]) | (simp only [kIs]; rw [W45.out]) | (simp only [kIs]; rw [W07.out]) | (simp only [kIs]; rw [W30.out]) | (simp only [kIs]; rw [W34.out])⟩
      · intro us w1 hb hd
        simp only [List.mem_cons, List.not_mem_nil, or_false, forall_eq, List.getD_cons_zero, List.getD_cons_succ, kIs] at hd
        simp only [putD, List.getD_cons_zero, List.getD_cons_succ, Act.put, hd]
        go_simp
        exact ⟨_, rfl, Below.refl _ _, by first | rfl | (simp only [kIs]; done) | (simp only [kIs]; rw [W35.out]) | (simp only [kIs]; rw [W36.out]) | (simp only [kIs]; rw [W45.out]) | (simp only [kIs]; rw [W07.out]) | (simp only [kIs]; rw [W30.out]) | (simp only [kIs]; rw [W34.out])⟩
      · intro us w1 hb hd
        simp only [List.mem_cons, List.not_mem_nil, or_false, forall_eq, List.getD_cons_zero, List.getD_cons_succ, kIs] at hd
        refine ⟨fun _ => ?_, fun h => (h (by simp [hd])).elim⟩
        simp only [putD, List.getD_cons_zero, List.getD_cons_succ, Act.put, hd]
        go_simp
        exact ⟨_, rfl, Below.refl _ _, by first | rfl | (simp only [kIs]; done) | (simp only [kIs]; rw [W35.out]) | (simp only [kIs]; rw [W36.out]) | (simp only [kIs]; rw [W45.out]) | (simp only [kIs]; rw [W07.out]) | (simp only [kIs]; rw [W30.out]) | (simp only [kIs]; rw [W34.out])⟩
      · intro us w1 hb hd
        simp only [List.mem_cons, List.not_mem_nil, or_false, forall_eq_or_imp, forall_eq, List.getD_cons_zero, List.getD_cons_succ, kIs] at hd
        refine ⟨fun _ => ?_, fun h => (h (by simp [hd])).elim⟩
        simp only [putD, List.getD_cons_zero, List.getD_cons_succ, Act.put, hd]
        go_simp
        exact ⟨_, rfl, Below.refl _ _, by first | rfl | (simp only [kIs]; done) | (simp only [kIs]; rw [W35.out]) | (simp only [kIs]; rw [W36.out]) | (simp only [kIs]; rw [W45.out]) | (simp only [kIs]; rw [W07.out]) | (simp only [kIs]; rw [W30.out]) | (simp only [kIs]; rw [W34.out])⟩
      · intro us w1 hb hd
        simp only [List.mem_cons, List.not_mem_nil, or_false, forall_eq_or_imp, forall_eq, List.getD_cons_zero, List.getD_cons_succ, kIs] at hd
        refine ⟨fun _ => ?_, fun h => (h (by simp [hd])).elim⟩
        simp only [putD, List.getD_cons_zero, List.getD_cons_succ, Act.put, hd]
        have d0' := (hb.cell (World.block_lt_of_cell? _ _ C1.out)).trans C1.out
        go_simp
        exact ⟨_, rfl, Below.refl _ _, by first | rfl | (simp only [kIs]; done) | (simp only [kIs]; rw [W35.out]) | (simp only [kIs]; rw [W36.out]) | (simp only [kIs]; rw [W45.out]) | (simp only [kIs]; rw [W07.out]) | (simp only [kIs]; rw [W30.out]) | (simp only [kIs]; rw [W34.out])⟩
      · intro us w1 hb hd
        simp only [List.mem_cons, List.not_mem_nil, or_false, forall_eq_or_imp, forall_eq, List.getD_cons_zero, List.getD_cons_succ, kIs] at hd
        refine ⟨fun _ => ?_, fun h => (h (by simp [hd])).elim⟩
        simp only [putD, List.getD_cons_zero, List.getD_cons_succ, Act.put, hd]
        go_simp
        exact ⟨_, rfl, Below.refl _ _, by first | rfl | (simp only [kIs]; done) | (simp only [kIs]; rw [W35.out]) | (simp only [kIs]; rw [W36.out]) | (simp only [kIs]; rw [W45.out]) | (simp only [kIs]; rw [W07.out]) | (simp only [kIs]; rw [W30.out]) | (simp only [kIs]; rw [W34.out])⟩
      · intro us w1 hb hd
        simp only [List.mem_cons, List.not_mem_nil, or_false, forall_eq_or_imp, forall_eq, List.getD_cons_zero, List.getD_cons_succ, kIs] at hd
        simp only [putD, List.getD_cons_zero, List.getD_cons_succ, Act.put, hd]
        go_simp
        exact ⟨_, rfl, Below.refl _ _, by first | rfl | (simp only [kIs]; done) | (simp only [kIs]; rw [W35.out]) | (simp only [kIs]; rw [W36.out]) | (simp only [kIs]; rw [W45.out]) | (simp only [kIs]; rw [W07.out]) | (simp only [kIs]; rw [W30.out]) | (simp only [kIs]; rw [W34.out])⟩
      · intro us w1 hb hd
        simp only [List.mem_cons, List.not_mem_nil, or_false, forall_eq, List.getD_cons_zero, List.getD_cons_succ, kIs] at hd
        simp only [putD, List.getD_cons_zero, List.getD_cons_succ, Act.put, hd]
        go_simp
        exact ⟨_, rfl, Below.refl _ _, by first | rfl | (simp only [kIs]; done) | (simp only [kIs]; rw [W35.out]) | (simp only [kIs]; rw [W36.out]) | (simp only [kIs]; rw [W45.out]) | (simp only [kIs]; rw [W07.out]) | (simp only [kIs]; rw [W30.out]) | (simp only [kIs]; rw [W34.out])⟩
      · intro us w1 hb hd
        simp only [List.mem_cons, List.not_mem_nil, or_false, forall_eq, List.getD_cons_zero, List.getD_cons_succ, kIs] at hd
        refine ⟨fun _ => ?_, fun h => (h (by simp [hd])).elim⟩
        simp only [putD, List.getD_cons_zero, List.getD_cons_succ, Act.put, hd]
        go_simp
        exact ⟨_, rfl, Below.refl _ _, by first | rfl | (simp only [kIs]; done) | (simp only [kIs]; rw [W35.out]) | (simp only [kIs]; rw [W36.out]) | (simp only [kIs]; rw [W45.out]) | (simp only [kIs]; rw [W07.out]) | (simp only [kIs]; rw [W30.out]) | (simp only [kIs]; rw [W34.out])⟩
      · intro us w1 hb hd
        simp only [List.mem_cons, List.not_mem_nil, or_false, forall_eq_or_imp, forall_eq, List.getD_cons_zero, List.getD_cons_succ, kIs] at hd
        refine ⟨fun _ => ?_, fun h => (h (by simp [hd])).elim⟩
        simp only [putD, List.getD_cons_zero, List.getD_cons_succ, Act.put, hd]
        go_simp
        exact ⟨_, rfl, Below.refl _ _, by first | rfl | (simp only [kIs]; done) | (simp only [kIs]; rw [W35.out]) | (simp only [kIs]; rw [W36.out]) | (simp only [kIs]; rw [W45.out]) | (simp only [kIs]; rw [W07.out]) | (simp only [kIs]; rw [W30.out]) | (simp only [kIs]; rw [W34.out])⟩
      · intro us w1 hb hd
        simp only [List.mem_cons, List.not_mem_nil, or_false, forall_eq_or_imp, forall_eq, List.getD_cons_zero, List.getD_cons_succ, kIs] at hd
        simp only [putD, List.getD_cons_zero, List.getD_cons_succ, Act.put, hd]
        go_simp
        exact ⟨_, rfl, Below.refl _ _, by first | rfl | (simp only [kIs]; done) | (simp only [kIs]; rw [W35.out]) | (simp only [kIs]; rw [W36.out]) | (simp only [kIs]; rw [W45.out]) | (simp only [kIs]; rw [W07.out]) | (simp only [kIs]; rw [W30.out]) | (simp only [kIs]; rw [W34.out])⟩
      · intro us w1 hb hd
        simp only [List.mem_cons, List.not_mem_nil, or_false, forall_eq, List.getD_cons_zero, List.getD_cons_succ, kIs] at hd
        simp only [putD, List.getD_cons_zero, List.getD_cons_succ, Act.put, hd]
        go_simp
        exact ⟨_, rfl, Below.refl _ _, by first | rfl | (simp only [kIs]; done) | (simp only [kIs]; rw [W35.out]) | (simp only [kIs]; rw [W36.out]) | (simp only [kIs]; rw [W45.out]) | (simp only [kIs]; rw [W07.out]) | (simp only [kIs]; rw [W30.out]) | (simp only [kIs]; rw [W34.out])⟩
      · intro us w1 hb hd
        simp only [List.mem_cons, List.not_mem_nil, or_false, forall_eq, List.getD_cons_zero, List.getD_cons_succ, kIs] at hd
        refine ⟨fun _ => ?_, fun h => (h (by simp [hd])).elim⟩
        simp only [putD, List.getD_cons_zero, List.getD_cons_succ, Act.put, hd]
        go_simp
        exact ⟨_, rfl, Below.refl _ _, by first | rfl | (simp only [kIs]; done) | (simp only [kIs]; rw [W35.out]) | (simp only [kIs]; rw [W36.out]) | (simp only [kIs]; rw [W45.out]) | (simp only [kIs]; rw [W07.out]) | (simp only [kIs]; rw [W30.out]) | (simp only [kIs]; rw [W34.out])⟩
      · intro us w1 hb hd
        simp only [List.mem_cons, List.not_mem_nil, or_false, forall_eq, List.getD_cons_zero, List.getD_cons_succ, kIs] at hd
        refine ⟨fun _ => ?_, fun h => (h (by simp [hd])).elim⟩
        simp only [putD, List.getD_cons_zero, List.getD_cons_succ, Act.put, hd]
        go_simp
        exact ⟨_, rfl, Below.refl _ _, by first | rfl | (simp only [kIs]; done) | (simp only [kIs]; rw [W35.out]) | (simp only [kIs]; rw [W36.out]) | (simp only [kIs]; rw [W45.out]) | (simp only [kIs]; rw [W07.out]) | (simp only [kIs]; rw [W30.out]) | (simp only [kIs]; rw [W34.out])⟩
      · intro us w1 hb hd
        simp only [List.mem_cons, List.not_mem_nil, or_false, forall_eq_or_imp, forall_eq, List.getD_cons_zero, List.getD_cons_succ, kIs] at hd
        refine ⟨fun _ => ?_, fun h => (h (by simp [hd])).elim⟩
        simp only [putD, List.getD_cons_zero, List.getD_cons_succ, Act.put, hd]
        go_simp
        exact ⟨_, rfl, Below.refl _ _, by first | rfl | (simp only [kIs]; done) | (simp only [kIs]; rw [W35.out]) | (simp only [kIs]; rw [W36.out]) | (simp only [kIs]; rw [W45.out]) | (simp only [kIs]; rw [W07.out]) | (simp only [kIs]; rw [W30.out]) | (simp only [kIs]; rw [W34.out])⟩
      · intro us w1 hb hd
        simp only [List.mem_cons, List.not_mem_nil, or_false, forall_eq_or_imp, forall_eq, List.getD_cons_zero, List.getD_cons_succ, kIs] at hd
        simp only [putD, List.getD_cons_zero, List.getD_cons_succ, Act.put, hd]
        go_simp
        exact ⟨_, rfl, Below.refl _ _, by first | rfl | (simp only [kIs]; done) | (simp only [kIs]; rw [W35.out]) | (simp only [kIs]; rw [W36.out]) | (simp only [kIs]; rw [W45.out]) | (simp only [kIs]; rw [W07.out]) | (simp only [kIs]; rw [W30.out]) | (simp only [kIs]; rw [W34.out])⟩
      · intro us w1 hb hd
        simp only [List.mem_cons, List.not_mem_nil, or_false, forall_eq, List.getD_cons_zero, List.getD_cons_succ, kIs] at hd
        simp only [putD, List.getD_cons_zero, List.getD_cons_succ, Act.put, hd]
        go_simp
        exact ⟨_, rfl, Below.refl _ _, by first | rfl | (simp only [kIs]; done) | (simp only [kIs]; rw [W35.out]) | (simp only [kIs]; rw [W36.out]) | (simp only [kIs]; rw [W45.out]) | (simp only [kIs]; rw [W07.out]) | (simp only [kIs]; rw [W30.out]) | (simp only [kIs]; rw [W34.out])⟩
      · intro us w1 hb hd
        simp only [List.mem_cons, List.not_mem_nil, or_false, forall_eq, List.getD_cons_zero, List.getD_cons_succ, kIs] at hd
        refine ⟨fun _ => ?_, fun h => (h (by simp [hd])).elim⟩
        simp only [putD, List.getD_cons_zero, List.getD_cons_succ, Act.put, hd]
        go_simp
        exact ⟨_, rfl, Below.refl _ _, by first | rfl | (simp only [kIs]; done) | (simp only [kIs]; rw [W35.out]) | (simp only [kIs]; rw [W36.out]) | (simp only [kIs]; rw [W45.out]) | (simp only [kIs]; rw [W07.out]) | (simp only [kIs]; rw [W30.out]) | (simp only [kIs]; rw [W34.out])⟩
      · intro us w1 hb hd
        simp only [List.mem_cons, List.not_mem_nil, or_false, forall_eq_or_imp, forall_eq, List.getD_cons_zero, List.getD_cons_succ, kIs] at hd
        refine ⟨fun _ => ?_, fun h => (h (by simp [hd])).elim⟩
        simp only [putD, List.getD_cons_zero, List.getD_cons_succ, Act.put, hd]
        go_simp
        exact ⟨_, rfl, Below.refl _ _, by first | rfl | (simp only [kIs]; done) | (simp only [kIs]; rw [W35.out]) | (simp only [kIs]; rw [W36.out]) | (simp only [kIs]; rw [W45.out]) | (simp only [kIs]; rw [W07.out]) | (simp only [kIs]; rw [W30.out]) | (simp only [kIs]; rw [W34.out])⟩
      · intro us w1 hb hd
        simp only [List.mem_cons, List.not_mem_nil, or_false, forall_eq_or_imp, forall_eq, List.getD_cons_zero, List.getD_cons_succ, kIs] at hd
        refine ⟨fun _ => ?_, fun h => (h (by simp [hd])).elim⟩
        simp only [putD, List.getD_cons_zero, List.getD_cons_succ, Act.put, hd]
        have d0' := (hb.cell (World.block_lt_of_cell? _ _ C2.out)).trans C2.out
        go_simp
        exact ⟨_, rfl, Below.refl _ _, by first | rfl | (simp only [kIs]; done) | (simp only [kIs]; rw [W35.out]) | (simp only [kIs]; rw [W36.out]) | (simp only [kIs]; rw [W45.out]) | (simp only [kIs]; rw [W07.out]) | (simp only [kIs]; rw [W30.out]) | (simp only [kIs]; rw [W34.out])⟩
      · intro us w1 hb hd
        simp only [List.mem_cons, List.not_mem_nil, or_false, forall_eq_or_imp, forall_eq, List.getD_cons_zero, List.getD_cons_succ, kIs] at hd
        refine ⟨fun _ => ?_, fun h => (h (by simp [hd])).elim⟩
        simp only [putD, List.getD_cons_zero, List.getD_cons_succ, Act.put, hd]
        go_simp
        exact ⟨_, rfl, Below.refl _ _, by first | rfl | (simp only [kIs]; done) | (simp only [kIs]; rw [W35.out]) | (simp only [kIs]; rw [W36.out]) | (simp only [kIs]; rw [W45.out]) | (simp only [kIs]; rw [W07.out]) | (simp only [kIs]; rw [W30.out]) | (simp only [kIs]; rw [W34.out])⟩
      · intro us w1 hb hd
        simp only [List.mem_cons, List.not_mem_nil, or_false, forall_eq, List.getD_cons_zero, List.getD_cons_succ, kIs] at hd
        refine ⟨fun _ => ?_, fun h => (h (by simp [hd])).elim⟩
        simp only [putD, List.getD_cons_zero, List.getD_cons_succ, Act.put, hd]
        go_simp
        exact ⟨_, rfl, Below.refl _ _, by first | rfl | (simp only [kIs]; done) | (simp only [kIs]; rw [W35.out]) | (simp only [kIs]; rw [W36.out]) | (simp only [kIs]; rw [W45.out]) | (simp only [kIs]; rw [W07.out]) | (simp only [kIs]; rw [W30.out]) | (simp only [kIs]; rw [W34.out])⟩
      · intro us w1 hb hd
        simp only [List.mem_cons, List.not_mem_nil, or_false, forall_eq_or_imp, forall_eq, List.getD_cons_zero, List.getD_cons_succ, kIs] at hd
        refine ⟨fun _ => ?_, fun h => (h (by simp [hd])).elim⟩
        simp only [putD, List.getD_cons_zero, List.getD_cons_succ, Act.put, hd]
        go_simp
        exact ⟨_, rfl, Below.refl _ _, by first | rfl | (simp only [kIs]; done) | (simp only [kIs]; rw [W35.out]) | (simp only [kIs]; rw [W36.out]) | (simp only [kIs]; rw [W45.out]) | (simp only [kIs]; rw [W07.out]) | (simp only [kIs]; rw [W30.out]) | (simp only [kIs]; rw [W34.out])⟩
      · intro us w1 hb hd
        simp only [List.mem_cons, List.not_mem_nil, or_false, forall_eq_or_imp, forall_eq, List.getD_cons_zero, List.getD_cons_succ, kIs] at hd
        refine ⟨fun _ => ?_, fun h => (h (by simp [hd])).elim⟩
        simp only [putD, List.getD_cons_zero, List.getD_cons_succ, Act.put, hd]
        have d0' := (hb.cell (World.block_lt_of_cell? _ _ C3.out)).trans C3.out
        go_simp
        exact ⟨_, rfl, Below.refl _ _, by first | rfl | (simp only [kIs]; done) | (simp only [kIs]; rw [W35.out]) | (simp only [kIs]; rw [W36.out]) | (simp only [kIs]; rw [W45.out]) | (simp only [kIs]; rw [W07.out]) | (simp only [kIs]; rw [W30.out]) | (simp only [kIs]; rw [W34.out])⟩
      · intro us w1 hb hd
        simp only [List.mem_cons, List.not_mem_nil, or_false, forall_eq_or_imp, forall_eq, List.getD_cons_zero, List.getD_cons_succ, kIs] at hd
        refine ⟨fun _ => ?_, fun h => (h (by simp [hd])).elim⟩
        simp only [putD, List.getD_cons_zero, List.getD_cons_succ, Act.put, hd]
        go_simp
        exact ⟨_, rfl, Below.refl _ _, by first | rfl | (simp only [kIs]; done) | (simp only [kIs]; rw [W35.out]) | (simp only [kIs]; rw [W36.out]) | (simp only [kIs]; rw [W45.out]) | (simp only [kIs]; rw [W07.out]) | (simp only [kIs]; rw [W30.out]) | (simp only [kIs]; rw [W34.out])⟩
      · intro us w1 hb hd
        simp only [List.mem_cons, List.not_mem_nil, or_false, forall_eq_or_imp, forall_eq, List.getD_cons_zero, List.getD_cons_succ, kIs] at hd
        refine ⟨fun _ => ?_, fun h => (h (by simp [hd])).elim⟩
        simp only [putD, List.getD_cons_zero, List.getD_cons_succ, Act.put, hd]
        go_simp
        exact ⟨_, rfl, Below.refl _ _, by first | rfl | (simp only [kIs]; done) | (simp only [kIs]; rw [W35.out]) | (simp only [kIs]; rw [W36.out]) | (simp only [kIs]; rw [W45.out]) | (simp only [kIs]; rw [W07.out]) | (simp only [kIs]; rw [W30.out]) | (simp only [kIs]; rw [W34.out])⟩
      · intro us w1 hb hd
        simp only [List.mem_cons, List.not_mem_nil, or_false, forall_eq_or_imp, forall_eq, List.getD_cons_zero, List.getD_cons_succ, kIs] at hd
        refine ⟨fun _ => ?_, fun h => (h (by simp [hd])).elim⟩
        simp only [putD, List.getD_cons_zero, List.getD_cons_succ, Act.put, hd]
        go_simp
        exact ⟨_, rfl, Below.refl _ _, by first | rfl | (simp only [kIs]; done) | (simp only [kIs]; rw [W35.out]) | (simp only [kIs]; rw [W36.out]) | (simp only [kIs]; rw [W45.out]) | (simp only [kIs]; rw [W07.out]) | (simp only [kIs]; rw [W30.out]) | (simp only [kIs]; rw [W34.out])⟩
      · intro us w1 hb hd
        simp only [List.mem_cons, List.not_mem_nil, or_false, forall_eq, List.getD_cons_zero, List.getD_cons_succ, kIs] at hd
        refine ⟨fun _ => ?_, fun h => (h (by simp [hd])).elim⟩
        simp only [putD, List.getD_cons_zero, List.getD_cons_succ, Act.put, hd]
        go_simp
        exact ⟨_, rfl, Below.refl _ _, by first | rfl | (simp only [kIs]; done) | (simp only [kIs]; rw [W35.out]) | (simp only [kIs]; rw [W36.out]) | (simp only [kIs]; rw [W45.out]) | (simp only [kIs]; rw [W07.out]) | (simp only [kIs]; rw [W30.out]) | (simp only [kIs]; rw [W34.out])⟩
      · intro us w1 hb hd
        simp only [List.mem_cons, List.not_mem_nil, or_false, forall_eq_or_imp, forall_eq, List.getD_cons_zero, List.getD_cons_succ, kIs] at hd
        refine ⟨fun _ => ?_, fun h => (h (by simp [hd])).elim⟩
        simp only [putD, List.getD_cons_zero, List.getD_cons_succ, Act.put, hd]
        go_simp
        exact ⟨_, rfl, Below.refl _ _, by first | rfl | (simp only [kIs]; done) | (simp only [kIs]; rw [W35.out]) | (simp only [kIs]; rw [W36.out]) | (simp only [kIs]; rw [W45.out]) | (simp only [kIs]; rw [W07.out]) | (simp only [kIs]; rw [W30.out]) | (simp only [kIs]; rw [W34.out])⟩
      · intro us w1 hb hd
        simp only [List.mem_cons, List.not_mem_nil, or_false, forall_eq_or_imp, forall_eq, List.getD_cons_zero, List.getD_cons_succ, kIs] at hd
        refine ⟨fun _ => ?_, fun h => (h (by simp [hd])).elim⟩
        simp only [putD, List.getD_cons_zero, List.getD_cons_succ, Act.put, hd]
        go_simp
        exact ⟨_, rfl, Below.refl _ _, by first | rfl | (simp only [kIs]; done) | (simp only [kIs]; rw [W35.out]) | (simp only [kIs]; rw [W36.out]) | (simp only [kIs]; rw [W45.out]) | (simp only [kIs]; rw [W07.out]) | (simp only [kIs]; rw [W30.out]) | (simp only [kIs]; rw [W34.out])⟩
      · intro us w1 hb hd
        simp only [List.mem_cons, List.not_mem_nil, or_false, forall_eq_or_imp, forall_eq, List.getD_cons_zero, List.getD_cons_succ, kIs] at hd
        simp only [putD, List.getD_cons_zero, List.getD_cons_succ, Act.put, hd]
        go_simp
        exact ⟨_, rfl, Below.refl _ _, by first | rfl | (simp only [kIs]; done) | (simp only [kIs]; rw [W35.out]) | (simp only [kIs]; rw [W36.out]) | (simp only [kIs]; rw [W45.out]) | (simp only [kIs]; rw [W07.out]) | (simp only [kIs]; rw [W30.out]) | (simp only [kIs]; rw [W34.out])⟩
      · intro us w1 hb hd
        simp only [List.mem_cons, List.not_mem_nil, or_false, forall_eq, List.getD_cons_zero, List.getD_cons_succ, kIs] at hd
        simp only [putD, List.getD_cons_zero, List.getD_cons_succ, Act.put, hd]
        go_simp
        exact ⟨_, rfl, Below.refl _ _, by first | rfl | (simp only [kIs]; done) | (simp only [kIs]; rw [W35.out]) | (simp only [kIs]; rw [W36.out]) | (simp only [kIs]; rw [W45.out]) | (simp only [kIs]; rw [W07.out]) | (simp only [kIs]; rw [W30.out]) | (simp only [kIs]; rw [W34.out])⟩
      · intro us w1 hb hd
        simp only [List.mem_cons, List.not_mem_nil, or_false, forall_eq, List.getD_cons_zero, List.getD_cons_succ, kIs] at hd
        refine ⟨fun _ => ?_, fun h => (h (by simp [hd])).elim⟩
        simp only [putD, List.getD_cons_zero, List.getD_cons_succ, Act.put, hd]
        go_simp
        exact ⟨_, rfl, Below.refl _ _, by first | rfl | (simp only [kIs]; done) | (simp only [kIs]; rw [W35.out]) | (simp only [kIs]; rw [W36.out]) | (simp only [kIs]; rw [W45.out]) | (simp only [kIs]; rw [W07.out]) | (simp only [kIs]; rw [W30.out]) | (simp only [kIs]; rw [W34.out])⟩
      · intro us w1 hb hd
        simp only [List.mem_cons, List.not_mem_nil, or_false, forall_eq, List.getD_cons_zero, List.getD_cons_succ, kIs] at hd
        refine ⟨fun _ => ?_, fun h => (h (by simp [hd])).elim⟩
        simp only [putD, List.getD_cons_zero, List.getD_cons_succ, Act.put, hd]
        go_simp
        exact ⟨_, rfl, Below.refl _ _, by first | rfl | (simp only [kIs]; done) | (simp only [kIs]; rw [W35.out]) | (simp only [kIs]; rw [W36.out]) | (simp only [kIs]; rw [W45.out]) | (simp only [kIs]; rw [W07.out]) | (simp only [kIs]; rw [W30.out]) | (simp only [kIs]; rw [W34.out])⟩
      · intro us w1 hb hd
        simp only [List.mem_cons, List.not_mem_nil, or_false, forall_eq_or_imp, forall_eq, List.getD_cons_zero, List.getD_cons_succ, kIs] at hd
        refine ⟨fun _ => ?_, fun h => (h (by simp [hd])).elim⟩
        simp only [putD, List.getD_cons_zero, List.getD_cons_succ, Act.put, hd]
        go_simp
        exact ⟨_, rfl, Below.refl _ _, by first | rfl | (simp only [kIs]; done) | (simp only [kIs]; rw [W35.out]) | (simp only [kIs]; rw [W36.out]) | (simp only [kIs]; rw [W45.out]) | (simp only [kIs]; rw [W07.out]) | (simp only [kIs]; rw [W30.out]) | (simp only [kIs]; rw [W34.out])⟩
      · intro us w1 hb hd
        simp only [List.mem_cons, List.not_mem_nil, or_false, forall_eq_or_imp, forall_eq, List.getD_cons_zero, List.getD_cons_succ, kIs] at hd
        refine ⟨fun _ => ?_, fun h => (h (by simp [hd])).elim⟩
        simp only [putD, List.getD_cons_zero, List.getD_cons_succ, Act.put, hd]
        go_simp
        exact ⟨_, rfl, Below.refl _ _, by first | rfl | (simp only [kIs]; done) | (simp only [kIs]; rw [W35.out]) | (simp only [kIs]; rw [W36.out]) | (simp only [kIs]; rw [W45.out]) | (simp only [kIs]; rw [W07.out]) | (simp only [kIs]; rw [W30.out]) | (simp only [kIs]; rw [W34.out])⟩
      · intro us w1 hb hd
        simp only [List.mem_cons, List.not_mem_nil, or_false, forall_eq_or_imp, forall_eq, List.getD_cons_zero, List.getD_cons_succ, kIs] at hd
        refine ⟨fun _ => ?_, fun h => (h (by simp [hd])).elim⟩
        simp only [putD, List.getD_cons_zero, List.getD_cons_succ, Act.put, hd]
        have m0 : (0 : Int) ≤ 12 + (l.length : Int) := by omega
        have m1 : (12 : Int) ≤ max (12 + (l.length : Int)) 0 := by omega
        have m2 : (12 + (l.length : Int)).toNat - 12 = l.length := by omega
        have m3 : max (12 + (l.length : Int)) 0 = 12 + (l.length : Int) := by omega
        have m4 : (12 : Int) ≤ 12 + (l.length : Int) := by omega
        go_simp
        exact ⟨_, rfl, Below.refl _ _, by first | rfl | (simp only [kIs]; done) | (simp only [kIs]; rw [W35.out]) | (simp only [kIs]; rw [W36.out]) | (simp only [kIs]; rw [W45.out]) | (simp only [kIs]; rw [W07.out]) | (simp only [kIs]; rw [W30.out]) | (simp only [kIs]; rw [W34.out])⟩
      · intro us w1 hb hd
        simp only [List.mem_cons, List.not_mem_nil, or_false, forall_eq, List.getD_cons_zero, List.getD_cons_succ, kIs] at hd
        refine ⟨fun _ => ?_, fun h => (h (by simp [hd])).elim⟩
        simp only [putD, List.getD_cons_zero, List.getD_cons_succ, Act.put, hd]
        go_simp
        exact ⟨_, rfl, Below.refl _ _, by first | rfl | (simp only [kIs]; done) | (simp only [kIs]; rw [W35.out]) | (simp only [kIs]; rw [W36.out]) | (simp only [kIs]; rw [W45.out]) | (simp only [kIs]; rw [W07.out]) | (simp only [kIs]; rw [W30.out]) | (simp only [kIs]; rw [W34.out])⟩
      · intro us w1 hb hd
        simp only [List.mem_cons, List.not_mem_nil, or_false, forall_eq_or_imp, forall_eq, List.getD_cons_zero, List.getD_cons_succ, kIs] at hd
        refine ⟨fun _ => ?_, fun h => (h (by simp [hd])).elim⟩
        simp only [putD, List.getD_cons_zero, List.getD_cons_succ, Act.put, hd]
        go_simp
        refine (same_yes _ _ l _ (HSM.out.below hb) (HB.out.below (below_step hw2 hb))).mono ?_
        rintro e w9 ⟨rfl, hb9⟩
        exact ⟨_, rfl, hb9, rfl⟩
      · intro us w1 hb hd
        simp only [List.mem_cons, List.not_mem_nil, or_false, forall_eq_or_imp, forall_eq, List.getD_cons_zero, List.getD_cons_succ, kIs] at hd
        refine ⟨fun _ => ?_, fun h => (h (by simp [hd])).elim⟩
        simp only [putD, List.getD_cons_zero, List.getD_cons_succ, Act.put, hd]
        go_simp
        exact ⟨_, rfl, Below.refl _ _, by first | rfl | (simp only [kIs]; done) | (simp only [kIs]; rw [W35.out]) | (simp only [kIs]; rw [W36.out]) | (simp only [kIs]; rw [W45.out]) | (simp only [kIs]; rw [W07.out]) | (simp only [kIs]; rw [W30.out]) | (simp only [kIs]; rw [W34.out])⟩
      · intro us w1 hb hd
        simp only [List.mem_cons, List.not_mem_nil, or_false, forall_eq_or_imp, forall_eq, List.getD_cons_zero, List.getD_cons_succ, kIs] at hd
        simp only [putD, List.getD_cons_zero, List.getD_cons_succ, Act.put, hd]
        go_simp
        exact ⟨_, rfl, Below.refl _ _, by first | rfl | (simp only [kIs]; done) | (simp only [kIs]; rw [W35.out]) | (simp only [kIs]; rw [W36.out]) | (simp only [kIs]; rw [W45.out]) | (simp only [kIs]; rw [W07.out]) | (simp only [kIs]; rw [W30.out]) | (simp only [kIs]; rw [W34.out])⟩
    intro us w3 hb hp
    have h50 := hp 50 (by simp)
    simp only [List.getD_cons_zero, List.getD_cons_succ, kIs] at h50
    rw [show List.range 51 = [0, 1, 2, 3, 4, 5, 6, 7, 8, 9, 10, 11, 12, 13, 14, 15, 16, 17, 18, 19, 20, 21, 22, 23, 24, 25, 26, 27, 28, 29, 30, 31, 32, 33, 34, 35, 36, 37, 38, 39, 40, 41, 42, 43, 44, 45, 46, 47, 48, 49, 50] from rfl]
    simp only [putD, List.getD_cons_zero, List.getD_cons_succ, Act.put, List.setIfInBounds_toArray, List.set_cons_zero, List.set_cons_succ, h50]
    clear hp h50
    have HBX3 := Lib.hid (box_below HBX2.out hb)
    have hw3 := below_step hw2 hb
    clear hb hw2 HBX2 HSM C0 C1 C2 C3
    go_wp2_with fail
    clear HN HV0 HF4 P0 P1 P2 P3 PB PK D0 D1 W35 W36 W45 W07 W30 W34 hx0 hx1 HP HK hkk
    go_loopw [11] (fun i wr => ∃ j : Nat, 12 + l.length ≤ j ∧ j ≤ 256 ∧ i = .int .i64 j ∧ Below w3.heap.size w3 wr) (fun i _ => 256 - (intOf i).toNat)
    case atStart => exact ⟨12 + l.length, Nat.le_refl _, by omega, by go_num, Below.refl _ _⟩
    case round =>
      obtain ⟨j, hj0, hj, rfl, hnx⟩ := hrel
      by_cases hlt : j < 256
      · have hc : wr.cell? ⟨g, j, none⟩ = some (.int .u8 0) := page_cell (box_below HBX3.out hnx) j 0 (PZ.out j hj0 hlt)
        have r0 : (0 : Int) ≤ (j : Int) := by omega
        have r1 : (j : Int) < 256 := by omega
        go_wp2_with fail
        go_roundw
        case rel => exact ⟨j + 1, by omega, by omega, by go_num, hnx⟩
        case measure => simp [intOf]; omega
      · obtain rfl : j = 256 := by omega
        go_wp2_with fail
        go_ret
        exact ⟨rfl, hw3.trans (hnx.mono hw3.size)⟩
  · obtain ⟨K, hKe⟩ : ∃ K, pgCode no kind l = K := ⟨_, rfl⟩
    have hPe : pgPack no kind l = [] := by unfold pgPack; rw [if_neg hK]
    rw [hKe] at hK
    have HK := Lib.hid hKe
    have HP := Lib.hid hPe
    have hkb : ((K : Int) != 0) = true := by rw [bne_iff_ne]; omega
    clear hKe hK B w0 hPe
    go_enter Try.func11, Try.ntmps11
    go_wp2_with fail
    refine (pagePack_any no kind _ l _ HB.out a0 a1).mono ?_
    rintro e w1 ⟨v1, rfl, hv, hx1⟩
    rw [HK.out]
    rw [HP.out] at hv
    obtain rfl : v1 = .slice none 0 0 := by
      rcases hv with ⟨h, _⟩ | ⟨_, _, _, h, _⟩
      · exact h
      · simp at h
    clear hv
    go_wp2_with fail
    refine (awake05_any _).mono ?_
    rintro e w2 ⟨rfl, hx2⟩
    go_wp2_with fail
    refine (awake05_any _).mono ?_
    rintro e w3 ⟨rfl, hx3⟩
    go_wp2_with fail
    go_ret
    exact ⟨rfl, below_step (below_step hx1 hx2) hx3⟩
end Go.Proofs.Ytdekfbmjhmfmaaa
