/- Plain laws of the common checksum of 32 bits: its step, its run over bytes, the joining of sums, the product of two sums. No program is named here. -/
namespace OctCrc
/-- a sum halved once -/
def st (s : Nat) : Nat := if s % 2 = 1 then (s / 2) ^^^ 3988292384 else s / 2
/-- n times -/
def sts : Nat → Nat → Nat
  | 0, s => s
  | n + 1, s => sts n (st s)
theorem sts_add (n m s : Nat) : sts (n + m) s = sts m (sts n s) := by
  induction n generalizing s with
  | zero => simp [sts]
  | succ n ih => rw [Nat.succ_add]; simp [sts, ih]
theorem sts_succ' (n s : Nat) : sts (n + 1) s = st (sts n s) := by
  rw [sts_add]; rfl
theorem xor_half (a b : Nat) : (a ^^^ b) / 2 = (a / 2) ^^^ (b / 2) := by
  apply Nat.eq_of_testBit_eq; intro i
  rw [← Nat.testBit_succ, Nat.testBit_xor, Nat.testBit_xor, Nat.testBit_succ, Nat.testBit_succ]
theorem xor_mod (a b : Nat) : (a ^^^ b) % 2 = (a % 2 + b % 2) % 2 := by
  have h := Nat.testBit_xor (x := a) (y := b) (i := 0)
  rw [Nat.testBit_zero, Nat.testBit_zero, Nat.testBit_zero] at h
  rcases Nat.mod_two_eq_zero_or_one a with ha | ha <;> rcases Nat.mod_two_eq_zero_or_one b with hb | hb <;>
    rcases Nat.mod_two_eq_zero_or_one (a ^^^ b) with hc | hc <;> simp_all
theorem st_xor (a b : Nat) : st (a ^^^ b) = st a ^^^ st b := by
  unfold st
  rw [xor_mod, xor_half]
  rcases Nat.mod_two_eq_zero_or_one a with ha | ha <;> rcases Nat.mod_two_eq_zero_or_one b with hb | hb <;> simp [ha, hb]
  · rw [Nat.xor_assoc]
  · rw [Nat.xor_assoc, Nat.xor_comm (b/2), ← Nat.xor_assoc]
  · rw [Nat.xor_assoc, Nat.xor_comm 3988292384, Nat.xor_assoc, Nat.xor_self, Nat.xor_zero]
theorem sts_xor (n a b : Nat) : sts n (a ^^^ b) = sts n a ^^^ sts n b := by
  induction n generalizing a b with
  | zero => rfl
  | succ n ih => simp [sts, st_xor, ih]
theorem st_lt (s : Nat) (h : s < 4294967296) : st s < 4294967296 := by
  unfold st; split
  · exact Nat.xor_lt_two_pow (n := 32) (by omega) (by decide)
  · omega
theorem sts_lt (n s : Nat) (h : s < 4294967296) : sts n s < 4294967296 := by
  induction n generalizing s with
  | zero => exact h
  | succ n ih => exact ih _ (st_lt _ h)
theorem st_inj (a b : Nat) (ha : a < 4294967296) (hb : b < 4294967296) (h : st a = st b) : a = b := by
  have tb : ∀ x, x < 4294967296 → (st x).testBit 31 = decide (x % 2 = 1) := by
    intro x hx
    unfold st
    have hz : (x / 2).testBit 31 = false := Nat.testBit_lt_two_pow (by omega)
    split
    · rename_i h1; rw [Nat.testBit_xor, hz, h1]; decide
    · rename_i h1; rw [hz]; simp [h1]
  have h1 := tb a ha
  have h2 := tb b hb
  rw [h, h2] at h1
  have hm : a % 2 = b % 2 := by
    have := decide_eq_decide.1 h1; omega
  unfold st at h
  by_cases ho : a % 2 = 1
  · rw [if_pos ho, if_pos (hm ▸ ho)] at h
    have : a / 2 = b / 2 := by
      have := congrArg (· ^^^ 3988292384) h
      simpa [Nat.xor_assoc, Nat.xor_self] using this
    omega
  · rw [if_neg ho, if_neg (hm ▸ ho)] at h; omega
theorem sts_inj (n a b : Nat) (ha : a < 4294967296) (hb : b < 4294967296) (h : sts n a = sts n b) : a = b := by
  induction n generalizing a b with
  | zero => exact h
  | succ n ih => exact st_inj _ _ ha hb (ih _ _ (st_lt _ ha) (st_lt _ hb) h)
/-- a sum that runs over bytes, no inversions -/
def run (s : Nat) (l : List UInt8) : Nat := l.foldl (fun s b => sts 8 (s ^^^ b.toNat)) s
theorem run_nil (s : Nat) : run s [] = s := rfl
theorem run_cons (s : Nat) (b : UInt8) (l : List UInt8) : run s (b :: l) = run (sts 8 (s ^^^ b.toNat)) l := rfl
theorem run_append (s : Nat) (l m : List UInt8) : run s (l ++ m) = run (run s l) m := by simp [run]
theorem run_snoc (s : Nat) (l : List UInt8) (b : UInt8) : run s (l ++ [b]) = sts 8 (run s l ^^^ b.toNat) := by simp [run]
theorem xor_byte_lt (s : Nat) (b : UInt8) (h : s < 4294967296) : s ^^^ b.toNat < 4294967296 :=
  Nat.xor_lt_two_pow (n := 32) h (by have := b.toNat_lt; omega)
theorem run_lt (s : Nat) (l : List UInt8) (h : s < 4294967296) : run s l < 4294967296 := by
  induction l generalizing s with
  | nil => exact h
  | cons b l ih => exact ih _ (sts_lt _ _ (xor_byte_lt _ _ h))
/-- the common sum -/
def crc (l : List UInt8) : Nat := run 4294967295 l ^^^ 4294967295
theorem crc_lt (l : List UInt8) : crc l < 4294967296 := Nat.xor_lt_two_pow (n := 32) (run_lt _ _ (by decide)) (by decide)
theorem run_xor (l : List UInt8) (s t : Nat) : run (s ^^^ t) l = run s l ^^^ sts (8 * l.length) t := by
  induction l generalizing s t with
  | nil => rfl
  | cons b l ih =>
    rw [run_cons, run_cons, show s ^^^ t ^^^ b.toNat = (s ^^^ b.toNat) ^^^ t by rw [Nat.xor_assoc, Nat.xor_comm t, Nat.xor_assoc], sts_xor, ih]
    rw [← sts_add, List.length_cons]
    congr 2
    omega
/-- joined sums -/
def join (a b n : Nat) : Nat := sts (8 * n) a ^^^ b
theorem join_lt (a b n : Nat) (ha : a < 4294967296) (hb : b < 4294967296) : join a b n < 4294967296 :=
  Nat.xor_lt_two_pow (n := 32) (sts_lt _ _ ha) hb
theorem crc_join (x y : List UInt8) : join (crc x) (crc y) y.length = crc (x ++ y) := by
  unfold join crc
  rw [run_append, sts_xor]
  have h1 := run_xor y 4294967295 0
  have e1 : run (run 4294967295 x) y = run 0 y ^^^ sts (8 * y.length) (run 4294967295 x) := by
    have := run_xor y 0 (run 4294967295 x); rwa [Nat.zero_xor] at this
  have e2 : run 4294967295 y = run 0 y ^^^ sts (8 * y.length) 4294967295 := by
    have := run_xor y 0 4294967295; rwa [Nat.zero_xor] at this
  rw [e1, e2]
  generalize sts (8 * y.length) (run 4294967295 x) = A
  generalize sts (8 * y.length) 4294967295 = B
  generalize run 0 y = C
  generalize 4294967295 = D
  rw [show A ^^^ B ^^^ (C ^^^ B ^^^ D) = A ^^^ C ^^^ D ^^^ (B ^^^ B) by ac_nf, Nat.xor_self, Nat.xor_zero, Nat.xor_comm A C]
theorem join_join (a b c n m : Nat) : join (join a b n) c m = join a (join b c m) (n + m) := by
  unfold join
  rw [sts_xor, ← sts_add, Nat.mul_add, Nat.xor_assoc]
theorem run_inj (l : List UInt8) (s t : Nat) (hs : s < 4294967296) (ht : t < 4294967296) (h : run s l = run t l) : s = t := by
  induction l generalizing s t with
  | nil => exact h
  | cons b l ih =>
    have h1 := sts_inj 8 _ _ (xor_byte_lt _ _ hs) (xor_byte_lt _ _ ht) (ih _ _ (sts_lt _ _ (xor_byte_lt _ _ hs)) (sts_lt _ _ (xor_byte_lt _ _ ht)) h)
    have := congrArg (· ^^^ b.toNat) h1
    simpa [Nat.xor_assoc, Nat.xor_self] using this
theorem crc_turned (x y : List UInt8) (b c : UInt8) (h : b ≠ c) : crc (x ++ b :: y) ≠ crc (x ++ c :: y) := by
  intro he
  unfold crc at he
  have h1 : run 4294967295 (x ++ b :: y) = run 4294967295 (x ++ c :: y) := by
    have := congrArg (· ^^^ 4294967295) he
    simpa [Nat.xor_assoc, Nat.xor_self] using this
  rw [run_append, run_append, run_cons, run_cons] at h1
  have hr := run_lt 4294967295 x (by decide)
  have h2 := run_inj y _ _ (sts_lt _ _ (xor_byte_lt _ _ hr)) (sts_lt _ _ (xor_byte_lt _ _ hr)) h1
  have h3 := sts_inj 8 _ _ (xor_byte_lt _ _ hr) (xor_byte_lt _ _ hr) h2
  have h4 : b.toNat = c.toNat := by
    have := congrArg (run 4294967295 x ^^^ ·) h3
    simpa [← Nat.xor_assoc, Nat.xor_self] using this
  exact h (UInt8.toNat_inj.1 h4)
/-- three runs over lists of one length -/
theorem run_mix : ∀ (x y z : List UInt8) (s t u : Nat), x.length = y.length → y.length = z.length →
    run s x ^^^ run t y ^^^ run u z = run (s ^^^ t ^^^ u) (List.zipWith (fun p c => p ^^^ c) (List.zipWith (fun a b => a ^^^ b) x y) z)
  | [], [], [], _, _, _, _, _ => rfl
  | a :: x, b :: y, c :: z, s, t, u, h1, h2 => by
    simp only [run_cons, List.zipWith_cons_cons]
    rw [run_mix x y z _ _ _ (by simpa using h1) (by simpa using h2), ← sts_xor, ← sts_xor]
    congr 2
    rw [UInt8.toNat_xor, UInt8.toNat_xor]
    ac_nf
theorem crc_mix (x y z : List UInt8) (h1 : x.length = y.length) (h2 : y.length = z.length) :
    crc x ^^^ crc y ^^^ crc z = crc (List.zipWith (fun p c => p ^^^ c) (List.zipWith (fun a b => a ^^^ b) x y) z) := by
  unfold crc
  have := run_mix x y z 4294967295 4294967295 4294967295 h1 h2
  rw [Nat.xor_self, Nat.zero_xor] at this
  rw [← this]
  generalize run 4294967295 x = A
  generalize run 4294967295 y = B
  generalize run 4294967295 z = C
  generalize 4294967295 = D
  rw [show A ^^^ D ^^^ (B ^^^ D) ^^^ (C ^^^ D) = A ^^^ B ^^^ C ^^^ D ^^^ (D ^^^ D) by ac_nf, Nat.xor_self, Nat.xor_zero]

/-! ### the product of two sums -/
/-- the product's loop: so many bits of a are left, from this bit down -/
def timesFrom (a : Nat) : Nat → Nat → Nat → Nat
  | 0, out, _ => out
  | k + 1, out, b => timesFrom a k (if a.testBit k then out ^^^ b else out) (st b)
def times (a b : Nat) : Nat := timesFrom a 32 0 b
theorem timesFrom_out (a k out b : Nat) : timesFrom a k out b = out ^^^ timesFrom a k 0 b := by
  induction k generalizing out b with
  | zero => simp [timesFrom]
  | succ k ih =>
    unfold timesFrom
    rw [ih (if a.testBit k then out ^^^ b else out), ih (if a.testBit k then 0 ^^^ b else 0)]
    split <;> simp [Nat.xor_assoc]
theorem timesFrom_succ (a k b : Nat) : timesFrom a (k + 1) 0 b = (if a.testBit k then b else 0) ^^^ timesFrom a k 0 (st b) := by
  rw [timesFrom, timesFrom_out]; simp
theorem timesFrom_st (a k b : Nat) : timesFrom a k 0 (st b) = st (timesFrom a k 0 b) := by
  induction k generalizing b with
  | zero => simp [timesFrom, st]
  | succ k ih =>
    rw [timesFrom_succ, timesFrom_succ, st_xor, ih]
    split
    · rfl
    · simp [st]
theorem timesFrom_sts (a k n b : Nat) : timesFrom a k 0 (sts n b) = sts n (timesFrom a k 0 b) := by
  induction n generalizing b with
  | zero => rfl
  | succ n ih => rw [sts, ih, timesFrom_st, sts]
theorem timesFrom_xor (a c k b : Nat) : timesFrom (a ^^^ c) k 0 b = timesFrom a k 0 b ^^^ timesFrom c k 0 b := by
  induction k generalizing b with
  | zero => simp [timesFrom]
  | succ k ih =>
    rw [timesFrom_succ, timesFrom_succ, timesFrom_succ, ih, Nat.testBit_xor]
    cases a.testBit k <;> cases c.testBit k <;> simp
    · ac_nf
    · ac_nf
    · rw [show b ^^^ timesFrom a k 0 (st b) ^^^ (b ^^^ timesFrom c k 0 (st b)) = (b ^^^ b) ^^^ (timesFrom a k 0 (st b) ^^^ timesFrom c k 0 (st b)) by ac_nf, Nat.xor_self, Nat.zero_xor]
/-- half of a number: its product is the other's moved once -/
theorem timesFrom_half (a k b : Nat) (h : a < 2 ^ (k + 1)) (h0 : a % 2 = 0) : timesFrom (a / 2) (k + 1) 0 b = timesFrom a (k + 1) 0 (st b) := by
  have hd : ∀ k b, timesFrom (a / 2) k 0 b = timesFrom a (k + 1) 0 b ^^^ (if a.testBit 0 then sts k b else 0) := by
    intro k
    induction k with
    | zero => intro b; simp [timesFrom, sts]
    | succ k ih =>
      intro b
      rw [timesFrom_succ, ih, timesFrom_succ a (k + 1), ← Nat.testBit_succ]
      rw [sts, Nat.xor_assoc]
  rw [timesFrom_succ]
  have : (a / 2).testBit k = false := Nat.testBit_lt_two_pow (by rw [Nat.pow_succ] at h; omega)
  rw [this, hd]
  have : a.testBit 0 = false := by rw [Nat.testBit_zero]; simp [h0]
  simp [this]
theorem timesFrom_none (a k b : Nat) (h : ∀ j, j < k → a.testBit j = false) : timesFrom a k 0 b = 0 := by
  induction k generalizing b with
  | zero => rfl
  | succ k ih =>
    rw [timesFrom_succ, ih _ (fun j hj => h j (by omega)), h k (by omega)]
    simp
theorem times_one (b : Nat) : times 2147483648 b = b := by
  unfold times
  rw [timesFrom_succ, timesFrom_none _ 31]
  · rw [if_pos (by decide)]; simp
  · intro j hj
    have : (2147483648 : Nat) = 2 ^ 31 := by decide
    rw [this, Nat.testBit_two_pow_of_ne (by omega)]
theorem st_two_pow (k : Nat) : st (2 ^ (k + 1)) = 2 ^ k := by
  unfold st
  have : 2 ^ (k + 1) % 2 = 0 := by rw [Nat.pow_succ]; omega
  rw [if_neg (by omega), Nat.pow_succ, Nat.mul_div_cancel _ (by decide)]
theorem timesFrom_unit (a k : Nat) : timesFrom a (k + 1) 0 (2 ^ k) = a % 2 ^ (k + 1) := by
  have split : ∀ k, a % 2 ^ (k + 1) = (if a.testBit k then 2 ^ k else 0) ^^^ a % 2 ^ k := by
    intro k
    apply Nat.eq_of_testBit_eq
    intro i
    rw [Nat.testBit_xor, Nat.testBit_mod_two_pow, Nat.testBit_mod_two_pow]
    by_cases hi : i = k
    · subst hi
      cases h : a.testBit i <;> simp
    · have h1 : (if a.testBit k then 2 ^ k else 0).testBit i = false := by
        split
        · exact Nat.testBit_two_pow_of_ne (by omega)
        · exact Nat.zero_testBit i
      rw [h1, Bool.false_xor]
      by_cases h2 : i < k
      · simp [h2, show i < k + 1 by omega]
      · simp [h2, show ¬ i < k + 1 by omega]
  induction k with
  | zero => rw [timesFrom_succ, split 0]; simp [timesFrom, Nat.mod_one]
  | succ k ih => rw [timesFrom_succ, st_two_pow, ih, split (k + 1)]
theorem times_unit (a : Nat) (h : a < 4294967296) : times a 2147483648 = a := by
  have := timesFrom_unit a 31
  rw [Nat.mod_eq_of_lt (by omega)] at this
  exact this
/-- what is linear and goes with the step goes with the product -/
theorem timesFrom_lin (f : Nat → Nat) (h0 : f 0 = 0) (hx : ∀ a b, f (a ^^^ b) = f a ^^^ f b) (hs : ∀ b, f (st b) = st (f b)) (a k b : Nat) :
    f (timesFrom a k 0 b) = timesFrom a k 0 (f b) := by
  induction k generalizing b with
  | zero => exact h0
  | succ k ih =>
    rw [timesFrom_succ, timesFrom_succ, hx, ih, hs]
    split
    · rfl
    · rw [h0]
theorem timesFrom_add (a k b c : Nat) : timesFrom a k 0 (b ^^^ c) = timesFrom a k 0 b ^^^ timesFrom a k 0 c := by
  induction k generalizing b c with
  | zero => simp [timesFrom]
  | succ k ih =>
    rw [timesFrom_succ, timesFrom_succ, timesFrom_succ, st_xor, ih]
    split
    · ac_nf
    · simp
theorem timesFrom_zero (a k : Nat) : timesFrom a k 0 0 = 0 := by
  induction k with
  | zero => rfl
  | succ k ih => rw [timesFrom_succ]; simp [st, ih]
theorem times_poly (b : Nat) (h : b < 4294967296) : times 3988292384 b = sts 32 b := by
  have e : times 3988292384 2147483648 = sts 32 2147483648 := by decide +kernel
  have h1 := timesFrom_lin (times 3988292384) (timesFrom_zero _ _) (fun a b => timesFrom_add _ _ a b) (fun b => timesFrom_st _ _ b) b 32 2147483648
  have h2 := timesFrom_lin (sts 32) (by decide) (sts_xor 32) (fun b => by rw [← sts_succ' 32 b]; rfl) b 32 2147483648
  have hu := times_unit b h
  unfold times at hu
  rw [hu] at h1 h2
  rw [h1, h2, e]
theorem times_st (p b : Nat) (hp : p < 4294967296) (hb : b < 4294967296) : times (st p) b = st (times p b) := by
  have heven : ∀ q, q < 4294967296 → q % 2 = 0 → times (q / 2) b = st (times q b) := by
    intro q hq h0
    unfold times
    rw [timesFrom_half q 31 b (by omega) h0, timesFrom_st]
  rcases Nat.mod_two_eq_zero_or_one p with h | h
  · have := heven p hp h
    rw [show st p = p / 2 by simp [st, h]]; exact this
  · have hq : p = (p - 1) ^^^ 1 := by
      apply Nat.eq_of_testBit_eq
      intro i
      rw [Nat.testBit_xor]
      cases i with
      | zero => rw [Nat.testBit_zero, Nat.testBit_zero]; have : (p - 1) % 2 = 0 := by omega
                simp [h, this]
      | succ i => rw [Nat.testBit_succ, Nat.testBit_succ, Nat.testBit_succ, show (p - 1) / 2 = p / 2 by omega]; simp
    have e1 : st p = ((p - 1) / 2) ^^^ 3988292384 := by
      rw [show (p - 1) / 2 = p / 2 by omega]; simp [st, h]
    have e2 : times 1 b = sts 31 b := by
      have := timesFrom_half 2 31 (sts 30 b) (by decide) (by decide)
      have t : ∀ k b, timesFrom 1 (k + 1) 0 b = sts k b := by
        intro k
        induction k with
        | zero => intro b; simp [timesFrom, sts]
        | succ k ih => intro b; rw [timesFrom_succ, ih, sts]; simp [Nat.testBit_succ]
      exact t 31 b
    rw [e1]
    have hx := timesFrom_xor ((p - 1) / 2) 3988292384 32 b
    have hy := timesFrom_xor (p - 1) 1 32 b
    rw [← hq] at hy
    have hz := heven (p - 1) (by omega) (by omega)
    have hw := times_poly b hb
    unfold times at *
    rw [hx, hy, hz, hw, st_xor, e2, ← sts_succ']
theorem times_sts (k b : Nat) (hb : b < 4294967296) : times (sts k 2147483648) b = sts k b := by
  induction k with
  | zero => exact times_one b
  | succ k ih => rw [sts_succ', times_st _ _ (sts_lt _ _ (by decide)) hb, ih, ← sts_succ']
/-- the joining's loop: the power is that of m bytes, n groups of m bytes are left -/
theorem join_odd (a m n : Nat) (h : n % 2 = 1) (ha : a < 4294967296) :
    sts (8 * (2 * m) * (n / 2)) (times (sts (8 * m) 2147483648) a) = sts (8 * m * n) a := by
  rw [times_sts _ _ ha, ← sts_add]
  congr 1
  have : n = 2 * (n / 2) + 1 := by omega
  generalize n / 2 = k at *
  subst this
  rw [Nat.mul_add, Nat.mul_one, Nat.add_comm]; congr 1; rw [Nat.mul_left_comm 8 2 m, Nat.mul_comm 2 (8 * m), Nat.mul_assoc, Nat.mul_assoc]
theorem join_even (a m n : Nat) (h : n % 2 = 0) : sts (8 * (2 * m) * (n / 2)) a = sts (8 * m * n) a := by
  congr 1
  have : n = 2 * (n / 2) := by omega
  generalize n / 2 = k at *
  subst this
  rw [Nat.mul_left_comm 8 2 m, Nat.mul_comm 2 (8 * m), Nat.mul_assoc, Nat.mul_assoc]
theorem join_square (m : Nat) : times (sts (8 * m) 2147483648) (sts (8 * m) 2147483648) = sts (8 * (2 * m)) 2147483648 := by
  rw [times_sts _ _ (sts_lt _ _ (by decide)), ← sts_add]; congr 1; omega
theorem join_first : sts (8 * 1) 2147483648 = 8388608 := by decide
theorem and_bit (a j : Nat) : a &&& 2 ^ j = if a.testBit j then 2 ^ j else 0 := by
  apply Nat.eq_of_testBit_eq
  intro i
  rw [Nat.testBit_and, Nat.testBit_two_pow]
  by_cases hi : j = i
  · subst hi; cases h : a.testBit j <;> simp
  · cases h : a.testBit j <;> simp [hi]
end OctCrc
