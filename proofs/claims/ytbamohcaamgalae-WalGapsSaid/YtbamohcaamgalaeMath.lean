/- Frames and their sums: the plain laws. No program in sight. -/
import Derived.WalkKit
namespace Go.Proofs.Ytbamohcaamgalae
set_option linter.unusedVariables false
set_option linter.unusedSimpArgs false

/-- one halving of a sum -/
def crcStep (s : Nat) : Nat := s / 2 ^^^ (if s % 2 = 1 then 3988292384 else 0)
def crcSteps : Nat → Nat → Nat
  | 0, s => s
  | n + 1, s => crcSteps n (crcStep s)
def crcByte (s : Nat) (c : UInt8) : Nat := crcSteps 8 (s ^^^ c.toNat)
def crcRun (s : Nat) (l : List UInt8) : Nat := l.foldl crcByte s
def sum (l : List UInt8) : Nat := crcRun 4294967295 l ^^^ 4294967295
def four (v : Nat) : List UInt8 := [UInt8.ofNat (v / 16777216), UInt8.ofNat (v / 65536), UInt8.ofNat (v / 256), UInt8.ofNat v]
def num (l : List UInt8) : Nat := (((l.getD 0 0).toNat * 256 + (l.getD 1 0).toNat) * 256 + (l.getD 2 0).toNat) * 256 + (l.getD 3 0).toNat
def seal_ (p : List UInt8) : List UInt8 := four p.length ++ four (sum p) ++ p
def payload (l : List UInt8) : List UInt8 := (l.take (8 + num l)).drop 8
/-- 7: too short; 8: another sum; 0: a frame -/
def nextE (l : List UInt8) : Nat := if l.length < 8 ∨ l.length - 8 < num l then 7 else if sum (payload l) = num (l.drop 4) then 0 else 8

theorem xor_lt32 {a b : Nat} (ha : a < 4294967296) (hb : b < 4294967296) : a ^^^ b < 4294967296 := by
  have := Nat.xor_lt_two_pow (n := 32) (x := a) (y := b) (by omega) (by omega)
  omega
theorem crcStep_lt (s : Nat) (h : s < 4294967296) : crcStep s < 4294967296 := by
  unfold crcStep
  refine xor_lt32 (by omega) (by split <;> omega)
theorem crcSteps_lt (n : Nat) : ∀ s, s < 4294967296 → crcSteps n s < 4294967296 := by
  induction n with
  | zero => exact fun s h => h
  | succ n ih => exact fun s h => ih _ (crcStep_lt s h)
theorem u8_lt32 (c : UInt8) : c.toNat < 4294967296 := by have := c.toNat_lt; omega
theorem crcByte_lt (s : Nat) (c : UInt8) (h : s < 4294967296) : crcByte s c < 4294967296 := crcSteps_lt 8 _ (xor_lt32 h (u8_lt32 c))
theorem crcRun_lt (l : List UInt8) : ∀ s, s < 4294967296 → crcRun s l < 4294967296 := by
  induction l with
  | nil => exact fun s h => h
  | cons c r ih => exact fun s h => ih _ (crcByte_lt s c h)
theorem sum_lt (l : List UInt8) : sum l < 4294967296 := xor_lt32 (crcRun_lt l _ (by decide)) (by decide)
theorem crcRun_snoc (s : Nat) (l : List UInt8) (c : UInt8) : crcRun s (l ++ [c]) = crcByte (crcRun s l) c := by simp [crcRun]
theorem crcSteps_snoc (n : Nat) : ∀ s, crcSteps (n + 1) s = crcStep (crcSteps n s) := by
  induction n with
  | zero => exact fun s => rfl
  | succ n ih => exact fun s => ih (crcStep s)
theorem crcSteps_add (m n : Nat) : ∀ s, crcSteps (m + n) s = crcSteps n (crcSteps m s) := by
  induction m with
  | zero => exact fun s => by rw [Nat.zero_add]; rfl
  | succ m ih => exact fun s => by rw [Nat.succ_add]; exact ih (crcStep s)
theorem xor_div2 (a b : Nat) : (a ^^^ b) / 2 = a / 2 ^^^ b / 2 := by
  apply Nat.eq_of_testBit_eq
  intro i
  rw [Nat.testBit_xor, ← Nat.testBit_succ, ← Nat.testBit_succ, ← Nat.testBit_succ, Nat.testBit_xor]
theorem xor_mod2 (a b : Nat) : (a ^^^ b) % 2 = (a % 2 + b % 2) % 2 := by
  have h : ∀ x : Nat, x % 2 = (x.testBit 0).toNat := fun x => by
    rw [Nat.testBit_zero]; rcases Nat.mod_two_eq_zero_or_one x with hx | hx <;> simp [hx]
  rw [h, h a, h b, Nat.testBit_xor]
  cases a.testBit 0 <;> cases b.testBit 0 <;> rfl
theorem xor4 (a b c d : Nat) : (a ^^^ b) ^^^ (c ^^^ d) = (a ^^^ c) ^^^ (b ^^^ d) := by
  rw [Nat.xor_assoc, Nat.xor_assoc, ← Nat.xor_assoc b c d, Nat.xor_comm b c, Nat.xor_assoc c b d]
theorem crcStep_xor (a b : Nat) : crcStep (a ^^^ b) = crcStep a ^^^ crcStep b := by
  unfold crcStep
  rw [xor_div2, xor_mod2, xor4]
  congr 1
  rcases Nat.mod_two_eq_zero_or_one a with ha | ha <;> rcases Nat.mod_two_eq_zero_or_one b with hb | hb <;> simp [ha, hb]
theorem crcSteps_xor (n : Nat) : ∀ a b, crcSteps n (a ^^^ b) = crcSteps n a ^^^ crcSteps n b := by
  induction n with
  | zero => exact fun a b => rfl
  | succ n ih => exact fun a b => by rw [crcSteps, crcStep_xor]; exact ih _ _
theorem crcSteps_shift (n : Nat) : ∀ m, crcSteps n (m * 2 ^ n) = m := by
  induction n with
  | zero => exact fun m => by rw [crcSteps]; omega
  | succ n ih =>
    intro m
    have e : m * 2 ^ (n + 1) = m * 2 ^ n * 2 := by rw [Nat.pow_succ, Nat.mul_assoc]
    rw [crcSteps, crcStep, e, Nat.mul_div_cancel _ (by decide), Nat.mul_mod_left]
    simp only [Nat.zero_ne_one, ↓reduceIte, Nat.xor_zero]
    exact ih m
theorem crcStep_zero (s : Nat) (h : s < 4294967296) (h0 : crcStep s = 0) : s = 0 := by
  unfold crcStep at h0
  split at h0
  · have e : s / 2 = 3988292384 := by
      have := congrArg (· ^^^ 3988292384) h0
      simpa [Nat.xor_assoc] using this
    omega
  · rw [Nat.xor_zero] at h0
    omega
theorem crcSteps_ne (n : Nat) : ∀ s, s < 4294967296 → s ≠ 0 → crcSteps n s ≠ 0 := by
  induction n with
  | zero => exact fun s _ h => h
  | succ n ih => exact fun s hs h => ih _ (crcStep_lt s hs) (fun h0 => h (crcStep_zero s hs h0))
/-- a burst of bits within 32 places is seen -/
theorem burst (n k d : Nat) (hk : k ≤ n) (hd : d < 4294967296) (h : d ≠ 0) : crcSteps n (d * 2 ^ k) ≠ 0 := by
  obtain ⟨m, rfl⟩ : ∃ m, n = k + m := ⟨n - k, by omega⟩
  rw [crcSteps_add, crcSteps_shift]
  exact crcSteps_ne m d hd h

/-- bytes as one number, the first byte the lowest -/
def low : List UInt8 → Nat
  | [] => 0
  | c :: r => c.toNat + 256 * low r
theorem xor_mul256 (a c : Nat) (hc : c < 256) : c + 256 * a = (a * 2 ^ 8) ^^^ c := by
  apply Nat.eq_of_testBit_eq
  intro i
  have e : c + 256 * a = 2 ^ 8 * a + c := by omega
  rw [e, Nat.testBit_two_pow_mul_add a (by omega : c < 2 ^ 8), Nat.testBit_xor, Nat.testBit_mul_two_pow]
  by_cases hi : i < 8
  · have : ¬ 8 ≤ i := by omega
    simp [hi, this]
  · rw [if_neg hi, Nat.testBit_lt_two_pow (x := c) (i := i) (Nat.lt_of_lt_of_le hc (by have := Nat.pow_le_pow_right (n := 2) (by decide) (show 8 ≤ i by omega); omega))]
    simp [show 8 ≤ i by omega]
theorem crcRun_low (l : List UInt8) : ∀ s, crcRun s l = crcSteps (8 * l.length) (s ^^^ low l) := by
  induction l with
  | nil => intro s; simp [crcRun, low, crcSteps]
  | cons c r ih =>
    intro s
    have e : crcRun s (c :: r) = crcRun (crcByte s c) r := rfl
    rw [e, ih, low, xor_mul256 (low r) c.toNat (by have := c.toNat_lt; omega), List.length_cons, show 8 * (r.length + 1) = 8 + 8 * r.length by omega, crcSteps_add]
    congr 1
    rw [crcByte, Nat.xor_comm (low r * 2 ^ 8), ← Nat.xor_assoc, crcSteps_xor 8 (s ^^^ c.toNat), crcSteps_shift]
/-- what each byte does to a sum -/
theorem crcByte_table (s : Nat) (c : UInt8) : crcByte s c = s / 256 ^^^ crcSteps 8 (s % 256 ^^^ c.toNat) := by
  have e : s = (s / 256 * 2 ^ 8) ^^^ (s % 256) := by
    rw [← xor_mul256 (s / 256) (s % 256) (by omega)]; omega
  have e2 : crcByte s c = crcSteps 8 ((s / 256 * 2 ^ 8) ^^^ (s % 256) ^^^ c.toNat) := by rw [← e]; rfl
  rw [e2, Nat.xor_assoc, crcSteps_xor, crcSteps_shift]
end Go.Proofs.Ytbamohcaamgalae
