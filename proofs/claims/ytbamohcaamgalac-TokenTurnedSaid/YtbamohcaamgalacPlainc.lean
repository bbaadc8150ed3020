/- Tokens: the plain laws. No program in sight. -/
import Derived.Test.YtbamohcaamgalacPlain
namespace Go.Proofs.Ytbamohcaamgalac
set_option linter.unusedVariables false
set_option linter.unusedSimpArgs false

/-- a number of bytes, the highest byte first -/
def numB (l : List UInt8) : Nat := l.foldl (fun s c => s * 256 + c.toNat) 0
def eight (v : Nat) : List UInt8 := [UInt8.ofNat (v / 72057594037927936), UInt8.ofNat (v / 281474976710656), UInt8.ofNat (v / 1099511627776), UInt8.ofNat (v / 4294967296), UInt8.ofNat (v / 16777216), UInt8.ofNat (v / 65536), UInt8.ofNat (v / 256), UInt8.ofNat v]
def head12 (id rev : Nat) : List UInt8 := four id ++ eight rev
def made (id rev : Nat) : List UInt8 := head12 id rev ++ four (sum (head12 id rev))
def signs : List UInt8 := [97, 98, 99, 100, 101, 102, 103, 104, 105, 106, 107, 108, 109, 110, 111, 112, 113, 114, 115, 116, 117, 118, 119, 120, 121, 122, 50, 51, 52, 53, 54, 55]
def sign (v : Nat) : UInt8 := signs.getD v 0
def isSign (c : UInt8) : Bool := signs.contains c
def val (c : UInt8) : Nat := if isSign c = true then (if c < 97 then c.toNat - 24 else c.toNat - 97) else 0
/-- the text of bytes of which X is the number -/
def textN (X : Nat) : List UInt8 := (List.range 26).map fun i => sign (X * 4 / 2 ^ (5 * (25 - i)) % 32)
def text (l : List UInt8) : List UInt8 := textN (numB l)
/-- the number of signs, five bits each -/
def numS (s : List UInt8) : Nat := s.foldl (fun z c => z * 32 + val c) 0
def outB (Z : Nat) : List UInt8 := (List.range 16).map fun q => UInt8.ofNat (Z / 2 ^ (122 - 8 * q) % 256)
def gotId (s : List UInt8) : Nat := numB ((outB (numS s)).take 4)
def gotRev (s : List UInt8) : Nat := numB (((outB (numS s)).drop 4).take 8)
/-- 9: no token's form; 8: another sum; 0: a token -/
def readE (s : List UInt8) : Nat :=
  if s.length = 26 ∧ s.all isSign = true ∧ numS s % 4 = 0 then (if made (gotId s) (gotRev s) = outB (numS s) then 0 else 8) else 9

theorem length_eight (v : Nat) : (eight v).length = 8 := rfl
theorem length_head (id rev : Nat) : (head12 id rev).length = 12 := rfl
theorem length_made (id rev : Nat) : (made id rev).length = 16 := rfl
theorem length_textN (X : Nat) : (textN X).length = 26 := by simp [textN]
theorem length_outB (Z : Nat) : (outB Z).length = 16 := by simp [outB]

/-! ### numbers and their parts -/
theorem div_pow_succ (X a b : Nat) : X / 2 ^ (a + b) = X / 2 ^ a / 2 ^ b := by rw [Nat.pow_add, Nat.div_div_eq_div_mul]
theorem mod_mod_pow (X a b : Nat) (h : a ≤ b) : X % 2 ^ b % 2 ^ a = X % 2 ^ a := Nat.mod_mod_of_dvd X (Nat.pow_dvd_pow 2 h)
theorem mod_div_pow (X a b : Nat) (h : a ≤ b) : X % 2 ^ b / 2 ^ a = X / 2 ^ a % 2 ^ (b - a) := by
  obtain ⟨k, rfl⟩ : ∃ k, b = a + k := ⟨b - a, by omega⟩
  rw [Nat.add_sub_cancel_left, Nat.pow_add, Nat.mod_mul_right_div_self]
/-- k bits more below -/
theorem more_bits (Y n k : Nat) : (Y / 2 ^ k % 2 ^ n) * 2 ^ k + Y % 2 ^ k = Y % 2 ^ (n + k) := by
  rw [Nat.add_comm n k, Nat.pow_add, Nat.mod_mul, Nat.mul_comm (2 ^ k), Nat.add_comm]

theorem numB_snoc (l : List UInt8) (c : UInt8) : numB (l ++ [c]) = numB l * 256 + c.toNat := by simp [numB]
theorem foldB (l : List UInt8) : ∀ s, l.foldl (fun s c => s * 256 + c.toNat) s = s * 2 ^ (8 * l.length) + numB l := by
  induction l with
  | nil => intro s; simp [numB]
  | cons c r ih =>
    intro s
    have e : numB (c :: r) = r.foldl (fun s c => s * 256 + c.toNat) (0 * 256 + c.toNat) := rfl
    rw [e, ih, List.foldl_cons, ih, List.length_cons, show 8 * (r.length + 1) = 8 + 8 * r.length by omega, Nat.pow_add, Nat.add_mul, Nat.mul_assoc, Nat.zero_mul, Nat.zero_add, Nat.add_assoc]
theorem numB_append (l r : List UInt8) : numB (l ++ r) = numB l * 2 ^ (8 * r.length) + numB r := by
  rw [numB, List.foldl_append, foldB]; rfl
theorem numB_cons (c : UInt8) (r : List UInt8) : numB (c :: r) = c.toNat * 2 ^ (8 * r.length) + numB r := by
  have := numB_append [c] r
  simpa [numB] using this
theorem numB_lt (l : List UInt8) : numB l < 2 ^ (8 * l.length) := by
  induction l with
  | nil => decide
  | cons c r ih =>
    rw [numB_cons, List.length_cons, show 8 * (r.length + 1) = 8 + 8 * r.length by omega, Nat.pow_add]
    have hc := c.toNat_lt
    have : c.toNat * 2 ^ (8 * r.length) + 2 ^ (8 * r.length) ≤ 256 * 2 ^ (8 * r.length) := by
      rw [← Nat.succ_mul]; exact Nat.mul_le_mul_right _ (by omega)
    have e : (2 : Nat) ^ 8 = 256 := rfl
    rw [e]
    omega
/-- byte q of bytes, out of their number -/
theorem byte_at (l : List UInt8) : ∀ q, q < l.length → (l.getD q 0).toNat = numB l / 2 ^ (8 * (l.length - 1 - q)) % 256 := by
  induction l with
  | nil => intro q h; cases h
  | cons c r ih =>
    intro q h
    cases q with
    | zero =>
      have e : (c :: r).getD 0 0 = c := rfl
      have hr := numB_lt r
      have hc := c.toNat_lt
      rw [e, numB_cons, List.length_cons, Nat.sub_zero, Nat.add_sub_cancel, Nat.mul_comm, Nat.mul_add_div (Nat.two_pow_pos _), Nat.div_eq_of_lt hr, Nat.add_zero, Nat.mod_eq_of_lt hc]
    | succ q =>
      have e : (c :: r).getD (q + 1) 0 = r.getD q 0 := by simp
      have hq : q < r.length := by simpa using h
      rw [e, ih q hq, numB_cons, List.length_cons, show r.length + 1 - 1 - (q + 1) = r.length - 1 - q by omega]
      have e2 : c.toNat * 2 ^ (8 * r.length) = 2 ^ (8 * (r.length - 1 - q)) * (c.toNat * 2 ^ (8 * q) * 256) := by
        rw [show 8 * r.length = 8 * (r.length - 1 - q) + (8 * q + 8) by omega, Nat.pow_add, Nat.pow_add, show (2 : Nat) ^ 8 = 256 from rfl]
        rw [← Nat.mul_assoc, Nat.mul_comm c.toNat, Nat.mul_assoc, Nat.mul_assoc]
      rw [e2, Nat.mul_add_div (Nat.two_pow_pos _), Nat.mul_add_mod_self_right]

/-! ### writing: five bits after five bits -/
/-- what is left of j bytes behind the signs: n bits -/
def rest (X j n : Nat) : Nat := X / 2 ^ (128 - 8 * j) % 2 ^ n
theorem rest_lt (X j n : Nat) : rest X j n < 2 ^ n := Nat.mod_lt _ (Nat.two_pow_pos n)
theorem rest_more (l : List UInt8) (hl : l.length = 16) (j n : Nat) (hj : j < 16) : rest (numB l) j n * 256 + (l.getD j 0).toNat = rest (numB l) (j + 1) (n + 8) := by
  rw [byte_at l j (by omega), hl, rest, rest, show 128 - 8 * j = 8 * (16 - 1 - j) + 8 by omega, show 128 - 8 * (j + 1) = 8 * (16 - 1 - j) by omega, div_pow_succ]
  exact more_bits _ n 8
theorem text_at (X t : Nat) (h : t < 26) : (textN X).getD t 0 = sign (X * 4 / 2 ^ (5 * (25 - t)) % 32) := by simp [textN, List.getD, h]
theorem text_take (X t : Nat) (h : t < 26) : (textN X).take (t + 1) = (textN X).take t ++ [sign (X * 4 / 2 ^ (5 * (25 - t)) % 32)] := by
  rw [List.take_succ_eq_append_getElem (by rw [length_textN]; exact h)]
  congr 2
  have := text_at X t h
  rw [List.getD_eq_getElem?_getD, List.getElem?_eq_getElem (by rw [length_textN]; exact h)] at this
  exact this
theorem rest_sign (X j n t : Nat) (hj : j ≤ 16) (hn : 8 * j = 5 * t + (n + 5)) : rest X j (n + 5) / 2 ^ n % 32 = X * 4 / 2 ^ (5 * (25 - t)) % 32 := by
  rw [rest, mod_div_pow _ _ _ (by omega), show n + 5 - n = 5 by omega, show (32 : Nat) = 2 ^ 5 from rfl, Nat.mod_mod, ← div_pow_succ]
  have ht : t ≤ 24 := by omega
  rw [show 5 * (25 - t) = 2 + (128 - 8 * j + n) by omega, div_pow_succ (X * 4) 2, show (2 : Nat) ^ 2 = 4 from rfl, Nat.mul_div_cancel _ (by decide)]
theorem rest_less (X j n : Nat) : rest X j (n + 5) % 2 ^ n = rest X j n := by rw [rest, mod_mod_pow _ _ _ (by omega)]; rfl
theorem rest_last (X : Nat) : rest X 16 3 * 4 % 32 = X * 4 / 2 ^ (5 * (25 - 25)) % 32 := by
  rw [rest]; simp; omega

/-! ### reading: eight bits after eight bits -/
theorem numS_snoc (s : List UInt8) (c : UInt8) : numS (s ++ [c]) = numS s * 32 + val c := by simp [numS]
theorem foldS (l : List UInt8) : ∀ s, l.foldl (fun z c => z * 32 + val c) s = s * 2 ^ (5 * l.length) + numS l := by
  induction l with
  | nil => intro s; simp [numS]
  | cons c r ih =>
    intro s
    have e : numS (c :: r) = r.foldl (fun z c => z * 32 + val c) (0 * 32 + val c) := rfl
    rw [e, ih, List.foldl_cons, ih, List.length_cons, show 5 * (r.length + 1) = 5 + 5 * r.length by omega, Nat.pow_add, Nat.add_mul, Nat.mul_assoc, Nat.zero_mul, Nat.zero_add, Nat.add_assoc]
theorem numS_append (l r : List UInt8) : numS (l ++ r) = numS l * 2 ^ (5 * r.length) + numS r := by
  rw [numS, List.foldl_append, foldS]; rfl
theorem numS_cons (c : UInt8) (r : List UInt8) : numS (c :: r) = val c * 2 ^ (5 * r.length) + numS r := by
  have := numS_append [c] r
  simpa [numS] using this
theorem val_all : ∀ c : UInt8, isSign c = true → val c < 32 ∧ sign (val c) = c := by
  have h : ∀ n : Fin 256, isSign (UInt8.ofNat n.val) = true → val (UInt8.ofNat n.val) < 32 ∧ sign (val (UInt8.ofNat n.val)) = UInt8.ofNat n.val := by decide +kernel
  intro c hc
  have := h ⟨c.toNat, c.toNat_lt⟩
  simp only [UInt8.ofNat_toNat] at this
  exact this hc
theorem sign_all : ∀ v, v < 32 → isSign (sign v) = true ∧ val (sign v) = v := by decide +kernel
theorem val_lt (c : UInt8) : val c < 32 := by
  cases h : isSign c with
  | true => exact (val_all c h).1
  | false => simp [val, h]
theorem numS_lt (s : List UInt8) : numS s < 2 ^ (5 * s.length) := by
  induction s with
  | nil => decide
  | cons c r ih =>
    rw [numS_cons, List.length_cons, show 5 * (r.length + 1) = 5 + 5 * r.length by omega, Nat.pow_add]
    have hc := val_lt c
    have : val c * 2 ^ (5 * r.length) + 2 ^ (5 * r.length) ≤ 32 * 2 ^ (5 * r.length) := by
      rw [← Nat.succ_mul]; exact Nat.mul_le_mul_right _ (by omega)
    have e : (2 : Nat) ^ 5 = 32 := rfl
    rw [e]
    omega
/-- what is left of i signs behind the bytes: n bits -/
def left (Z i n : Nat) : Nat := Z / 2 ^ (130 - 5 * i) % 2 ^ n
theorem left_lt (Z i n : Nat) : left Z i n < 2 ^ n := Nat.mod_lt _ (Nat.two_pow_pos n)
/-- sign i of signs, out of their number, where those behind it are signs too -/
def digit (Z i : Nat) : Nat := Z / 2 ^ (5 * (25 - i)) % 32
theorem left_more (Z i n : Nat) (hi : i < 26) : left Z i n * 32 + digit Z i = left Z (i + 1) (n + 5) := by
  rw [digit, left, left, show 130 - 5 * i = 5 * (25 - i) + 5 by omega, show 130 - 5 * (i + 1) = 5 * (25 - i) by omega, div_pow_succ]
  exact more_bits _ n 5
theorem out_at (Z q : Nat) (h : q < 16) : (outB Z).getD q 0 = UInt8.ofNat (Z / 2 ^ (122 - 8 * q) % 256) := by simp [outB, List.getD, h]
theorem out_take (Z q : Nat) (h : q < 16) : (outB Z).take (q + 1) = (outB Z).take q ++ [UInt8.ofNat (Z / 2 ^ (122 - 8 * q) % 256)] := by
  rw [List.take_succ_eq_append_getElem (by rw [length_outB]; exact h)]
  congr 2
  have := out_at Z q h
  rw [List.getD_eq_getElem?_getD, List.getElem?_eq_getElem (by rw [length_outB]; exact h)] at this
  exact this
theorem left_byte (Z i n q : Nat) (hi : i ≤ 26) (hn : 5 * i = 8 * q + (n + 8)) : left Z i (n + 8) / 2 ^ n % 256 = Z / 2 ^ (122 - 8 * q) % 256 := by
  rw [left, mod_div_pow _ _ _ (by omega), show n + 8 - n = 8 by omega, show (256 : Nat) = 2 ^ 8 from rfl, Nat.mod_mod, ← div_pow_succ, show 130 - 5 * i + n = 122 - 8 * q by omega]
theorem left_less (Z i n : Nat) : left Z i (n + 8) % 2 ^ n = left Z i n := by rw [left, mod_mod_pow _ _ _ (by omega)]; rfl
theorem left_last (Z : Nat) : left Z 26 2 = Z % 4 := by simp [left]
/-- the digit of a text of signs -/
theorem digit_at (s : List UInt8) : ∀ i, i < s.length → val (s.getD i 0) = numS s / 2 ^ (5 * (s.length - 1 - i)) % 32 := by
  induction s with
  | nil => intro q h; cases h
  | cons c r ih =>
    intro q h
    have hr := numS_lt r
    cases q with
    | zero =>
      have e : (c :: r).getD 0 0 = c := rfl
      have hc := val_lt c
      rw [e, numS_cons, List.length_cons, Nat.sub_zero, Nat.add_sub_cancel, Nat.mul_comm, Nat.mul_add_div (Nat.two_pow_pos _), Nat.div_eq_of_lt hr, Nat.add_zero, Nat.mod_eq_of_lt hc]
    | succ q =>
      have e : (c :: r).getD (q + 1) 0 = r.getD q 0 := by simp
      have hq : q < r.length := by simpa using h
      rw [e, ih q hq, numS_cons, List.length_cons, show r.length + 1 - 1 - (q + 1) = r.length - 1 - q by omega]
      have e2 : val c * 2 ^ (5 * r.length) = 2 ^ (5 * (r.length - 1 - q)) * (val c * 2 ^ (5 * q) * 32) := by
        rw [show 5 * r.length = 5 * (r.length - 1 - q) + (5 * q + 5) by omega, Nat.pow_add, Nat.pow_add, show (2 : Nat) ^ 5 = 32 from rfl]
        rw [← Nat.mul_assoc, Nat.mul_comm (val c), Nat.mul_assoc, Nat.mul_assoc]
      rw [e2, Nat.mul_add_div (Nat.two_pow_pos _), Nat.mul_add_mod_self_right]

/-! ### both ways -/
theorem ext8 (l l' : List UInt8) (h : l.length = l'.length) (hh : ∀ q, q < l.length → l.getD q 0 = l'.getD q 0) : l = l' := by
  apply List.ext_getElem h
  intro i h1 h2
  have := hh i h1
  rw [List.getD_eq_getElem?_getD, List.getElem?_eq_getElem h1, List.getD_eq_getElem?_getD, List.getElem?_eq_getElem h2] at this
  exact this
theorem out_bytes (l : List UInt8) (h : l.length = 16) : outB (numB l * 4) = l := by
  apply ext8 _ _ (by rw [length_outB, h])
  intro q hq
  rw [length_outB] at hq
  have e : numB l * 4 / 2 ^ (122 - 8 * q) % 256 = (l.getD q 0).toNat := by
    rw [byte_at l q (by omega), h, show 122 - 8 * q = 2 + 8 * (16 - 1 - q) by omega, div_pow_succ, show (2 : Nat) ^ 2 = 4 from rfl, Nat.mul_div_cancel _ (by decide)]
  rw [out_at _ q hq, e, UInt8.ofNat_toNat]
theorem numS_digits (Z : Nat) : ∀ n, (hZ : Z < 2 ^ (5 * n)) → numS ((List.range n).map fun i => sign (Z / 2 ^ (5 * (n - 1 - i)) % 32)) = Z := by
  intro n
  induction n generalizing Z with
  | zero => intro h; simp [numS] at *; omega
  | succ n ih =>
    intro h
    have e : ((List.range (n + 1)).map fun i => sign (Z / 2 ^ (5 * (n + 1 - 1 - i)) % 32)) = ((List.range n).map fun i => sign (Z / 32 / 2 ^ (5 * (n - 1 - i)) % 32)) ++ [sign (Z % 32)] := by
      rw [List.range_succ, List.map_append]
      congr 1
      · apply List.map_congr_left
        intro i hi
        have hi := List.mem_range.1 hi
        rw [show 5 * (n + 1 - 1 - i) = 5 + 5 * (n - 1 - i) by omega, div_pow_succ]
      · simp
    rw [e, numS_snoc, ih (Z / 32) (by rw [show 5 * (n + 1) = 5 * n + 5 by omega, Nat.pow_add] at h; have : (2 : Nat) ^ 5 = 32 := rfl; rw [this] at h; omega), (sign_all _ (Nat.mod_lt _ (by decide))).2]
    omega
theorem numS_text (l : List UInt8) (h : l.length = 16) : numS (text l) = numB l * 4 := by
  have hl := numB_lt l
  rw [h] at hl
  have := numS_digits (numB l * 4) 26 (by omega)
  exact this
theorem all_text (X : Nat) : (textN X).all isSign = true := by
  rw [textN, List.all_map, List.all_eq_true]
  intro i _
  exact (sign_all _ (Nat.mod_lt _ (by decide))).1
theorem toNat_ofNat8 (n : Nat) : (UInt8.ofNat n).toNat = n % 256 := UInt8.toNat_ofNat'
theorem four_num (a b c d : UInt8) : four (numB [a, b, c, d]) = [a, b, c, d] := by
  have ha := a.toNat_lt; have hb := b.toNat_lt; have hc := c.toNat_lt; have hd := d.toNat_lt
  have e : numB [a, b, c, d] = ((a.toNat * 256 + b.toNat) * 256 + c.toNat) * 256 + d.toNat := by simp [numB]
  rw [e, four]
  congr 1
  · apply UInt8.toNat_inj.1; rw [toNat_ofNat8]; omega
  congr 1
  · apply UInt8.toNat_inj.1; rw [toNat_ofNat8]; omega
  congr 1
  · apply UInt8.toNat_inj.1; rw [toNat_ofNat8]; omega
  congr 1
  · apply UInt8.toNat_inj.1; rw [toNat_ofNat8]; omega
theorem eight_num (a b c d e f g h : UInt8) : eight (numB [a, b, c, d, e, f, g, h]) = [a, b, c, d, e, f, g, h] := by
  have ha := a.toNat_lt; have hb := b.toNat_lt; have hc := c.toNat_lt; have hd := d.toNat_lt
  have ge := e.toNat_lt; have gf := f.toNat_lt; have gg := g.toNat_lt; have gh := h.toNat_lt
  have e0 : numB [a, b, c, d, e, f, g, h] = ((((((a.toNat * 256 + b.toNat) * 256 + c.toNat) * 256 + d.toNat) * 256 + e.toNat) * 256 + f.toNat) * 256 + g.toNat) * 256 + h.toNat := by simp [numB]
  rw [e0, eight]
  congr 1
  · apply UInt8.toNat_inj.1; rw [toNat_ofNat8]; omega
  congr 1
  · apply UInt8.toNat_inj.1; rw [toNat_ofNat8]; omega
  congr 1
  · apply UInt8.toNat_inj.1; rw [toNat_ofNat8]; omega
  congr 1
  · apply UInt8.toNat_inj.1; rw [toNat_ofNat8]; omega
  congr 1
  · apply UInt8.toNat_inj.1; rw [toNat_ofNat8]; omega
  congr 1
  · apply UInt8.toNat_inj.1; rw [toNat_ofNat8]; omega
  congr 1
  · apply UInt8.toNat_inj.1; rw [toNat_ofNat8]; omega
  congr 1
  · apply UInt8.toNat_inj.1; rw [toNat_ofNat8]; omega
theorem numB_four (v : Nat) (h : v < 4294967296) : numB (four v) = v := by
  simp only [numB, four, List.foldl_cons, List.foldl_nil, toNat_ofNat8]; omega
theorem numB_eight (v : Nat) (h : v < 18446744073709551616) : numB (eight v) = v := by
  simp only [numB, eight, List.foldl_cons, List.foldl_nil, toNat_ofNat8]; omega
theorem four_of (l : List UInt8) (h : l.length = 4) : four (numB l) = l := by
  match l, h with
  | [a, b, c, d], _ => exact four_num a b c d
theorem eight_of (l : List UInt8) (h : l.length = 8) : eight (numB l) = l := by
  match l, h with
  | [a, b, c, d, e, f, g, i], _ => exact eight_num a b c d e f g i
/-- the token of any sixteen bytes is refused, or tells them -/
theorem readE_text (l s : List UInt8) (hl : l.length = 12) (hs : s.length = 4) :
    readE (text (l ++ s)) = (if sum l = numB s then 0 else 8) ∧ gotId (text (l ++ s)) = numB (l.take 4) ∧ gotRev (text (l ++ s)) = numB (l.drop 4) := by
  have h16 : (l ++ s).length = 16 := by simp [hl, hs]
  have hn := numS_text (l ++ s) h16
  have ho := out_bytes (l ++ s) h16
  have h4 : ((l ++ s).take 4) = l.take 4 := by rw [List.take_append_of_le_length (by omega)]
  have h8 : (((l ++ s).drop 4).take 8) = l.drop 4 := by
    rw [List.drop_append_of_le_length (by omega), List.take_append_of_le_length (by rw [List.length_drop]; omega), List.take_of_length_le (by rw [List.length_drop]; omega)]
  have hi : gotId (text (l ++ s)) = numB (l.take 4) := by rw [gotId, hn, ho, h4]
  have hr : gotRev (text (l ++ s)) = numB (l.drop 4) := by rw [gotRev, hn, ho, h8]
  refine ⟨?_, hi, hr⟩
  have e1 := length_textN (numB (l ++ s))
  have e2 := all_text (numB (l ++ s))
  rw [readE, if_pos ⟨e1, e2, by rw [hn]; omega⟩, hi, hr, hn, ho]
  have hh : head12 (numB (l.take 4)) (numB (l.drop 4)) = l := by
    rw [head12, four_of _ (by rw [List.length_take]; omega), eight_of _ (by rw [List.length_drop]; omega), List.take_append_drop]
  rw [made, hh]
  by_cases e : sum l = numB s
  · rw [if_pos e, if_pos (by rw [e, four_of s hs])]
  · rw [if_neg e, if_neg]
    intro h
    have := List.append_cancel_left h
    rw [← this, numB_four _ (sum_lt l)] at e
    exact e rfl
/-- P33.2 -/
theorem readE_made (id rev : Nat) (hi : id < 4294967296) (hr : rev < 18446744073709551616) :
    readE (text (made id rev)) = 0 ∧ gotId (text (made id rev)) = id ∧ gotRev (text (made id rev)) = rev := by
  obtain ⟨h1, h2, h3⟩ := readE_text (head12 id rev) (four (sum (head12 id rev))) rfl rfl
  rw [numB_four _ (sum_lt _), if_pos rfl] at h1
  refine ⟨h1, h2.trans ?_, h3.trans ?_⟩
  · exact numB_four id hi
  · exact numB_eight rev hr
theorem readE_turned (id rev k d : Nat) (hk : k ≤ 96) :
    readE (text (turns (head12 id rev) k d 32 ++ four (sum (head12 id rev)))) = if turned 12 k d 32 = true then 8 else 0 := by
  obtain ⟨h1, _, _⟩ := readE_text (turns (head12 id rev) k d 32) (four (sum (head12 id rev))) (by rw [length_turns]; rfl) rfl
  rw [h1, numB_four _ (sum_lt _)]
  by_cases ht : turned 12 k d 32 = true
  · rw [if_pos ht, if_neg (sum_turns (head12 id rev) k d hk ht)]
  · have ht' : turned 12 k d 32 = false := by simpa using ht
    rw [if_neg ht, turns_same (head12 id rev) k d 32 ht', if_pos rfl]
end Go.Proofs.Ytbamohcaamgalac
