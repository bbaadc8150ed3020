/- The plain laws of the filters of keys: no program in sight. -/
import Derived.WalkKit
namespace Go.Proofs.Ytlhgjecbjfiljaa

def hstep (h : Nat) (c : UInt8) : Nat := ((h ^^^ c.toNat) * 1099511628211) % 18446744073709551616
def hash (l : List UInt8) : Nat := l.foldl hstep 14695981039346656037

theorem hstep_lt (h : Nat) (c : UInt8) : hstep h c < 18446744073709551616 := by unfold hstep; omega
theorem foldl_hstep_lt (l : List UInt8) : ∀ h, h < 18446744073709551616 → l.foldl hstep h < 18446744073709551616 := by
  induction l with
  | nil => intro h hh; exact hh
  | cons c l ih => intro h _; exact ih _ (hstep_lt h c)
theorem offset_lt : (14695981039346656037 : Nat) < 18446744073709551616 := by decide
theorem hash_lt (l : List UInt8) : hash l < 18446744073709551616 := by
  rw [hash]
  exact foldl_hstep_lt l 14695981039346656037 offset_lt
theorem foldl_snoc {α β : Type} (f : β → α → β) (z : β) (l : List α) (c : α) : (l ++ [c]).foldl f z = f (l.foldl f z) c := by simp
theorem hash_snoc (l : List UInt8) (c : UInt8) : hash (l ++ [c]) = hstep (hash l) c := foldl_snoc hstep _ l c
theorem take_snoc (s : ByteArray) (k : Nat) (h : k < s.size) : s.data.toList.take (k + 1) = s.data.toList.take k ++ [s[k]] := by
  rw [List.take_succ_eq_append_getElem (by simpa using h)]; rfl
theorem hash_take (s : ByteArray) (k : Nat) (h : k < s.size) : hash (s.data.toList.take (k + 1)) = hstep (hash (s.data.toList.take k)) s[k] := by
  rw [take_snoc s k h, hash_snoc]

theorem xor_lt (h : Nat) (c : UInt8) (hh : h < 18446744073709551616) : h ^^^ c.toNat < 18446744073709551616 := by
  have := Nat.xor_lt_two_pow (n := 64) (x := h) (y := c.toNat) (by omega) (by have := c.toNat_lt; omega)
  simpa using this

theorem times_eq (a b : Nat) (ha : a < 18446744073709551616) (hb : b < 18446744073709551616) :
    (a % 4294967296 * (b % 4294967296) / 4294967296 + (a % 4294967296 * (b / 4294967296) % 4294967296 + a / 4294967296 * (b % 4294967296) % 4294967296) % 4294967296) % 4294967296 * 4294967296 +
      a % 4294967296 * (b % 4294967296) % 4294967296 = a * b % 18446744073709551616 := by
  have e1 : a = a / 4294967296 * 4294967296 + a % 4294967296 := by omega
  have e2 : b = b / 4294967296 * 4294967296 + b % 4294967296 := by omega
  generalize a / 4294967296 = ah at *
  generalize a % 4294967296 = al at *
  generalize b / 4294967296 = bh at *
  generalize b % 4294967296 = bl at *
  subst e1 e2
  have e3 : (ah * 4294967296 + al) * (bh * 4294967296 + bl) = (ah * bh) * 18446744073709551616 + (al * bh + ah * bl) * 4294967296 + al * bl := by
    simp only [Nat.add_mul, Nat.mul_add]
    rw [show ah * 4294967296 * (bh * 4294967296) = (ah * bh) * 18446744073709551616 by rw [Nat.mul_mul_mul_comm],
      show al * (bh * 4294967296) = al * bh * 4294967296 by rw [Nat.mul_assoc], show ah * 4294967296 * bl = ah * bl * 4294967296 by rw [Nat.mul_right_comm]]
    omega
  rw [e3]
  generalize al * bh = p
  generalize ah * bl = q
  generalize al * bl = r
  generalize ah * bh = t
  omega

/-- the i-th place of a key whose hash is h, in so many bits -/
def place (h size i : Nat) : Nat := (h % 4294967296 + i * (h / 4294967296 ||| 1)) % size
def setBit (l : List UInt8) (p : Nat) : List UInt8 := l.set (p / 8) (l.getD (p / 8) 0 ||| UInt8.ofNat (2 ^ (p % 8)))
def setBits (h size : Nat) (l : List UInt8) : Nat → List UInt8
  | 0 => l
  | i + 1 => setBit (setBits h size l i) (place h size i)
def many (b : Int) : Nat := (min (max (69 * b / 100) 1) 30).toNat
def setKeys (size k : Nat) (l : List UInt8) : List (List UInt8) → List UInt8
  | [] => l
  | x :: r => setKeys size k (setBits (hash x) size l k) r
def clamp (b : Int) : Int := min (max b 1) 40
def bytesFor (n : Nat) (b : Int) : Nat := ((max ((n : Int) * b) 64 + 7) / 8).toNat
def filter (keys : List (List UInt8)) (b : Int) : List UInt8 :=
  setKeys (8 * bytesFor keys.length (clamp b)) (many (clamp b)) (List.replicate (bytesFor keys.length (clamp b)) 0) keys ++ [UInt8.ofNat (many (clamp b))]
def bitAt (l : List UInt8) (p : Nat) : Bool := (l.getD (p / 8) 0) &&& UInt8.ofNat (2 ^ (p % 8)) != 0
def mayBits (h size : Nat) (l : List UInt8) (k : Nat) : Bool := (List.range k).all fun i => bitAt l (place h size i)
def may (l : List UInt8) (key : List UInt8) : Bool :=
  if l.length < 9 then true else
  let k := (l.getD (l.length - 1) 0).toNat
  if k = 0 ∨ 30 < k then true else mayBits (hash key) (8 * (l.length - 1)) l k

theorem length_setBit (l : List UInt8) (p : Nat) : (setBit l p).length = l.length := by simp [setBit]
theorem length_setBits (h size : Nat) (l : List UInt8) (k : Nat) : (setBits h size l k).length = l.length := by
  induction k with
  | zero => rfl
  | succ k ih => rw [setBits, length_setBit, ih]
theorem length_setKeys (size k : Nat) (keys : List (List UInt8)) : ∀ l, (setKeys size k l keys).length = l.length := by
  induction keys with
  | nil => intro l; rfl
  | cons x r ih => intro l; rw [setKeys, ih, length_setBits]
theorem setKeys_snoc (size k : Nat) (keys : List (List UInt8)) (x : List UInt8) : ∀ l, setKeys size k l (keys ++ [x]) = setBits (hash x) size (setKeys size k l keys) k := by
  induction keys with
  | nil => intro l; rfl
  | cons y r ih => intro l; simp only [List.cons_append, setKeys]; exact ih _
theorem or_one (y : Nat) : y ||| 1 = if y % 2 = 0 then y + 1 else y := by
  have h2 : y = 2 * (y / 2) + y % 2 := by omega
  apply Nat.eq_of_testBit_eq
  intro i
  rw [Nat.testBit_or]
  cases i with
  | zero => 
    simp only [Nat.testBit_zero]
    split <;> simp <;> omega
  | succ i =>
    rw [Nat.testBit_succ, Nat.testBit_succ]
    split
    · rw [Nat.testBit_succ, show (y + 1) / 2 = y / 2 by omega]; simp
    · rw [Nat.testBit_succ]; simp
theorem place_lt (h size i : Nat) (hs : 0 < size) : place h size i < size := Nat.mod_lt _ hs
theorem many_bd (b : Int) : 1 ≤ many b ∧ many b ≤ 30 := by unfold many; omega
theorem clamp_bd (b : Int) : 1 ≤ clamp b ∧ clamp b ≤ 40 := by unfold clamp; omega
end Go.Proofs.Ytlhgjecbjfiljaa
