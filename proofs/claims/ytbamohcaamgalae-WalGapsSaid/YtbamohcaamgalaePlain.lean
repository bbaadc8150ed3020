/- Frames behind one another; a frame that is cut; a frame in which bits are turned: the plain laws. -/
import Derived.Test.YtbamohcaamgalaeMath
namespace Go.Proofs.Ytbamohcaamgalae
set_option linter.unusedVariables false
set_option linter.unusedSimpArgs false

theorem length_four (v : Nat) : (four v).length = 4 := rfl
theorem num_four (v : Nat) (h : v < 4294967296) (r : List UInt8) : num (four v ++ r) = v := by
  have e : num (four v ++ r) = (((UInt8.ofNat (v / 16777216)).toNat * 256 + (UInt8.ofNat (v / 65536)).toNat) * 256 + (UInt8.ofNat (v / 256)).toNat) * 256 + (UInt8.ofNat v).toNat := rfl
  rw [e, UInt8.toNat_ofNat', UInt8.toNat_ofNat', UInt8.toNat_ofNat', UInt8.toNat_ofNat']
  omega
theorem length_seal (p : List UInt8) : (seal_ p).length = 8 + p.length := by simp [seal_, length_four]; omega
theorem num_seal (p r : List UInt8) (h : p.length < 4294967296) : num (seal_ p ++ r) = p.length := by
  rw [seal_, List.append_assoc, List.append_assoc]
  exact num_four _ h _
theorem drop4_seal (p r : List UInt8) : (seal_ p ++ r).drop 4 = four (sum p) ++ (p ++ r) := by
  have : seal_ p ++ r = four p.length ++ (four (sum p) ++ (p ++ r)) := by simp [seal_]
  rw [this]
  rfl
theorem payload_seal (p r : List UInt8) (h : p.length < 4294967296) : payload (seal_ p ++ r) = p := by
  rw [payload, num_seal p r h, ← length_seal, List.take_left]
  have : seal_ p = (four p.length ++ four (sum p)) ++ p := rfl
  rw [this]
  rfl
theorem nextE_seal (p r : List UInt8) (h : p.length < 4294967296) : nextE (seal_ p ++ r) = 0 := by
  rw [nextE, num_seal p r h, payload_seal p r h, drop4_seal, num_four _ (sum_lt p), if_neg, if_pos rfl]
  rw [List.length_append, length_seal]
  omega
theorem num_prefix (l : List UInt8) (n : Nat) (h : 4 ≤ n) : num (l.take n) = num l := by
  have e : ∀ i, i < 4 → (l.take n).getD i 0 = l.getD i 0 := by
    intro i hi
    rw [List.getD_eq_getElem?_getD, List.getElem?_take, if_pos (by omega), ← List.getD_eq_getElem?_getD]
  rw [num, e 0 (by omega), e 1 (by omega), e 2 (by omega), e 3 (by omega)]
  rfl
/-- a beginning of a frame is too short -/
theorem nextE_cut (p r : List UInt8) (c : Nat) (h : p.length < 4294967296) (hc : c < 8 + p.length) : nextE ((seal_ p ++ r).take c) = 7 := by
  have hl : ((seal_ p ++ r).take c).length = c := by rw [List.length_take, List.length_append, length_seal]; omega
  rw [nextE, hl]
  by_cases h8 : c < 8
  · rw [if_pos (Or.inl h8)]
  · rw [num_prefix _ c (by omega), num_seal p r h, if_pos (Or.inr (by omega))]

def allF : Nat → List UInt8 → List (List UInt8)
  | 0, _ => []
  | n + 1, l => if nextE l = 0 then payload l :: allF n (l.drop (8 + num l)) else []
def size (ls : List (List UInt8)) : Nat := (ls.map fun p => 8 + p.length).sum
def cat (ls : List (List UInt8)) : List UInt8 := ls.flatMap seal_
theorem length_cat (ls : List (List UInt8)) : (cat ls).length = size ls := by
  induction ls with
  | nil => rfl
  | cons p r ih => simp only [cat, size, List.flatMap_cons, List.length_append, length_seal, List.map_cons, List.sum_cons] at ih ⊢; omega
theorem size_cons (p : List UInt8) (r : List (List UInt8)) : size (p :: r) = 8 + p.length + size r := by simp [size]
theorem size_snoc (ls : List (List UInt8)) (p : List UInt8) : size (ls ++ [p]) = size ls + (8 + p.length) := by simp [size]
theorem nextE_nil : nextE [] = 7 := rfl
theorem allF_cut (ls : List (List UInt8)) : ∀ (w cut fuel : Nat), (∀ p ∈ ls, p.length < 4294967296) → w ≤ ls.length → size (ls.take w) ≤ cut → (w < ls.length → cut < size (ls.take (w + 1))) → ls.length < fuel →
    allF fuel ((cat ls).take cut) = ls.take w := by
  induction ls with
  | nil =>
    intro w cut fuel _ hw _ _ hf
    obtain ⟨n, rfl⟩ : ∃ n, fuel = n + 1 := ⟨fuel - 1, by omega⟩
    simp only [cat, List.flatMap_nil, List.take_nil, allF, nextE_nil]
    rfl
  | cons p r ih =>
    intro w cut fuel hp hw hs hn hf
    obtain ⟨n, rfl⟩ : ∃ n, fuel = n + 1 := ⟨fuel - 1, by omega⟩
    have hpl := hp p (by simp)
    have ec : cat (p :: r) = seal_ p ++ cat r := by simp [cat]
    cases w with
    | zero =>
      have hc := hn (by simp)
      have e1 : size ((p :: r).take (0 + 1)) = 8 + p.length := by simp [size]
      rw [e1] at hc
      rw [allF, ec, nextE_cut p (cat r) cut hpl (by omega)]
      rfl
    | succ w =>
      rw [List.take_succ_cons, size_cons] at hs
      have hn' : w < r.length → cut - (8 + p.length) < size (r.take (w + 1)) := by
        intro hlt
        have := hn (by simp; omega)
        rw [List.take_succ_cons, size_cons] at this
        omega
      have e : (cat (p :: r)).take cut = seal_ p ++ (cat r).take (cut - (8 + p.length)) := by
        rw [ec, List.take_append, length_seal, List.take_of_length_le (by rw [length_seal]; omega)]
      rw [allF, e, nextE_seal p _ hpl, if_pos rfl, payload_seal p _ hpl, num_seal p _ hpl, ← length_seal, List.drop_left,
        length_seal, ih w _ n (fun q hq => hp q (by simp [hq])) (by simp at hw; omega) (by omega) hn' (by simp at hf; omega)]
      rfl

/-- what one step of reading all frames gives -/
theorem allF_step (n : Nat) (l : List UInt8) (h : nextE l = 0) : allF (n + 1) l = payload l :: allF n (l.drop (8 + num l)) := by rw [allF, if_pos h]
theorem allF_stop (n : Nat) (l : List UInt8) (h : nextE l ≠ 0) : allF n l = [] := by
  cases n with
  | zero => rfl
  | succ n => rw [allF, if_neg h]
theorem nextE_len (l : List UInt8) (h : nextE l = 0) : 8 + num l ≤ l.length ∧ (payload l).length = num l := by
  unfold nextE at h
  split at h
  · cases h
  · rename_i hn
    have h1 : 8 + num l ≤ l.length := by omega
    refine ⟨h1, ?_⟩
    rw [payload, List.length_drop, List.length_take]
    omega
theorem allF_fuel (n : Nat) : ∀ (m : Nat) (l : List UInt8), l.length < n → l.length < m → allF n l = allF m l := by
  induction n with
  | zero => intro m l h; omega
  | succ n ih =>
    intro m l hn hm
    obtain ⟨m, rfl⟩ : ∃ k, m = k + 1 := ⟨m - 1, by omega⟩
    by_cases h : nextE l = 0
    · rw [allF_step n l h, allF_step m l h]
      have := nextE_len l h
      rw [ih m _ (by rw [List.length_drop]; omega) (by rw [List.length_drop]; omega)]
    · rw [allF_stop _ _ h, allF_stop _ _ h]
def allOf (l : List UInt8) : List (List UInt8) := allF (l.length + 1) l
theorem allOf_step (l : List UInt8) (h : nextE l = 0) : allOf l = payload l :: allOf (l.drop (8 + num l)) := by
  unfold allOf
  have := nextE_len l h
  rw [allF_step _ l h, allF_fuel l.length ((l.drop (8 + num l)).length + 1) _ (by rw [List.length_drop]; omega) (by omega)]
theorem allOf_stop (l : List UInt8) (h : nextE l ≠ 0) : allOf l = [] := allF_stop _ _ h
/-- P3.2 -/
theorem allOf_cut (ls : List (List UInt8)) (w cut : Nat) (hp : ∀ p ∈ ls, p.length < 4294967296) (hw : w ≤ ls.length) (hs : size (ls.take w) ≤ cut) (hn : w < ls.length → cut < size (ls.take (w + 1))) (hc : cut ≤ size ls) :
    allOf ((cat ls).take cut) = ls.take w := by
  have hlen : ((cat ls).take cut).length = cut := by rw [List.length_take, length_cat]; omega
  have e : allOf ((cat ls).take cut) = allF (((cat ls).take cut).length + 1 + ls.length + 1) ((cat ls).take cut) := by
    unfold allOf
    exact allF_fuel _ _ _ (by omega) (by omega)
  rw [e]
  exact allF_cut ls w cut _ hp hw hs hn (by omega)

/-! ### bits that are turned -/
/-- bit k of bytes is turned -/
def turn (l : List UInt8) (k : Nat) : List UInt8 := l.set (k / 8) (l.getD (k / 8) 0 ^^^ UInt8.ofNat (2 ^ (k % 8)))
theorem length_turn (l : List UInt8) (k : Nat) : (turn l k).length = l.length := by simp [turn]
theorem low_lt (l : List UInt8) : low l < 2 ^ (8 * l.length) := by
  induction l with
  | nil => decide
  | cons c r ih =>
    have hc := c.toNat_lt
    have e : 2 ^ (8 * (c :: r).length) = 2 ^ (8 * r.length) * 256 := by rw [List.length_cons, show 8 * (r.length + 1) = 8 * r.length + 8 by omega, Nat.pow_add]
    rw [low, e]
    omega
theorem low_set (l : List UInt8) : ∀ (j b : Nat), j < l.length → b < 8 → low (l.set j (l.getD j 0 ^^^ UInt8.ofNat (2 ^ b))) = low l ^^^ 2 ^ (8 * j + b) := by
  induction l with
  | nil => intro j b h; cases h
  | cons c r ih =>
    intro j b hj hb
    have hc := c.toNat_lt
    have hp : 2 ^ b < 256 := Nat.lt_of_lt_of_le (Nat.pow_lt_pow_right (by decide) hb) (by decide)
    cases j with
    | zero =>
      have e : (c ^^^ UInt8.ofNat (2 ^ b)).toNat = c.toNat ^^^ 2 ^ b := by rw [UInt8.toNat_xor, UInt8.toNat_ofNat', Nat.mod_eq_of_lt hp]
      have hx : c.toNat ^^^ 2 ^ b < 256 := by
        have := Nat.xor_lt_two_pow (n := 8) (x := c.toNat) (y := 2 ^ b) (by omega) (by omega)
        omega
      have e0 : (c :: r).set 0 ((c :: r).getD 0 0 ^^^ UInt8.ofNat (2 ^ b)) = (c ^^^ UInt8.ofNat (2 ^ b)) :: r := rfl
      rw [e0, low, e, low, xor_mul256 _ _ hx, xor_mul256 _ _ (by omega), Nat.mul_zero, Nat.zero_add, Nat.xor_assoc]
    | succ j =>
      have e0 : (c :: r).set (j + 1) ((c :: r).getD (j + 1) 0 ^^^ UInt8.ofNat (2 ^ b)) = c :: r.set j (r.getD j 0 ^^^ UInt8.ofNat (2 ^ b)) := by simp
      rw [e0, low, ih j b (by simpa using hj) hb, low, xor_mul256 _ _ (by omega), xor_mul256 _ _ (by omega)]
      have e1 : (low r ^^^ 2 ^ (8 * j + b)) * 2 ^ 8 = low r * 2 ^ 8 ^^^ 2 ^ (8 * (j + 1) + b) := by
        rw [← Nat.shiftLeft_eq, Nat.shiftLeft_xor_distrib, Nat.shiftLeft_eq, Nat.shiftLeft_eq, ← Nat.pow_add, show 8 * j + b + 8 = 8 * (j + 1) + b by omega]
      rw [e1, Nat.xor_assoc, Nat.xor_assoc, Nat.xor_comm (2 ^ _) c.toNat]
theorem low_turn (l : List UInt8) (k : Nat) (h : k < 8 * l.length) : low (turn l k) = low l ^^^ 2 ^ k := by
  rw [turn, low_set l (k / 8) (k % 8) (by omega) (Nat.mod_lt _ (by decide)), show 8 * (k / 8) + k % 8 = k by omega]
/-- the turned bits, as a number: of the first i places from k0 on those that the bits of d name, as far as there are bytes -/
def turns (l : List UInt8) (k0 d : Nat) : Nat → List UInt8
  | 0 => l
  | i + 1 => if d.testBit i && decide (k0 + i < 8 * l.length) then turn (turns l k0 d i) (k0 + i) else turns l k0 d i
def mask (n k0 d : Nat) : Nat → Nat
  | 0 => 0
  | i + 1 => if d.testBit i && decide (k0 + i < 8 * n) then mask n k0 d i ^^^ 2 ^ i else mask n k0 d i
theorem length_turns (l : List UInt8) (k0 d i : Nat) : (turns l k0 d i).length = l.length := by
  induction i with
  | zero => rfl
  | succ i ih => rw [turns]; split <;> simp [length_turn, ih]
theorem low_turns (l : List UInt8) (k0 d i : Nat) : low (turns l k0 d i) = low l ^^^ mask l.length k0 d i * 2 ^ k0 := by
  induction i with
  | zero => simp [turns, mask]
  | succ i ih =>
    rw [turns, mask]
    split
    · rename_i h
      simp only [Bool.and_eq_true, decide_eq_true_eq] at h
      rw [low_turn _ _ (by rw [length_turns]; exact h.2), ih, Nat.xor_assoc]
      congr 1
      rw [← Nat.shiftLeft_eq, ← Nat.shiftLeft_eq, Nat.shiftLeft_xor_distrib, Nat.shiftLeft_eq (2 ^ i), ← Nat.pow_add, Nat.add_comm i k0]
    · exact ih
theorem mask_testBit (n k0 d i j : Nat) : (mask n k0 d i).testBit j = (decide (j < i) && d.testBit j && decide (k0 + j < 8 * n)) := by
  induction i with
  | zero => simp [mask]
  | succ i ih =>
    rw [mask]
    by_cases hj : j = i
    · subst hj
      split
      · rename_i h
        rw [Nat.testBit_xor, ih, Nat.testBit_two_pow_self]
        simp only [Bool.and_eq_true, decide_eq_true_eq] at h
        simp [h.1, h.2]
      · rename_i h
        rw [ih]
        simp at h ⊢
        exact h
    · have e : decide (j < i + 1) = decide (j < i) := decide_eq_decide.2 (by omega)
      split
      · rw [Nat.testBit_xor, ih, Nat.testBit_two_pow, e]
        have : decide (i = j) = false := decide_eq_false (fun h => hj h.symm)
        rw [this, Bool.xor_false]
      · rw [ih, e]
theorem mask_lt (n k0 d i : Nat) (hi : i ≤ 32) : mask n k0 d i < 4294967296 := by
  have : mask n k0 d i < 2 ^ 32 := by
    apply Nat.lt_pow_two_of_testBit
    intro j hj
    rw [mask_testBit]
    have : decide (j < i) = false := decide_eq_false (by omega)
    rw [this]; rfl
  exact this
/-- was a bit turned? -/
def turned (n k0 d i : Nat) : Bool := (List.range i).any fun j => d.testBit j && decide (k0 + j < 8 * n)
theorem turned_succ (n k0 d i : Nat) : turned n k0 d (i + 1) = (turned n k0 d i || (d.testBit i && decide (k0 + i < 8 * n))) := by simp [turned, List.range_succ]
theorem mask_zero (n k0 d i : Nat) : mask n k0 d i ≠ 0 ↔ turned n k0 d i = true := by
  constructor
  · intro h
    cases ht : turned n k0 d i with
    | true => rfl
    | false =>
      exfalso
      apply h
      apply Nat.eq_of_testBit_eq
      intro j
      rw [mask_testBit, Nat.zero_testBit]
      unfold turned at ht
      rw [List.any_eq_false] at ht
      by_cases hj : j < i
      · have := ht j (List.mem_range.2 hj)
        simp only [Bool.and_eq_true, not_and, Bool.not_eq_true] at this
        cases hd : d.testBit j with
        | false => simp
        | true => simp [this hd]
      · simp [hj]
  · intro h h0
    unfold turned at h
    rw [List.any_eq_true] at h
    obtain ⟨j, hj, hb⟩ := h
    have hm := mask_testBit n k0 d i j
    rw [h0, Nat.zero_testBit] at hm
    rw [Bool.and_assoc, hb] at hm
    simp [List.mem_range.1 hj] at hm
theorem low_inj (l : List UInt8) : ∀ l' : List UInt8, l.length = l'.length → low l = low l' → l = l' := by
  induction l with
  | nil => intro l' h _; cases l' with | nil => rfl | cons _ _ => cases h
  | cons c r ih =>
    intro l' h e
    cases l' with
    | nil => cases h
    | cons c' r' =>
      have h1 := c.toNat_lt
      have h2 := c'.toNat_lt
      rw [low, low] at e
      have ec : c = c' := UInt8.toNat_inj.1 (by omega)
      rw [ec, ih r' (by simpa using h) (by omega)]
theorem sum_low (l : List UInt8) : sum l = crcSteps (8 * l.length) (4294967295 ^^^ low l) ^^^ 4294967295 := by rw [sum, crcRun_low]
theorem xor_cancel (a b c : Nat) (h : a ^^^ c = b ^^^ c) : a = b := by
  have := congrArg (· ^^^ c) h
  simpa [Nat.xor_assoc] using this
theorem xor_self_cancel (a b : Nat) (h : a ^^^ b = a) : b = 0 := by
  have := congrArg (a ^^^ ·) h
  simpa [← Nat.xor_assoc] using this
/-- P3.3: the sum sees it -/
theorem sum_turns (l : List UInt8) (k0 d : Nat) (hk : k0 ≤ 8 * l.length) (h : turned l.length k0 d 32 = true) : sum (turns l k0 d 32) ≠ sum l := by
  intro e
  rw [sum_low, sum_low, length_turns, low_turns, ← Nat.xor_assoc, crcSteps_xor] at e
  have e2 := xor_self_cancel _ _ (xor_cancel _ _ _ e)
  exact burst (8 * l.length) k0 _ hk (mask_lt _ _ _ _ (by omega)) ((mask_zero _ _ _ _).2 h) e2
theorem turns_same (l : List UInt8) (k0 d : Nat) (i : Nat) (h : turned l.length k0 d i = false) : turns l k0 d i = l := by
  apply low_inj _ _ (length_turns _ _ _ _)
  have h0 : mask l.length k0 d i = 0 := by
    rcases Nat.eq_zero_or_pos (mask l.length k0 d i) with h0 | h0
    · exact h0
    · have := (mask_zero l.length k0 d i).1 (by omega)
      rw [h] at this; cases this
  rw [low_turns, h0, Nat.zero_mul, Nat.xor_zero]
theorem turns_ne (l : List UInt8) (k0 d : Nat) (i : Nat) (h : turned l.length k0 d i = true) : turns l k0 d i ≠ l := by
  intro e
  have e2 := low_turns l k0 d i
  rw [e] at e2
  have e3 := xor_self_cancel _ _ e2.symm
  have hm := (mask_zero l.length k0 d i).2 h
  have hp := Nat.two_pow_pos k0
  rcases Nat.mul_eq_zero.1 e3 with h0 | h0
  · exact hm h0
  · omega
end Go.Proofs.Ytbamohcaamgalae
