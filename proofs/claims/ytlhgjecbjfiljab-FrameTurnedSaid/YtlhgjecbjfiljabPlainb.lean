/- A frame in which bits are turned: the plain law. -/
import Derived.Test.YtlhgjecbjfiljabPlain
namespace Go.Proofs.Ytlhgjecbjfiljab
set_option linter.unusedVariables false
set_option linter.unusedSimpArgs false

theorem num4 (q r : List UInt8) (h : q.length = 4) : num (q ++ r) = num q := by
  match q, h with
  | [_, _, _, _], _ => rfl
theorem num_of4 (a0 a1 a2 a3 : UInt8) : num [a0, a1, a2, a3] = ((a0.toNat * 256 + a1.toNat) * 256 + a2.toNat) * 256 + a3.toNat := by simp [num]
theorem num_inj4 (a0 a1 a2 a3 b0 b1 b2 b3 : UInt8) (h : num [a0, a1, a2, a3] = num [b0, b1, b2, b3]) : [a0, a1, a2, a3] = [b0, b1, b2, b3] := by
  rw [num_of4, num_of4] at h
  have h0 := a0.toNat_lt; have h1 := a1.toNat_lt; have h2 := a2.toNat_lt; have h3 := a3.toNat_lt
  have g0 := b0.toNat_lt; have g1 := b1.toNat_lt; have g2 := b2.toNat_lt; have g3 := b3.toNat_lt
  have e0 : a0 = b0 := UInt8.toNat_inj.1 (by omega)
  have e1 : a1 = b1 := UInt8.toNat_inj.1 (by omega)
  have e2 : a2 = b2 := UInt8.toNat_inj.1 (by omega)
  have e3 : a3 = b3 := UInt8.toNat_inj.1 (by omega)
  rw [e0, e1, e2, e3]
theorem list4 (l : List UInt8) (h : l.length = 4) : ∃ a b c d, l = [a, b, c, d] := by
  match l, h with
  | [a, b, c, d], _ => exact ⟨a, b, c, d, rfl⟩
theorem num_inj (a b : List UInt8) (ha : a.length = 4) (hb : b.length = 4) (h : num a = num b) : a = b := by
  obtain ⟨a0, a1, a2, a3, rfl⟩ := list4 a ha
  obtain ⟨b0, b1, b2, b3, rfl⟩ := list4 b hb
  exact num_inj4 _ _ _ _ _ _ _ _ h
/-- what a frame-like text of length 8 + n answers -/
theorem nextE_three (n : Nat) (s p : List UInt8) (hs : s.length = 4) (hp : p.length = n) (hn : n < 4294967296) : nextE (four n ++ s ++ p) = if sum p = num s then 0 else 8 := by
  have h1 : num (four n ++ s ++ p) = n := by rw [List.append_assoc]; exact num_four n hn _
  have hl : (four n ++ s ++ p).length = 8 + n := by simp [length_four, hs, hp]; omega
  have hd : (four n ++ s ++ p).drop 4 = s ++ p := by rw [List.append_assoc]; rfl
  have h8 : (four n ++ s).length = 8 := by simp [length_four, hs]
  have hpay : payload (four n ++ s ++ p) = p := by
    rw [payload, h1, ← hl, List.take_length, ← h8, List.drop_left]
  rw [nextE, hl, h1, if_neg (by omega), hpay, hd, num4 s p hs]
theorem nextE_turned (l q pre post : List UInt8) (n o N K D : Nat) (hl : l.length = n) (hn : n < 4294967296) (hq : q.length = N) (hK : K ≤ 8 * N)
    (hc : (o = 8 ∧ q = l ∧ pre = four n ++ four (sum l) ∧ post = []) ∨ (o = 4 ∧ q = four (sum l) ∧ pre = four n ∧ post = l)) :
    nextE (pre ++ turns q K D 32 ++ post) = if turned N K D 32 = true then 8 else 0 := by
  subst hq
  rcases hc with ⟨_, rfl, rfl, rfl⟩ | ⟨_, rfl, rfl, rfl⟩
  · rw [List.append_nil, nextE_three n _ _ rfl (by rw [length_turns, hl]) hn]
    have e := num_four (sum q) (sum_lt q) []
    rw [List.append_nil] at e
    rw [e]
    by_cases ht : turned q.length K D 32 = true
    · rw [if_pos ht, if_neg (sum_turns q K D hK ht)]
    · have ht' : turned q.length K D 32 = false := by simpa using ht
      rw [if_neg ht, turns_same q K D 32 ht', if_pos rfl]
  · rw [nextE_three n _ _ (by rw [length_turns]; rfl) hl hn]
    have e := num_four (sum post) (sum_lt post) []
    rw [List.append_nil] at e
    by_cases ht : turned (four (sum post)).length K D 32 = true
    · rw [if_pos ht, if_neg]
      intro h
      exact turns_ne _ K D 32 ht (num_inj _ _ (by rw [length_turns]; rfl) rfl (by rw [e, ← h]))
    · have ht' : turned (four (sum post)).length K D 32 = false := by simpa using ht
      rw [if_neg ht, turns_same _ K D 32 ht', e, if_pos rfl]
/-- one bit more -/
theorem place_turn (pre T post : List UInt8) (p : Nat) (h : p / 8 < T.length) :
    (pre ++ T ++ post).set (pre.length + p / 8) (T.getD (p / 8) 0 ^^^ UInt8.ofNat (2 ^ (p % 8))) = pre ++ turn T p ++ post := by
  rw [turn, List.append_assoc, List.set_append_right _ _ (by omega), Nat.add_sub_cancel_left, List.set_append_left _ _ h, List.append_assoc]
theorem place_get (pre T post : List UInt8) (i : Nat) (h : i < T.length) : (pre ++ T ++ post).getD (pre.length + i) 0 = T.getD i 0 := by
  rw [List.append_assoc, List.getD_eq_getElem?_getD, List.getElem?_append_right (by omega), Nat.add_sub_cancel_left, List.getElem?_append_left h, ← List.getD_eq_getElem?_getD]
theorem testBit_int (D j : Nat) : ((D : Int) / 2 ^ j).tmod 2 = if D.testBit j then 1 else 0 := by
  have e : ((D : Int) / 2 ^ j).tmod 2 = ((D / 2 ^ j % 2 : Nat) : Int) := by
    have : ((D : Int) / 2 ^ j) = ((D / 2 ^ j : Nat) : Int) := by simp
    rw [this]; rfl
  rw [e, Nat.testBit_eq_decide_div_mod_eq]
  by_cases h : D / 2 ^ j % 2 = 1
  · rw [h]; simp
  · have : D / 2 ^ j % 2 = 0 := by omega
    rw [this]; rfl
end Go.Proofs.Ytlhgjecbjfiljab
