/- A block of keys: the plain laws. No program in sight. -/
import Derived.Test.YtbamohcaamgalabPlain
namespace Go.Proofs.Ytbamohcaamgalab
set_option linter.unusedVariables false
set_option linter.unusedSimpArgs false

abbrev Text := List UInt8
def common : Text → Text → Nat
  | x :: a, y :: b => if x = y then common a b + 1 else 0
  | _, _ => 0
theorem common_le (a : Text) : ∀ b, common a b ≤ a.length ∧ common a b ≤ b.length := by
  induction a with
  | nil => intro b; simp [common]
  | cons x a ih =>
    intro b
    cases b with
    | nil => simp [common]
    | cons y b =>
      rw [common]
      split
      · have := ih b; simp; omega
      · simp
theorem common_take (a : Text) : ∀ b, a.take (common a b) = b.take (common a b) := by
  induction a with
  | nil => intro b; simp [common]
  | cons x a ih =>
    intro b
    cases b with
    | nil => simp [common]
    | cons y b =>
      rw [common]
      split
      · rename_i h; subst h; simp [ih b]
      · simp
theorem common_comm (a : Text) : ∀ b, common a b = common b a := by
  induction a with
  | nil => intro b; cases b <;> simp [common]
  | cons x a ih =>
    intro b
    cases b with
    | nil => simp [common]
    | cons y b =>
      rw [common, common]
      by_cases h : x = y
      · rw [if_pos h, if_pos h.symm, ih b]
      · rw [if_neg h, if_neg (fun e => h e.symm)]
/-- the first n bytes are shared -/
theorem common_ge (a : Text) : ∀ (b : Text) (n : Nat), (∀ i, i < n → i < a.length ∧ i < b.length ∧ a.getD i 0 = b.getD i 0) → n ≤ common a b := by
  induction a with
  | nil =>
    intro b n h
    rcases Nat.eq_zero_or_pos n with h0 | h0
    · omega
    · have := (h 0 h0).1; cases this
  | cons x a ih =>
    intro b n h
    cases n with
    | zero => exact Nat.zero_le _
    | succ n =>
      cases b with
      | nil => have := (h 0 (by omega)).2.1; cases this
      | cons y b =>
        have h0 := (h 0 (by omega)).2.2
        simp only [List.getD_cons_zero] at h0
        rw [common, if_pos h0]
        have := ih b n (fun i hi => by
          have := h (i + 1) (by omega)
          simp only [List.getD_cons_succ, List.length_cons] at this
          exact ⟨by omega, by omega, this.2.2⟩)
        omega
theorem common_at (a : Text) : ∀ (b : Text) (n : Nat), n < common a b → a.getD n 0 = b.getD n 0 := by
  induction a with
  | nil => intro b n h; simp [common] at h
  | cons x a ih =>
    intro b n h
    cases b with
    | nil => simp [common] at h
    | cons y b =>
      rw [common] at h
      split at h
      · rename_i hxy
        cases n with
        | zero => simpa using hxy
        | succ n => simpa using ih b n (by omega)
      · cases h
/-- where it ends -/
theorem common_eq (a b : Text) (n : Nat) (h : ∀ i, i < n → a.getD i 0 = b.getD i 0) (ha : n ≤ a.length) (hb : n ≤ b.length) (hn : n = a.length ∨ n = b.length ∨ a.getD n 0 ≠ b.getD n 0) : common a b = n := by
  have h1 := common_ge a b n (fun i hi => ⟨by omega, by omega, h i hi⟩)
  have h2 := common_le a b
  rcases Nat.lt_or_ge n (common a b) with hlt | hge
  · have := common_at a b n hlt
    rcases hn with rfl | rfl | hn
    · omega
    · omega
    · exact absurd this hn
  · omega

/-! ### a block -/
def four (v : Nat) : List UInt8 := [UInt8.ofNat (v / 16777216), UInt8.ofNat (v / 65536), UInt8.ofNat (v / 256), UInt8.ofNat v]
def num (l : List UInt8) : Nat := (((l.getD 0 0).toNat * 256 + (l.getD 1 0).toNat) * 256 + (l.getD 2 0).toNat) * 256 + (l.getD 3 0).toNat
theorem length_four (v : Nat) : (four v).length = 4 := rfl
theorem num_four (v : Nat) (h : v < 4294967296) (r : List UInt8) : num (four v ++ r) = v := by
  have e : num (four v ++ r) = (((UInt8.ofNat (v / 16777216)).toNat * 256 + (UInt8.ofNat (v / 65536)).toNat) * 256 + (UInt8.ofNat (v / 256)).toNat) * 256 + (UInt8.ofNat v).toNat := rfl
  rw [e, UInt8.toNat_ofNat', UInt8.toNat_ofNat', UInt8.toNat_ofNat', UInt8.toNat_ofNat']
  omega
theorem num_lt (l : List UInt8) : num l < 4294967296 := by
  have h0 := (l.getD 0 0).toNat_lt; have h1 := (l.getD 1 0).toNat_lt; have h2 := (l.getD 2 0).toNat_lt; have h3 := (l.getD 3 0).toNat_lt
  unfold num; omega
/-- how much of the key before it key i takes -/
def share (ks : List Text) (i : Nat) : Nat := if i % 16 = 0 then 0 else common (ks.getD (i - 1) []) (ks.getD i [])
def textE (s : Text) : List UInt8 := uv s.length ++ s
def ent (ks : List Text) (i : Nat) : List UInt8 := uv (share ks i) ++ textE ((ks.getD i []).drop (share ks i))
def body (ks : List Text) (n : Nat) : List UInt8 := (List.range n).flatMap (ent ks)
def pos (ks : List Text) (n : Nat) : Nat := (body ks n).length
def wholes (n : Nat) : Nat := (n + 15) / 16
def ends (ks : List Text) (n : Nat) : List UInt8 := (List.range n).flatMap fun m => four (pos ks (16 * m))
def blockOf (ks : List Text) : List UInt8 := body ks ks.length ++ ends ks (wholes ks.length) ++ four (wholes ks.length)
def Rises (ks : List Text) : Prop := ∀ i, i + 1 < ks.length → ks.getD i [] < ks.getD (i + 1) []
theorem body_succ (ks : List Text) (n : Nat) : body ks (n + 1) = body ks n ++ ent ks n := by simp [body, List.range_succ]
theorem ends_succ (ks : List Text) (n : Nat) : ends ks (n + 1) = ends ks n ++ four (pos ks (16 * n)) := by simp [ends, List.range_succ]
theorem pos_succ (ks : List Text) (n : Nat) : pos ks (n + 1) = pos ks n + (ent ks n).length := by rw [pos, body_succ, List.length_append]; rfl
theorem length_ends (ks : List Text) (n : Nat) : (ends ks n).length = 4 * n := by
  induction n with
  | zero => rfl
  | succ n ih => rw [ends_succ, List.length_append, ih, length_four]; omega
theorem pos_mono (ks : List Text) (m n : Nat) (h : m ≤ n) : pos ks m ≤ pos ks n := by
  induction n with
  | zero => obtain rfl : m = 0 := by omega
            exact Nat.le_refl _
  | succ n ih =>
    by_cases e : m = n + 1
    · rw [e]; exact Nat.le_refl _
    · rw [pos_succ]; have := ih (by omega); omega
theorem body_drop (ks : List Text) (m n : Nat) (h : m < n) : ∃ r, (body ks n).drop (pos ks m) = ent ks m ++ r := by
  induction n with
  | zero => cases h
  | succ n ih =>
    rw [body_succ]
    by_cases e : m = n
    · subst e
      refine ⟨[], ?_⟩
      rw [pos, List.drop_left, List.append_nil]
    · obtain ⟨r, hr⟩ := ih (by omega)
      have hl : pos ks m ≤ (body ks n).length := pos_mono ks m n (by omega)
      exact ⟨r ++ ent ks n, by rw [List.drop_append_of_le_length hl, hr, List.append_assoc]⟩
theorem ends_drop (ks : List Text) (m n : Nat) (h : m < n) : ∃ r, (ends ks n).drop (4 * m) = four (pos ks (16 * m)) ++ r := by
  induction n with
  | zero => cases h
  | succ n ih =>
    rw [ends_succ]
    by_cases e : m = n
    · subst e
      refine ⟨[], ?_⟩
      rw [← length_ends ks m, List.drop_left, List.append_nil]
    · obtain ⟨r, hr⟩ := ih (by omega)
      exact ⟨r ++ four (pos ks (16 * n)), by rw [List.drop_append_of_le_length (by rw [length_ends]; omega), hr, List.append_assoc]⟩
theorem share_le (ks : List Text) (i : Nat) : share ks i ≤ (ks.getD i []).length ∧ (0 < share ks i → share ks i ≤ (ks.getD (i - 1) []).length) := by
  unfold share
  split
  · exact ⟨Nat.zero_le _, fun h => by cases h⟩
  · have := common_le (ks.getD (i - 1) []) (ks.getD i [])
    exact ⟨this.2, fun _ => this.1⟩
theorem share_take (ks : List Text) (i : Nat) (key : Text) (h : i % 16 = 0 ∨ key = ks.getD (i - 1) []) : key.take (share ks i) = (ks.getD i []).take (share ks i) := by
  unfold share
  split
  · simp
  · rename_i h0
    rcases h with h | h
    · exact absurd h h0
    · rw [h]; exact common_take _ _

/-! ### reading a key -/
def textN (l : List UInt8) : Nat := if getE l = 0 then (if l.length - getN l < getV l then 7 else 0) else getE l
/-- a text, and how many bytes it takes -/
def gotT (l : List UInt8) : Text := if textN l = 0 then (l.drop (getN l)).take (getV l) else []
def usedT (l : List UInt8) : Nat := if textN l = 0 then getN l + getV l else 0
/-- the next key behind 'key' at the head of l: 0, or not -/
def nextOk (l : List UInt8) (key : Text) : Bool := getE l == 0 && decide (getV l ≤ key.length) && textN (l.drop (getN l)) == 0
def nextKey (l : List UInt8) (key : Text) : Text := key.take (getV l) ++ gotT (l.drop (getN l))
def nextUsed (l : List UInt8) : Nat := getN l + usedT (l.drop (getN l))
theorem text_of (s : Text) (h : s.length < 18446744073709551616) (r : List UInt8) : textN (textE s ++ r) = 0 ∧ gotT (textE s ++ r) = s ∧ usedT (textE s ++ r) = (textE s).length := by
  obtain ⟨h1, h2, h3⟩ := get_uv s.length h (s ++ r)
  have e : textE s ++ r = uv s.length ++ (s ++ r) := by rw [textE, List.append_assoc]
  have h0 : textN (textE s ++ r) = 0 := by
    rw [e, textN, if_pos h1, h2, h3, if_neg]
    rw [List.length_append, List.length_append]; omega
  refine ⟨h0, ?_, ?_⟩
  · rw [gotT, if_pos h0, e, h2, h3, List.drop_left, List.take_left]
  · rw [usedT, if_pos h0, e, h2, h3, textE, List.length_append]
theorem next_ent (ks : List Text) (i : Nat) (key : Text) (r : List UInt8) (hk : (ks.getD i []).length < 18446744073709551616) (h : i % 16 = 0 ∨ key = ks.getD (i - 1) []) :
    nextOk (ent ks i ++ r) key = true ∧ nextKey (ent ks i ++ r) key = ks.getD i [] ∧ nextUsed (ent ks i ++ r) = (ent ks i).length := by
  have hs := share_le ks i
  have e : ent ks i ++ r = uv (share ks i) ++ (textE ((ks.getD i []).drop (share ks i)) ++ r) := by rw [ent, List.append_assoc]
  obtain ⟨h1, h2, h3⟩ := get_uv (share ks i) (by omega) (textE ((ks.getD i []).drop (share ks i)) ++ r)
  obtain ⟨g1, g2, g3⟩ := text_of ((ks.getD i []).drop (share ks i)) (by rw [List.length_drop]; omega) r
  have hd : (ent ks i ++ r).drop (getN (ent ks i ++ r)) = textE ((ks.getD i []).drop (share ks i)) ++ r := by rw [e, h2, List.drop_left]
  have hkl : share ks i ≤ key.length := by
    rcases Nat.eq_zero_or_pos (share ks i) with h0 | h0
    · omega
    · rcases h with h | h
      · unfold share at h0; rw [if_pos h] at h0; cases h0
      · rw [h]; exact hs.2 h0
  refine ⟨?_, ?_, ?_⟩
  · rw [nextOk, hd, g1, e, h1, h3]; simp [hkl]
  · rw [nextKey, hd, g2, e, h3, share_take ks i key h, List.take_append_drop]
  · rw [nextUsed, hd, g3, e, h2, ent, List.length_append]
theorem usedT_le (l : List UInt8) : usedT l ≤ l.length := by
  unfold usedT
  split
  · rename_i h
    unfold textN at h
    split at h
    · have := getN_le l
      split at h
      · cases h
      · omega
    · rename_i h1
      exact absurd h h1
  · exact Nat.zero_le _
theorem nextUsed_le (l : List UInt8) : nextUsed l ≤ l.length := by
  have h1 := getN_le l
  have h2 := usedT_le (l.drop (getN l))
  rw [List.length_drop] at h2
  unfold nextUsed; omega
theorem getN_pos (l : List UInt8) (h : getE l = 0) : 0 < getN l := by rw [getN, if_pos h]; omega
theorem nextUsed_pos (l : List UInt8) (key : Text) (h : nextOk l key = true) : 0 < nextUsed l := by
  unfold nextOk at h
  simp only [Bool.and_eq_true, beq_iff_eq] at h
  have := getN_pos l h.1.1
  unfold nextUsed; omega
end Go.Proofs.Ytbamohcaamgalab
