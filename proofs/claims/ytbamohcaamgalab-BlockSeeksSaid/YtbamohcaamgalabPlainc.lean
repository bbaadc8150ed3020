/- A block read and sought in: the plain laws. No program in sight. -/
import Derived.Test.YtbamohcaamgalabPlainb
namespace Go.Proofs.Ytbamohcaamgalab
set_option linter.unusedVariables false
set_option linter.unusedSimpArgs false

/-! ### texts in order -/
theorem text_tri (a : Text) : ∀ b : Text, a < b ∨ a = b ∨ b < a := by
  induction a with
  | nil =>
    intro b
    cases b with
    | nil => exact Or.inr (Or.inl rfl)
    | cons y b => exact Or.inl (List.nil_lt_cons y b)
  | cons x a ih =>
    intro b
    cases b with
    | nil => exact Or.inr (Or.inr (List.nil_lt_cons x a))
    | cons y b =>
      rw [List.cons_lt_cons_iff, List.cons_lt_cons_iff]
      have htri : x < y ∨ x = y ∨ y < x := by
        rcases Nat.lt_trichotomy x.toNat y.toNat with h | h | h
        · exact Or.inl (UInt8.lt_iff_toNat_lt.2 h)
        · exact Or.inr (Or.inl (UInt8.toNat_inj.1 h))
        · exact Or.inr (Or.inr (UInt8.lt_iff_toNat_lt.2 h))
      rcases htri with h | h | h
      · exact Or.inl (Or.inl h)
      · subst h
        rcases ih b with h | h | h
        · exact Or.inl (Or.inr ⟨rfl, h⟩)
        · exact Or.inr (Or.inl (by rw [h]))
        · exact Or.inr (Or.inr (Or.inr ⟨rfl, h⟩))
      · exact Or.inr (Or.inr (Or.inl h))
theorem text_trans {a : Text} : ∀ {b c : Text}, a < b → b < c → a < c := by
  induction a with
  | nil =>
    intro b c h k
    cases c with
    | nil => exact absurd k (by intro h; cases b <;> cases h)
    | cons z c => exact List.nil_lt_cons z c
  | cons x a ih =>
    intro b c h k
    cases b with
    | nil => cases h
    | cons y b =>
      cases c with
      | nil => cases k
      | cons z c =>
        rw [List.cons_lt_cons_iff] at h k ⊢
        rcases h with h | ⟨rfl, h⟩
        · rcases k with k | ⟨rfl, k⟩
          · exact Or.inl (UInt8.lt_trans h k)
          · exact Or.inl h
        · rcases k with k | ⟨rfl, k⟩
          · exact Or.inl k
          · exact Or.inr ⟨rfl, ih h k⟩
theorem text_le_lt {a b c : Text} (h : ¬ b < a) (k : b < c) : a < c := by
  rcases text_tri a b with h1 | h1 | h1
  · exact text_trans h1 k
  · rw [h1]; exact k
  · exact absurd h1 h
theorem text_lt_le {a b c : Text} (h : a < b) (k : ¬ c < b) : a < c := by
  rcases text_tri b c with h1 | h1 | h1
  · exact text_trans h h1
  · rw [← h1]; exact h
  · exact absurd h1 k
theorem rises_lt {ks : List Text} (h : Rises ks) (i : Nat) : ∀ j, i < j → j < ks.length → ks.getD i [] < ks.getD j [] := by
  intro j
  induction j with
  | zero => intro hij; cases hij
  | succ j ih =>
    intro hij hj
    by_cases e : i = j
    · subst e; exact h i hj
    · exact text_trans (ih (by omega) (by omega)) (h j hj)
/-- i is the first place that p lets go -/
def First (ks : List Text) (p : Text → Prop) (i : Nat) : Prop := i ≤ ks.length ∧ (∀ j, j < i → p (ks.getD j [])) ∧ (i < ks.length → ¬ p (ks.getD i []))
theorem first_one {ks : List Text} {p : Text → Prop} {i j : Nat} (h : First ks p i) (k : First ks p j) : i = j := by
  obtain ⟨h1, h2, h3⟩ := h
  obtain ⟨k1, k2, k3⟩ := k
  rcases Nat.lt_trichotomy i j with e | e | e
  · exact absurd (k2 i e) (h3 (by omega))
  · exact e
  · exact absurd (h2 j e) (k3 (by omega))
/-- with key laid in at place n -/
def laid (ks : List Text) (key : Text) (n : Nat) : List Text := ks.take n ++ [key] ++ ks.drop n
theorem laid_at (ks : List Text) (key : Text) (n : Nat) (hn : n ≤ ks.length) (i : Nat) : (laid ks key n).getD i [] = if i < n then ks.getD i [] else if i = n then key else ks.getD (i - 1) [] := by
  unfold laid
  simp only [List.getD_eq_getElem?_getD]
  have hl : (ks.take n).length = n := by rw [List.length_take]; omega
  split
  · rename_i h
    rw [List.append_assoc, List.getElem?_append_left (by omega), List.getElem?_take, if_pos h]
  · rename_i h
    split
    · rename_i h2
      subst h2
      rw [List.append_assoc, List.getElem?_append_right (by omega), hl, Nat.sub_self]; rfl
    · rename_i h2
      rw [List.getElem?_append_right (by rw [List.length_append, hl]; simp; omega), List.length_append, hl, List.getElem?_drop]
      have e : n + (i - (n + [key].length)) = i - 1 := by simp; omega
      rw [e]
theorem length_laid (ks : List Text) (key : Text) (n : Nat) (hn : n ≤ ks.length) : (laid ks key n).length = ks.length + 1 := by
  unfold laid
  simp
  omega
theorem rises_laid {ks : List Text} {key : Text} {n : Nat} (h : Rises ks) (hf : First ks (· < key) n) (hne : n < ks.length → ks.getD n [] ≠ key) : Rises (laid ks key n) := by
  obtain ⟨h1, h2, h3⟩ := hf
  intro i hi
  rw [length_laid ks key n h1] at hi
  rw [laid_at ks key n h1, laid_at ks key n h1]
  by_cases a : i + 1 < n
  · rw [if_pos (by omega), if_pos a]
    exact h i (by omega)
  · by_cases b : i + 1 = n
    · rw [if_pos (by omega), if_neg a, if_pos b]
      exact h2 i (by omega)
    · rw [if_neg (by omega : ¬ i + 1 < n), if_neg b, Nat.add_sub_cancel]
      by_cases c : i = n
      · rw [if_neg (by omega), if_pos c]
        subst c
        rcases text_tri key (ks.getD i []) with g | g | g
        · exact g
        · exact absurd g.symm (hne (by omega))
        · exact absurd g (h3 (by omega))
      · rw [if_neg (by omega), if_neg c]
        have := h (i - 1) (by omega)
        rwa [show i - 1 + 1 = i by omega] at this

/-! ### reading all keys -/
theorem nextKey_len (l : List UInt8) (key : Text) : (nextKey l key).length ≤ key.length + nextUsed l := by
  unfold nextKey nextUsed gotT usedT
  rw [List.length_append, List.length_take]
  split
  · rw [List.length_take]; omega
  · simp; omega
def parse (l : List UInt8) (key : Text) : Option (List Text) :=
  if h : l = [] then some [] else if h2 : nextOk l key = true then (parse (l.drop (nextUsed l)) (nextKey l key)).map (nextKey l key :: ·) else none
termination_by l.length
decreasing_by
  have := nextUsed_pos l key h2
  have h3 : 0 < l.length := List.length_pos_iff.2 h
  rw [List.length_drop]; omega
theorem parse_nil (key : Text) : parse [] key = some [] := by rw [parse]; simp
theorem parse_bad (l : List UInt8) (key : Text) (h : 0 < l.length) (h2 : nextOk l key = false) : parse l key = none := by
  rw [parse, dif_neg (List.length_pos_iff.1 h), dif_neg (by rw [h2]; decide)]
theorem parse_good (l : List UInt8) (key : Text) (h : 0 < l.length) (h2 : nextOk l key = true) : parse l key = (parse (l.drop (nextUsed l)) (nextKey l key)).map (nextKey l key :: ·) := by
  rw [parse, dif_neg (List.length_pos_iff.1 h), dif_pos h2]
/-- where the keys end -/
def endsOk (l : List UInt8) : Prop := 4 ≤ l.length ∧ 4 + 4 * num (l.drop (l.length - 4)) ≤ l.length
def keysEnd (l : List UInt8) : Nat := l.length - 4 - 4 * num (l.drop (l.length - 4))
def keysPart (l : List UInt8) : List UInt8 := l.take (keysEnd l)
/-- ks are the keys whose block l is -/
def Reads (l : List UInt8) (ks : List Text) : Prop := endsOk l ∧ parse (keysPart l) [] = some ks ∧ Rises ks ∧ blockOf ks = l
theorem reads_one {l : List UInt8} {a b : List Text} (h : Reads l a) (k : Reads l b) : a = b := by
  have := h.2.1.symm.trans k.2.1
  exact Option.some.inj this
theorem body_next (ks : List Text) (m n : Nat) (h : m < n) : (body ks n).drop (pos ks m) = ent ks m ++ (body ks n).drop (pos ks (m + 1)) := by
  obtain ⟨r, hr⟩ := body_drop ks m n h
  have e : (body ks n).drop (pos ks (m + 1)) = r := by
    rw [pos_succ, ← List.drop_drop, hr, List.drop_left]
  rw [e, hr]
theorem getE_nil : getE [] ≠ 0 := by decide
theorem ent_pos (ks : List Text) (i : Nat) : 0 < (ent ks i).length := by
  have := uv_pos (share ks i)
  rw [ent, List.length_append]; omega
theorem pos_all (ks : List Text) (n : Nat) : (body ks n).drop (pos ks n) = [] := by rw [pos, List.drop_length]
theorem parse_body (ks : List Text) (hk : ∀ i, (ks.getD i []).length < 18446744073709551616) (d : Nat) : ∀ i key, i + d = ks.length → (i % 16 = 0 ∨ key = ks.getD (i - 1) []) → parse ((body ks ks.length).drop (pos ks i)) key = some (ks.drop i) := by
  induction d with
  | zero =>
    intro i key hi h
    obtain rfl : i = ks.length := by omega
    rw [pos_all, parse_nil, List.drop_length]
  | succ d ih =>
    intro i key hi h
    have hb := body_next ks i ks.length (by omega)
    obtain ⟨h1, h2, h3⟩ := next_ent ks i key ((body ks ks.length).drop (pos ks (i + 1))) (hk i) h
    rw [← hb] at h1 h2 h3
    have hpos : 0 < ((body ks ks.length).drop (pos ks i)).length := by
      rw [hb, List.length_append]; have := ent_pos ks i; omega
    have hd : ((body ks ks.length).drop (pos ks i)).drop (ent ks i).length = (body ks ks.length).drop (pos ks (i + 1)) := by rw [List.drop_drop, ← pos_succ]
    rw [parse_good _ _ hpos h1, h2, h3, hd, ih (i + 1) _ (by omega) (Or.inr (by rw [Nat.add_sub_cancel]))]
    have : ks.drop i = ks.getD i [] :: ks.drop (i + 1) := by
      rw [List.drop_eq_getElem_cons (by omega), List.getD_eq_getElem?_getD, List.getElem?_eq_getElem (by omega)]; rfl
    rw [this]; rfl
theorem length_blockOf (ks : List Text) : (blockOf ks).length = pos ks ks.length + 4 * wholes ks.length + 4 := by
  rw [blockOf, List.length_append, List.length_append, length_ends, length_four]; rfl
theorem block_last (ks : List Text) : (blockOf ks).drop ((blockOf ks).length - 4) = four (wholes ks.length) := by
  have e : (blockOf ks).length - 4 = (body ks ks.length ++ ends ks (wholes ks.length)).length := by
    rw [length_blockOf, List.length_append, length_ends]; unfold pos; omega
  rw [e, blockOf, List.drop_left]
theorem block_num (ks : List Text) (h : ks.length < 4294967296) : num ((blockOf ks).drop ((blockOf ks).length - 4)) = wholes ks.length := by
  rw [block_last]
  have := num_four (wholes ks.length) (by unfold wholes; omega) []
  rwa [List.append_nil] at this
theorem block_ok (ks : List Text) (h : ks.length < 4294967296) : endsOk (blockOf ks) ∧ keysEnd (blockOf ks) = pos ks ks.length ∧ keysPart (blockOf ks) = body ks ks.length := by
  have h1 := block_num ks h
  have h2 := length_blockOf ks
  have h3 : keysEnd (blockOf ks) = pos ks ks.length := by unfold keysEnd; rw [h1]; omega
  refine ⟨⟨by omega, by rw [h1]; omega⟩, h3, ?_⟩
  rw [keysPart, h3, blockOf, List.append_assoc, pos, List.take_left]
theorem reads_block (ks : List Text) (h : ks.length < 4294967296) (hk : ∀ i, (ks.getD i []).length < 18446744073709551616) (hr : Rises ks) : Reads (blockOf ks) ks := by
  obtain ⟨h1, _, h3⟩ := block_ok ks h
  refine ⟨h1, ?_, hr, rfl⟩
  rw [h3]
  have := parse_body ks hk ks.length 0 [] (by omega) (Or.inl rfl)
  have e : pos ks 0 = 0 := rfl
  rwa [e, List.drop_zero, List.drop_zero] at this
/-- the places of whole keys -/
def placesPart (l : List UInt8) : List UInt8 := (l.take (l.length - 4)).drop (keysEnd l)
theorem block_places (ks : List Text) (h : ks.length < 4294967296) : placesPart (blockOf ks) = ends ks (wholes ks.length) := by
  obtain ⟨_, h2, _⟩ := block_ok ks h
  have e : (blockOf ks).length - 4 = (body ks ks.length ++ ends ks (wholes ks.length)).length := by
    rw [length_blockOf, List.length_append, length_ends]; unfold pos; omega
  rw [placesPart, h2, e, blockOf, List.take_left, pos, List.drop_left]
theorem place_at (ks : List Text) (m : Nat) (h : m < wholes ks.length) (hp : pos ks ks.length < 4294967296) : num ((ends ks (wholes ks.length)).drop (4 * m)) = pos ks (16 * m) := by
  obtain ⟨r, hr⟩ := ends_drop ks m _ h
  rw [hr]
  refine num_four _ ?_ r
  have := pos_mono ks (16 * m) ks.length (by unfold wholes at h; omega)
  omega
theorem length_places (l : List UInt8) (h : endsOk l) : (placesPart l).length = 4 * num (l.drop (l.length - 4)) := by
  unfold placesPart keysEnd
  rw [List.length_drop, List.length_take]
  unfold endsOk at h
  omega
theorem length_keysPart (l : List UInt8) (h : endsOk l) : (keysPart l).length = keysEnd l := by
  unfold keysPart
  rw [List.length_take]
  unfold endsOk at h
  unfold keysEnd
  omega
end Go.Proofs.Ytbamohcaamgalab
