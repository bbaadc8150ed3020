/- A log with a gap: the plain laws; the commits of lists of entries. -/
import Derived.Test.YtbamohcaamgalaePlainc
namespace Go.Proofs.Ytbamohcaamgalae
set_option linter.unusedVariables false
set_option linter.unusedSimpArgs false

theorem logB_append (a b : List (Nat × List Ent)) : logB (a ++ b) = logB a ++ logB b := by simp [logB]
theorem logB_one (c : Nat × List Ent) : logB [c] = seal_ (recordB c.1 c.2) := by simp [logB]
def lastOf : Option Nat → List (Nat × List Ent) → Option Nat
  | last, [] => last
  | _, c :: cs => lastOf (some c.1) cs
theorem lastOf_snoc (cs : List (Nat × List Ent)) (c : Nat × List Ent) : ∀ last, lastOf last (cs ++ [c]) = some c.1 := by
  induction cs with
  | nil => intro last; rfl
  | cons x r ih => intro last; exact ih _
theorem rep_gap (cs : List (Nat × List Ent)) : ∀ (last : Option Nat) (d : Nat × List Ent) (tail : List UInt8) (q : Nat), (∀ c ∈ cs, ComOk c) → ComOk d → Follows last cs → lastOf last cs = some q → q ≠ d.1 - 1 →
    rep (logB cs ++ (seal_ (recordB d.1 d.2) ++ tail)) last = (cs, (logB cs).length) := by
  induction cs with
  | nil =>
    intro last d tail q _ hd _ hq hne
    obtain ⟨hr, hv, hl⟩ := hd
    have hq' : last = some q := hq
    subst hq'
    have e : logB [] ++ (seal_ (recordB d.1 d.2) ++ tail) = seal_ (recordB d.1 d.2) ++ tail := rfl
    rw [e, rep_stop3 (nextE_seal _ _ hl) (by rw [payload_seal _ _ hl]; exact decodes_record d.1 d.2 hv hr) hne]
    rfl
  | cons c cs ih =>
    intro last d tail q hok hd hf hq hne
    obtain ⟨hr, hv, hl⟩ := hok c (by simp)
    have hsl := length_seal (recordB c.1 c.2)
    rw [logB_cons, List.append_assoc]
    have n1 := nextE_seal (recordB c.1 c.2) (logB cs ++ (seal_ (recordB d.1 d.2) ++ tail)) hl
    have n2 := payload_seal (recordB c.1 c.2) (logB cs ++ (seal_ (recordB d.1 d.2) ++ tail)) hl
    have n3 := num_seal (recordB c.1 c.2) (logB cs ++ (seal_ (recordB d.1 d.2) ++ tail)) hl
    rw [rep_step n1 (by rw [n2]; exact decodes_record c.1 c.2 hv hr) hf.1, n3, ← hsl, List.drop_left]
    rw [ih (some c.1) d tail q (fun x hx => hok x (by simp [hx])) hd hf.2 hq hne, List.length_append]
def setR (r : Nat) (x : Ent) : Ent := ⟨x.key, r, x.del⟩
def comsOf : Nat → List (List Ent) → List (Nat × List Ent)
  | _, [] => []
  | r, es :: l => if es.length = 0 then comsOf r l else (r, es.map (setR r)) :: comsOf (r + 1) l
theorem comsOf_append (l m : List (List Ent)) : ∀ r, comsOf r (l ++ m) = comsOf r l ++ comsOf (r + (comsOf r l).length) m := by
  induction l with
  | nil => intro r; simp [comsOf]
  | cons es l ih =>
    intro r
    rw [List.cons_append, comsOf, comsOf]
    by_cases h : es.length = 0
    · rw [if_pos h, if_pos h, ih]
    · rw [if_neg h, if_neg h, ih, List.cons_append, List.length_cons, show r + 1 + (comsOf (r + 1) l).length = r + ((comsOf (r + 1) l).length + 1) by omega]
theorem comsOf_len (l : List (List Ent)) : ∀ r, (comsOf r l).length ≤ l.length := by
  induction l with
  | nil => intro r; simp [comsOf]
  | cons es l ih =>
    intro r
    rw [comsOf]
    by_cases h : es.length = 0
    · rw [if_pos h, List.length_cons]; have := ih r; omega
    · rw [if_neg h, List.length_cons, List.length_cons]; have := ih (r + 1); omega
theorem comsOf_follows (l : List (List Ent)) : ∀ r last, 0 < r → (last = none ∨ last = some (r - 1)) → Follows last (comsOf r l) := by
  induction l with
  | nil => intro r last _ _; exact trivial
  | cons es l ih =>
    intro r last hr hl
    rw [comsOf]
    by_cases h : es.length = 0
    · rw [if_pos h]; exact ih r last hr hl
    · rw [if_neg h]; exact ⟨hl, ih (r + 1) (some r) (by omega) (.inr (by simp))⟩
theorem comsOf_rev (l : List (List Ent)) : ∀ r i, i < (comsOf r l).length → ((comsOf r l).getD i default).1 = r + i := by
  induction l with
  | nil => intro r i hi; simp [comsOf] at hi
  | cons es l ih =>
    intro r i hi
    rw [comsOf] at hi ⊢
    by_cases h : es.length = 0
    · rw [if_pos h] at hi ⊢; exact ih r i hi
    · rw [if_neg h] at hi ⊢
      cases i with
      | zero => rfl
      | succ i =>
        rw [List.getD_cons_succ, ih (r + 1) i (by simpa using hi)]; omega
theorem comsOf_ents (l : List (List Ent)) : ∀ r i, i < (comsOf r l).length → 0 < ((comsOf r l).getD i default).2.length ∧ ∀ j, j < ((comsOf r l).getD i default).2.length → (((comsOf r l).getD i default).2.getD j default).rev = r + i := by
  induction l with
  | nil => intro r i hi; simp [comsOf] at hi
  | cons es l ih =>
    intro r i hi
    rw [comsOf] at hi ⊢
    by_cases h : es.length = 0
    · rw [if_pos h] at hi ⊢; exact ih r i hi
    · rw [if_neg h] at hi ⊢
      cases i with
      | zero =>
        rw [List.getD_cons_zero]
        refine ⟨by simp; omega, fun j hj => ?_⟩
        simp only [List.length_map] at hj
        simp [List.getD_eq_getElem?_getD, List.getElem?_map, List.getElem?_eq_getElem hj, setR]
      | succ i =>
        rw [List.getD_cons_succ]
        obtain ⟨h1, h2⟩ := ih (r + 1) i (by simpa using hi)
        exact ⟨h1, fun j hj => by rw [h2 j hj]; omega⟩
theorem ok_com (rev : Nat) (es : List Ent) (h0 : 0 < rev) (hr : rev < 18446744073709551616) (hl : 0 < es.length) (hl2 : es.length ≤ 256) (he : ∀ i, i < es.length → (es.getD i default).rev = rev) (hk : ∀ i, (es.getD i default).key.size ≤ 200) : ComOk (rev, es) := by
  refine ⟨⟨h0, hl, hl2, fun i hi => ?_⟩, hr, ?_⟩
  · rintro (h | h)
    · exact h (he i hi)
    · have h' : 65536 < (es.getD i default).key.size := h
      have := hk i; omega
  · have := recK_len rev es hr (by omega) hk es.length (Nat.le_refl _)
    rw [recK_all] at this
    show (recordB rev es).length < 4294967296
    omega
theorem logB_mono (cs : List (Nat × List Ent)) (i j : Nat) (h : i ≤ j) : (logB (cs.take i)).length ≤ (logB (cs.take j)).length := by
  have e : cs.take j = cs.take i ++ (cs.take j).drop i := by
    have := List.take_append_drop i (cs.take j)
    rw [List.take_take, Nat.min_eq_left h] at this
    exact this.symm
  rw [e, logB_append, List.length_append]; omega
theorem take_snoc {α : Type} [Inhabited α] (l : List α) (k : Nat) (h : k < l.length) : l.take (k + 1) = l.take k ++ [l.getD k default] := by
  rw [List.take_add_one, List.getElem?_eq_getElem h, List.getD_eq_getElem?_getD, List.getElem?_eq_getElem h]
  rfl
def bump (d : Nat) (c : Nat × List Ent) : Nat × List Ent := (c.1 + d, c.2.map (setR (c.1 + d)))
/-- those from k on moved on by d -/
def mix (k d : Nat) (cs : List (Nat × List Ent)) : List (Nat × List Ent) := cs.take k ++ (cs.drop k).map (bump d)
theorem mix_len (k d : Nat) (cs : List (Nat × List Ent)) : (mix k d cs).length = cs.length := by
  simp [mix]; omega
theorem mix_get (k d i : Nat) (cs : List (Nat × List Ent)) (hk : k ≤ cs.length) (hi : i < cs.length) : (mix k d cs).getD i default = if i < k then cs.getD i default else bump d (cs.getD i default) := by
  unfold mix
  by_cases h : i < k
  · rw [if_pos h, List.getD_eq_getElem?_getD, List.getElem?_append_left (by rw [List.length_take]; omega), List.getElem?_take, if_pos h, List.getD_eq_getElem?_getD]
  · rw [if_neg h, List.getD_eq_getElem?_getD, List.getElem?_append_right (by rw [List.length_take]; omega), List.length_take, Nat.min_eq_left hk, List.getElem?_map, List.getElem?_drop, show k + (i - k) = i by omega, List.getD_eq_getElem?_getD, List.getElem?_eq_getElem hi]
    rfl
theorem rep_mix (l : List (List Ent)) (r k d : Nat) (hr : 0 < r) (hk0 : 0 < k) (hk : k < (comsOf r l).length) (hd : 0 < d) (hok : ∀ c ∈ comsOf r l, ComOk c) (hokb : ∀ i, k ≤ i → i < (comsOf r l).length → ComOk (bump d ((comsOf r l).getD i default))) :
    rep (logB (mix k d (comsOf r l))) none = ((comsOf r l).take k, (logB ((comsOf r l).take k)).length) ∧ (logB ((comsOf r l).take k)).length < (logB (mix k d (comsOf r l))).length := by
  have hF := comsOf_follows l r none hr (.inl rfl)
  have hR := comsOf_rev l r
  generalize comsOf r l = cs at *
  have ed : cs.drop k = cs.getD k default :: cs.drop (k + 1) := by
    rw [List.drop_eq_getElem_cons hk, List.getD_eq_getElem?_getD, List.getElem?_eq_getElem hk]; rfl
  have em : mix k d cs = cs.take k ++ bump d (cs.getD k default) :: (cs.drop (k + 1)).map (bump d) := by rw [mix, ed, List.map_cons]
  have hFt : Follows none (cs.take k) := by
    have : ∀ (m : List (Nat × List Ent)) (last : Option Nat) (n : Nat), Follows last m → Follows last (m.take n) := by
      intro m
      induction m with
      | nil => intro last n h; rw [List.take_nil]; trivial
      | cons x m ih =>
        intro last n h
        cases n with
        | zero => trivial
        | succ n => exact ⟨h.1, ih _ n h.2⟩
    exact this cs none k hF
  have hlast : lastOf none (cs.take k) = some (r + (k - 1)) := by
    obtain ⟨m, rfl⟩ : ∃ m, k = m + 1 := ⟨k - 1, by omega⟩
    rw [take_snoc cs m (by omega), lastOf_snoc, hR m (by omega)]
    rfl
  rw [em, logB_append, logB_cons]
  constructor
  · exact rep_gap (cs.take k) none (bump d (cs.getD k default)) (logB ((cs.drop (k + 1)).map (bump d))) (r + (k - 1)) (fun c hc => hok c (List.mem_of_mem_take hc)) (hokb k (Nat.le_refl _) hk) hFt hlast (by
      show r + (k - 1) ≠ (cs.getD k default).1 + d - 1
      rw [hR k hk]; omega)
  · rw [List.length_append, List.length_append, length_seal]; omega
end Go.Proofs.Ytbamohcaamgalae
