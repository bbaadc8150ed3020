/- Numbers as bytes, seven bits each: the plain laws. No program in sight. -/
import Derived.WalkKit
namespace Go.Proofs.YtacjbgmnoiimbabGreat
set_option linter.unusedVariables false
set_option linter.unusedSimpArgs false

/-- a number's bytes, seven bits each, the lowest first -/
def uv (v : Nat) : List UInt8 := if h : v < 128 then [UInt8.ofNat v] else UInt8.ofNat (v % 128 + 128) :: uv (v / 128)
termination_by v
decreasing_by omega
theorem uv_small {v : Nat} (h : v < 128) : uv v = [UInt8.ofNat v] := by rw [uv, dif_pos h]
theorem uv_big {v : Nat} (h : ¬ v < 128) : uv v = UInt8.ofNat (v % 128 + 128) :: uv (v / 128) := by rw [uv, dif_neg h]
theorem toNat_ofNat8 (n : Nat) : (UInt8.ofNat n).toNat = n % 256 := UInt8.toNat_ofNat'
theorem uv_pos (v : Nat) : 0 < (uv v).length := by
  rw [uv]; split <;> simp
theorem uv_len (k : Nat) : ∀ v, v < 128 ^ (k + 1) → (uv v).length ≤ k + 1 := by
  induction k with
  | zero => intro v h; rw [uv_small (by simpa using h)]; simp
  | succ k ih =>
    intro v h
    by_cases hv : v < 128
    · rw [uv_small hv]; simp
    · rw [uv_big hv, List.length_cons]
      have : v / 128 < 128 ^ (k + 1) := Nat.div_lt_of_lt_mul (by rw [Nat.pow_succ] at h; omega)
      have := ih _ this
      omega
theorem uv_len64 (v : Nat) (h : v < 18446744073709551616) : (uv v).length ≤ 10 :=
  uv_len 9 v (Nat.lt_of_lt_of_le h (by decide))

/-- how many first bytes go on -/
def more : List UInt8 → Nat
  | [] => 0
  | c :: r => if c.toNat < 128 then 0 else more r + 1
/-- the number of bytes, seven bits each, the lowest first -/
def low7 : List UInt8 → Nat
  | [] => 0
  | c :: r => c.toNat % 128 + 128 * low7 r
/-- 7: too short; 9: not of its form; 0: a number -/
def getE (l : List UInt8) : Nat :=
  if 10 ≤ more l then 9 else if l.length ≤ more l then 7 else if (l.getD (more l) 0).toNat = 0 ∧ 0 < more l ∨ more l = 9 ∧ 1 < (l.getD 9 0).toNat then 9 else 0
def getN (l : List UInt8) : Nat := if getE l = 0 then more l + 1 else 0
def getV (l : List UInt8) : Nat := if getE l = 0 then low7 (l.take (more l + 1)) else 0

theorem more_le (l : List UInt8) : more l ≤ l.length := by
  induction l with
  | nil => exact Nat.le_refl _
  | cons c r ih => rw [more]; split <;> simp <;> omega
theorem more_ge (l : List UInt8) : ∀ i, i < more l → 128 ≤ (l.getD i 0).toNat := by
  induction l with
  | nil => intro i h; cases h
  | cons c r ih =>
    intro i h
    rw [more] at h
    by_cases hc : c.toNat < 128
    · rw [if_pos hc] at h; cases h
    · rw [if_neg hc] at h
      cases i with
      | zero => simpa using hc
      | succ i => simpa using ih i (by omega)
theorem more_at (l : List UInt8) (h : more l < l.length) : (l.getD (more l) 0).toNat < 128 := by
  induction l with
  | nil => cases h
  | cons c r ih =>
    rw [more] at h ⊢
    by_cases hc : c.toNat < 128
    · rw [if_pos hc]; simpa using hc
    · rw [if_neg hc] at h ⊢
      have := ih (by simpa using h)
      simpa using this
theorem more_eq (l : List UInt8) (n : Nat) (hn : n < l.length) (h1 : ∀ i, i < n → 128 ≤ (l.getD i 0).toNat) (h2 : (l.getD n 0).toNat < 128) : more l = n := by
  rcases Nat.lt_trichotomy (more l) n with h | h | h
  · have := h1 _ h
    have := more_at l (by omega)
    omega
  · exact h
  · have := more_ge l n h
    omega
theorem more_all (l : List UInt8) (h1 : ∀ i, i < l.length → 128 ≤ (l.getD i 0).toNat) : more l = l.length := by
  rcases Nat.lt_or_ge (more l) l.length with h | h
  · have := h1 _ h
    have := more_at l h
    omega
  · have := more_le l
    omega
theorem low7_lt (l : List UInt8) : low7 l < 2 ^ (7 * l.length) := by
  induction l with
  | nil => decide
  | cons c r ih =>
    rw [low7, List.length_cons, show 7 * (r.length + 1) = 7 * r.length + 7 by omega, Nat.pow_add]
    have : c.toNat % 128 < 128 := Nat.mod_lt _ (by decide)
    have e : (2 : Nat) ^ 7 = 128 := rfl
    rw [e]
    omega
theorem low7_snoc (l : List UInt8) (c : UInt8) : low7 (l ++ [c]) = low7 l + (c.toNat % 128) * 2 ^ (7 * l.length) := by
  induction l with
  | nil => simp [low7]
  | cons d r ih =>
    rw [List.cons_append, low7, ih, low7, List.length_cons, show 7 * (r.length + 1) = 7 + 7 * r.length by omega, Nat.pow_add, Nat.mul_add, ← Nat.add_assoc]
    congr 1
    have e : (2 : Nat) ^ 7 = 128 := rfl
    rw [e, ← Nat.mul_assoc, ← Nat.mul_assoc, Nat.mul_comm 128]
theorem take_snoc8 (l : List UInt8) (k : Nat) (h : k < l.length) : l.take (k + 1) = l.take k ++ [l.getD k 0] := by
  rw [List.take_succ_eq_append_getElem h]
  simp [List.getD, h]
theorem low7_take (l : List UInt8) (i : Nat) (h : i < l.length) : low7 (l.take (i + 1)) = low7 (l.take i) + ((l.getD i 0).toNat % 128) * 2 ^ (7 * i) := by
  rw [take_snoc8 l i h, low7_snoc, List.length_take, Nat.min_eq_left (by omega)]
theorem low7_take_lt (l : List UInt8) (i : Nat) : low7 (l.take i) < 2 ^ (7 * i) :=
  Nat.lt_of_lt_of_le (low7_lt _) (Nat.pow_le_pow_right (by decide) (by have := List.length_take_le i l; omega))
/-- from behind: what is left of the first n bytes from i on -/
theorem low7_drop (l : List UInt8) (i n : Nat) (h : i < n) (hn : n ≤ l.length) : low7 ((l.take n).drop i) = low7 ((l.take n).drop (i + 1)) * 128 + (l.getD i 0).toNat % 128 := by
  have hl : i < (l.take n).length := by rw [List.length_take]; omega
  rw [List.drop_eq_getElem_cons hl, low7]
  have e : (l.take n)[i] = l.getD i 0 := by
    rw [List.getElem_take, List.getD_eq_getElem?_getD, List.getElem?_eq_getElem (by omega)]; rfl
  rw [e]; omega

theorem more_cons_big (c : UInt8) (r : List UInt8) (h : 128 ≤ c.toNat) : more (c :: r) = more r + 1 := by rw [more, if_neg (by omega)]
theorem more_cons_small (c : UInt8) (r : List UInt8) (h : c.toNat < 128) : more (c :: r) = 0 := by rw [more, if_pos h]
theorem more_uv (n : Nat) : ∀ v, v < n → ∀ r, more (uv v ++ r) + 1 = (uv v).length ∧ low7 ((uv v ++ r).take (more (uv v ++ r) + 1)) = v ∧ (128 ≤ v → ((uv v ++ r).getD (more (uv v ++ r)) 0).toNat ≠ 0) := by
  induction n with
  | zero => intro v h; cases h
  | succ n ih =>
    intro v h r
    by_cases hv : v < 128
    · have e : (UInt8.ofNat v).toNat = v := by rw [toNat_ofNat8]; omega
      rw [uv_small hv, List.singleton_append, more_cons_small _ _ (by omega)]
      refine ⟨rfl, ?_, fun hh => by omega⟩
      simp only [Nat.zero_add, List.take_succ_cons, List.take_zero, low7, e]
      omega
    · have e : (UInt8.ofNat (v % 128 + 128)).toNat = v % 128 + 128 := by rw [toNat_ofNat8]; omega
      obtain ⟨h1, h2, h3⟩ := ih (v / 128) (by omega) r
      rw [uv_big hv, List.cons_append, more_cons_big _ _ (by omega)]
      refine ⟨by rw [List.length_cons]; omega, ?_, fun _ => ?_⟩
      · rw [List.take_succ_cons, low7, h2, e]; omega
      · rw [List.getD_cons_succ]
        by_cases hq : 128 ≤ v / 128
        · exact h3 hq
        · rw [uv_small (by omega), List.singleton_append, more_cons_small _ _ (by rw [toNat_ofNat8]; omega)]
          simp only [List.getD_cons_zero, toNat_ofNat8]
          omega
/-- a number's bytes tell it -/
theorem get_uv (v : Nat) (hv : v < 18446744073709551616) (r : List UInt8) : getE (uv v ++ r) = 0 ∧ getN (uv v ++ r) = (uv v).length ∧ getV (uv v ++ r) = v := by
  obtain ⟨h1, h2, h3⟩ := more_uv (v + 1) v (Nat.lt_succ_self v) r
  have hl := uv_len64 v hv
  have hE : getE (uv v ++ r) = 0 := by
    rw [getE, if_neg (by omega), if_neg (by rw [List.length_append]; omega), if_neg]
    rintro (⟨ha, hb⟩ | ⟨ha, hb⟩)
    · by_cases h128 : 128 ≤ v
      · exact h3 h128 ha
      · rw [uv_small (by omega)] at hb
        rw [List.singleton_append, more_cons_small _ _ (by rw [toNat_ofNat8]; omega)] at hb
        omega
    · have hlen : (uv v).length = 10 := by omega
      have ht := low7_take (uv v ++ r) 9 (by rw [List.length_append]; omega)
      rw [ha] at h2
      rw [h2] at ht
      have hm := more_at (uv v ++ r) (by rw [List.length_append]; omega)
      rw [ha] at hm
      have e : (2 : Nat) ^ (7 * 9) = 9223372036854775808 := by decide
      rw [e, Nat.mod_eq_of_lt hm] at ht
      have : 2 * 9223372036854775808 ≤ ((uv v ++ r).getD 9 0).toNat * 9223372036854775808 := Nat.mul_le_mul_right _ hb
      omega
  refine ⟨hE, ?_, ?_⟩
  · rw [getN, if_pos hE]; exact h1
  · rw [getV, if_pos hE]; exact h2
theorem getN_le (l : List UInt8) : getN l ≤ l.length := by
  unfold getN
  split
  · rename_i h
    unfold getE at h
    split at h
    · cases h
    · split at h
      · cases h
      · omega
  · exact Nat.zero_le _
theorem getE_ok (l : List UInt8) (h : getE l = 0) : more l < 10 ∧ more l < l.length ∧ ¬ ((l.getD (more l) 0).toNat = 0 ∧ 0 < more l) ∧ ¬ (more l = 9 ∧ 1 < (l.getD 9 0).toNat) := by
  unfold getE at h
  split at h
  · cases h
  · split at h
    · cases h
    · split at h
      · cases h
      · rename_i h1 h2 h3
        exact ⟨by omega, by omega, fun hh => h3 (Or.inl hh), fun hh => h3 (Or.inr hh)⟩
theorem getV_lt (l : List UInt8) : getV l < 18446744073709551616 := by
  unfold getV
  split
  · rename_i h
    obtain ⟨h1, h2, h3, h4⟩ := getE_ok l h
    by_cases h9 : more l = 9
    · rw [h9] at h2 ⊢
      rw [low7_take l 9 h2]
      have hl := low7_take_lt l 9
      have hm : (l.getD 9 0).toNat ≤ 1 := by
        rcases Nat.lt_or_ge 1 (l.getD 9 0).toNat with hx | hx
        · exact absurd ⟨h9, hx⟩ h4
        · exact hx
      have e : (2 : Nat) ^ (7 * 9) = 9223372036854775808 := by decide
      rw [e] at hl ⊢
      have : ((l.getD 9 0).toNat % 128) * 9223372036854775808 ≤ 1 * 9223372036854775808 := Nat.mul_le_mul_right _ (by omega)
      omega
    · have hl := low7_take_lt l (more l + 1)
      have : 2 ^ (7 * (more l + 1)) ≤ 2 ^ 63 := Nat.pow_le_pow_right (by decide) (by omega)
      have e : (2 : Nat) ^ 63 = 9223372036854775808 := by decide
      omega
  · decide
end Go.Proofs.YtacjbgmnoiimbabGreat
namespace Go.Proofs.YtacjbgmnoiimbabGreat
set_option linter.unusedVariables false
set_option linter.unusedSimpArgs false

abbrev Text := List UInt8
def textE (s : Text) : List UInt8 := uv s.length ++ s
/-! ### reading a key -/
def textN (l : List UInt8) : Nat := if getE l = 0 then (if l.length - getN l < getV l then 7 else 0) else getE l
/-- a text, and how many bytes it takes -/
def gotT (l : List UInt8) : Text := if textN l = 0 then (l.drop (getN l)).take (getV l) else []
def usedT (l : List UInt8) : Nat := if textN l = 0 then getN l + getV l else 0
theorem text_of (s : Text) (h : s.length < 18446744073709551616) (r : List UInt8) : textN (textE s ++ r) = 0 ∧ gotT (textE s ++ r) = s ∧ usedT (textE s ++ r) = (textE s).length := by
  obtain ⟨h1, h2, h3⟩ := get_uv s.length h (s ++ r)
  have e : textE s ++ r = uv s.length ++ (s ++ r) := by rw [textE, List.append_assoc]
  have h0 : textN (textE s ++ r) = 0 := by
    rw [e, textN, if_pos h1, h2, h3, if_neg]
    rw [List.length_append, List.length_append]; omega
  refine ⟨h0, ?_, ?_⟩
  · rw [gotT, if_pos h0, e, h2, h3, List.drop_left, List.take_left]
  · rw [usedT, if_pos h0, e, h2, h3, textE, List.length_append]
theorem usedT_le (l : List UInt8) : usedT l ≤ l.length := by
  unfold usedT
  split
  · rename_i h
    unfold textN at h
    split at h
    · have := getN_le l
      split at h
      · cases h
      · omega
    · rename_i h1
      exact absurd h h1
  · exact Nat.zero_le _
theorem getN_pos (l : List UInt8) (h : getE l = 0) : 0 < getN l := by rw [getN, if_pos h]; omega
end Go.Proofs.YtacjbgmnoiimbabGreat
namespace Go.Proofs.YtacjbgmnoiimbabGreat
set_option linter.unusedVariables false
set_option linter.unusedSimpArgs false

/-- of what is written as en, one begins no other -/
def Uq {T : Type} (en : T → List UInt8) (ok : T → Prop) : Prop := ∀ x y r s, ok x → ok y → en x ++ r = en y ++ s → x = y ∧ r = s
theorem uq_num : Uq uv (fun v => v < 18446744073709551616) := fun x y r s hx hy h => by
  obtain ⟨_, h2, h3⟩ := get_uv x hx r
  obtain ⟨_, k2, k3⟩ := get_uv y hy s
  rw [h] at h2 h3
  have e : x = y := h3.symm.trans k3
  subst e
  exact ⟨rfl, List.append_cancel_left h⟩
theorem uq_pair {T U : Type} {e1 : T → List UInt8} {o1 : T → Prop} {e2 : U → List UInt8} {o2 : U → Prop} (h1 : Uq e1 o1) (h2 : Uq e2 o2) : Uq (fun p : T × U => e1 p.1 ++ e2 p.2) (fun p => o1 p.1 ∧ o2 p.2) := fun ⟨x1, x2⟩ ⟨y1, y2⟩ r s ⟨a1, a2⟩ ⟨b1, b2⟩ h => by
  simp only [List.append_assoc] at h
  obtain ⟨e, h'⟩ := h1 x1 y1 _ _ a1 b1 h
  obtain ⟨e', h''⟩ := h2 x2 y2 _ _ a2 b2 h'
  exact ⟨by rw [e, e'], h''⟩
theorem uq_map {T U : Type} {e1 : T → List UInt8} {o1 : T → Prop} (h1 : Uq e1 o1) (f : U → T) (hf : ∀ x y, f x = f y → x = y) : Uq (fun u => e1 (f u)) (fun u => o1 (f u)) := fun x y r s a b h => by
  obtain ⟨e, h'⟩ := h1 _ _ _ _ a b h
  exact ⟨hf _ _ e, h'⟩
/-- a text -/
def txt (s : ByteArray) : List UInt8 := textE s.data.toList
def tok (s : ByteArray) : Prop := s.size < 18446744073709551616
theorem txt_eq (s : ByteArray) : txt s = uv s.size ++ s.data.toList := rfl
theorem uq_txt : Uq txt tok := fun x y r s hx hy h => by
  rw [txt_eq, txt_eq, List.append_assoc, List.append_assoc] at h
  obtain ⟨e, h'⟩ := uq_num _ _ _ _ hx hy h
  have hl : x.data.toList.length = y.data.toList.length := by
    rw [Array.length_toList, Array.length_toList]; exact e
  obtain ⟨e2, h''⟩ := List.append_inj h' hl
  refine ⟨?_, h''⟩
  cases x; cases y
  simp only [ByteArray.mk.injEq]
  exact Array.toList_inj.1 e2
/-- a whole number -/
def zig (n : Int) : Nat := if n < 0 then 2 * (-(n + 1)).toNat + 1 else 2 * n.toNat
def intE (n : Int) : List UInt8 := uv (zig n)
def iok (n : Int) : Prop := -9223372036854775808 ≤ n ∧ n < 9223372036854775808
theorem zig_lt {n : Int} (h : iok n) : zig n < 18446744073709551616 := by
  unfold iok at h
  unfold zig
  split <;> omega
theorem zig_inj {n m : Int} (h : zig n = zig m) : n = m := by
  unfold zig at h
  split at h <;> split at h <;> omega
theorem uq_int : Uq intE iok := fun x y r s hx hy h => by
  obtain ⟨e, h'⟩ := uq_num _ _ _ _ (zig_lt hx) (zig_lt hy) h
  exact ⟨zig_inj e, h'⟩
/-- yes or no -/
def boolE (b : Bool) : List UInt8 := uv (if b then 1 else 0)
theorem uq_bool : Uq boolE (fun _ => True) := fun x y r s _ _ h => by
  obtain ⟨e, h'⟩ := uq_num _ _ _ _ (by split <;> omega) (by split <;> omega) h
  refine ⟨?_, h'⟩
  cases x <;> cases y <;> first | rfl | (simp at e)
theorem boolE_eq (b : Bool) : boolE b = [if b then 1 else 0] := by
  unfold boolE
  rw [uv_small (by split <;> omega)]
  cases b <;> rfl
/-- a list -/
def bodyE {T : Type} (en : T → List UInt8) (xs : List T) : List UInt8 := xs.flatMap en
def listE {T : Type} (en : T → List UInt8) (xs : List T) : List UInt8 := uv xs.length ++ bodyE en xs
def lok {T : Type} (ok : T → Prop) (xs : List T) : Prop := xs.length < 18446744073709551616 ∧ ∀ x ∈ xs, ok x
theorem body_cons {T : Type} (en : T → List UInt8) (x : T) (xs : List T) : bodyE en (x :: xs) = en x ++ bodyE en xs := rfl
theorem body_append {T : Type} (en : T → List UInt8) (xs ys : List T) : bodyE en (xs ++ ys) = bodyE en xs ++ bodyE en ys := List.flatMap_append
theorem uq_body {T : Type} {en : T → List UInt8} {ok : T → Prop} (h : Uq en ok) : ∀ (xs ys : List T) (r s : List UInt8), xs.length = ys.length → (∀ x ∈ xs, ok x) → (∀ y ∈ ys, ok y) → bodyE en xs ++ r = bodyE en ys ++ s → xs = ys ∧ r = s
  | [], [], r, s, _, _, _, e => ⟨rfl, e⟩
  | [], y :: ys, _, _, hl, _, _, _ => by cases hl
  | x :: xs, [], _, _, hl, _, _, _ => by cases hl
  | x :: xs, y :: ys, r, s, hl, hx, hy, e => by
    rw [body_cons, body_cons, List.append_assoc, List.append_assoc] at e
    obtain ⟨e1, e'⟩ := h x y _ _ (hx _ List.mem_cons_self) (hy _ List.mem_cons_self) e
    obtain ⟨e2, e''⟩ := uq_body h xs ys r s (by simpa using hl) (fun z hz => hx z (List.mem_cons_of_mem _ hz)) (fun z hz => hy z (List.mem_cons_of_mem _ hz)) e'
    exact ⟨by rw [e1, e2], e''⟩
theorem uq_list {T : Type} {en : T → List UInt8} {ok : T → Prop} (h : Uq en ok) : Uq (listE en) (lok ok) := fun x y r s hx hy e => by
  unfold listE at e
  rw [List.append_assoc, List.append_assoc] at e
  obtain ⟨e1, e'⟩ := uq_num _ _ _ _ hx.1 hy.1 e
  exact uq_body h x y r s e1 hx.2 hy.2 e'
/-! ### the parts of requests -/
abbrev Tri := ByteArray × ByteArray × ByteArray
def triE (t : Tri) : List UInt8 := txt t.1 ++ (txt t.2.1 ++ txt t.2.2)
def triok (t : Tri) : Prop := tok t.1 ∧ tok t.2.1 ∧ tok t.2.2
theorem uq_tri : Uq triE triok := uq_pair uq_txt (uq_pair uq_txt uq_txt)
abbrev Duo := ByteArray × ByteArray
def duoE (t : Duo) : List UInt8 := txt t.1 ++ txt t.2
def duook (t : Duo) : Prop := tok t.1 ∧ tok t.2
theorem uq_duo : Uq duoE duook := uq_pair uq_txt uq_txt
abbrev Six := Tri × Tri
def sixE (t : Six) : List UInt8 := triE t.1 ++ triE t.2
def sixok (t : Six) : Prop := triok t.1 ∧ triok t.2
theorem uq_six : Uq sixE sixok := uq_pair uq_tri uq_tri
abbrev Wrt := Bool × Six
def wrtE (t : Wrt) : List UInt8 := boolE t.1 ++ sixE t.2
def wrtok (t : Wrt) : Prop := True ∧ sixok t.2
theorem uq_wrt : Uq wrtE wrtok := uq_pair uq_bool uq_six
abbrev ArgT := ByteArray × Int × Int × ByteArray
def argE (t : ArgT) : List UInt8 := txt t.1 ++ (intE t.2.1 ++ (intE t.2.2.1 ++ txt t.2.2.2))
def argok (t : ArgT) : Prop := tok t.1 ∧ iok t.2.1 ∧ iok t.2.2.1 ∧ tok t.2.2.2
theorem uq_arg : Uq argE argok := uq_pair uq_txt (uq_pair uq_int (uq_pair uq_int uq_txt))
abbrev Evt := Nat × Wrt
def evtE (t : Evt) : List UInt8 := uv t.1 ++ wrtE t.2
def evtok (t : Evt) : Prop := t.1 < 18446744073709551616 ∧ wrtok t.2
theorem uq_evt : Uq evtE evtok := uq_pair uq_num uq_wrt
end Go.Proofs.YtacjbgmnoiimbabGreat
namespace Go.Proofs.YtacjbgmnoiimbabGreat
set_option linter.unusedVariables false
set_option linter.unusedSimpArgs false

/-- a rule -/
inductive PR where
  | mk (kind : Int) (A B : ByteArray) (parts : List PR)
instance : Inhabited PR := ⟨.mk 0 ByteArray.empty ByteArray.empty []⟩
mutual
def encR : PR → List UInt8
  | .mk k A B ps => intE k ++ (txt A ++ (txt B ++ (uv ps.length ++ encRs ps)))
def encRs : List PR → List UInt8
  | [] => []
  | x :: r => encR x ++ encRs r
end
theorem encRs_eq : ∀ ps, encRs ps = bodyE encR ps
  | [] => by rw [encRs]; rfl
  | x :: r => by rw [encRs, encRs_eq r]; rfl
theorem encR_eq (k : Int) (A B : ByteArray) (ps : List PR) : encR (.mk k A B ps) = intE k ++ (txt A ++ (txt B ++ listE encR ps)) := by
  rw [encR, encRs_eq]; rfl
mutual
def depR : PR → Nat
  | .mk _ _ _ ps => depRs ps + 1
def depRs : List PR → Nat
  | [] => 0
  | x :: r => max (depR x) (depRs r)
end
mutual
def okR : PR → Prop
  | .mk k A B ps => iok k ∧ tok A ∧ tok B ∧ ps.length < 18446744073709551616 ∧ okRs ps
def okRs : List PR → Prop
  | [] => True
  | x :: r => okR x ∧ okRs r
end
theorem depR_eq (k : Int) (A B : ByteArray) (ps : List PR) : depR (.mk k A B ps) = depRs ps + 1 := by rw [depR]
theorem okR_eq (k : Int) (A B : ByteArray) (ps : List PR) : okR (.mk k A B ps) ↔ iok k ∧ tok A ∧ tok B ∧ ps.length < 18446744073709551616 ∧ okRs ps := by rw [okR]
theorem depRs_le {ps : List PR} : ∀ {n : Nat}, depRs ps ≤ n ↔ ∀ x ∈ ps, depR x ≤ n := by
  induction ps with
  | nil => intro n; rw [depRs]; simp
  | cons x r ih =>
    intro n
    rw [depRs]
    constructor
    · intro h y hy
      rcases List.mem_cons.1 hy with rfl | hy
      · omega
      · exact (ih.1 (by omega)) y hy
    · intro h
      have h1 := h x List.mem_cons_self
      have h2 := ih.2 (fun y hy => h y (List.mem_cons_of_mem _ hy))
      omega
theorem okRs_iff {ps : List PR} : okRs ps ↔ ∀ x ∈ ps, okR x := by
  induction ps with
  | nil => rw [okRs]; simp
  | cons x r ih =>
    rw [okRs, ih]
    constructor
    · rintro ⟨h1, h2⟩ y hy
      rcases List.mem_cons.1 hy with rfl | hy
      · exact h1
      · exact h2 y hy
    · exact fun h => ⟨h x List.mem_cons_self, fun y hy => h y (List.mem_cons_of_mem _ hy)⟩
/-- too deep at depth d -/
def badR (x : PR) (d : Nat) : Prop := 64 < d + depR x
theorem badR_parts (k : Int) (A B : ByteArray) (ps : List PR) (d : Nat) : badR (.mk k A B ps) d ↔ 64 ≤ d ∨ ∃ x ∈ ps, badR x (d + 1) := by
  unfold badR
  rw [depR_eq]
  constructor
  · intro h
    by_cases h1 : 64 ≤ d
    · exact .inl h1
    · refine .inr (Classical.byContradiction fun hno => ?_)
      have : depRs ps ≤ 63 - d := depRs_le.2 (fun x hx => Classical.byContradiction fun hn => hno ⟨x, hx, by omega⟩)
      omega
  · rintro (h | ⟨x, hx, h⟩)
    · omega
    · have : depR x ≤ depRs ps := depRs_le.1 (Nat.le_refl _) x hx
      omega
mutual
theorem uqR' : ∀ (x y : PR) (r s : List UInt8), okR x → okR y → encR x ++ r = encR y ++ s → x = y ∧ r = s
  | .mk k A B ps, .mk k' A' B' ps', r, s, hx, hy, h => by
    rw [okR] at hx hy
    rw [encR, encR] at h
    simp only [List.append_assoc] at h
    obtain ⟨e1, h⟩ := uq_int _ _ _ _ hx.1 hy.1 h
    obtain ⟨e2, h⟩ := uq_txt _ _ _ _ hx.2.1 hy.2.1 h
    obtain ⟨e3, h⟩ := uq_txt _ _ _ _ hx.2.2.1 hy.2.2.1 h
    obtain ⟨e4, h⟩ := uq_num _ _ _ _ hx.2.2.2.1 hy.2.2.2.1 h
    obtain ⟨e5, h⟩ := uqRs' ps ps' r s e4 hx.2.2.2.2 hy.2.2.2.2 h
    exact ⟨by rw [e1, e2, e3, e5], h⟩
theorem uqRs' : ∀ (xs ys : List PR) (r s : List UInt8), xs.length = ys.length → okRs xs → okRs ys → encRs xs ++ r = encRs ys ++ s → xs = ys ∧ r = s
  | [], [], r, s, _, _, _, h => by rw [encRs] at h; exact ⟨rfl, h⟩
  | [], y :: ys, _, _, hl, _, _, _ => by cases hl
  | x :: xs, [], _, _, hl, _, _, _ => by cases hl
  | x :: xs, y :: ys, r, s, hl, hx, hy, h => by
    rw [okRs] at hx hy
    rw [encRs, encRs, List.append_assoc, List.append_assoc] at h
    obtain ⟨e1, h⟩ := uqR' x y _ _ hx.1 hy.1 h
    obtain ⟨e2, h⟩ := uqRs' xs ys r s (by simpa using hl) hx.2 hy.2 h
    exact ⟨by rw [e1, e2], h⟩
end
theorem uq_rule : Uq encR okR := fun x y r s hx hy h => uqR' x y r s hx hy h
/-- a node -/
inductive PN where
  | mk (kind : Int) (obj : Duo) (rel : ByteArray) (subs : List Tri) (parts : List PN)
instance : Inhabited PN := ⟨.mk 0 (ByteArray.empty, ByteArray.empty) ByteArray.empty [] []⟩
mutual
def encN : PN → List UInt8
  | .mk k o r ss ps => intE k ++ (duoE o ++ (txt r ++ (listE triE ss ++ (uv ps.length ++ encNs ps))))
def encNs : List PN → List UInt8
  | [] => []
  | x :: r => encN x ++ encNs r
end
theorem encNs_eq : ∀ ps, encNs ps = bodyE encN ps
  | [] => by rw [encNs]; rfl
  | x :: r => by rw [encNs, encNs_eq r]; rfl
theorem encN_eq (k : Int) (o : Duo) (t : ByteArray) (ss : List Tri) (ps : List PN) : encN (.mk k o t ss ps) = intE k ++ (duoE o ++ (txt t ++ (listE triE ss ++ listE encN ps))) := by
  rw [encN, encNs_eq]; rfl
mutual
def depN : PN → Nat
  | .mk _ _ _ _ ps => depNs ps + 1
def depNs : List PN → Nat
  | [] => 0
  | x :: r => max (depN x) (depNs r)
end
mutual
def okN : PN → Prop
  | .mk k o t ss ps => iok k ∧ duook o ∧ tok t ∧ lok triok ss ∧ ps.length < 18446744073709551616 ∧ okNs ps
def okNs : List PN → Prop
  | [] => True
  | x :: r => okN x ∧ okNs r
end
theorem depN_eq (k : Int) (o : Duo) (t : ByteArray) (ss : List Tri) (ps : List PN) : depN (.mk k o t ss ps) = depNs ps + 1 := by rw [depN]
theorem okN_eq (k : Int) (o : Duo) (t : ByteArray) (ss : List Tri) (ps : List PN) : okN (.mk k o t ss ps) ↔ iok k ∧ duook o ∧ tok t ∧ lok triok ss ∧ ps.length < 18446744073709551616 ∧ okNs ps := by rw [okN]
theorem depNs_le {ps : List PN} : ∀ {n : Nat}, depNs ps ≤ n ↔ ∀ x ∈ ps, depN x ≤ n := by
  induction ps with
  | nil => intro n; rw [depNs]; simp
  | cons x r ih =>
    intro n
    rw [depNs]
    constructor
    · intro h y hy
      rcases List.mem_cons.1 hy with rfl | hy
      · omega
      · exact (ih.1 (by omega)) y hy
    · intro h
      have h1 := h x List.mem_cons_self
      have h2 := ih.2 (fun y hy => h y (List.mem_cons_of_mem _ hy))
      omega
theorem okNs_iff {ps : List PN} : okNs ps ↔ ∀ x ∈ ps, okN x := by
  induction ps with
  | nil => rw [okNs]; simp
  | cons x r ih =>
    rw [okNs, ih]
    constructor
    · rintro ⟨h1, h2⟩ y hy
      rcases List.mem_cons.1 hy with rfl | hy
      · exact h1
      · exact h2 y hy
    · exact fun h => ⟨h x List.mem_cons_self, fun y hy => h y (List.mem_cons_of_mem _ hy)⟩
def badN (x : PN) (d : Nat) : Prop := 64 < d + depN x
theorem badN_parts (k : Int) (o : Duo) (t : ByteArray) (ss : List Tri) (ps : List PN) (d : Nat) : badN (.mk k o t ss ps) d ↔ 64 ≤ d ∨ ∃ x ∈ ps, badN x (d + 1) := by
  unfold badN
  rw [depN_eq]
  constructor
  · intro h
    by_cases h1 : 64 ≤ d
    · exact .inl h1
    · refine .inr (Classical.byContradiction fun hno => ?_)
      have : depNs ps ≤ 63 - d := depNs_le.2 (fun x hx => Classical.byContradiction fun hn => hno ⟨x, hx, by omega⟩)
      omega
  · rintro (h | ⟨x, hx, h⟩)
    · omega
    · have : depN x ≤ depNs ps := depNs_le.1 (Nat.le_refl _) x hx
      omega
mutual
theorem uqN' : ∀ (x y : PN) (r s : List UInt8), okN x → okN y → encN x ++ r = encN y ++ s → x = y ∧ r = s
  | .mk k o t ss ps, .mk k' o' t' ss' ps', r, s, hx, hy, h => by
    rw [okN] at hx hy
    rw [encN, encN] at h
    simp only [List.append_assoc] at h
    obtain ⟨e1, h⟩ := uq_int _ _ _ _ hx.1 hy.1 h
    obtain ⟨e2, h⟩ := uq_duo _ _ _ _ hx.2.1 hy.2.1 h
    obtain ⟨e3, h⟩ := uq_txt _ _ _ _ hx.2.2.1 hy.2.2.1 h
    obtain ⟨e6, h⟩ := uq_list uq_tri _ _ _ _ hx.2.2.2.1 hy.2.2.2.1 h
    obtain ⟨e4, h⟩ := uq_num _ _ _ _ hx.2.2.2.2.1 hy.2.2.2.2.1 h
    obtain ⟨e5, h⟩ := uqNs' ps ps' r s e4 hx.2.2.2.2.2 hy.2.2.2.2.2 h
    exact ⟨by rw [e1, e2, e3, e6, e5], h⟩
theorem uqNs' : ∀ (xs ys : List PN) (r s : List UInt8), xs.length = ys.length → okNs xs → okNs ys → encNs xs ++ r = encNs ys ++ s → xs = ys ∧ r = s
  | [], [], r, s, _, _, _, h => by rw [encNs] at h; exact ⟨rfl, h⟩
  | [], y :: ys, _, _, hl, _, _, _ => by cases hl
  | x :: xs, [], _, _, hl, _, _, _ => by cases hl
  | x :: xs, y :: ys, r, s, hl, hx, hy, h => by
    rw [okNs] at hx hy
    rw [encNs, encNs, List.append_assoc, List.append_assoc] at h
    obtain ⟨e1, h⟩ := uqN' x y _ _ hx.1 hy.1 h
    obtain ⟨e2, h⟩ := uqNs' xs ys r s (by simpa using hl) hx.2 hy.2 h
    exact ⟨by rw [e1, e2], h⟩
end
theorem uq_node : Uq encN okN := fun x y r s hx hy h => uqN' x y r s hx hy h
/-- a step -/
abbrev PS := Tri × PR × Tri × List Int
def stepE (t : PS) : List UInt8 := triE t.1 ++ (encR t.2.1 ++ (triE t.2.2.1 ++ listE intE t.2.2.2))
def stepok (t : PS) : Prop := triok t.1 ∧ okR t.2.1 ∧ triok t.2.2.1 ∧ lok iok t.2.2.2
theorem uq_step : Uq stepE stepok := uq_pair uq_tri (uq_pair uq_rule (uq_pair uq_tri (uq_list uq_int)))
end Go.Proofs.YtacjbgmnoiimbabGreat
