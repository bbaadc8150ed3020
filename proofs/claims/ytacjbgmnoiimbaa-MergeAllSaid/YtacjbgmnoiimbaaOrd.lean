/- Texts in order; small laws. -/
import Derived.Test.YtacjbgmnoiimbaaRows
import Derived.Test.YtacjbgmnoiimbaaKitb
import Derived.Deep.RegionHeld3
import Derived.Deep.AppendLies
import Derived.Sort.Walk0
import Derived.Lib.IndexBytes
namespace Go.Proofs.Ytacjbgmnoiimbaa
set_option linter.unusedVariables false
set_option linter.unusedSimpArgs false
open Go.RowKit

abbrev Text := List UInt8
def Rises (ks : List Text) : Prop := ∀ i, i + 1 < ks.length → ks.getD i [] < ks.getD (i + 1) []
/-! ### texts in order -/
theorem text_tri (a : Text) : ∀ b : Text, a < b ∨ a = b ∨ b < a := by
  induction a with
  | nil =>
    intro b
    cases b with
    | nil => exact Or.inr (Or.inl rfl)
    | cons y b => exact Or.inl (List.nil_lt_cons y b)
  | cons x a ih =>
    intro b
    cases b with
    | nil => exact Or.inr (Or.inr (List.nil_lt_cons x a))
    | cons y b =>
      rw [List.cons_lt_cons_iff, List.cons_lt_cons_iff]
      have htri : x < y ∨ x = y ∨ y < x := by
        rcases Nat.lt_trichotomy x.toNat y.toNat with h | h | h
        · exact Or.inl (UInt8.lt_iff_toNat_lt.2 h)
        · exact Or.inr (Or.inl (UInt8.toNat_inj.1 h))
        · exact Or.inr (Or.inr (UInt8.lt_iff_toNat_lt.2 h))
      rcases htri with h | h | h
      · exact Or.inl (Or.inl h)
      · subst h
        rcases ih b with h | h | h
        · exact Or.inl (Or.inr ⟨rfl, h⟩)
        · exact Or.inr (Or.inl (by rw [h]))
        · exact Or.inr (Or.inr (Or.inr ⟨rfl, h⟩))
      · exact Or.inr (Or.inr (Or.inl h))
theorem text_trans {a : Text} : ∀ {b c : Text}, a < b → b < c → a < c := by
  induction a with
  | nil =>
    intro b c h k
    cases c with
    | nil => exact absurd k (by intro h; cases b <;> cases h)
    | cons z c => exact List.nil_lt_cons z c
  | cons x a ih =>
    intro b c h k
    cases b with
    | nil => cases h
    | cons y b =>
      cases c with
      | nil => cases k
      | cons z c =>
        rw [List.cons_lt_cons_iff] at h k ⊢
        rcases h with h | ⟨rfl, h⟩
        · rcases k with k | ⟨rfl, k⟩
          · exact Or.inl (UInt8.lt_trans h k)
          · exact Or.inl h
        · rcases k with k | ⟨rfl, k⟩
          · exact Or.inl k
          · exact Or.inr ⟨rfl, ih h k⟩
theorem text_le_lt {a b c : Text} (h : ¬ b < a) (k : b < c) : a < c := by
  rcases text_tri a b with h1 | h1 | h1
  · exact text_trans h1 k
  · rw [h1]; exact k
  · exact absurd h1 h
theorem text_lt_le {a b c : Text} (h : a < b) (k : ¬ c < b) : a < c := by
  rcases text_tri b c with h1 | h1 | h1
  · exact text_trans h h1
  · rw [← h1]; exact h
  · exact absurd h1 k
theorem rises_lt {ks : List Text} (h : Rises ks) (i : Nat) : ∀ j, i < j → j < ks.length → ks.getD i [] < ks.getD j [] := by
  intro j
  induction j with
  | zero => intro hij; cases hij
  | succ j ih =>
    intro hij hj
    by_cases e : i = j
    · subst e; exact h i hj
    · exact text_trans (ih (by omega) (by omega)) (h j hj)
/-- i is the first place that p lets go -/
def First (ks : List Text) (p : Text → Prop) (i : Nat) : Prop := i ≤ ks.length ∧ (∀ j, j < i → p (ks.getD j [])) ∧ (i < ks.length → ¬ p (ks.getD i []))
theorem first_one {ks : List Text} {p : Text → Prop} {i j : Nat} (h : First ks p i) (k : First ks p j) : i = j := by
  obtain ⟨h1, h2, h3⟩ := h
  obtain ⟨k1, k2, k3⟩ := k
  rcases Nat.lt_trichotomy i j with e | e | e
  · exact absurd (k2 i e) (h3 (by omega))
  · exact e
  · exact absurd (h2 j e) (k3 (by omega))
/-- with key laid in at place n -/
def laid (ks : List Text) (key : Text) (n : Nat) : List Text := ks.take n ++ [key] ++ ks.drop n
theorem laid_at (ks : List Text) (key : Text) (n : Nat) (hn : n ≤ ks.length) (i : Nat) : (laid ks key n).getD i [] = if i < n then ks.getD i [] else if i = n then key else ks.getD (i - 1) [] := by
  unfold laid
  simp only [List.getD_eq_getElem?_getD]
  have hl : (ks.take n).length = n := by rw [List.length_take]; omega
  split
  · rename_i h
    rw [List.append_assoc, List.getElem?_append_left (by omega), List.getElem?_take, if_pos h]
  · rename_i h
    split
    · rename_i h2
      subst h2
      rw [List.append_assoc, List.getElem?_append_right (by omega), hl, Nat.sub_self]; rfl
    · rename_i h2
      rw [List.getElem?_append_right (by rw [List.length_append, hl]; simp; omega), List.length_append, hl, List.getElem?_drop]
      have e : n + (i - (n + [key].length)) = i - 1 := by simp; omega
      rw [e]
theorem length_laid (ks : List Text) (key : Text) (n : Nat) (hn : n ≤ ks.length) : (laid ks key n).length = ks.length + 1 := by
  unfold laid
  simp
  omega
theorem rises_laid {ks : List Text} {key : Text} {n : Nat} (h : Rises ks) (hf : First ks (· < key) n) (hne : n < ks.length → ks.getD n [] ≠ key) : Rises (laid ks key n) := by
  obtain ⟨h1, h2, h3⟩ := hf
  intro i hi
  rw [length_laid ks key n h1] at hi
  rw [laid_at ks key n h1, laid_at ks key n h1]
  by_cases a : i + 1 < n
  · rw [if_pos (by omega), if_pos a]
    exact h i (by omega)
  · by_cases b : i + 1 = n
    · rw [if_pos (by omega), if_neg a, if_pos b]
      exact h2 i (by omega)
    · rw [if_neg (by omega : ¬ i + 1 < n), if_neg b, Nat.add_sub_cancel]
      by_cases c : i = n
      · rw [if_neg (by omega), if_pos c]
        subst c
        rcases text_tri key (ks.getD i []) with g | g | g
        · exact g
        · exact absurd g.symm (hne (by omega))
        · exact absurd g (h3 (by omega))
      · rw [if_neg (by omega), if_neg c]
        have := h (i - 1) (by omega)
        rwa [show i - 1 + 1 = i by omega] at this

theorem own_ne {w : World} {B B' : Nat} {e e' : TypeId} {size size' : Nat} {v v' : Value} {n n' : Nat} {xs xs' : List Value} (h : w.ownsRow B e size v n xs) (h' : w.ownsRow B' e' size' v' n' xs') (hne : e ≠ e') : v'.ownBlock = none ∨ v'.ownBlock ≠ v.ownBlock := by
  rcases h'.2 with ⟨rfl, _⟩ | ⟨g', cap', cur', rfl, _, hg', _⟩
  · exact .inl rfl
  · right
    intro he
    rcases h.2 with ⟨rfl, _⟩ | ⟨g, cap, cur, rfl, _, hg, _⟩
    · cases he
    · simp only [Value.ownBlock, Option.some.injEq] at he
      subst he
      rw [hg'] at hg
      simp only [Option.some.injEq, Obj.cells.injEq] at hg
      exact hne hg.2.1.symm
theorem below_step {w5 w6 w7 : World} (h : Below w5.heap.size w5 w6) (k : Below w6.heap.size w6 w7) : Below w5.heap.size w5 w7 := h.trans (k.mono h.size)
section
variable {P : Program} {ops : Array Oper} {Q : Exit → Act → World → Prop} {md : Region.Mode} {S : World → Prop}
/-- an operation is taken first, and its slot is named -/
theorem take_at (i d : Nat) {oi : Oper} {v : Value} {fuel : Nat} {listed : Array Bool} {tmps : Array Value} {ds : List Deferred} {w : World} (hi : ops[i]? = some oi) (hd : oi.dst = some d)
    (hs : Region.noSelect ops = true) (hf : Region.free md ops listed i = true) (hr : (Region.ready md ops listed).contains i = true)
    (hQ : ∀ c a w, Q (.panic c) (a.put oi.dst v) w → Q (.panic c) a w) (hy : YieldsIf P ops S oi v ⟨tmps, ds⟩) (hS : S w)
    (h : wpAnyH P md ops Q S fuel (listed.setIfInBounds i true) ⟨tmps.setIfInBounds d v, ds⟩ w) : wpAnyH P md ops Q S (fuel + 1) listed ⟨tmps, ds⟩ w :=
  wpAnyH_take hi hs hf hr hQ hy hS (by rw [hd]; exact h)
/-- one operation alone may come up, and its slot is named -/
theorem only_at (i d : Nat) {o : Oper} {fuel : Nat} {listed : Array Bool} {a : Act} {w : World} (hr : Region.ready md ops listed = [i]) (ho : ops[i]? = some o) (hd : o.dst = some d) (hw : Region.wanted o (yielded ops a.tmps) = true)
    (h : ∀ K' : Act → World → Prop, Shut (∀ a w, S w → (S w → wpAnyH P md ops Q S fuel (listed.setIfInBounds i true) a w) → K' a w) → Oper.wp P { o with dst := some d } a w K' Q) : wpAnyH P md ops Q S (fuel + 1) listed a w := by
  refine wpAnyH_ready hr (by simp) (AllReadyH.cons ho (fun K' hK => ?_) AllReadyH.nil)
  rw [if_pos hw]
  have e : ({ o with dst := some d } : Oper) = o := by cases o; simp_all
  have := h K' hK
  rwa [e] at this
end
def keysOf (l : List ByteArray) : List Text := l.map (·.data.toList)
theorem keysOf_at (l : List ByteArray) (i : Nat) : (keysOf l).getD i [] = (l.getD i ByteArray.empty).data.toList := by
  unfold keysOf
  rw [List.getD_eq_getElem?_getD, List.getElem?_map, List.getD_eq_getElem?_getD]
  cases l[i]? <;> rfl
theorem length_keysOf (l : List ByteArray) : (keysOf l).length = l.length := by simp [keysOf]
/-- texts held against each other as the walk spells it -/
theorem less_yes (a b : ByteArray) (h : b.data.toList < a.data.toList) : Op.bytesLess a.toList b.toList = false ∧ (a.toList == b.toList) = false ∧ Op.bytesLess b.toList a.toList = true := by
  rw [ByteArray.toList_eq, ByteArray.toList_eq, bytesLess_eq, bytesLess_eq]
  refine ⟨decide_eq_false (List.lt_asymm h), ?_, decide_eq_true h⟩
  rw [beq_eq_false_iff_ne]
  intro e
  rw [e] at h
  exact List.lt_irrefl _ h
theorem less_no (a b : ByteArray) (h : ¬ b.data.toList < a.data.toList) : (Op.bytesLess a.toList b.toList || a.toList == b.toList) = true ∧ Op.bytesLess b.toList a.toList = false := by
  rw [ByteArray.toList_eq, ByteArray.toList_eq, bytesLess_eq, bytesLess_eq]
  refine ⟨?_, decide_eq_false h⟩
  by_cases e : a.data.toList = b.data.toList
  · rw [e]; simp
  · have : a.data.toList < b.data.toList := by
      rcases text_tri a.data.toList b.data.toList with h1 | h1 | h1
      · exact h1
      · exact absurd h1 e
      · exact absurd h1 h
    rw [decide_eq_true this]; rfl
theorem row_slice {w : World} {base : Nat} {e : TypeId} {size : Nat} {v : Value} {n : Nat} {xs : List Value} (h : w.ownsRow base e size v n xs) : ∃ a m c, v = .slice a m c := by
  rcases h.2 with ⟨h0, _⟩ | ⟨g, cap, cur, hv, _⟩
  · exact ⟨_, _, _, h0⟩
  · exact ⟨_, _, _, hv⟩
theorem row_len' {w : World} {base : Nat} {e : TypeId} {size n m c : Nat} {a : Option Addr} {xs : List Value} (h : w.ownsRow base e size (.slice a m c) n xs) : m = n := by
  rcases h.2 with ⟨h0, h1⟩ | ⟨g, cap, cur, hv, _⟩
  · cases h0; omega
  · cases hv; rfl
theorem row_bytes' {w : World} {base : Nat} {n m c : Nat} {a : Option Addr} {l : List UInt8} (h : w.ownsRow base 5 1 (.slice a m c) n (bytesV l)) : IsBytes w a l := by
  intro h0
  rcases h.2 with ⟨hv, h1⟩ | ⟨g, cap, cur, hv, _⟩
  · have := h.1; rw [length_bytesV] at this; omega
  · cases hv
    exact isBytes_row h h0
theorem row_cap {w : World} {base : Nat} {e : TypeId} {n m c : Nat} {a : Option Addr} {xs : List Value} (h : w.ownsRow base e 1 (.slice a m c) n xs) : n ≤ c := by
  rcases h.2 with ⟨hv, h0⟩ | ⟨g, cap, cur, hv, _, _, hc, _⟩
  · omega
  · cases hv; exact hc
theorem size_data (s : ByteArray) : s.data.toList.length = s.size := by simp
theorem row_lower {w : World} {base : Nat} {e : TypeId} {size : Nat} {v : Value} {n : Nat} {xs : List Value} (h : w.ownsRow base e size v n xs) {b : Nat} (hb : b ≤ base) : w.ownsRow b e size v n xs :=
  ⟨h.1, h.2.imp id fun ⟨g, cap, cur, hv, hb', r⟩ => ⟨g, cap, cur, hv, Nat.le_trans hb hb', r⟩⟩
end Go.Proofs.Ytacjbgmnoiimbaa
