/- Towers: the plain laws. No program in sight. -/
import Derived.Test.YtbamohcaamgalaaOrd
namespace Go.Proofs.Ytbamohcaamgalaa
set_option linter.unusedVariables false
set_option linter.unusedSimpArgs false
open Go.RowKit

/-- a node: its block, its key, how high its tower is -/
structure Nd where
  b : Nat
  key : ByteArray
  ht : Nat
instance : Inhabited Nd := ⟨⟨0, ByteArray.empty, 0⟩⟩
/-- place 0 is the head, place i + 1 is node i -/
def posB (g : Nat) (ns : List Nd) (i : Nat) : Nat := if i = 0 then g else (ns.getD (i - 1) default).b
def htAt (ns : List Nd) (i : Nat) : Nat := if i = 0 then 8 else (ns.getD (i - 1) default).ht
def Linked (W : World) (g : Nat) (ns : List Nd) : Prop := ∀ i h, i ≤ ns.length → h < 8 → h < htAt ns i →
  (W.cell? ⟨posB g ns i, 1 + h, none⟩ = some (.pointer none) ∧ ∀ j, i ≤ j → j < ns.length → (ns.getD j default).ht ≤ h) ∨
  (∃ j, i ≤ j ∧ j < ns.length ∧ h < (ns.getD j default).ht ∧ (∀ k, i ≤ k → k < j → (ns.getD k default).ht ≤ h) ∧ W.cell? ⟨posB g ns i, 1 + h, none⟩ = some (.pointer (some ⟨(ns.getD j default).b, 0, none⟩)))
/-- pb is the last place ahead of m whose tower is higher than h -/
def IsLast (g : Nat) (ns : List Nd) (m h pb : Nat) : Prop := ∃ i, i ≤ m ∧ pb = posB g ns i ∧ h < htAt ns i ∧ ∀ k, i ≤ k → k < m → (ns.getD k default).ht ≤ h
def Apart (g : Nat) (ns : List Nd) : Prop := (∀ i, i < ns.length → (ns.getD i default).b ≠ g) ∧ ∀ i j, i < ns.length → j < ns.length → (ns.getD i default).b = (ns.getD j default).b → i = j
theorem Apart.pos {g : Nat} {ns : List Nd} (h : Apart g ns) {i j : Nat} (hi : i ≤ ns.length) (hj : j ≤ ns.length) (e : posB g ns i = posB g ns j) : i = j := by
  unfold posB at e
  by_cases a : i = 0
  · by_cases b : j = 0
    · omega
    · rw [if_pos a, if_neg b] at e
      exact absurd e.symm (h.1 (j - 1) (by omega))
  · by_cases b : j = 0
    · rw [if_neg a, if_pos b] at e
      exact absurd e (h.1 (i - 1) (by omega))
    · rw [if_neg a, if_neg b] at e
      have := h.2 (i - 1) (j - 1) (by omega) (by omega) e
      omega
/-- with a node laid in at place m -/
def ins (ns : List Nd) (m : Nat) (x : Nd) : List Nd := ns.take m ++ x :: ns.drop m
theorem ins_len (ns : List Nd) (m : Nat) (x : Nd) (hm : m ≤ ns.length) : (ins ns m x).length = ns.length + 1 := by
  unfold ins; simp; omega
theorem ins_at (ns : List Nd) (m : Nat) (x : Nd) (hm : m ≤ ns.length) (i : Nat) : (ins ns m x).getD i default = if i < m then ns.getD i default else if i = m then x else ns.getD (i - 1) default := by
  unfold ins
  simp only [List.getD_eq_getElem?_getD]
  have hl : (ns.take m).length = m := by rw [List.length_take]; omega
  by_cases h : i < m
  · rw [if_pos h, List.getElem?_append_left (by omega), List.getElem?_take, if_pos h]
  · rw [if_neg h, List.getElem?_append_right (by omega), hl]
    by_cases h2 : i = m
    · rw [if_pos h2, h2, Nat.sub_self]; rfl
    · rw [if_neg h2]
      obtain ⟨d, hd⟩ : ∃ d, i - m = d + 1 := ⟨i - m - 1, by omega⟩
      rw [hd, List.getElem?_cons_succ, List.getElem?_drop, show m + d = i - 1 by omega]
theorem ins_pos (g : Nat) (ns : List Nd) (m : Nat) (x : Nd) (hm : m ≤ ns.length) (i : Nat) : posB g (ins ns m x) i = if i ≤ m then posB g ns i else if i = m + 1 then x.b else posB g ns (i - 1) := by
  unfold posB
  rw [ins_at ns m x hm]
  by_cases a : i = 0
  · subst a; simp
  · rw [if_neg a]
    by_cases b : i ≤ m
    · rw [if_pos (by omega : i - 1 < m), if_pos b, if_neg a]
    · rw [if_neg (by omega : ¬ i - 1 < m), if_neg b]
      by_cases c : i = m + 1
      · rw [if_pos (by omega : i - 1 = m), if_pos c]
      · rw [if_neg (by omega : ¬ i - 1 = m), if_neg c, if_neg (by omega : ¬ i - 1 = 0)]
theorem ins_ht (ns : List Nd) (m : Nat) (x : Nd) (hm : m ≤ ns.length) (i : Nat) : htAt (ins ns m x) i = if i ≤ m then htAt ns i else if i = m + 1 then x.ht else htAt ns (i - 1) := by
  unfold htAt
  rw [ins_at ns m x hm]
  by_cases a : i = 0
  · subst a; simp
  · rw [if_neg a]
    by_cases b : i ≤ m
    · rw [if_pos (by omega : i - 1 < m), if_pos b, if_neg a]
    · rw [if_neg (by omega : ¬ i - 1 < m), if_neg b]
      by_cases c : i = m + 1
      · rw [if_pos (by omega : i - 1 = m), if_pos c]
      · rw [if_neg (by omega : ¬ i - 1 = m), if_neg c, if_neg (by omega : ¬ i - 1 = 0)]
/-- what stands at the last place ahead of m, at height h -/
def NextIs (W : World) (ns : List Nd) (m h : Nat) (v : Value) : Prop :=
  (v = .pointer none ∧ ∀ j, m ≤ j → j < ns.length → (ns.getD j default).ht ≤ h) ∨
  (∃ j, m ≤ j ∧ j < ns.length ∧ h < (ns.getD j default).ht ∧ (∀ k, m ≤ k → k < j → (ns.getD k default).ht ≤ h) ∧ v = .pointer (some ⟨(ns.getD j default).b, 0, none⟩))
theorem last_next {W : World} {g m h pb nb : Nat} {ns : List Nd} {key : ByteArray} (hm : m ≤ ns.length) (hh : h < 8) (hp : IsLast g ns m h pb) (hL : Linked W g (ins ns m ⟨nb, key, h⟩)) :
    ∃ v, W.cell? ⟨pb, 1 + h, none⟩ = some v ∧ NextIs W ns m h v := by
  obtain ⟨i, hi, rfl, hti, hno⟩ := hp
  have hlen := ins_len ns m ⟨nb, key, h⟩ hm
  rcases hL i h (by omega) hh (by rw [ins_ht ns m _ hm, if_pos hi]; exact hti) with ⟨hc, hall⟩ | ⟨j, hij, hjl, hjh, hk, hc⟩
  · rw [ins_pos g ns m _ hm, if_pos hi] at hc
    refine ⟨_, hc, .inl ⟨rfl, fun j hj hjl => ?_⟩⟩
    have := hall (j + 1) (by omega) (by omega)
    rwa [ins_at ns m _ hm, if_neg (by omega), if_neg (by omega), Nat.add_sub_cancel] at this
  · rw [ins_pos g ns m _ hm, if_pos hi] at hc
    refine ⟨_, hc, .inr ?_⟩
    have hjm : m < j := by
      rcases Nat.lt_trichotomy j m with e | e | e
      · rw [ins_at ns m _ hm, if_pos e] at hjh
        have := hno j hij e
        omega
      · rw [ins_at ns m _ hm, if_neg (by omega), if_pos e] at hjh
        exact absurd hjh (Nat.lt_irrefl _)
      · exact e
    have ej : (ins ns m ⟨nb, key, h⟩).getD j default = ns.getD (j - 1) default := by rw [ins_at ns m _ hm, if_neg (by omega), if_neg (by omega)]
    rw [ej] at hjh ⊢
    refine ⟨j - 1, by omega, by omega, hjh, fun k hk1 hk2 => ?_, rfl⟩
    have := hk (k + 1) (by omega) (by omega)
    rwa [ins_at ns m _ hm, if_neg (by omega), if_neg (by omega), Nat.add_sub_cancel] at this
/-- a node's tower grows by one -/
theorem link_step {W W' : World} {g m h pb nb : Nat} {ns : List Nd} {key : ByteArray} {v : Value} (hm : m ≤ ns.length) (hh : h < 8) (hA : Apart g ns) (hg : nb ≠ g) (hnb : ∀ i, i < ns.length → (ns.getD i default).b ≠ nb)
    (hp : IsLast g ns m h pb) (hL : Linked W g (ins ns m ⟨nb, key, h⟩)) (hv : NextIs W ns m h v)
    (c1 : W'.cell? ⟨nb, 1 + h, none⟩ = some v) (c2 : W'.cell? ⟨pb, 1 + h, none⟩ = some (.pointer (some ⟨nb, 0, none⟩)))
    (c3 : ∀ b o, ¬ (o = 1 + h ∧ (b = nb ∨ b = pb)) → W'.cell? ⟨b, o, none⟩ = W.cell? ⟨b, o, none⟩) : Linked W' g (ins ns m ⟨nb, key, h + 1⟩) := by
  obtain ⟨i0, hi0, hpb, hti0, hno⟩ := hp
  have hlen := ins_len ns m ⟨nb, key, h⟩ hm
  have hlen' := ins_len ns m ⟨nb, key, h + 1⟩ hm
  have eqAt : ∀ j, j ≠ m → (ins ns m ⟨nb, key, h + 1⟩).getD j default = (ins ns m ⟨nb, key, h⟩).getD j default := fun j hj => by
    rw [ins_at ns m _ hm, ins_at ns m _ hm, if_neg hj, if_neg hj]
  have eqPos : ∀ i, posB g (ins ns m ⟨nb, key, h + 1⟩) i = posB g (ins ns m ⟨nb, key, h⟩) i := fun i => by
    rw [ins_pos g ns m _ hm, ins_pos g ns m _ hm]
  have atM : (ins ns m ⟨nb, key, h + 1⟩).getD m default = ⟨nb, key, h + 1⟩ := by rw [ins_at ns m _ hm, if_neg (Nat.lt_irrefl _), if_pos rfl]
  have atM0 : (ins ns m ⟨nb, key, h⟩).getD m default = ⟨nb, key, h⟩ := by rw [ins_at ns m _ hm, if_neg (Nat.lt_irrefl _), if_pos rfl]
  have posNb : ∀ i, i ≤ ns.length → posB g ns i ≠ nb := fun i hi => by
    unfold posB
    by_cases a : i = 0
    · rw [if_pos a]; exact fun e => hg e.symm
    · rw [if_neg a]; exact hnb _ (by omega)
  intro i h' hi hh' hti
  rw [hlen'] at hi
  by_cases e : h' = h
  · subst e
    by_cases a : i ≤ m
    · have hpi : posB g (ins ns m ⟨nb, key, h' + 1⟩) i = posB g ns i := by rw [ins_pos g ns m _ hm, if_pos a]
      rw [hpi]
      rw [ins_ht ns m _ hm, if_pos a] at hti
      by_cases b : i = i0
      · subst b
        refine .inr ⟨m, a, by omega, by rw [atM]; exact Nat.lt_succ_self _, fun k hk1 hk2 => ?_, ?_⟩
        · rw [ins_at ns m _ hm, if_pos hk2]; exact hno k hk1 hk2
        · rw [atM, ← hpb]; exact c2
      · have hlt : i < i0 := by
          rcases Nat.lt_trichotomy i i0 with c | c | c
          · exact c
          · exact absurd c b
          · have h0 : i ≠ 0 := by omega
            unfold htAt at hti
            rw [if_neg h0] at hti
            have := hno (i - 1) (by omega) (by omega)
            omega
        have hne : posB g ns i ≠ pb := fun e => by
          rw [hpb] at e
          have := hA.pos (by omega) (by omega) e
          omega
        have hcell : W'.cell? ⟨posB g ns i, 1 + h', none⟩ = W.cell? ⟨posB g ns i, 1 + h', none⟩ := c3 _ _ (by
          rintro ⟨_, h1 | h1⟩
          · exact posNb i (by omega) h1
          · exact hne h1)
        rw [hcell]
        have hold := hL i h' (by omega) hh' (by rw [ins_ht ns m _ hm, if_pos a]; exact hti)
        rw [ins_pos g ns m _ hm, if_pos a] at hold
        have hi00 : i0 ≠ 0 := by omega
        have hhi : h' < (ns.getD (i0 - 1) default).ht := by
          unfold htAt at hti0
          rwa [if_neg hi00] at hti0
        rcases hold with ⟨hc, hall⟩ | ⟨j, hij, hjl, hjh, hk, hc⟩
        · have := hall (i0 - 1) (by omega) (by omega)
          rw [ins_at ns m _ hm, if_pos (by omega)] at this
          omega
        · have hjm : j < m := by
            rcases Nat.lt_or_ge j m with c | c
            · exact c
            · have := hk (i0 - 1) (by omega) (by omega)
              rw [ins_at ns m _ hm, if_pos (by omega)] at this
              omega
          refine .inr ⟨j, hij, by omega, ?_, fun k hk1 hk2 => ?_, ?_⟩
          · rw [eqAt j (by omega)]; exact hjh
          · rw [eqAt k (by omega)]; exact hk k hk1 hk2
          · rw [eqAt j (by omega)]; exact hc
    · by_cases b : i = m + 1
      · subst b
        have hpi : posB g (ins ns m ⟨nb, key, h' + 1⟩) (m + 1) = nb := by rw [ins_pos g ns m _ hm, if_neg (by omega), if_pos rfl]
        rw [hpi, c1]
        rcases hv with ⟨rfl, hall⟩ | ⟨j, h1, h2, h3, h4, rfl⟩
        · refine .inl ⟨rfl, fun j hj hjl => ?_⟩
          rw [ins_at ns m _ hm, if_neg (by omega), if_neg (by omega)]
          exact hall (j - 1) (by omega) (by omega)
        · have ej : (ins ns m ⟨nb, key, h' + 1⟩).getD (j + 1) default = ns.getD j default := by rw [ins_at ns m _ hm, if_neg (by omega), if_neg (by omega), Nat.add_sub_cancel]
          refine .inr ⟨j + 1, by omega, by omega, by rw [ej]; exact h3, fun k hk1 hk2 => ?_, by rw [ej]⟩
          rw [ins_at ns m _ hm, if_neg (by omega), if_neg (by omega)]
          exact h4 (k - 1) (by omega) (by omega)
      · have hpi : posB g (ins ns m ⟨nb, key, h' + 1⟩) i = posB g ns (i - 1) := by rw [ins_pos g ns m _ hm, if_neg a, if_neg b]
        rw [ins_ht ns m _ hm, if_neg a, if_neg b] at hti
        have hne : posB g ns (i - 1) ≠ pb := fun e => by
          rw [hpb] at e
          have := hA.pos (by omega) (by omega) e
          omega
        rw [hpi, c3 _ _ (by
          rintro ⟨_, h1 | h1⟩
          · exact posNb (i - 1) (by omega) h1
          · exact hne h1)]
        have hold := hL i h' (by omega) hh' (by rw [ins_ht ns m _ hm, if_neg a, if_neg b]; exact hti)
        rw [ins_pos g ns m _ hm, if_neg a, if_neg b] at hold
        rcases hold with ⟨hc, hall⟩ | ⟨j, hij, hjl, hjh, hk, hc⟩
        · exact .inl ⟨hc, fun j hj hjl => by rw [eqAt j (by omega)]; exact hall j hj (by omega)⟩
        · refine .inr ⟨j, hij, by omega, by rw [eqAt j (by omega)]; exact hjh, fun k hk1 hk2 => by rw [eqAt k (by omega)]; exact hk k hk1 hk2, by rw [eqAt j (by omega)]; exact hc⟩
  · have hcell : ∀ b, W'.cell? ⟨b, 1 + h', none⟩ = W.cell? ⟨b, 1 + h', none⟩ := fun b => c3 _ _ (by rintro ⟨h1, _⟩; omega)
    rw [hcell, eqPos]
    have hti' : h' < htAt (ins ns m ⟨nb, key, h⟩) i := by
      rw [ins_ht ns m _ hm] at hti ⊢
      by_cases a : i ≤ m
      · rw [if_pos a] at hti ⊢; exact hti
      · rw [if_neg a] at hti ⊢
        by_cases b : i = m + 1
        · rw [if_pos b] at hti ⊢
          have : h' < h + 1 := hti
          show h' < h
          omega
        · rw [if_neg b] at hti ⊢; exact hti
    have le_iff : ∀ j, ((ins ns m ⟨nb, key, h + 1⟩).getD j default).ht ≤ h' ↔ ((ins ns m ⟨nb, key, h⟩).getD j default).ht ≤ h' := fun j => by
      by_cases c : j = m
      · rw [c, atM, atM0]; show h + 1 ≤ h' ↔ h ≤ h'; omega
      · rw [eqAt j c]
    have eqB : ∀ j, ((ins ns m ⟨nb, key, h + 1⟩).getD j default).b = ((ins ns m ⟨nb, key, h⟩).getD j default).b := fun j => by
      by_cases c : j = m
      · rw [c, atM, atM0]
      · rw [eqAt j c]
    rcases hL i h' (by omega) hh' hti' with ⟨hc, hall⟩ | ⟨j, hij, hjl, hjh, hk, hc⟩
    · exact .inl ⟨hc, fun j hj hjl => (le_iff j).2 (hall j hj (by omega))⟩
    · refine .inr ⟨j, hij, by omega, ?_, fun k hk1 hk2 => (le_iff k).2 (hk k hk1 hk2), by rw [eqB]; exact hc⟩
      have := (le_iff j).1
      rcases Nat.lt_or_ge h' ((ins ns m ⟨nb, key, h + 1⟩).getD j default).ht with c | c
      · exact c
      · have := this c; omega
/-- a node without a tower is not linked yet -/
theorem link_new {W W' : World} {g m nb : Nat} {ns : List Nd} {key : ByteArray} (hm : m ≤ ns.length) (hL : Linked W g ns) (hc : ∀ i h, i ≤ ns.length → h < 8 → W'.cell? ⟨posB g ns i, 1 + h, none⟩ = W.cell? ⟨posB g ns i, 1 + h, none⟩) : Linked W' g (ins ns m ⟨nb, key, 0⟩) := by
  have hlen := ins_len ns m ⟨nb, key, 0⟩ hm
  intro i h hi hh hti
  rw [ins_ht ns m _ hm] at hti
  have key1 : ∃ i0, i0 ≤ ns.length ∧ posB g (ins ns m ⟨nb, key, 0⟩) i = posB g ns i0 ∧ h < htAt ns i0 ∧ (i ≤ m ∧ i0 = i ∨ m + 1 < i ∧ i0 = i - 1) := by
    rw [ins_pos g ns m _ hm]
    by_cases a : i ≤ m
    · rw [if_pos a] at hti ⊢; exact ⟨i, by omega, rfl, hti, .inl ⟨a, rfl⟩⟩
    · rw [if_neg a] at hti ⊢
      by_cases b : i = m + 1
      · rw [if_pos b] at hti; cases hti
      · rw [if_neg b] at hti ⊢; exact ⟨i - 1, by omega, rfl, hti, .inr ⟨by omega, rfl⟩⟩
  obtain ⟨i0, hi0, hpe, hti0, hrel⟩ := key1
  rw [hpe, hc i0 h hi0 hh]
  rcases hL i0 h hi0 hh hti0 with ⟨hc, hall⟩ | ⟨j, hij, hjl, hjh, hk, hc⟩
  · refine .inl ⟨hc, fun j hj hjl => ?_⟩
    rw [ins_at ns m _ hm]
    by_cases a : j < m
    · rw [if_pos a]; exact hall j (by omega) (by omega)
    · rw [if_neg a]
      by_cases b : j = m
      · rw [if_pos b]; exact Nat.zero_le _
      · rw [if_neg b]; exact hall (j - 1) (by omega) (by omega)
  · by_cases a : j < m
    · refine .inr ⟨j, by omega, by omega, by rw [ins_at ns m _ hm, if_pos a]; exact hjh, fun k hk1 hk2 => ?_, by rw [ins_at ns m _ hm, if_pos a]; exact hc⟩
      rw [ins_at ns m _ hm, if_pos (by omega)]
      exact hk k (by omega) hk2
    · have ej : (ins ns m ⟨nb, key, 0⟩).getD (j + 1) default = ns.getD j default := by rw [ins_at ns m _ hm, if_neg (by omega), if_neg (by omega), Nat.add_sub_cancel]
      refine .inr ⟨j + 1, by omega, by omega, by rw [ej]; exact hjh, fun k hk1 hk2 => ?_, by rw [ej]; exact hc⟩
      rw [ins_at ns m _ hm]
      by_cases b : k < m
      · rw [if_pos b]; exact hk k (by omega) (by omega)
      · rw [if_neg b]
        by_cases c : k = m
        · rw [if_pos c]; exact Nat.zero_le _
        · rw [if_neg c]; exact hk (k - 1) (by omega) (by omega)
end Go.Proofs.Ytbamohcaamgalaa
