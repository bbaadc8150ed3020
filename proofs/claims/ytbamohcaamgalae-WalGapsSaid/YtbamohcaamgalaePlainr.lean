/- A log replayed: the plain laws. No program in sight. -/
import Derived.Test.YtbamohcaamgalaeWalkQ
namespace Go.Proofs.Ytbamohcaamgalae
set_option linter.unusedVariables false
set_option linter.unusedSimpArgs false
open Go.RowKit

open Classical in
noncomputable def decOf (l : List UInt8) : Option (Nat × List Ent) := if h : ∃ p : Nat × List Ent, Decodes l p.1 p.2 then some h.choose else none
theorem decOf_some {l : List UInt8} {r : Nat} {es : List Ent} (h : Decodes l r es) : decOf l = some (r, es) := by
  have hx : ∃ p : Nat × List Ent, Decodes l p.1 p.2 := ⟨(r, es), h⟩
  unfold decOf
  rw [dif_pos hx]
  obtain ⟨h1, h2⟩ := decodes_one hx.choose_spec h
  have : hx.choose = (r, es) := Prod.ext h1 h2
  rw [this]
theorem decOf_none {l : List UInt8} (h : ∀ r es, ¬ Decodes l r es) : decOf l = none := by
  unfold decOf
  rw [dif_neg]
  rintro ⟨p, hp⟩
  exact h _ _ hp
/-- what a log tells behind 'last', and how many bytes it takes -/
noncomputable def rep (l : List UInt8) (last : Option Nat) : List (Nat × List Ent) × Nat :=
  if h : nextE l = 0 then
    match decOf (payload l) with
    | none => ([], 0)
    | some p => if last = none ∨ last = some (p.1 - 1) then (p :: (rep (l.drop (8 + num l)) (some p.1)).1, 8 + num l + (rep (l.drop (8 + num l)) (some p.1)).2) else ([], 0)
  else ([], 0)
termination_by l.length
decreasing_by
  all_goals
    have := (nextE_len l h).1
    rw [List.length_drop]; omega
theorem rep_stop1 {l : List UInt8} {last : Option Nat} (h : nextE l ≠ 0) : rep l last = ([], 0) := by rw [rep, dif_neg h]
theorem rep_stop2 {l : List UInt8} {last : Option Nat} (h : nextE l = 0) (hd : ∀ r es, ¬ Decodes (payload l) r es) : rep l last = ([], 0) := by
  rw [rep, dif_pos h, decOf_none hd]
theorem rep_stop3 {l : List UInt8} {q r : Nat} {es : List Ent} (h : nextE l = 0) (hd : Decodes (payload l) r es) (hq : q ≠ r - 1) : rep l (some q) = ([], 0) := by
  rw [rep, dif_pos h, decOf_some hd]
  simp only
  rw [if_neg]
  rintro (h | h)
  · cases h
  · exact hq (Option.some.inj h)
theorem rep_step {l : List UInt8} {last : Option Nat} {r : Nat} {es : List Ent} (h : nextE l = 0) (hd : Decodes (payload l) r es) (hq : last = none ∨ last = some (r - 1)) :
    rep l last = ((r, es) :: (rep (l.drop (8 + num l)) (some r)).1, 8 + num l + (rep (l.drop (8 + num l)) (some r)).2) := by
  rw [rep, dif_pos h, decOf_some hd]
  simp only
  rw [if_pos hq]
/-- a commit in memory -/
structure CM where
  rev : Nat
  a : Option Addr
  cap : Nat
  es : List Ent
instance : Inhabited CM := ⟨⟨0, none, 0, []⟩⟩
def comsV (cs : List CM) : List Value := cs.flatMap fun c => [.int .u64 (c.rev : Int), .slice c.a c.es.length c.cap]
theorem comsV_append (a b : List CM) : comsV (a ++ b) = comsV a ++ comsV b := by simp [comsV]
theorem length_comsV (cs : List CM) : (comsV cs).length = cs.length * 2 := by
  induction cs with
  | nil => rfl
  | cons x r ih =>
    have e : comsV (x :: r) = [.int .u64 (x.rev : Int), .slice x.a x.es.length x.cap] ++ comsV r := rfl
    rw [e, List.length_append, ih]; simp; omega
theorem comsV_one (cs : List CM) : ∀ u ∈ comsV cs, u.oneCell' = true := by
  intro u hu
  unfold comsV at hu
  rw [List.mem_flatMap] at hu
  obtain ⟨x, _, hx⟩ := hu
  simp only [List.mem_cons, List.not_mem_nil, or_false] at hx
  rcases hx with rfl | rfl <;> rfl
theorem comsV_get (cs : List CM) : ∀ k, k < cs.length → (comsV cs)[k * 2]? = some (.int .u64 ((cs.getD k default).rev : Int)) ∧ (comsV cs)[k * 2 + 1]? = some (.slice (cs.getD k default).a (cs.getD k default).es.length (cs.getD k default).cap) := by
  induction cs with
  | nil => intro k hk; cases hk
  | cons x r ih =>
    intro k hk
    have e : comsV (x :: r) = .int .u64 (x.rev : Int) :: .slice x.a x.es.length x.cap :: comsV r := rfl
    cases k with
    | zero => rw [e]; exact ⟨rfl, rfl⟩
    | succ k =>
      obtain ⟨h1, h2⟩ := ih k (by simpa using hk)
      rw [e, List.getD_cons_succ]
      have e1 : (k + 1) * 2 = k * 2 + 1 + 1 := by omega
      rw [e1]
      simp only [List.getElem?_cons_succ]
      exact ⟨h1, h2⟩
def pairs (cs : List CM) : List (Nat × List Ent) := cs.map fun c => (c.rev, c.es)
def lastR (cs : List CM) : Option Nat := if cs.length = 0 then none else some (cs.getD (cs.length - 1) default).rev
theorem lastR_snoc (cs : List CM) (c : CM) : lastR (cs ++ [c]) = some c.rev := by
  unfold lastR
  rw [if_neg (by simp)]
  simp
/-- the commits' entries -/
def ComEnts (w : World) (B : Nat) (cs : List CM) : Prop := ∀ c ∈ cs, w.ownsRow B 48 3 (.slice c.a c.es.length c.cap) c.es.length (entsV c.es) ∧ c.rev < 18446744073709551616
theorem ComEnts.kept {w w' : World} {B B' n size : Nat} {cs : List CM} {v : Value} {e : TypeId} {xs : List Value} (h : ComEnts w B cs) (hown : w.ownsRow B' e size v n xs) (hne : e ≠ 48) (hg : w.grownBy w' v.ownBlock) : ComEnts w' B cs := by
  intro c hc
  obtain ⟨h1, h2⟩ := h c hc
  exact ⟨h1.kept hg (own_ne hown h1 hne), h2⟩
theorem ComEnts.below {w w' : World} {B : Nat} {cs : List CM} (h : ComEnts w B cs) (hb : Below w.heap.size w w') : ComEnts w' B cs := fun c hc => ⟨Below.row hb (h c hc).1, (h c hc).2⟩
/-- what replaying answers -/
def RepIs (l : List UInt8) (w : World) (e : Ending) (w' : World) : Prop :=
  Below w.heap.size w w' ∧ ∃ (v : Value) (cs : List CM), e = .returned (.tuple #[v, .int .i64 ((rep l none).2 : Nat)]) ∧ pairs cs = (rep l none).1 ∧ cs.length ≤ l.length ∧ w'.ownsRow w.heap.size 25 2 v cs.length (comsV cs) ∧ ComEnts w' w.heap.size cs
end Go.Proofs.Ytbamohcaamgalae
