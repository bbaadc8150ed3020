/- Records: the plain laws. No program in sight. -/
import Derived.Test.YtbamohcaamgalaeWalkM
namespace Go.Proofs.Ytbamohcaamgalae
set_option linter.unusedVariables false
set_option linter.unusedSimpArgs false

/-- n entries at the head of l, and what is left -/
def ents (rev : Nat) : Nat → List UInt8 → Option (List Ent × List UInt8)
  | 0, l => some ([], l)
  | n + 1, l => if flagE l = 0 ∧ textN (l.drop 1) = 0 then (ents rev n ((l.drop 1).drop (usedT (l.drop 1)))).map (fun p => (⟨⟨(gotT (l.drop 1)).toArray⟩, rev, flagV l⟩ :: p.1, p.2)) else none
def rest1 (l : List UInt8) : List UInt8 := l.drop (getN l)
/-- the commit that l is the record of -/
def Decodes (l : List UInt8) (rev : Nat) (es : List Ent) : Prop :=
  getE l = 0 ∧ rev = getV l ∧ getE (rest1 l) = 0 ∧ ents (getV l) (getV (rest1 l)) (rest1 (rest1 l)) = some (es, []) ∧ Right rev es
theorem decodes_one {l : List UInt8} {r r2 : Nat} {a b : List Ent} (h : Decodes l r a) (k : Decodes l r2 b) : r = r2 ∧ a = b := by
  have := h.2.2.2.1.symm.trans k.2.2.2.1
  simp only [Option.some.injEq, Prod.mk.injEq, and_true] at this
  exact ⟨h.2.1.trans k.2.1.symm, this⟩
def flagB (x : Ent) : List UInt8 := [if x.del then 1 else 0]
def entB (x : Ent) : List UInt8 := flagB x ++ textE x.key.data.toList
def bodyB (es : List Ent) : List UInt8 := es.flatMap entB
def recordB (rev : Nat) (es : List Ent) : List UInt8 := uv rev ++ uv es.length ++ bodyB es
theorem flag_ent (x : Ent) (r : List UInt8) : flagE (flagB x ++ r) = 0 ∧ flagV (flagB x ++ r) = x.del := by
  obtain ⟨k, v, d⟩ := x
  have h : ∀ d : Bool, flagE (flagB ⟨k, v, d⟩ ++ r) = 0 := by
    intro d
    unfold flagE flagB
    cases d <;> simp
  refine ⟨h d, ?_⟩
  rw [flagV, if_pos (h d)]
  unfold flagB
  cases d <;> simp
theorem ents_body (rev : Nat) (es : List Ent) (r : List UInt8) (hr : ∀ i, i < es.length → (es.getD i default).rev = rev ∧ (es.getD i default).key.size < 18446744073709551616) : ents rev es.length (bodyB es ++ r) = some (es, r) := by
  induction es with
  | nil => rfl
  | cons x es ih =>
    have hx := hr 0 (by simp)
    simp only [List.getD_cons_zero] at hx
    have hb : bodyB (x :: es) ++ r = flagB x ++ (textE x.key.data.toList ++ (bodyB es ++ r)) := by simp [bodyB, entB]
    obtain ⟨f1, f2⟩ := flag_ent x (textE x.key.data.toList ++ (bodyB es ++ r))
    obtain ⟨t1, t2, t3⟩ := text_of x.key.data.toList (by rw [size_data]; exact hx.2) (bodyB es ++ r)
    have hd : (flagB x ++ (textE x.key.data.toList ++ (bodyB es ++ r))).drop 1 = textE x.key.data.toList ++ (bodyB es ++ r) := rfl
    rw [List.length_cons, ents, hb, hd, if_pos ⟨f1, t1⟩, f2, t2, t3, List.drop_left, ih (fun i hi => by have := hr (i + 1) (by simpa using hi); simpa using this)]
    obtain ⟨k, v, d⟩ := x
    simp only at hx
    simp [hx.1]
theorem decodes_record (rev : Nat) (es : List Ent) (hr : rev < 18446744073709551616) (h : Right rev es) : Decodes (recordB rev es) rev es := by
  have e1 : recordB rev es = uv rev ++ (uv es.length ++ bodyB es) := by rw [recordB, List.append_assoc]
  obtain ⟨g1, g2, g3⟩ := get_uv rev hr (uv es.length ++ bodyB es)
  have hle := h.2.2.1
  obtain ⟨k1, k2, k3⟩ := get_uv es.length (by omega) (bodyB es)
  have r1 : rest1 (recordB rev es) = uv es.length ++ bodyB es := by rw [rest1, e1, g2, List.drop_left]
  have r2 : rest1 (uv es.length ++ bodyB es) = bodyB es := by rw [rest1, k2, List.drop_left]
  refine ⟨by rw [e1]; exact g1, by rw [e1]; exact g3.symm, by rw [r1]; exact k1, ?_, h⟩
  rw [r1, r2, k3]
  have := ents_body rev es [] (fun i hi => by
    have := h.2.2.2 i hi
    unfold Odd at this
    constructor
    · rcases Nat.decEq (es.getD i default).rev rev with h | h
      · exact absurd (.inl h) this
      · exact h
    · have : ¬ 65536 < (es.getD i default).key.size := fun h => this (.inr h)
      omega)
  rw [List.append_nil] at this
  rw [e1, g3]
  exact this
theorem ents_step (rev n : Nat) (l : List UInt8) (h1 : flagE l = 0) (h2 : textN (l.drop 1) = 0) : ents rev (n + 1) l = (ents rev n ((l.drop 1).drop (usedT (l.drop 1)))).map (fun p => (⟨⟨(gotT (l.drop 1)).toArray⟩, rev, flagV l⟩ :: p.1, p.2)) := by
  rw [ents, if_pos ⟨h1, h2⟩]
theorem ents_bad (rev n : Nat) (l : List UInt8) (h : flagE l ≠ 0 ∨ textN (l.drop 1) ≠ 0) : ents rev (n + 1) l = none := by
  rw [ents, if_neg]
  rintro ⟨h1, h2⟩
  rcases h with h | h
  · exact h h1
  · exact h h2
/-- entries as cells -/
def entsV (es : List Ent) : List Value := es.flatMap fun x => [.string x.key, .int .u64 (x.rev : Int), .bool x.del]
theorem entsV_append (a b : List Ent) : entsV (a ++ b) = entsV a ++ entsV b := by simp [entsV]
theorem length_entsV (es : List Ent) : (entsV es).length = es.length * 3 := by
  induction es with
  | nil => rfl
  | cons x r ih =>
    have e : entsV (x :: r) = [.string x.key, .int .u64 (x.rev : Int), .bool x.del] ++ entsV r := rfl
    rw [e, List.length_append, ih]; simp; omega
theorem entsV_one (es : List Ent) : ∀ u ∈ entsV es, u.oneCell' = true := by
  intro u hu
  unfold entsV at hu
  rw [List.mem_flatMap] at hu
  obtain ⟨x, _, hx⟩ := hu
  simp only [List.mem_cons, List.not_mem_nil, or_false] at hx
  rcases hx with rfl | rfl | rfl <;> rfl
theorem entsV_get (es : List Ent) : ∀ k, k < es.length → (entsV es)[k * 3]? = some (.string (es.getD k default).key) ∧ (entsV es)[k * 3 + 1]? = some (.int .u64 ((es.getD k default).rev : Int)) ∧ (entsV es)[k * 3 + 2]? = some (.bool (es.getD k default).del) := by
  induction es with
  | nil => intro k hk; cases hk
  | cons x r ih =>
    intro k hk
    have e : entsV (x :: r) = .string x.key :: .int .u64 (x.rev : Int) :: .bool x.del :: entsV r := rfl
    cases k with
    | zero => rw [e]; exact ⟨rfl, rfl, rfl⟩
    | succ k =>
      obtain ⟨h1, h2, h3⟩ := ih k (by simpa using hk)
      rw [e, List.getD_cons_succ]
      have e1 : (k + 1) * 3 = k * 3 + 1 + 1 + 1 := by omega
      rw [e1]
      simp only [List.getElem?_cons_succ]
      exact ⟨h1, h2, h3⟩
theorem row_ents {w : World} {base n m c : Nat} {a : Option Addr} {es : List Ent} (h : w.ownsRow base 48 3 (.slice a m c) n (entsV es)) : IsEnts w a es := by
  intro h0
  have hl := h.1
  rw [length_entsV] at hl
  rcases h.2 with ⟨hv, h1⟩ | ⟨g, cap, cur, hv, _⟩
  · omega
  · cases hv
    refine ⟨g, 0, rfl, (h.lt g rfl).2, fun k hk => ?_⟩
    obtain ⟨h1, h2, h3⟩ := entsV_get es k hk
    rw [Nat.zero_add]
    exact ⟨(h.cellAt _ (by omega)).trans h1, (h.cellAt _ (by omega)).trans h2, (h.cellAt _ (by omega)).trans h3⟩
end Go.Proofs.Ytbamohcaamgalae
