/- Small laws: cells read, appends of whatever cells, a drawn region by hand. -/
import Derived.Test.YtbamohcaamgalaePlainw
import Derived.Deep.AppendLies
import Derived.Deep.RegionHeld3
namespace Go.Proofs.Ytbamohcaamgalae
set_option linter.unusedVariables false
set_option linter.unusedSimpArgs false
open Go.RowKit

theorem own_ne {w : World} {B B' : Nat} {e e' : TypeId} {size size' : Nat} {v v' : Value} {n n' : Nat} {xs xs' : List Value} (h : w.ownsRow B e size v n xs) (h' : w.ownsRow B' e' size' v' n' xs') (hne : e ≠ e') : v'.ownBlock = none ∨ v'.ownBlock ≠ v.ownBlock := by
  rcases h'.2 with ⟨rfl, _⟩ | ⟨g', cap', cur', rfl, _, hg', _⟩
  · exact .inl rfl
  · right
    intro he
    rcases h.2 with ⟨rfl, _⟩ | ⟨g, cap, cur, rfl, _, hg, _⟩
    · cases he
    · simp only [Value.ownBlock, Option.some.injEq] at he
      subst he
      rw [hg'] at hg
      simp only [Option.some.injEq, Obj.cells.injEq] at hg
      exact hne hg.2.1.symm
theorem below_step {w5 w6 w7 : World} (h : Below w5.heap.size w5 w6) (k : Below w6.heap.size w6 w7) : Below w5.heap.size w5 w7 := h.trans (k.mono h.size)
section
variable {P : Program} {ops : Array Oper} {Q : Exit → Act → World → Prop} {md : Region.Mode} {S : World → Prop}
/-- an operation is taken first, and its slot is named -/
theorem take_at (i d : Nat) {oi : Oper} {v : Value} {fuel : Nat} {listed : Array Bool} {tmps : Array Value} {ds : List Deferred} {w : World} (hi : ops[i]? = some oi) (hd : oi.dst = some d)
    (hs : Region.noSelect ops = true) (hf : Region.free md ops listed i = true) (hr : (Region.ready md ops listed).contains i = true)
    (hQ : ∀ c a w, Q (.panic c) (a.put oi.dst v) w → Q (.panic c) a w) (hy : YieldsIf P ops S oi v ⟨tmps, ds⟩) (hS : S w)
    (h : wpAnyH P md ops Q S fuel (listed.setIfInBounds i true) ⟨tmps.setIfInBounds d v, ds⟩ w) : wpAnyH P md ops Q S (fuel + 1) listed ⟨tmps, ds⟩ w :=
  wpAnyH_take hi hs hf hr hQ hy hS (by rw [hd]; exact h)
/-- one operation alone may come up, and its slot is named -/
theorem only_at (i d : Nat) {o : Oper} {fuel : Nat} {listed : Array Bool} {a : Act} {w : World} (hr : Region.ready md ops listed = [i]) (ho : ops[i]? = some o) (hd : o.dst = some d) (hw : Region.wanted o (yielded ops a.tmps) = true)
    (h : ∀ K' : Act → World → Prop, Shut (∀ a w, S w → (S w → wpAnyH P md ops Q S fuel (listed.setIfInBounds i true) a w) → K' a w) → Oper.wp P { o with dst := some d } a w K' Q) : wpAnyH P md ops Q S (fuel + 1) listed a w := by
  refine wpAnyH_ready hr (by simp) (AllReadyH.cons ho (fun K' hK => ?_) AllReadyH.nil)
  rw [if_pos hw]
  have e : ({ o with dst := some d } : Oper) = o := by cases o; simp_all
  have := h K' hK
  rwa [e] at this
end
theorem row_lower {w : World} {base : Nat} {e : TypeId} {size : Nat} {v : Value} {n : Nat} {xs : List Value} (h : w.ownsRow base e size v n xs) {b : Nat} (hb : b ≤ base) : w.ownsRow b e size v n xs :=
  ⟨h.1, h.2.imp id fun ⟨g, cap, cur, hv, hb', r⟩ => ⟨g, cap, cur, hv, Nat.le_trans hb hb', r⟩⟩
/-- en's block lies below out's -/
def Sep (en out : Value) : Prop := ∀ g g', en.ownBlock = some g → out.ownBlock = some g' → g < g'
theorem sep_new {w3 wc : World} {B n n' : Nat} {e e' : TypeId} {size size' : Nat} {en v : Value} {xs xs' : List Value} (hen : w3.ownsRow B e size en n xs) (hv : wc.ownsRow w3.heap.size e' size' v n' xs') : Sep en v :=
  fun g g' h1 h2 => Nat.lt_of_lt_of_le (hen.lt g h1).2 (hv.lt g' h2).1
theorem sep_ne {en out : Value} (h : Sep en out) : out.ownBlock = none ∨ out.ownBlock ≠ en.ownBlock := by
  cases ho : out.ownBlock with
  | none => exact .inl rfl
  | some g' =>
    right
    intro e
    exact Nat.lt_irrefl _ (h g' g' e.symm ho)
/-- cells read from an address on -/
def IsVals (w : World) (a : Option Addr) (xs : List Value) : Prop :=
  0 < xs.length → ∃ b off, a = some ⟨b, off, none⟩ ∧ b < w.heap.size ∧ ∀ k, k < xs.length → w.cell? ⟨b, off + k, none⟩ = xs[k]?
theorem IsVals.below {w w' : World} {a : Option Addr} {l : List Value} (h : IsVals w a l) (hb : Below w.heap.size w w') : IsVals w' a l := by
  intro h0
  obtain ⟨b, off, ha, hbw, hc⟩ := h h0
  exact ⟨b, off, ha, Nat.lt_of_lt_of_le hbw hb.size, fun k hk => (hb.cell (p := ⟨b, off + k, none⟩) hbw).trans (hc k hk)⟩
theorem row_vals {w : World} {base : Nat} {e : TypeId} {size n m c : Nat} {a : Option Addr} {xs : List Value} (h : w.ownsRow base e size (.slice a m c) n xs) : IsVals w a xs := by
  intro h0
  have hl := h.1
  rcases h.2 with ⟨hv, h1⟩ | ⟨g, cap, cur, hv, _⟩
  · subst h1; omega
  · cases hv
    refine ⟨g, 0, rfl, (h.lt g rfl).2, fun k hk => ?_⟩
    rw [Nat.zero_add]
    exact h.cellAt k (by omega)
theorem cutA_vals {w : World} {a : Option Addr} {l : List Value} {cap lo hi : Nat} (h : IsVals w a l) (hl : hi ≤ l.length) (hc : l.length ≤ cap) : IsVals w (cutA a cap lo) ((l.take hi).drop lo) := by
  intro h0
  have hlen : ((l.take hi).drop lo).length = hi - lo := by rw [List.length_drop, List.length_take]; omega
  obtain ⟨b, off, rfl, hb, hcell⟩ := h (by omega)
  refine ⟨b, off + lo, ?_, hb, ?_⟩
  · unfold cutA
    rw [if_neg (by omega)]
    simp [Addr.add_lit]
  · intro k hk
    have := hcell (lo + k) (by omega)
    rw [Nat.add_assoc, this]
    rw [List.getElem?_drop, List.getElem?_take, if_pos (by omega)]
section
variable {P : Program} (w : World) {o : Oper} {A : Act} {K : Act → World → Prop} {Q : Exit → Act → World → Prop}
/-- 'append(out, x...)': out nil or the call's own, x nil, empty or not -/
theorem wp_append_vals (s x : Operand) (t : TypeId) (ho : o.op = .call { callee := .builtin .append, args := #[s, x], argTypes := #[t, t] })
    (base : Nat) (e : TypeId) (i : TypeInfo) (z : Value) (size bytes : Nat) (ht : P.underlying t = some (.slice e)) (hi : P.info? e = some i) (hz : i.zero = some z) (hsize : i.size = size) (hby : i.bytes = bytes) (hzs : z.cells.size = size) (hsz : 0 < size)
    (v : Value) (n : Nat) (xs : List Value) (hs : A.eval s = v) (hown : w.ownsRow base e size v n xs) (ad : Option Addr) (m c : Nat) (news : List Value) (hx : A.eval x = .slice ad m c) (hm : news.length = m * size) (hb : IsVals w ad news) (h1 : ∀ u ∈ news, u.oneCell' = true)
    (hbd : n + m ≤ maxLen) (hbytes : (n + m) * bytes ≤ 140737488355328) (hbase : base ≤ w.heap.size)
    (h : ∀ v' w', w'.ownsRow base e size v' (n + m) (xs ++ news) → w.grownBy w' v.ownBlock → K (A.put o.dst v') w') : o.wp P A w K Q := by
  cases ad with
  | some ad =>
    have hnews : ∀ j u, news[j]? = some u → w.cell? (ad.add j) = some u := by
      intro j u hj
      have hjl : j < news.length := (List.getElem?_eq_some_iff.1 hj).1
      obtain ⟨b, off, hab, _, hc⟩ := hb (by omega)
      cases hab
      rw [Addr.add_lit, hc j hjl, hj]
    obtain ⟨v', w', hr, h2, h3, _, _⟩ := run_append_own_at (P := P) w base t o.type e i z size bytes ht hi hz hsize hby hzs hsz v n xs hown ad m c news hm hnews h1 hbd hbytes hbase
    unfold Oper.wp execOp
    simp only [ho, resolve, invoke, builtin, Sem.run_bind, Sem.run_pure, Result.andThen_ok, List.map_toArray, List.map_cons, List.map_nil, hs, hx]
    rw [hr]
    exact h v' w' h2 h3
  | none =>
    have hl : news = [] := by
      cases news with
      | nil => rfl
      | cons c r => obtain ⟨b, off, h0, _⟩ := hb (by simp); cases h0
    subst hl
    have hm0 : m = 0 := by
      rcases Nat.eq_zero_or_pos m with h0 | h0
      · exact h0
      · have := Nat.mul_pos h0 hsz
        simp at hm; omega
    subst hm0
    have hr : (Builtin.append_ #[t, t] o.type #[v, .slice none 0 c]).run P w = .ok v w := by
      rcases hown.2 with ⟨rfl, rfl⟩ | ⟨g, cap, cur, rfl, _, _, hnc, _⟩
      · simp [Builtin.append_, run_underlying ht, sizeOf, typeInfo, hi, Builtin.lenOf, Builtin.firstCells]
      · simp [Builtin.append_, run_underlying ht, sizeOf, typeInfo, hi, Builtin.lenOf, Builtin.firstCells, hnc, storeCells]
    unfold Oper.wp execOp
    simp only [ho, resolve, invoke, builtin, Sem.run_bind, Sem.run_pure, Result.andThen_ok, List.map_toArray, List.map_cons, List.map_nil, hs, hx]
    rw [hr]
    exact h v w (by simpa using hown) (World.grownBy.refl _ _)
end
section
variable {P : Program} {ops : Array Oper} {Q : Exit → Act → World → Prop} {md : Region.Mode} {S : World → Prop}
/-- either of two operations may come up -/
theorem two_at (i j di dj : Nat) {oi oj : Oper} {fuel : Nat} {listed : Array Bool} {a : Act} {w : World} (hr : Region.ready md ops listed = [i, j]) (hoi : ops[i]? = some oi) (hdi : oi.dst = some di) (hwi : Region.wanted oi (yielded ops a.tmps) = true)
    (hoj : ops[j]? = some oj) (hdj : oj.dst = some dj) (hwj : Region.wanted oj (yielded ops a.tmps) = true)
    (h1 : ∀ K' : Act → World → Prop, Shut (∀ a w, S w → (S w → wpAnyH P md ops Q S fuel (listed.setIfInBounds i true) a w) → K' a w) → Oper.wp P { oi with dst := some di } a w K' Q)
    (h2 : ∀ K' : Act → World → Prop, Shut (∀ a w, S w → (S w → wpAnyH P md ops Q S fuel (listed.setIfInBounds j true) a w) → K' a w) → Oper.wp P { oj with dst := some dj } a w K' Q) : wpAnyH P md ops Q S (fuel + 1) listed a w := by
  refine wpAnyH_ready hr (by simp) (AllReadyH.cons hoi (fun K' hK => ?_) (AllReadyH.cons hoj (fun K' hK => ?_) AllReadyH.nil))
  · rw [if_pos hwi]
    have e : ({ oi with dst := some di } : Oper) = oi := by cases oi; simp_all
    have := h1 K' hK
    rwa [e] at this
  · rw [if_pos hwj]
    have e : ({ oj with dst := some dj } : Oper) = oj := by cases oj; simp_all
    have := h2 K' hK
    rwa [e] at this
end
/-- what a row reads as -/
theorem row_cells {w : World} {base : Nat} {e : TypeId} {n m c : Nat} {a : Option Addr} {xs : List Value} (h : w.ownsRow base e 1 (.slice a m c) n xs) (h0 : 0 < n) : ∃ g off, a = some ⟨g, off, none⟩ ∧ ∀ j, j < n → w.cell? ⟨g, off + j, none⟩ = xs[j]? := by
  rcases h.2 with ⟨hv, h1⟩ | ⟨g, cap, cur, hv, _⟩
  · omega
  · cases hv
    refine ⟨g, 0, rfl, fun j hj => ?_⟩
    rw [Nat.zero_add]
    exact h.cellAt j (by omega)
theorem row_cap1 {w : World} {base : Nat} {e : TypeId} {size n m c : Nat} {a : Option Addr} {xs : List Value} (h : w.ownsRow base e size (.slice a m c) n xs) : n ≤ c := by
  rcases h.2 with ⟨hv, h0⟩ | ⟨g, cap, cur, hv, _, _, hc, _⟩
  · omega
  · cases hv; exact hc
theorem wpList_append_vals {P : Program} (w : World) {ops : Array Oper} {rest : List Oper} {o : Oper} {A : Act} {Q : Exit → Act → World → Prop} (hgd : o.guard = none) (s x : Operand) (t : TypeId)
    (ho : o.op = .call { callee := .builtin .append, args := #[s, x], argTypes := #[t, t] })
    (base : Nat) (e : TypeId) (i : TypeInfo) (z : Value) (size bytes : Nat) (ht : P.underlying t = some (.slice e)) (hi : P.info? e = some i) (hz : i.zero = some z) (hsize : i.size = size) (hby : i.bytes = bytes) (hzs : z.cells.size = size) (hsz : 0 < size)
    (v : Value) (n : Nat) (xs : List Value) (hs : A.eval s = v) (hown : w.ownsRow base e size v n xs) (ad : Option Addr) (m c : Nat) (news : List Value) (hx : A.eval x = .slice ad m c) (hm : news.length = m * size) (hb : IsVals w ad news) (h1 : ∀ u ∈ news, u.oneCell' = true)
    (hbd : n + m ≤ maxLen) (hbytes : (n + m) * bytes ≤ 140737488355328) (hbase : base ≤ w.heap.size)
    (h : ∀ v' w', w'.ownsRow base e size v' (n + m) (xs ++ news) → w.grownBy w' v.ownBlock → wpList P ops Q rest (A.put o.dst v') w') : wpList P ops Q (o :: rest) A w :=
  wpList_plain hgd fun K hK => wp_append_vals w s x t ho base e i z size bytes ht hi hz hsize hby hzs hsz v n xs hs hown ad m c news hx hm hb h1 hbd hbytes hbase (fun v' w' g1 g2 => hK _ _ (h v' w' g1 g2))
end Go.Proofs.Ytbamohcaamgalae
