/- Appends of whatever cells. -/
import Derived.Test.YtacjbgmnoiimbacOrd
namespace Go.Proofs.Ytacjbgmnoiimbac
set_option linter.unusedVariables false
set_option linter.unusedSimpArgs false
open Go.RowKit

/-- cells read from an address on -/
def IsVals (w : World) (a : Option Addr) (xs : List Value) : Prop :=
  0 < xs.length → ∃ b off, a = some ⟨b, off, none⟩ ∧ b < w.heap.size ∧ ∀ k, k < xs.length → w.cell? ⟨b, off + k, none⟩ = xs[k]?
theorem IsVals.below {w w' : World} {a : Option Addr} {l : List Value} (h : IsVals w a l) (hb : Below w.heap.size w w') : IsVals w' a l := by
  intro h0
  obtain ⟨b, off, ha, hbw, hc⟩ := h h0
  exact ⟨b, off, ha, Nat.lt_of_lt_of_le hbw hb.size, fun k hk => (hb.cell (p := ⟨b, off + k, none⟩) hbw).trans (hc k hk)⟩
def strsV (l : List ByteArray) : List Value := l.map .string
theorem length_strsV (l : List ByteArray) : (strsV l).length = l.length := by simp [strsV]
theorem strsV_append (l r : List ByteArray) : strsV (l ++ r) = strsV l ++ strsV r := by simp [strsV]
theorem strsV_get (l : List ByteArray) (i : Nat) (h : i < l.length) : (strsV l)[i]? = some (.string (l.getD i ByteArray.empty)) := by simp [strsV, h]
theorem strsV_one (l : List ByteArray) : ∀ u ∈ strsV l, u.oneCell' = true := by
  intro u hu
  obtain ⟨_, _, rfl⟩ := List.mem_map.1 hu
  rfl
theorem isStrs_vals {w : World} {a : Option Addr} {l : List ByteArray} (h : IsStrs w a l) : IsVals w a (strsV l) := by
  intro h0
  rw [length_strsV] at h0
  obtain ⟨b, off, ha, hb, hc⟩ := h h0
  refine ⟨b, off, ha, hb, fun k hk => ?_⟩
  rw [length_strsV] at hk
  rw [strsV_get l k hk]
  exact hc k hk
theorem vals_isStrs {w : World} {a : Option Addr} {l : List ByteArray} (h : IsVals w a (strsV l)) : IsStrs w a l := by
  intro h0
  obtain ⟨b, off, ha, hb, hc⟩ := h (by rw [length_strsV]; exact h0)
  refine ⟨b, off, ha, hb, fun k hk => ?_⟩
  rw [hc k (by rw [length_strsV]; exact hk)]
  exact strsV_get l k hk
theorem row_vals {w : World} {base : Nat} {e : TypeId} {size n m c : Nat} {a : Option Addr} {xs : List Value} (h : w.ownsRow base e size (.slice a m c) n xs) : IsVals w a xs := by
  intro h0
  have hl := h.1
  rcases h.2 with ⟨hv, h1⟩ | ⟨g, cap, cur, hv, _⟩
  · subst h1; omega
  · cases hv
    refine ⟨g, 0, rfl, (h.lt g rfl).2, fun k hk => ?_⟩
    rw [Nat.zero_add]
    exact h.cellAt k (by omega)
theorem row_strs {w : World} {base : Nat} {n m c : Nat} {a : Option Addr} {l : List ByteArray} (h : w.ownsRow base 9 1 (.slice a m c) n (strsV l)) : IsStrs w a l := vals_isStrs (row_vals h)
theorem cutA_vals {w : World} {a : Option Addr} {l : List Value} {cap lo hi : Nat} (h : IsVals w a l) (hl : hi ≤ l.length) (hc : l.length ≤ cap) : IsVals w (cutA a cap lo) ((l.take hi).drop lo) := by
  intro h0
  have hlen : ((l.take hi).drop lo).length = hi - lo := by rw [List.length_drop, List.length_take]; omega
  obtain ⟨b, off, rfl, hb, hcell⟩ := h (by omega)
  refine ⟨b, off + lo, ?_, hb, ?_⟩
  · unfold cutA
    rw [if_neg (by omega)]
    simp [Addr.add_lit]
  · intro k hk
    have := hcell (lo + k) (by omega)
    rw [Nat.add_assoc, this]
    rw [List.getElem?_drop, List.getElem?_take, if_pos (by omega)]
section
variable {P : Program} (w : World) {o : Oper} {A : Act} {K : Act → World → Prop} {Q : Exit → Act → World → Prop}
/-- 'append(out, x...)': out nil or the call's own, x nil, empty or not -/
theorem wp_append_vals (s x : Operand) (t : TypeId) (ho : o.op = .call { callee := .builtin .append, args := #[s, x], argTypes := #[t, t] })
    (base : Nat) (e : TypeId) (i : TypeInfo) (z : Value) (size bytes : Nat) (ht : P.underlying t = some (.slice e)) (hi : P.info? e = some i) (hz : i.zero = some z) (hsize : i.size = size) (hby : i.bytes = bytes) (hzs : z.cells.size = size) (hsz : 0 < size)
    (v : Value) (n : Nat) (xs : List Value) (hs : A.eval s = v) (hown : w.ownsRow base e size v n xs) (ad : Option Addr) (m c : Nat) (news : List Value) (hx : A.eval x = .slice ad m c) (hm : news.length = m * size) (hb : IsVals w ad news) (h1 : ∀ u ∈ news, u.oneCell' = true)
    (hbd : n + m ≤ maxLen) (hbytes : (n + m) * bytes ≤ 140737488355328) (hbase : base ≤ w.heap.size)
    (h : ∀ v' w', w'.ownsRow base e size v' (n + m) (xs ++ news) → w.grownBy w' v.ownBlock → K (A.put o.dst v') w') : o.wp P A w K Q := by
  cases ad with
  | some ad =>
    have hnews : ∀ j u, news[j]? = some u → w.cell? (ad.add j) = some u := by
      intro j u hj
      have hjl : j < news.length := (List.getElem?_eq_some_iff.1 hj).1
      obtain ⟨b, off, hab, _, hc⟩ := hb (by omega)
      cases hab
      rw [Addr.add_lit, hc j hjl, hj]
    obtain ⟨v', w', hr, h2, h3, _, _⟩ := run_append_own_at (P := P) w base t o.type e i z size bytes ht hi hz hsize hby hzs hsz v n xs hown ad m c news hm hnews h1 hbd hbytes hbase
    unfold Oper.wp execOp
    simp only [ho, resolve, invoke, builtin, Sem.run_bind, Sem.run_pure, Result.andThen_ok, List.map_toArray, List.map_cons, List.map_nil, hs, hx]
    rw [hr]
    exact h v' w' h2 h3
  | none =>
    have hl : news = [] := by
      cases news with
      | nil => rfl
      | cons c r => obtain ⟨b, off, h0, _⟩ := hb (by simp); cases h0
    subst hl
    have hm0 : m = 0 := by
      rcases Nat.eq_zero_or_pos m with h0 | h0
      · exact h0
      · have := Nat.mul_pos h0 hsz
        simp at hm; omega
    subst hm0
    have hr : (Builtin.append_ #[t, t] o.type #[v, .slice none 0 c]).run P w = .ok v w := by
      rcases hown.2 with ⟨rfl, rfl⟩ | ⟨g, cap, cur, rfl, _, _, hnc, _⟩
      · simp [Builtin.append_, run_underlying ht, sizeOf, typeInfo, hi, Builtin.lenOf, Builtin.firstCells]
      · simp [Builtin.append_, run_underlying ht, sizeOf, typeInfo, hi, Builtin.lenOf, Builtin.firstCells, hnc, storeCells]
    unfold Oper.wp execOp
    simp only [ho, resolve, invoke, builtin, Sem.run_bind, Sem.run_pure, Result.andThen_ok, List.map_toArray, List.map_cons, List.map_nil, hs, hx]
    rw [hr]
    exact h v w (by simpa using hown) (World.grownBy.refl _ _)
end
section
variable {P : Program} {ops : Array Oper} {Q : Exit → Act → World → Prop} {md : Region.Mode} {S : World → Prop}
/-- either of two operations may come up -/
theorem two_at (i j di dj : Nat) {oi oj : Oper} {fuel : Nat} {listed : Array Bool} {a : Act} {w : World} (hr : Region.ready md ops listed = [i, j]) (hoi : ops[i]? = some oi) (hdi : oi.dst = some di) (hwi : Region.wanted oi (yielded ops a.tmps) = true)
    (hoj : ops[j]? = some oj) (hdj : oj.dst = some dj) (hwj : Region.wanted oj (yielded ops a.tmps) = true)
    (h1 : ∀ K' : Act → World → Prop, Shut (∀ a w, S w → (S w → wpAnyH P md ops Q S fuel (listed.setIfInBounds i true) a w) → K' a w) → Oper.wp P { oi with dst := some di } a w K' Q)
    (h2 : ∀ K' : Act → World → Prop, Shut (∀ a w, S w → (S w → wpAnyH P md ops Q S fuel (listed.setIfInBounds j true) a w) → K' a w) → Oper.wp P { oj with dst := some dj } a w K' Q) : wpAnyH P md ops Q S (fuel + 1) listed a w := by
  refine wpAnyH_ready hr (by simp) (AllReadyH.cons hoi (fun K' hK => ?_) (AllReadyH.cons hoj (fun K' hK => ?_) AllReadyH.nil))
  · rw [if_pos hwi]
    have e : ({ oi with dst := some di } : Oper) = oi := by cases oi; simp_all
    have := h1 K' hK
    rwa [e] at this
  · rw [if_pos hwj]
    have e : ({ oj with dst := some dj } : Oper) = oj := by cases oj; simp_all
    have := h2 K' hK
    rwa [e] at this
end
theorem Try.info9 : (Try.prog.info? 9).map (fun i => (i.zero, i.size, i.bytes)) = some (some (.string ⟨#[]⟩), 1, 16) := by kernel_rfl
theorem wpList_append_vals {P : Program} (w : World) {ops : Array Oper} {rest : List Oper} {o : Oper} {A : Act} {Q : Exit → Act → World → Prop} (hgd : o.guard = none) (s x : Operand) (t : TypeId)
    (ho : o.op = .call { callee := .builtin .append, args := #[s, x], argTypes := #[t, t] })
    (base : Nat) (e : TypeId) (i : TypeInfo) (z : Value) (size bytes : Nat) (ht : P.underlying t = some (.slice e)) (hi : P.info? e = some i) (hz : i.zero = some z) (hsize : i.size = size) (hby : i.bytes = bytes) (hzs : z.cells.size = size) (hsz : 0 < size)
    (v : Value) (n : Nat) (xs : List Value) (hs : A.eval s = v) (hown : w.ownsRow base e size v n xs) (ad : Option Addr) (m c : Nat) (news : List Value) (hx : A.eval x = .slice ad m c) (hm : news.length = m * size) (hb : IsVals w ad news) (h1 : ∀ u ∈ news, u.oneCell' = true)
    (hbd : n + m ≤ maxLen) (hbytes : (n + m) * bytes ≤ 140737488355328) (hbase : base ≤ w.heap.size)
    (h : ∀ v' w', w'.ownsRow base e size v' (n + m) (xs ++ news) → w.grownBy w' v.ownBlock → wpList P ops Q rest (A.put o.dst v') w') : wpList P ops Q (o :: rest) A w :=
  wpList_plain hgd fun K hK => wp_append_vals w s x t ho base e i z size bytes ht hi hz hsize hby hzs hsz v n xs hs hown ad m c news hx hm hb h1 hbd hbytes hbase (fun v' w' g1 g2 => hK _ _ (h v' w' g1 g2))
end Go.Proofs.Ytacjbgmnoiimbac
