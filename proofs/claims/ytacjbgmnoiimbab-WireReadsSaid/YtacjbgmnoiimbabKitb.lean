/- Laws at the operations: a cut of a slice; an append of bytes; a whole array made, stored and read. -/
import Derived.Test.YtacjbgmnoiimbabKit
namespace Go.Proofs.Ytacjbgmnoiimbab
set_option linter.unusedVariables false
set_option linter.unusedSimpArgs false
open Go.RowKit

/-- where a cut of a slice of one-cell elements begins -/
def cutA (a : Option Addr) (cap lo : Nat) : Option Addr := if cap = lo then a else a.map (·.add lo)
theorem cutA_bytes {w : World} {a : Option Addr} {l : List UInt8} {cap lo hi : Nat} (h : IsBytes w a l) (hl : hi ≤ l.length) (hc : l.length ≤ cap) : IsBytes w (cutA a cap lo) ((l.take hi).drop lo) := by
  intro h0
  have hlen : ((l.take hi).drop lo).length = hi - lo := by rw [List.length_drop, List.length_take]; omega
  obtain ⟨b, off, rfl, hb, hcell⟩ := h (by omega)
  refine ⟨b, off + lo, ?_, hb, ?_⟩
  · unfold cutA
    rw [if_neg (by omega)]
    simp [Addr.add_lit]
  · intro k hk
    have := hcell (lo + k) (by omega)
    rw [Nat.add_assoc, this]
    have e : ((l.take hi).drop lo).getD k 0 = l.getD (lo + k) 0 := by
      rw [List.getD_eq_getElem?_getD, List.getElem?_drop, List.getElem?_take, if_pos (by omega), ← List.getD_eq_getElem?_getD]
    rw [e]
theorem cutA_some (b off cap lo : Nat) : ∃ off', cutA (some ⟨b, off, none⟩) cap lo = some ⟨b, off', none⟩ := by
  unfold cutA
  split
  · exact ⟨_, rfl⟩
  · exact ⟨off + lo, by simp [Addr.add_lit]⟩

section
variable {P : Program} (w : World) {ops : Array Oper} {rest : List Oper} {o : Oper} {A : Act} {Q : Exit → Act → World → Prop}
theorem run_slice_lh1 (T e : TypeId) (i : TypeInfo) (ht : P.underlying T = some (.slice e)) (hi : P.info? e = some i) (hz : i.size = 1) (a : Option Addr) (len cap L H : Nat) (kl kh : IntKind) (h1 : L ≤ H) (h2 : H ≤ cap) :
    (Instr.slice T (.slice a len cap) (some (.int kl (L : Int))) (some (.int kh (H : Int))) none).run P w = .ok (.slice (cutA a cap L) (H - L) (cap - L)) w := by
  simp [Instr.slice, run_underlying ht, Instr.sliceBounds, run_sliceBound, cutA, sizeOf, typeInfo, hi, hz, h1, h2]
theorem run_slice_h1 (T e : TypeId) (i : TypeInfo) (ht : P.underlying T = some (.slice e)) (hi : P.info? e = some i) (hz : i.size = 1) (a : Option Addr) (len cap H : Nat) (kh : IntKind) (h2 : H ≤ cap) :
    (Instr.slice T (.slice a len cap) none (some (.int kh (H : Int))) none).run P w = .ok (.slice (cutA a cap 0) H cap) w := by
  simp [Instr.slice, run_underlying ht, Instr.sliceBounds, run_sliceBound, cutA, sizeOf, typeInfo, hi, hz, h2]
theorem run_slice_l1 (T e : TypeId) (i : TypeInfo) (ht : P.underlying T = some (.slice e)) (hi : P.info? e = some i) (hz : i.size = 1) (a : Option Addr) (len cap L : Nat) (kl : IntKind) (h1 : L ≤ len) :
    (Instr.slice T (.slice a len cap) (some (.int kl (L : Int))) none none).run P w = .ok (.slice (cutA a cap L) (len - L) (cap - L)) w := by
  simp [Instr.slice, run_underlying ht, Instr.sliceBounds, run_sliceBound, cutA, sizeOf, typeInfo, hi, hz, h1]
theorem wpList_slice_lh (hgd : o.guard = none) (x lo hi : Operand) (T : TypeId) (ho : o.op = .slice T x (some lo) (some hi) none) (e : TypeId) (i : TypeInfo) (ht : P.underlying T = some (.slice e)) (hi' : P.info? e = some i) (hz : i.size = 1)
    (a : Option Addr) (len cap L H : Nat) (hx : A.eval x = .slice a len cap) (kl kh : IntKind) (li hiI : Int) (hl : A.eval lo = .int kl li) (hh : A.eval hi = .int kh hiI) (el : li = L) (eh : hiI = H) (h1 : L ≤ H) (h2 : H ≤ cap)
    (h : ∀ a', a' = cutA a cap L → wpList P ops Q rest (A.put o.dst (.slice a' (H - L) (cap - L))) w) : wpList P ops Q (o :: rest) A w := by
  refine wpList_plain hgd fun K hK => ?_
  subst el eh
  have hr := run_slice_lh1 (P := P) w T e i ht hi' hz a len cap L H kl kh h1 h2
  unfold Oper.wp
  simp [execOp, ho, Instr.sliceAt, run_underlying ht, hx, hl, hh, hr, Result.andThen]
  exact hK _ _ (h _ rfl)
theorem wpList_slice_h (hgd : o.guard = none) (x hi : Operand) (T : TypeId) (ho : o.op = .slice T x none (some hi) none) (e : TypeId) (i : TypeInfo) (ht : P.underlying T = some (.slice e)) (hi' : P.info? e = some i) (hz : i.size = 1)
    (a : Option Addr) (len cap H : Nat) (hx : A.eval x = .slice a len cap) (kh : IntKind) (hiI : Int) (hh : A.eval hi = .int kh hiI) (eh : hiI = H) (h2 : H ≤ cap)
    (h : ∀ a', a' = cutA a cap 0 → wpList P ops Q rest (A.put o.dst (.slice a' H cap)) w) : wpList P ops Q (o :: rest) A w := by
  refine wpList_plain hgd fun K hK => ?_
  subst eh
  have hr := run_slice_h1 (P := P) w T e i ht hi' hz a len cap H kh h2
  unfold Oper.wp
  simp [execOp, ho, Instr.sliceAt, run_underlying ht, hx, hh, hr, Result.andThen]
  exact hK _ _ (h _ rfl)
theorem wpList_slice_l (hgd : o.guard = none) (x lo : Operand) (T : TypeId) (ho : o.op = .slice T x (some lo) none none) (e : TypeId) (i : TypeInfo) (ht : P.underlying T = some (.slice e)) (hi' : P.info? e = some i) (hz : i.size = 1)
    (a : Option Addr) (len cap L : Nat) (hx : A.eval x = .slice a len cap) (kl : IntKind) (li : Int) (hl : A.eval lo = .int kl li) (el : li = L) (h1 : L ≤ len)
    (h : ∀ a', a' = cutA a cap L → wpList P ops Q rest (A.put o.dst (.slice a' (len - L) (cap - L))) w) : wpList P ops Q (o :: rest) A w := by
  refine wpList_plain hgd fun K hK => ?_
  subst el
  have hr := run_slice_l1 (P := P) w T e i ht hi' hz a len cap L kl h1
  unfold Oper.wp
  simp [execOp, ho, Instr.sliceAt, run_underlying ht, hx, hl, hr, Result.andThen]
  exact hK _ _ (h _ rfl)

/-- 'append(out, x...)': out nil or the call's own, x bytes (nil, empty or not). -/
theorem wpList_append_bytes (hgd : o.guard = none) (s x : Operand) (t : TypeId) (ho : o.op = .call { callee := .builtin .append, args := #[s, x], argTypes := #[t, t] })
    (base : Nat) (e : TypeId) (i : TypeInfo) (z : Value) (ht : P.underlying t = some (.slice e)) (hi : P.info? e = some i) (hz : i.zero = some z) (hsize : i.size = 1) (hby : i.bytes = 1) (hzs : z.cells.size = 1)
    (v : Value) (n : Nat) (xs : List Value) (hs : A.eval s = v) (hown : w.ownsRow base e 1 v n xs) (ad : Option Addr) (m c : Nat) (l : List UInt8) (hx : A.eval x = .slice ad m c) (hm : l.length = m) (hb : IsBytes w ad l)
    (hbd : n + m ≤ 140737488355328) (hbase : base ≤ w.heap.size)
    (h : ∀ v' w', w'.ownsRow base e 1 v' (n + m) (xs ++ bytesV l) → w.grownBy w' v.ownBlock → (v' = .slice none 0 0 → v = .slice none 0 0 ∧ m = 0) → wpList P ops Q rest (A.put o.dst v') w') : wpList P ops Q (o :: rest) A w := by
  subst hm
  cases ad with
  | some ad =>
    refine wpList_append_own w hgd s x t ho base e i z 1 1 ht hi hz hsize hby hzs (by decide) v n xs hs hown ad l.length c (bytesV l) hx (by rw [length_bytesV, Nat.mul_one]) ?_ (bytesV_one l) (by unfold maxLen; omega) (by omega) hbase (fun v' w' h1 h2 h3 => h v' w' h1 h2 (fun e => h3.1 e))
    intro j u hj
    have hjl : j < l.length := by have := (List.getElem?_eq_some_iff.1 hj).1; rwa [length_bytesV] at this
    obtain ⟨b, off, h0, _, hc⟩ := hb (by omega)
    cases h0
    rw [bytesV_get l j hjl] at hj
    cases hj
    rw [Addr.add_lit]
    exact hc j hjl
  | none =>
    have hl : l = [] := by
      cases l with
      | nil => rfl
      | cons c r => obtain ⟨b, off, h0, _⟩ := hb (by simp); cases h0
    subst hl
    have hr : (Builtin.append_ #[t, t] o.type #[v, .slice none 0 c]).run P w = .ok v w := by
      rcases hown.2 with ⟨rfl, rfl⟩ | ⟨g, cap, cur, rfl, _, _, hnc, _⟩
      · simp [Builtin.append_, run_underlying ht, sizeOf, typeInfo, hi, Builtin.lenOf, Builtin.firstCells]
      · simp [Builtin.append_, run_underlying ht, sizeOf, typeInfo, hi, Builtin.lenOf, Builtin.firstCells, hnc, storeCells]
    refine wpList_plain hgd fun K hK => ?_
    unfold Oper.wp execOp
    simp only [ho, resolve, invoke, builtin, Sem.run_bind, Sem.run_pure, Result.andThen_ok, List.map_toArray, List.map_cons, List.map_nil, hs, hx]
    simp only [List.length_nil]
    rw [hr]
    exact hK _ _ (h v w (by simpa [bytesV] using hown) (World.grownBy.refl _ _) (fun e => ⟨e, rfl⟩))
/-- 'append(out, a, b, c, d)': four bytes, laid just before in a block of their own -/
theorem wpList_append_four (hgd : o.guard = none) (s x : Operand) (t : TypeId) (ho : o.op = .call { callee := .builtin .append, args := #[s, x], argTypes := #[t, t] })
    (base : Nat) (e : TypeId) (i : TypeInfo) (z : Value) (ht : P.underlying t = some (.slice e)) (hi : P.info? e = some i) (hz : i.zero = some z) (hsize : i.size = 1) (hby : i.bytes = 1) (hzs : z.cells.size = 1)
    (v : Value) (n : Nat) (xs : List Value) (hs : A.eval s = v) (hown : w.ownsRow base e 1 v n xs) (x1 x2 x3 x4 : Int) (c : Nat) (hx : A.eval x = .slice (some ⟨w.heap.size, 0, none⟩) 4 c)
    (hbd : n + 4 ≤ 140737488355328) (hbase : base ≤ w.heap.size)
    (h : ∀ v' w', w'.ownsRow base e 1 v' (n + 4) (xs ++ [.int .u8 x1, .int .u8 x2, .int .u8 x3, .int .u8 x4]) → w.grownBy w' v.ownBlock → wpList P ops Q rest (A.put o.dst v') w') :
    wpList P ops Q (o :: rest) A (w.alloc (.cells #[.int .u8 x1, .int .u8 x2, .int .u8 x3, .int .u8 x4] e)) := by
  refine wpList_append_own _ hgd s x t ho base e i z 1 1 ht hi hz hsize hby hzs (by decide) v n xs hs (hown.alloc _) ⟨w.heap.size, 0, none⟩ 4 c [.int .u8 x1, .int .u8 x2, .int .u8 x3, .int .u8 x4] hx rfl ?_ ?_ (by unfold maxLen; omega) (by omega) (by simp; omega) (fun v' w' h1 h2 _ => h v' w' h1 (grownBy_trans (World.grownBy_alloc w _ _) h2))
  · intro j u hj
    rw [Addr.add_lit, Nat.zero_add]
    match j, hj with
    | 0, hj => simp at hj; subst hj; simp
    | 1, hj => simp at hj; subst hj; simp
    | 2, hj => simp at hj; subst hj; simp
    | 3, hj => simp at hj; subst hj; simp
  · intro u hu
    simp only [List.mem_cons, List.not_mem_nil, or_false] at hu
    rcases hu with rfl | rfl | rfl | rfl <;> rfl
/-- a variable of a type of many cells -/
theorem wpList_alloc_row (hgd : o.guard = none) (t : TypeId) (ho : o.op = .alloc t) (i : TypeInfo) (z : Value) (hi : P.info? t = some i) (hz : i.zero = some z)
    (h : ∀ w', w'.heap[w.heap.size]? = some (.cells z.cells t (0, 0)) → w.grownBy w' none → w'.heap.size = w.heap.size + 1 → wpList P ops Q rest (A.put o.dst (.pointer (some ⟨w.heap.size, 0, none⟩))) w') : wpList P ops Q (o :: rest) A w := by
  refine wpList_plain hgd fun K hK => ?_
  have hr : (Instr.alloc t true (.tuple #[])).run P w = .ok (.pointer (some ⟨w.heap.size, 0, none⟩)) (w.alloc (.cells z.cells t)) := by
    simp [Instr.alloc, zeroValue, typeInfo, hi, hz, newVar, newRow]
  unfold Oper.wp execOp
  simp only [ho, Sem.run_bind, Sem.run_pure, hr, Result.andThen_ok]
  exact hK _ _ (h _ (heap_alloc_new w _) (World.grownBy_alloc w _ _) (by simp))
/-- a whole array is stored -/
theorem wpList_store_arr (hgd : o.guard = none) (hds : o.dst = none) (ty : TypeId) (x v : Operand) (ho : o.op = .store ty x v) (g : Nat) (t : TypeId) (old cells : Array Value) (hx : A.eval x = .pointer (some ⟨g, 0, none⟩)) (hv : A.eval v = .agg cells)
    (hg : w.heap[g]? = some (.cells old t (0, 0))) (hi : (P.info? ty).map (·.size) = some cells.size) (hsz : old.size = cells.size) (h1 : cells.all (·.oneCell') = true)
    (h : ∀ w', w'.heap[g]? = some (.cells cells t (0, 0)) → w.grownBy w' (some g) → w'.heap.size = w.heap.size → wpList P ops Q rest A w') : wpList P ops Q (o :: rest) A w := by
  refine wpList_store_row hgd ty x v ho g cells hx hv t old hg hi hsz h1 ?_
  rw [hds]
  exact h (w.setRow g cells) (setRow_heap w g old cells t _ hg) ⟨rfl, rfl, rfl, by simp, fun k _ hk => setRow_other w g k _ (fun e => hk (by simp [e]))⟩ (by simp)
end
end Go.Proofs.Ytacjbgmnoiimbab
