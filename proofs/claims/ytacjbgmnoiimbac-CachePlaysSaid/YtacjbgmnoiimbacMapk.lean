/- A map with keys of two integers, as it lies: laws. -/
import Derived.Test.YtacjbgmnoiimbacWalkA
namespace Go.Proofs.Ytacjbgmnoiimbac
set_option linter.unusedVariables false
set_option linter.unusedSimpArgs false
open Go.RowKit

theorem eqI (d : Nat) (x y : Int) (w : World) : (Op.equalIn (d + 1) 3 (.int .i64 x) (.int .i64 y)).run Try.prog w = .ok (x == y) w := by
  rw [Op.equalIn]
  simp [run_underlying Try.underlying3]
theorem part0 (x y : Int) (w : World) : (part 3 #[.int .i64 x, .int .i64 y] 0).run Try.prog w = .ok (.int .i64 x) w := by simp [part, go_sem]
theorem part1 (x y : Int) (w : World) : (part 3 #[.int .i64 x, .int .i64 y] 1).run Try.prog w = .ok (.int .i64 y) w := by simp [part, go_sem]
def nameV (f b : Int) : Value := .agg #[.int .i64 f, .int .i64 b]
def ptrV (p : Nat) : Value := .pointer (some ⟨p, 0, none⟩)
theorem eq_name (f b f' b' : Int) (w : World) : (Op.equal 47 (nameV f b) (nameV f' b')).run Try.prog w = .ok (f == f' && b == b') w := by
  unfold nameV
  simp [Op.equal, Op.maxDepth]
  rw [Op.equalIn]
  simp [run_underlying Try.underlying47, part0, part1, eqI 9998]
  by_cases h1 : (f == f') = true
  · by_cases h2 : b = b'
    · simp_all
    · simp_all
  · simp_all
theorem check_name (em : Bool) (f b : Int) (w : World) : (Instr.checkKey em 10000 47 (nameV f b)).run Try.prog w = .ok () w := by
  unfold nameV
  rw [Instr.checkKey]
  have hI : ∀ x : Int, (Instr.checkKey em 9999 3 (.int .i64 x)).run Try.prog w = .ok () w := fun x => by
    rw [Instr.checkKey]
    simp [run_underlying Try.underlying3]
  simp [run_underlying Try.underlying47, part0, part1, hI]
/-- the first of these names -/
def findL (f b : Int) : List (Int × Int × Nat) → Nat → Option (Nat × Nat)
  | [], _ => none
  | x :: r, i => if x.1 = f ∧ x.2.1 = b then some (i, x.2.2) else findL f b r (i + 1)
def entK (x : Int × Int × Nat) : Value × Value := (nameV x.1 x.2.1, ptrV x.2.2)
theorem find_asking (f b : Int) (w : World) (es : List MapEntry) : ∀ (L : List (Int × Int × Nat)) (i : Nat), es.map (fun e => (e.key, e.val)) = L.map entK → (Instr.findAsking 47 (nameV f b) es i).run Try.prog w = .ok ((findL f b L i).map fun p => (p.1, ptrV p.2)) w := by
  induction es with
  | nil =>
    intro L i h
    cases L with
    | nil => rfl
    | cons x r => cases h
  | cons e es ih =>
    intro L i h
    cases L with
    | nil => cases h
    | cons x r =>
      simp only [List.map_cons, List.cons.injEq, entK, Prod.mk.injEq] at h
      obtain ⟨⟨hk, hv⟩, hr⟩ := h
      rw [Instr.findAsking]
      simp only [Sem.run_bind, hk, eq_name, Result.andThen_ok]
      rw [findL]
      by_cases hx : x.1 = f ∧ x.2.1 = b
      · have e1 : (f == x.1 && b == x.2.1) = true := by rw [hx.1, hx.2]; simp
        rw [e1, if_pos hx]
        simp [hv]
      · have e1 : (f == x.1 && b == x.2.1) = false := by
          rw [Bool.and_eq_false_iff, beq_eq_false_iff_ne, beq_eq_false_iff_ne]
          by_cases h1 : f = x.1
          · right; intro h2; exact hx ⟨h1.symm, h2.symm⟩
          · exact .inl h1
        rw [e1, if_neg hx]
        simp only [Bool.false_eq_true, if_false]
        exact ih r (i + 1) hr
theorem find_key (f b : Int) (w : World) (es : List MapEntry) (L : List (Int × Int × Nat)) (h : es.map (fun e => (e.key, e.val)) = L.map entK) : (Instr.findKey 47 (nameV f b) es).run Try.prog w = .ok ((findL f b L 0).map fun p => (p.1, ptrV p.2)) w := by
  unfold Instr.findKey
  simp only [Sem.run_bind, run_underlying Try.underlying47, Result.andThen_ok]
  cases es with
  | nil =>
    cases L with
    | nil => rfl
    | cons x r => cases h
  | cons e es =>
    have hn : ∀ fs, Instr.findNow (TypeDesc.struct fs) (nameV f b) (e :: es) 0 = none := fun _ => by
      rw [Instr.findNow]; rfl
    rw [hn]
    exact find_asking f b w (e :: es) L 0 h
def MapAt (W : World) (bm : Nat) (L : List (Int × Int × Nat)) : Prop := ∃ (es : Array MapEntry) (clock : Nat), W.heap[bm]? = some (.map es clock) ∧ es.toList.map (fun e => (e.key, e.val)) = L.map entK
theorem run_getObj_m {P : Program} {w : World} {r : Nat} {es : Array MapEntry} {clock : Nat} (hb : w.heap[r]? = some (.map es clock)) : (getObj r).run P w = .ok (.map es clock) w := by
  simp [getObj, Sem.run, hb]
theorem run_setObj_m {P : Program} {w : World} {r : Nat} {es : Array MapEntry} {clock : Nat} (o : Obj) (hb : w.heap[r]? = some (.map es clock)) : (setObj r o).run P w = .ok () { w with heap := w.heap.setIfInBounds r o } := by
  simp [setObj, Sem.run, hb]
theorem run_lookup (f b : Int) (w : World) (bm : Nat) (L : List (Int × Int × Nat)) (h : MapAt w bm L) : (Instr.lookup 50 (.map (some bm)) (nameV f b) true).run Try.prog w = .ok (.tuple #[match findL f b L 0 with | some p => ptrV p.2 | none => .pointer none, .bool (findL f b L 0).isSome]) w := by
  obtain ⟨es, clock, hh, hes⟩ := h
  unfold Instr.lookup
  have hz : (zeroValue 45).run Try.prog w = .ok (.pointer none) w := by kernel_rfl
  simp [run_underlying Try.underlying50, run_getObj_m hh, check_name, find_key f b w es.toList L hes, hz]
  cases findL f b L 0 <;> simp [hz]
def withMap (w : World) (bm : Nat) (es : Array MapEntry) (clock : Nat) : World := { w with heap := w.heap.setIfInBounds bm (.map es clock) }
theorem withMap_at (w : World) (bm : Nat) (es : Array MapEntry) (clock : Nat) (L : List (Int × Int × Nat)) (hlt : bm < w.heap.size) (h : es.toList.map (fun e => (e.key, e.val)) = L.map entK) : MapAt (withMap w bm es clock) bm L ∧ w.grownBy (withMap w bm es clock) (some bm) ∧ (withMap w bm es clock).heap.size = w.heap.size := by
  refine ⟨⟨es, clock, by simp [withMap, hlt], h⟩, ⟨rfl, rfl, rfl, by simp [withMap], fun k hk hne => ?_⟩, by simp [withMap]⟩
  unfold withMap
  rw [Array.getElem?_setIfInBounds_ne (by intro e; exact hne (by rw [e]))]
theorem run_put (f b : Int) (p : Nat) (w : World) (bm : Nat) (L : List (Int × Int × Nat)) (h : MapAt w bm L) (hn : findL f b L 0 = none) : ∃ es clock, (Instr.mapUpdate 50 (.map (some bm)) (nameV f b) (ptrV p)).run Try.prog w = .ok () (withMap w bm es clock) ∧ es.toList.map (fun e => (e.key, e.val)) = (L ++ [(f, b, p)]).map entK := by
  obtain ⟨es, clock, hh, hes⟩ := h
  unfold Instr.mapUpdate
  refine ⟨es.push { key := nameV f b, val := ptrV p, born := clock }, clock + 1, ?_, by simp [hes, entK]⟩
  simp [run_underlying Try.underlying50, run_getObj_m hh, check_name, find_key f b w es.toList L hes, hn, run_setObj_m _ hh]
  rfl
theorem eraseIdx_map {α β : Type} (g : α → β) (l : List α) : ∀ i, (l.eraseIdx i).map g = (l.map g).eraseIdx i := by
  induction l with
  | nil => intro i; rfl
  | cons x r ih =>
    intro i
    cases i with
    | zero => rfl
    | succ i => simp [ih i]
theorem run_delete (f b : Int) (w : World) (bm i p : Nat) (t : TypeId) (L : List (Int × Int × Nat)) (h : MapAt w bm L) (hn : findL f b L 0 = some (i, p)) : ∃ es clock, (Builtin.delete_ #[50, 47] t #[.map (some bm), nameV f b]).run Try.prog w = .ok (.tuple #[]) (withMap w bm es clock) ∧ es.toList.map (fun e => (e.key, e.val)) = (L.eraseIdx i).map entK := by
  obtain ⟨es, clock, hh, hes⟩ := h
  unfold Builtin.delete_
  refine ⟨es.eraseIdxIfInBounds i, clock, ?_, ?_⟩
  · simp [run_underlying Try.underlying50, run_getObj_m hh, check_name, find_key f b w es.toList L hes, hn, run_setObj_m _ hh]
    rfl
  · rw [eraseIdx_map, ← hes, ← eraseIdx_map]
    simp
theorem run_put_at (f b : Int) (p : Nat) (w : World) (bm : Nat) (L : List (Int × Int × Nat)) (es : Array MapEntry) (clock : Nat) (hh : w.heap[bm]? = some (.map es clock)) (hes : es.toList.map (fun e => (e.key, e.val)) = L.map entK) (hn : findL f b L 0 = none) :
    (Instr.mapUpdate 50 (.map (some bm)) (nameV f b) (ptrV p)).run Try.prog w = .ok () (withMap w bm (es.push { key := nameV f b, val := ptrV p, born := clock }) (clock + 1)) := by
  unfold Instr.mapUpdate
  simp [run_underlying Try.underlying50, run_getObj_m hh, check_name, find_key f b w es.toList L hes, hn, run_setObj_m _ hh]
  rfl
theorem run_delete_at (f b : Int) (w : World) (bm i p : Nat) (t : TypeId) (L : List (Int × Int × Nat)) (es : Array MapEntry) (clock : Nat) (hh : w.heap[bm]? = some (.map es clock)) (hes : es.toList.map (fun e => (e.key, e.val)) = L.map entK) (hn : findL f b L 0 = some (i, p)) :
    (Builtin.delete_ #[50, 47] t #[.map (some bm), nameV f b]).run Try.prog w = .ok (.tuple #[]) (withMap w bm (es.eraseIdxIfInBounds i) clock) := by
  unfold Builtin.delete_
  simp [run_underlying Try.underlying50, run_getObj_m hh, check_name, find_key f b w es.toList L hes, hn, run_setObj_m _ hh]
  rfl
theorem erase_ents {es : Array MapEntry} {L : List (Int × Int × Nat)} (i : Nat) (hes : es.toList.map (fun e => (e.key, e.val)) = L.map entK) : (es.eraseIdxIfInBounds i).toList.map (fun e => (e.key, e.val)) = (L.eraseIdx i).map entK := by
  rw [eraseIdx_map, ← hes, ← eraseIdx_map]
  simp
/-- the first of these names, and where -/
theorem findL_some {f b : Int} {L : List (Int × Int × Nat)} : ∀ {i k p : Nat}, findL f b L i = some (k, p) → ∃ j, k = i + j ∧ j < L.length ∧ L[j]? = some (f, b, p) := by
  induction L with
  | nil => intro i k p h; cases h
  | cons x r ih =>
    intro i k p h
    rw [findL] at h
    by_cases hx : x.1 = f ∧ x.2.1 = b
    · rw [if_pos hx] at h
      simp only [Option.some.injEq, Prod.mk.injEq] at h
      refine ⟨0, h.1.symm, by simp, ?_⟩
      obtain ⟨x1, x2, x3⟩ := x
      simp only at hx h
      simp [hx.1, hx.2, h.2]
    · rw [if_neg hx] at h
      obtain ⟨j, h1, h2, h3⟩ := ih h
      exact ⟨j + 1, by omega, by simp; omega, by simpa using h3⟩
theorem findL_none {f b : Int} {L : List (Int × Int × Nat)} : ∀ {i : Nat}, findL f b L i = none → ∀ x ∈ L, ¬ (x.1 = f ∧ x.2.1 = b) := by
  induction L with
  | nil => intro i h x hx; cases hx
  | cons y r ih =>
    intro i h x hx
    rw [findL] at h
    by_cases hy : y.1 = f ∧ y.2.1 = b
    · rw [if_pos hy] at h; cases h
    · rw [if_neg hy] at h
      rcases List.mem_cons.1 hx with rfl | hx
      · exact hy
      · exact ih h x hx
end Go.Proofs.Ytacjbgmnoiimbac
