/- Lists read: what a reader knows behind some items. -/
import Derived.Test.YtacjbgmnoiimbabGreatRdC
namespace Go.Proofs.YtacjbgmnoiimbabGreat
set_option linter.unusedVariables false
set_option linter.unusedSimpArgs false
open Go.RowKit

/-! ### items in a row of one's own -/
def elsV {T : Type} (cells : T → List Value) (xs : List T) : List Value := xs.flatMap cells
theorem elsV_snoc {T : Type} (cells : T → List Value) (xs : List T) (x : T) : elsV cells (xs ++ [x]) = elsV cells xs ++ cells x := by
  unfold elsV
  rw [List.flatMap_append]
  show _ ++ (cells x ++ []) = _
  rw [List.append_nil]
theorem elsV_get {T : Type} [Inhabited T] {cells : T → List Value} {size : Nat} (hc : ∀ x, (cells x).length = size) : ∀ (xs : List T) (k i : Nat), i < size → k < xs.length → (elsV cells xs)[k * size + i]? = (cells (xs.getD k default))[i]?
  | [], k, i, hi, hk => by cases hk
  | x :: r, 0, i, hi, hk => by
    show (cells x ++ elsV cells r)[0 * size + i]? = _
    rw [Nat.zero_mul, Nat.zero_add, List.getElem?_append_left (by rw [hc]; exact hi)]
    rfl
  | x :: r, k + 1, i, hi, hk => by
    show (cells x ++ elsV cells r)[(k + 1) * size + i]? = _
    have e : (k + 1) * size + i = size + (k * size + i) := by rw [Nat.succ_mul]; omega
    rw [e, List.getElem?_append_right (by rw [hc]; omega), hc, Nat.add_sub_cancel_left, elsV_get hc r k i hi (by simpa using hk)]
    rfl
theorem elsV_len {T : Type} {cells : T → List Value} {size : Nat} (hc : ∀ x, (cells x).length = size) : ∀ xs : List T, (elsV cells xs).length = xs.length * size
  | [] => by simp [elsV]
  | x :: r => by
    show (cells x ++ elsV cells r).length = _
    rw [List.length_append, hc, elsV_len hc r, List.length_cons, Nat.succ_mul]; omega
theorem row_els {T : Type} [Inhabited T] {cells : T → List Value} {size : Nat} (hc : ∀ x, (cells x).length = size) {w : World} {base : Nat} {e : TypeId} {a : Option Addr} {m c : Nat} {xs : List T} (h : w.ownsRow base e size (.slice a m c) xs.length (elsV cells xs)) : IsEls cells size w a xs := fun h0 => by
  obtain ⟨g, cap, hv, _, hg, _⟩ := row_shape h h0
  cases hv
  refine ⟨g, 0, rfl, hg, fun k hk i hi => ?_⟩
  have hlt : k * size + i < (elsV cells xs).length := by
    rw [elsV_len hc]
    have : (k + 1) * size ≤ xs.length * size := Nat.mul_le_mul_right _ hk
    rw [Nat.succ_mul] at this
    omega
  have e1 := h.cells (g := g) rfl (k * size + i) (elsV cells xs)[k * size + i] (List.getElem?_eq_getElem hlt)
  rw [Addr.add_lit, ← List.getElem?_eq_getElem hlt, elsV_get hc xs k i hi hk, ← Nat.add_assoc] at e1
  exact e1
/-! ### what items hold in memory -/
structure MemOk {T : Type} (mem : (Nat → Prop) → World → T → Prop) : Prop where
  weak : ∀ {S S' : Nat → Prop} {W : World} {x : T}, (∀ b, S b → S' b) → mem S W x → mem S' W x
  lt : ∀ {S : Nat → Prop} {W : World} {x : T}, mem S W x → mem (fun b => S b ∧ b < W.heap.size) W x
  stays : ∀ {S : Nat → Prop} {W W' : World} {x : T}, mem S W x → Stays S W W' → mem S W' x
theorem nomem_ok {T : Type} : MemOk (nomem (T := T)) := ⟨fun _ _ => trivial, fun _ => trivial, fun _ _ => trivial⟩
theorem intmem_ok : MemOk intmem := ⟨fun _ h => h, fun h => h, fun h _ => h⟩
theorem RMem.lt {S : Nat → Prop} : ∀ {n : Nat} {W : World} {a : Option Addr} {ps : List PR}, RMem S n W a ps → RMem (fun b => S b ∧ b < W.heap.size) n W a ps
  | 0, _, _, _, h => h
  | n + 1, W, a, ps, h => by
    obtain ⟨xs, h1, h2, h3, h4⟩ := h
    exact ⟨xs, h1, h2, fun h0 p hp => ⟨h3 h0 p hp, by
      obtain ⟨b, off, ha, hb, _⟩ := h2 h0
      rw [hp] at ha; cases ha; exact hb⟩, fun x hx => ⟨(h4 x hx).1, (h4 x hx).2.lt⟩⟩
theorem NMem.lt {S : Nat → Prop} : ∀ {n : Nat} {W : World} {a : Option Addr} {ps : List PN}, NMem S n W a ps → NMem (fun b => S b ∧ b < W.heap.size) n W a ps
  | 0, _, _, _, h => h
  | n + 1, W, a, ps, h => by
    obtain ⟨xs, h1, h2, h3, h4⟩ := h
    refine ⟨xs, h1, h2, fun h0 p hp => ⟨h3 h0 p hp, ?_⟩, fun x hx => ⟨(h4 x hx).1, (h4 x hx).2.1, (h4 x hx).2.2.1, fun h0 p hp => ⟨(h4 x hx).2.2.2.1 h0 p hp, ?_⟩, (h4 x hx).2.2.2.2.lt⟩⟩
    · obtain ⟨b, off, ha, hb, _⟩ := h2 h0
      rw [hp] at ha; cases ha; exact hb
    · obtain ⟨b, off, ha, hb, _⟩ := (h4 x hx).2.2.1 h0
      rw [hp] at ha; cases ha; exact hb
/-- a rule's parts -/
def remem (n : Nat) (S : Nat → Prop) (W : World) (x : RE) : Prop := x.ps.length ≤ x.c ∧ RMem S n W x.a x.ps
theorem remem_ok (n : Nat) : MemOk (remem n) := ⟨fun h k => ⟨k.1, k.2.weak h⟩, fun k => ⟨k.1, k.2.lt⟩, fun k hs => ⟨k.1, k.2.stays hs⟩⟩
/-- a node's lists -/
def nemem (n : Nat) (S : Nat → Prop) (W : World) (x : NE) : Prop := x.ss.length ≤ x.sc ∧ x.ps.length ≤ x.c ∧ IsEls triC 3 W x.sa x.ss ∧ (0 < x.ss.length → ∀ p, x.sa = some p → S p.block) ∧ NMem S n W x.a x.ps
theorem nemem_ok (n : Nat) : MemOk (nemem n) := ⟨fun h k => ⟨k.1, k.2.1, k.2.2.1, fun h0 p hp => h _ (k.2.2.2.1 h0 p hp), k.2.2.2.2.weak h⟩,
  fun k => ⟨k.1, k.2.1, k.2.2.1, fun h0 p hp => ⟨k.2.2.2.1 h0 p hp, by
    obtain ⟨b, off, ha, hb, _⟩ := k.2.2.1 h0
    rw [hp] at ha; cases ha; exact hb⟩, k.2.2.2.2.lt⟩, fun k hs => ⟨k.1, k.2.1, k.2.2.1.stays k.2.2.2.1 hs, k.2.2.2.1, k.2.2.2.2.stays hs⟩⟩
/-- a list in memory -/
structure LS (T : Type) where
  a : Option Addr
  c : Nat
  xs : List T
def lsV {T : Type} (t : LS T) : Value := .slice t.a t.xs.length t.c
def lsmem {T : Type} [Inhabited T] (cells : T → List Value) (size : Nat) (mem : (Nat → Prop) → World → T → Prop) (S : Nat → Prop) (W : World) (t : LS T) : Prop :=
  t.xs.length ≤ t.c ∧ IsEls cells size W t.a t.xs ∧ (0 < t.xs.length → ∀ p, t.a = some p → S p.block) ∧ ∀ x ∈ t.xs, mem S W x
theorem lsmem_ok {T : Type} [Inhabited T] {cells : T → List Value} {size : Nat} {mem : (Nat → Prop) → World → T → Prop} (h : MemOk mem) : MemOk (lsmem cells size mem) :=
  ⟨fun hS k => ⟨k.1, k.2.1, fun h0 p hp => hS _ (k.2.2.1 h0 p hp), fun x hx => h.weak hS (k.2.2.2 x hx)⟩,
   fun k => ⟨k.1, k.2.1, fun h0 p hp => ⟨k.2.2.1 h0 p hp, by
    obtain ⟨b, off, ha, hb, _⟩ := k.2.1 h0
    rw [hp] at ha; cases ha; exact hb⟩, fun x hx => h.lt (k.2.2.2 x hx)⟩,
   fun k hs => ⟨k.1, k.2.1.stays k.2.2.1 hs, k.2.2.1, fun x hx => h.stays (k.2.2.2 x hx) hs⟩⟩
/-! ### the loop -/
/-- where a reader of a list stands -/
def IRel {T U : Type} [Inhabited T] (g bb : Nat) (cells : T → List Value) (e : TypeId) (size : Nat) (pl : T → U) (en : U → List UInt8) (ok : U → Prop) (bad : U → Nat → Prop) (mem : (Nat → Prop) → World → T → Prop) (l1 : List UInt8) (d : Nat) (o1 : Bool) (v : Nat) (W : World) (n : Nat) (xs : List T) (oa : Option Addr) (oc : Nat) (lj : List UInt8) (oj : Bool) (wr : World) : Prop :=
  W.grownBy wr (some g) ∧ RAt wr g bb lj d oj ∧ wr.ownsRow W.heap.size e size (.slice oa xs.length oc) xs.length (elsV cells xs) ∧ (∀ x ∈ xs, mem (fun b => W.heap.size ≤ b ∧ (Value.slice oa xs.length oc).ownBlock ≠ some b) wr x) ∧ LSt en ok bad l1 d o1 v n (xs.map pl) lj oj
section
variable {T U : Type} [Inhabited T] {g bb : Nat} {cells : T → List Value} {e : TypeId} {size : Nat} {pl : T → U} {en : U → List UInt8} {ok : U → Prop} {bad : U → Nat → Prop} {mem : (Nat → Prop) → World → T → Prop} {l1 : List UInt8} {d : Nat} {o1 : Bool} {v : Nat} {W : World}
theorem irel_start {W1 : World} (hg : W.grownBy W1 (some g)) (hr : RAt W1 g bb l1 d o1) : IRel g bb cells e size pl en ok bad mem l1 d o1 v W v [] none 0 l1 o1 W1 :=
  ⟨hg, hr, World.ownsRow_nil _ _ _ _, (fun x hx => by cases hx), LSt.start en ok bad l1 d o1 v⟩
theorem own_not {base : Nat} {sv : Value} {n : Nat} {ys : List Value} {w : World} (h : w.ownsRow base e size sv n ys) (hg : g < base) : sv.ownBlock = none ∨ sv.ownBlock ≠ some g := by
  cases hb : sv.ownBlock with
  | none => exact .inl rfl
  | some k =>
    right
    intro he
    have := (h.lt k hb).1
    cases he
    omega
theorem irel_own {n : Nat} {xs : List T} {oa : Option Addr} {oc : Nat} {lj : List UInt8} {oj : Bool} {wr W2 : World} (h : IRel g bb cells e size pl en ok bad mem l1 d o1 v W n xs oa oc lj oj wr) (hgW : g < W.heap.size) (hg : wr.grownBy W2 (some g)) (o : Obj) : (W2.alloc o).ownsRow W.heap.size e size (.slice oa xs.length oc) xs.length (elsV cells xs) :=
  (h.2.2.1.kept hg (own_not h.2.2.1 hgW)).alloc o
theorem irel_next {n : Nat} {xs : List T} {oa : Option Addr} {oc : Nat} {lj lk : List UInt8} {ok' : Bool} {x : T} {wr W2 w' : World} (h : IRel g bb cells e size pl en ok bad mem l1 d o1 v W (n + 1) xs oa oc lj false wr) (hgW : g < W.heap.size) (hbW : bb < W.heap.size) (hM : MemOk mem) (hu : Uq en ok) (hp : ∀ x, 1 ≤ (en x).length)
    (hg : wr.grownBy W2 (some g)) (hr : RAt W2 g bb lk d ok') (hm : mem (fun b => wr.heap.size ≤ b) W2 x) (st : RSt en ok bad lj d false (pl x) lk ok') (o : Obj) (v' : Value) (hrow : w'.ownsRow W.heap.size e size v' (xs.length + 1) (elsV cells xs ++ cells x)) (hgr : (W2.alloc o).grownBy w' (Value.slice oa xs.length oc).ownBlock)
    (hat : v'.ownBlock = (Value.slice oa xs.length oc).ownBlock ∨ v'.ownBlock = some (W2.alloc o).heap.size) : ∃ oa' oc', v' = .slice oa' (xs ++ [x]).length oc' ∧ IRel g bb cells e size pl en ok bad mem l1 d o1 v W n (xs ++ [x]) oa' oc' lk ok' w' := by
  obtain ⟨h1, h2, h3, h4, h5⟩ := h
  have hl1 : (xs ++ [x]).length = xs.length + 1 := by simp
  obtain ⟨a', n', c', rfl⟩ := row_slice hrow
  have hn' := row_len' hrow
  subst hn'
  have hg2 : W2.grownBy (W2.alloc o) (some g) := World.grownBy_alloc W2 o _
  have hsz : (W2.alloc o).heap.size = W2.heap.size + 1 := alloc_size W2 o
  have hWr := h1.size
  have hrW2 := hg.size
  have hob : ∀ k, (Value.slice oa xs.length oc).ownBlock = some k → W.heap.size ≤ k ∧ k < wr.heap.size := fun k hk => h3.lt k hk
  refine ⟨a', c', by rw [hl1], ?_, ?_, ?_, ?_, ?_⟩
  · have h12 := grownBy_trans (grownBy_trans h1 hg) hg2
    exact ⟨hgr.os.trans h12.os, hgr.tape.trans h12.tape, hgr.output.trans h12.output, Nat.le_trans h12.size hgr.size, fun i hi hne => (hgr.block i (Nat.lt_of_lt_of_le hi h12.size) (fun he => by have := hob i he.symm; omega)).trans (h12.block i hi hne)⟩
  · have hr2 := hr.alloc o
    exact hr2.kept hgr.size (hgr.block g hr2.lt (fun he => by have := hob g he.symm; omega)) (hgr.block bb hr2.bbl (fun he => by have := hob bb he.symm; omega))
  · rw [hl1, elsV_snoc]; exact hrow
  · intro y hy
    rw [hl1]
    rcases List.mem_append.1 hy with hy | hy
    · have m1 := hM.lt (h4 y hy)
      have m2 := hM.stays m1 (W' := W2) ⟨hg.size, fun b hb hlt => hg.block b hlt (fun he => by cases he; have := hb.1.1; omega)⟩
      have m3 := hM.stays m2 (W' := W2.alloc o) ⟨by omega, fun b hb hlt => hg2.block b hlt (fun he => by cases he; have := hb.1.1; omega)⟩
      have m4 := hM.stays m3 (W' := w') ⟨hgr.size, fun b hb hlt => hgr.block b hlt (fun he => hb.1.2 he.symm)⟩
      refine hM.weak (fun b hb => ⟨hb.1.1, ?_⟩) m4
      rcases hat with he | he
      · rw [he]; exact hb.1.2
      · rw [he]; intro hh; cases hh; have := hb.2; omega
    · rw [List.mem_singleton] at hy
      subst hy
      have m1 := hM.lt hm
      have m3 := hM.stays m1 (W' := W2.alloc o) ⟨by omega, fun b hb hlt => hg2.block b hlt (fun he => by cases he; have := hb.1; omega)⟩
      have m4 := hM.stays m3 (W' := w') ⟨hgr.size, fun b hb hlt => hgr.block b hlt (fun he => by have := hob b he.symm; have := hb.1; omega)⟩
      refine hM.weak (fun b hb => ⟨by have := hb.1; omega, ?_⟩) m4
      rcases hat with he | he
      · rw [he]; intro hh
        have := hob b hh
        have := hb.1
        omega
      · rw [he]; intro hh; cases hh; have := hb.2; omega
  · rw [List.map_append]
    exact h5.next hu hp st
theorem irel_done {n : Nat} {xs : List T} {oa : Option Addr} {oc : Nat} {lj l : List UInt8} {oj odd : Bool} {wr : World} (h : IRel g bb cells e size pl en ok bad mem l1 d o1 v W n xs oa oc lj oj wr) (hc : ∀ x, (cells x).length = size) (hM : MemOk mem) (hn : n = 0 ∨ oj = true) (k : RSt uv (fun v => v < 18446744073709551616) nobad l d odd v l1 o1) :
    RD g bb (fun t : LS T => t.xs.map pl) (listE en) (lok ok) (fun ys d => ∃ y ∈ ys, bad y d) lsV (lsmem cells size mem) l d odd W (.returned (.slice oa xs.length oc)) wr := by
  obtain ⟨h1, h2, h3, h4, h5⟩ := h
  refine ⟨⟨oa, oc, xs⟩, lj, oj, rfl, h1, h2, ⟨?_, row_els hc h3, fun h0 p hp => ?_, fun x hx => hM.weak (fun b hb => hb.1) (h4 x hx)⟩, h5.done hn k⟩
  · rcases Nat.eq_zero_or_pos xs.length with h0 | h0
    · show xs.length ≤ oc; omega
    · obtain ⟨g', cap, hv, _, _, hcap⟩ := row_shape h3 h0
      cases hv
      exact hcap
  · obtain ⟨g', cap, hv, hb, _⟩ := row_shape h3 h0
    cases hv
    cases hp
    exact hb
theorem irel_bound {n : Nat} {xs : List T} {oa : Option Addr} {oc : Nat} {lj : List UInt8} {oj : Bool} {wr : World} (h : IRel g bb cells e size pl en ok bad mem l1 d o1 v W n xs oa oc lj oj wr) : xs.length ≤ l1.length + 1 ∧ lj.length ≤ l1.length := by
  have := h.2.2.2.2.2.1
  rw [List.length_map] at this
  exact ⟨this, h.2.2.2.2.1⟩
end
end Go.Proofs.YtacjbgmnoiimbabGreat
