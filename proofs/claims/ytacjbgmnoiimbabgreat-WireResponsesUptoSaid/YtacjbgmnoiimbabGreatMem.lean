/- Rules and nodes in memory. -/
import Derived.Test.YtacjbgmnoiimbabGreatWrC
namespace Go.Proofs.YtacjbgmnoiimbabGreat
set_option linter.unusedVariables false
set_option linter.unusedSimpArgs false
open Go.RowKit

/-- what stays -/
def Stays (S : Nat → Prop) (W W' : World) : Prop := W.heap.size ≤ W'.heap.size ∧ ∀ b, S b → b < W.heap.size → W'.heap[b]? = W.heap[b]?
theorem Stays.grown {W W' : World} {g : Nat} (h : W.grownBy W' (some g)) : Stays (· ≠ g) W W' := ⟨h.size, fun b hb hl => h.block b hl (fun e => hb (by cases e; rfl))⟩
theorem Stays.below {S : Nat → Prop} {W W' : World} (h : Below W.heap.size W W') : Stays S W W' := ⟨h.size, fun b _ hl => h.block b hl⟩
theorem IsEls.stays {T : Type} [Inhabited T] {cells : T → List Value} {size : Nat} {S : Nat → Prop} {w w' : World} {a : Option Addr} {xs : List T} (h : IsEls cells size w a xs) (hS : 0 < xs.length → ∀ p, a = some p → S p.block) (hk : Stays S w w') : IsEls cells size w' a xs := fun h0 => by
  obtain ⟨b, off, ha, hlt, hc⟩ := h h0
  have hb' : w'.heap[b]? = w.heap[b]? := hk.2 b (hS h0 _ ha) hlt
  exact ⟨b, off, ha, Nat.lt_of_lt_of_le hlt hk.1, fun k hk i hi => by rw [← hc k hk i hi]; simp only [World.cell?, hb']⟩
/-- a rule where it lies -/
structure RE where
  k : Int
  A : ByteArray
  B : ByteArray
  a : Option Addr
  c : Nat
  ps : List PR
instance : Inhabited RE := ⟨⟨0, ByteArray.empty, ByteArray.empty, none, 0, []⟩⟩
def RE.plain (x : RE) : PR := .mk x.k x.A x.B x.ps
def reC (x : RE) : List Value := [.int .i64 x.k, .string x.A, .string x.B, .slice x.a x.ps.length x.c]
def reE (x : RE) : List UInt8 := encR x.plain
def reB (x : RE) (d : Nat) : Prop := badR x.plain d
/-- rules in memory, their own parts too, in blocks of which S holds -/
def RMem (S : Nat → Prop) : Nat → World → Option Addr → List PR → Prop
  | 0, _, _, ps => ps.length = 0
  | n + 1, W, a, ps => ∃ xs : List RE, xs.map RE.plain = ps ∧ IsEls reC 4 W a xs ∧ (0 < xs.length → ∀ p, a = some p → S p.block) ∧ ∀ x ∈ xs, x.ps.length ≤ x.c ∧ RMem S n W x.a x.ps
theorem RMem.stays {S : Nat → Prop} : ∀ {n : Nat} {W W' : World} {a : Option Addr} {ps : List PR}, RMem S n W a ps → Stays S W W' → RMem S n W' a ps
  | 0, _, _, _, _, h, _ => h
  | n + 1, W, W', a, ps, h, hk => by
    obtain ⟨xs, h1, h2, h3, h4⟩ := h
    exact ⟨xs, h1, h2.stays h3 hk, h3, fun x hx => ⟨(h4 x hx).1, (h4 x hx).2.stays hk⟩⟩
theorem RMem.weak {S S' : Nat → Prop} (hS : ∀ b, S b → S' b) : ∀ {n : Nat} {W : World} {a : Option Addr} {ps : List PR}, RMem S n W a ps → RMem S' n W a ps
  | 0, _, _, _, h => h
  | n + 1, W, a, ps, h => by
    obtain ⟨xs, h1, h2, h3, h4⟩ := h
    exact ⟨xs, h1, h2, fun h0 p hp => hS _ (h3 h0 p hp), fun x hx => ⟨(h4 x hx).1, (h4 x hx).2.weak hS⟩⟩
theorem list_map {T U : Type} (f : T → U) (en : U → List UInt8) (xs : List T) : listE (fun x => en (f x)) xs = listE en (xs.map f) := by
  unfold listE bodyE
  rw [List.length_map, List.flatMap_map]
theorem reE_list {xs : List RE} {ps : List PR} (h : xs.map RE.plain = ps) : listE reE xs = listE encR ps := by
  rw [← h, ← list_map]; rfl
theorem reB_list {xs : List RE} {ps : List PR} (h : xs.map RE.plain = ps) (d : Nat) : (∃ x ∈ xs, reB x d) ↔ ∃ x ∈ ps, badR x d := by
  subst h
  constructor
  · rintro ⟨x, hx, hb⟩; exact ⟨_, List.mem_map_of_mem hx, hb⟩
  · rintro ⟨y, hy, hb⟩
    obtain ⟨x, hx, rfl⟩ := List.mem_map.1 hy
    exact ⟨x, hx, hb⟩
/-- a node where it lies -/
structure NE where
  k : Int
  t : ByteArray
  i : ByteArray
  r : ByteArray
  sa : Option Addr
  sc : Nat
  ss : List Tri
  a : Option Addr
  c : Nat
  ps : List PN
instance : Inhabited NE := ⟨⟨0, ByteArray.empty, ByteArray.empty, ByteArray.empty, none, 0, [], none, 0, []⟩⟩
def NE.plain (x : NE) : PN := .mk x.k (x.t, x.i) x.r x.ss x.ps
def neC (x : NE) : List Value := [.int .i64 x.k, .string x.t, .string x.i, .string x.r, .slice x.sa x.ss.length x.sc, .slice x.a x.ps.length x.c]
def neE (x : NE) : List UInt8 := encN x.plain
def neB (x : NE) (d : Nat) : Prop := badN x.plain d
/-- a node's lists in memory -/
def NMem (S : Nat → Prop) : Nat → World → Option Addr → List PN → Prop
  | 0, _, _, ps => ps.length = 0
  | n + 1, W, a, ps => ∃ xs : List NE, xs.map NE.plain = ps ∧ IsEls neC 6 W a xs ∧ (0 < xs.length → ∀ p, a = some p → S p.block) ∧ ∀ x ∈ xs, x.ss.length ≤ x.sc ∧ x.ps.length ≤ x.c ∧ IsEls triC 3 W x.sa x.ss ∧ (0 < x.ss.length → ∀ p, x.sa = some p → S p.block) ∧ NMem S n W x.a x.ps
theorem NMem.stays {S : Nat → Prop} : ∀ {n : Nat} {W W' : World} {a : Option Addr} {ps : List PN}, NMem S n W a ps → Stays S W W' → NMem S n W' a ps
  | 0, _, _, _, _, h, _ => h
  | n + 1, W, W', a, ps, h, hk => by
    obtain ⟨xs, h1, h2, h3, h4⟩ := h
    exact ⟨xs, h1, h2.stays h3 hk, h3, fun x hx => ⟨(h4 x hx).1, (h4 x hx).2.1, (h4 x hx).2.2.1.stays (h4 x hx).2.2.2.1 hk, (h4 x hx).2.2.2.1, (h4 x hx).2.2.2.2.stays hk⟩⟩
theorem NMem.weak {S S' : Nat → Prop} (hS : ∀ b, S b → S' b) : ∀ {n : Nat} {W : World} {a : Option Addr} {ps : List PN}, NMem S n W a ps → NMem S' n W a ps
  | 0, _, _, _, h => h
  | n + 1, W, a, ps, h => by
    obtain ⟨xs, h1, h2, h3, h4⟩ := h
    exact ⟨xs, h1, h2, fun h0 p hp => hS _ (h3 h0 p hp), fun x hx => ⟨(h4 x hx).1, (h4 x hx).2.1, (h4 x hx).2.2.1, fun h0 p hp => hS _ ((h4 x hx).2.2.2.1 h0 p hp), (h4 x hx).2.2.2.2.weak hS⟩⟩
theorem neE_list {xs : List NE} {ps : List PN} (h : xs.map NE.plain = ps) : listE neE xs = listE encN ps := by
  rw [← h, ← list_map]; rfl
theorem neB_list {xs : List NE} {ps : List PN} (h : xs.map NE.plain = ps) (d : Nat) : (∃ x ∈ xs, neB x d) ↔ ∃ x ∈ ps, badN x d := by
  subst h
  constructor
  · rintro ⟨x, hx, hb⟩; exact ⟨_, List.mem_map_of_mem hx, hb⟩
  · rintro ⟨y, hy, hb⟩
    obtain ⟨x, hx, rfl⟩ := List.mem_map.1 hy
    exact ⟨x, hx, hb⟩
theorem WD.to {g : Nat} {l : List UInt8} {d : Nat} {odd : Bool} {en en2 : List UInt8} {b1 b2 : Nat → Prop} {W W' : World} {e : Ending} (h : WD g l d odd en b1 W e W') (he : en = en2) (hb : ∀ d, b1 d ↔ b2 d) : WD g l d odd en2 b2 W e W' := by
  obtain ⟨h1, h2, l', d', o', h3, h4⟩ := h
  exact ⟨h1, h2, l', d', o', h3, h4.to he hb⟩
end Go.Proofs.YtacjbgmnoiimbabGreat
