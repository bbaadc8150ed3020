/- Lists of parts in memory. -/
import Derived.Test.YtacjbgmnoiimbabGreatWrB
namespace Go.Proofs.YtacjbgmnoiimbabGreat
set_option linter.unusedVariables false
set_option linter.unusedSimpArgs false
open Go.RowKit

/-- a slice of xs, each of size cells -/
def IsEls {T : Type} [Inhabited T] (cells : T → List Value) (size : Nat) (w : World) (a : Option Addr) (xs : List T) : Prop :=
  0 < xs.length → ∃ b off, a = some ⟨b, off, none⟩ ∧ b < w.heap.size ∧ ∀ k, k < xs.length → ∀ i, i < size → w.cell? ⟨b, off + k * size + i, none⟩ = (cells (xs.getD k default))[i]?
theorem IsEls.below {T : Type} [Inhabited T] {cells : T → List Value} {size : Nat} {w w' : World} {a : Option Addr} {xs : List T} (h : IsEls cells size w a xs) (hb : Below w.heap.size w w') : IsEls cells size w' a xs := fun h0 => by
  obtain ⟨b, off, ha, hlt, hc⟩ := h h0
  exact ⟨b, off, ha, Nat.lt_of_lt_of_le hlt hb.size, fun k hk i hi => (hb.cell hlt).trans (hc k hk i hi)⟩
theorem cell_kept {W W' : World} {g b : Nat} (hg : W.grownBy W' (some g)) (hb : b < W.heap.size) (hne : b ≠ g) (o : Nat) : W'.cell? ⟨b, o, none⟩ = W.cell? ⟨b, o, none⟩ := by
  have hb' : W'.heap[b]? = W.heap[b]? := hg.block b hb (fun e => hne (by cases e; rfl))
  simp only [World.cell?, hb']
theorem IsEls.grown {T : Type} [Inhabited T] {cells : T → List Value} {size : Nat} {w w' : World} {g : Nat} {a : Option Addr} {xs : List T} (h : IsEls cells size w a xs) (hne : 0 < xs.length → ∀ p, a = some p → p.block ≠ g) (hg : w.grownBy w' (some g)) : IsEls cells size w' a xs := fun h0 => by
  obtain ⟨b, off, ha, hlt, hc⟩ := h h0
  exact ⟨b, off, ha, Nat.lt_of_lt_of_le hlt hg.size, fun k hk i hi => (cell_kept hg hlt (hne h0 _ ha) _).trans (hc k hk i hi)⟩
def boolC (b : Bool) : List Value := [.bool b]
def intC (n : Int) : List Value := [.int .i64 n]
def duoC (t : Duo) : List Value := [.string t.1, .string t.2]
def triC (t : Tri) : List Value := [.string t.1, .string t.2.1, .string t.2.2]
def sixC (t : Six) : List Value := triC t.1 ++ triC t.2
def wrtC (t : Wrt) : List Value := .bool t.1 :: sixC t.2
def argC (t : ArgT) : List Value := [.string t.1, .int .i64 t.2.1, .int .i64 t.2.2.1, .string t.2.2.2]
def evtC (t : Evt) : List Value := .int .u64 (t.1 : Int) :: wrtC t.2
/-- where a writer stands in a list -/
def LRel {T : Type} (g : Nat) (l : List UInt8) (d : Nat) (odd : Bool) (en : T → List UInt8) (bad : T → Nat → Prop) (xs : List T) (j : Nat) (W wr : World) : Prop :=
  W.grownBy wr (some g) ∧ ∃ l1 d1 o1, SAt 78 wr g l1 d1 o1 ∧ Stp l d odd (uv xs.length ++ bodyE en (xs.take j)) (fun d => ∃ x ∈ xs.take j, bad x d) l1 d1 o1
theorem take_next {T : Type} [Inhabited T] (xs : List T) (j : Nat) (h : j < xs.length) : xs.take (j + 1) = xs.take j ++ [xs.getD j default] := by
  rw [List.take_add_one, List.getElem?_eq_getElem h, List.getD_eq_getElem?_getD, List.getElem?_eq_getElem h]; rfl
theorem body_take {T : Type} [Inhabited T] (en : T → List UInt8) (xs : List T) (j : Nat) (h : j < xs.length) : bodyE en (xs.take (j + 1)) = bodyE en (xs.take j) ++ en (xs.getD j default) := by
  rw [take_next xs j h, body_append]
  congr 1
  show en _ ++ [] = _
  rw [List.append_nil]
theorem body_le {T : Type} (en : T → List UInt8) (xs : List T) (j : Nat) : (bodyE en (xs.take j)).length ≤ (bodyE en xs).length := by
  have e : bodyE en xs = bodyE en (xs.take j) ++ bodyE en (xs.drop j) := by rw [← body_append, List.take_append_drop]
  rw [e, List.length_append]; omega
theorem lrel_next {T : Type} [Inhabited T] {g : Nat} {l : List UInt8} {d : Nat} {odd : Bool} {en : T → List UInt8} {bad : T → Nat → Prop} {xs : List T} {j : Nat} {W wr w1 w2 : World} (hj : j < xs.length) (hg : W.grownBy wr (some g)) {l1 : List UInt8} {d1 : Nat} {o1 : Bool} (hst : Stp l d odd (uv xs.length ++ bodyE en (xs.take j)) (fun d => ∃ x ∈ xs.take j, bad x d) l1 d1 o1)
    (hg1 : wr.grownBy w1 (some g)) {e : Ending} (h : WD g l1 d1 o1 (en (xs.getD j default)) (bad (xs.getD j default)) w1 e w2) : LRel g l d odd en bad xs (j + 1) W w2 := by
  obtain ⟨_, hg2, l2, d2, o2, hs2, st2⟩ := h
  refine ⟨grownBy_trans hg (grownBy_trans hg1 hg2), l2, d2, o2, hs2, (hst.trans st2).to ?_ (fun d => ?_)⟩
  · rw [body_take en xs j hj, List.append_assoc]
  · rw [take_next xs j hj]
    constructor
    · rintro (⟨x, hx, hb⟩ | hb)
      · exact ⟨x, List.mem_append_left _ hx, hb⟩
      · exact ⟨_, List.mem_append_right _ (List.mem_singleton.2 rfl), hb⟩
    · rintro ⟨x, hx, hb⟩
      rcases List.mem_append.1 hx with hx | hx
      · exact .inl ⟨x, hx, hb⟩
      · rw [List.mem_singleton] at hx
        subst hx; exact .inr hb
/-- a writer that is odd leaves the list -/
theorem lrel_odd {T : Type} {g : Nat} {l : List UInt8} {d : Nat} {odd : Bool} {en : T → List UInt8} {bad : T → Nat → Prop} {xs : List T} {j : Nat} {W wr : World} {e : Ending} (he : e = .returned (.tuple #[])) (hg : W.grownBy wr (some g)) {l1 : List UInt8} {d1 : Nat} (hs : SAt 78 wr g l1 d1 true) (hst : Stp l d odd (uv xs.length ++ bodyE en (xs.take j)) (fun d => ∃ x ∈ xs.take j, bad x d) l1 d1 true) :
    WD g l d odd (listE en xs) (fun d => ∃ x ∈ xs, bad x d) W e wr := by
  obtain ⟨h1, h2, h3, h4, h5⟩ := hst
  have hb := body_le en xs j
  rw [List.length_append] at h1 h2
  refine ⟨he, hg, l1, d1, true, hs, by unfold listE; rw [List.length_append]; omega, by unfold listE; rw [List.length_append]; omega, fun _ => rfl, fun ho hn => ?_, fun _ _ => rfl⟩
  have := (h4 ho (fun ⟨x, hx, hb⟩ => hn ⟨x, List.mem_of_mem_take hx, hb⟩)).1
  cases this
theorem lrel_end {T : Type} {g : Nat} {l : List UInt8} {d : Nat} {odd : Bool} {en : T → List UInt8} {bad : T → Nat → Prop} {xs : List T} {W wr : World} {e : Ending} (he : e = .returned (.tuple #[])) (h : LRel g l d odd en bad xs xs.length W wr) : WD g l d odd (listE en xs) (fun d => ∃ x ∈ xs, bad x d) W e wr := by
  obtain ⟨hg, l1, d1, o1, hs, hst⟩ := h
  rw [List.take_length] at hst
  exact ⟨he, hg, l1, d1, o1, hs, hst⟩
theorem lrel_start {T : Type} {g : Nat} {l : List UInt8} {d : Nat} {odd : Bool} {en : T → List UInt8} {bad : T → Nat → Prop} {xs : List T} {W w1 : World} {e : Ending} (h : WD g l d odd (uv xs.length) (fun _ => False) W e w1) : LRel g l d odd en bad xs 0 W w1 := by
  obtain ⟨_, hg, l1, d1, o1, hs, hst⟩ := h
  exact ⟨hg, l1, d1, o1, hs, hst.to (by rw [List.take_zero]; simp [bodyE]) (fun d => by simp)⟩
theorem WD.flat {T : Type} {g : Nat} {l : List UInt8} {d : Nat} {odd : Bool} {en : List UInt8} {xs : List T} {W w2 : World} {e : Ending} (h : WD g l d odd en (fun d => ∃ x ∈ xs, False) W e w2) : WD g l d odd en (fun _ => False) W e w2 := by
  obtain ⟨h1, h2, l', d', o', h3, h4⟩ := h
  exact ⟨h1, h2, l', d', o', h3, h4.to rfl (fun d => by simp)⟩
end Go.Proofs.YtacjbgmnoiimbabGreat
