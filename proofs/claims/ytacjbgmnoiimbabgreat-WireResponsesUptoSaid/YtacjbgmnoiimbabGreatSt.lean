/- The writer's and the reader's state; number, text written: walked. -/
import Derived.Test.YtacjbgmnoiimbabGreatWalkA
import Derived.Test.YtacjbgmnoiimbabGreatCod
import Derived.BigRegion
import Derived.Deep.RegionLaw
namespace Go.Proofs.YtacjbgmnoiimbabGreat
set_option linter.unusedVariables false
set_option linter.unusedSimpArgs false
open Go.RowKit

theorem heap_cell {w : World} {g : Nat} {cs : Array Value} {t : TypeId} (h : w.heap[g]? = some (.cells cs t (0, 0))) (i : Nat) : w.cell? ⟨g, i, none⟩ = cs[i]? := cell_of_row w g i cs t _ h
theorem heap_lt {w : World} {g : Nat} {o : Obj} (h : w.heap[g]? = some o) : g < w.heap.size := (Array.getElem?_eq_some_iff.1 h).1
theorem alloc_size (w : World) (o : Obj) : (w.alloc o).heap.size = w.heap.size + 1 := by simp
/-- bytes that are left or written, how deep, whether odd -/
def SAt (t : TypeId) (W : World) (g : Nat) (l : List UInt8) (d : Nat) (odd : Bool) : Prop :=
  ∃ a c, W.heap[g]? = some (.cells #[.slice a l.length c, .int .i64 (d : Int), .bool odd] t (0, 0)) ∧ l.length ≤ c ∧ IsBytes W a l ∧ ∀ p, a = some p → p.block ≠ g
theorem bytes_grown {W W' : World} {g : Nat} {a : Option Addr} {l : List UInt8} (h : IsBytes W a l) (hne : ∀ p, a = some p → p.block ≠ g) (hg : W.grownBy W' (some g)) : IsBytes W' a l := fun h0 => by
  obtain ⟨b, off, ha, hb, hc⟩ := h h0
  refine ⟨b, off, ha, Nat.lt_of_lt_of_le hb hg.size, fun k hk => ?_⟩
  rw [← hc k hk]
  have hb' : W'.heap[b]? = W.heap[b]? := hg.block b hb (fun e => hne _ ha (by cases e; rfl))
  simp only [World.cell?, hb']
theorem SAt.below {t : TypeId} {W W' : World} {g : Nat} {l : List UInt8} {d : Nat} {odd : Bool} (h : SAt t W g l d odd) (hb : Below W.heap.size W W') : SAt t W' g l d odd := by
  obtain ⟨a, c, h1, h2, h3, h4⟩ := h
  exact ⟨a, c, (hb.block g (heap_lt h1)).trans h1, h2, h3.below hb, h4⟩
theorem SAt.lt {t : TypeId} {W : World} {g : Nat} {l : List UInt8} {d : Nat} {odd : Bool} (h : SAt t W g l d odd) : g < W.heap.size := by
  obtain ⟨a, c, h1, _⟩ := h
  exact heap_lt h1
/-- what writing does to the state -/
def Stp (l : List UInt8) (d : Nat) (odd : Bool) (en : List UInt8) (bad : Nat → Prop) (l' : List UInt8) (d' : Nat) (odd' : Bool) : Prop :=
  l'.length ≤ l.length + en.length ∧ (d ≤ d' ∧ d' ≤ d + en.length) ∧ (odd = true → odd' = true) ∧ (odd = false → ¬ bad d → odd' = false ∧ d' = d ∧ l' = l ++ en) ∧ (odd = false → bad d → odd' = true)
theorem Stp.trans {l l1 l2 e1 e2 : List UInt8} {d d1 d2 : Nat} {o o1 o2 : Bool} {b1 b2 : Nat → Prop} (h : Stp l d o e1 b1 l1 d1 o1) (k : Stp l1 d1 o1 e2 b2 l2 d2 o2) : Stp l d o (e1 ++ e2) (fun d => b1 d ∨ b2 d) l2 d2 o2 := by
  obtain ⟨h1, h2, h3, h4, h5⟩ := h
  obtain ⟨k1, k2, k3, k4, k5⟩ := k
  refine ⟨by rw [List.length_append]; omega, by rw [List.length_append]; omega, fun ho => k3 (h3 ho), fun ho hb => ?_, fun ho hb => ?_⟩
  · obtain ⟨q1, q2, q3⟩ := h4 ho (fun h => hb (.inl h))
    subst q2
    obtain ⟨r1, r2, r3⟩ := k4 q1 (fun h => hb (.inr h))
    exact ⟨r1, r2, by rw [r3, q3, List.append_assoc]⟩
  · by_cases hb1 : b1 d
    · exact k3 (h5 ho hb1)
    · obtain ⟨q1, q2, q3⟩ := h4 ho hb1
      subst q2
      exact k5 q1 (hb.resolve_left hb1)
theorem Stp.to {l l1 e1 e2 : List UInt8} {d d1 : Nat} {o o1 : Bool} {b1 b2 : Nat → Prop} (h : Stp l d o e1 b1 l1 d1 o1) (he : e1 = e2) (hb : ∀ d, b1 d ↔ b2 d) : Stp l d o e2 b2 l1 d1 o1 := by
  subst he
  exact ⟨h.1, h.2.1, h.2.2.1, fun ho hn => h.2.2.2.1 ho (fun hx => hn ((hb d).1 hx)), fun ho hx => h.2.2.2.2 ho ((hb d).2 hx)⟩
theorem Stp.nil (l : List UInt8) (d : Nat) (o : Bool) : Stp l d o [] (fun _ => False) l d o := ⟨by simp, by simp, id, fun ho _ => ⟨ho, rfl, by simp⟩, fun _ h => h.elim⟩
/-- what a call that writes en does -/
def WD (g : Nat) (l : List UInt8) (d : Nat) (odd : Bool) (en : List UInt8) (bad : Nat → Prop) (W : World) (e : Ending) (W' : World) : Prop :=
  e = .returned (.tuple #[]) ∧ W.grownBy W' (some g) ∧ ∃ l' d' odd', SAt 78 W' g l' d' odd' ∧ Stp l d odd en bad l' d' odd'
theorem grown_refl (W : World) (g : Nat) : W.grownBy W (some g) := ⟨rfl, rfl, rfl, Nat.le_refl _, fun _ _ _ => rfl⟩
theorem grown_alloc {a w : World} {g : Nat} (h : a.grownBy w (some g)) (o : Obj) : a.grownBy (w.alloc o) (some g) := grownBy_trans h (World.grownBy_alloc w o _)
theorem grown_cell (w : World) (g i : Nat) (x : Value) : w.grownBy (w.setCell ⟨g, i, none⟩ x) (some g) := by
  refine ⟨?_, ?_, ?_, ?_, fun k _ hk => heap_setCell_other w ⟨g, i, none⟩ k x (fun e => hk (by rw [e]))⟩ <;> simp [World.setCell]
theorem grown_block {W W' : World} {g k : Nat} {o : Obj} (hg : W.grownBy W' (some g)) (hk : W.heap[k]? = some o) (hne : k ≠ g) : W'.heap[k]? = some o := by
  rw [hg.block k (heap_lt hk) (fun e => hne (by cases e; rfl))]; exact hk
theorem st_wr {W W1 : World} {g : Nat} {l l2 : List UInt8} {d : Nat} {odd : Bool} {v' : Value} (h : SAt 78 W g l d odd) (hr : W1.ownsRow W.heap.size 5 1 v' l2.length (bytesV l2)) (hb : Below W.heap.size W W1) :
    SAt 78 (W1.setCell ⟨g, 0, none⟩ v') g l2 d odd ∧ W.grownBy (W1.setCell ⟨g, 0, none⟩ v') (some g) := by
  obtain ⟨a, c, h1, h2, h3, h4⟩ := h
  have hg := heap_lt h1
  have h1' := (hb.block g hg).trans h1
  obtain ⟨a2, m2, c2, rfl⟩ := row_slice hr
  have hm := row_len' hr
  subst hm
  refine ⟨⟨a2, c2, heap_setCell_same W1 g 0 _ 78 _ h1', row_cap hr, ?_, fun p hp => ?_⟩, grownBy_trans ⟨hb.os, hb.tape, hb.output, hb.size, fun k hk _ => hb.block k hk⟩ (grown_cell _ _ _ _)⟩
  · refine bytes_grown (row_bytes' hr) (fun p hp => ?_) (grown_cell W1 g 0 _)
    subst hp
    rcases hr.2 with ⟨e, _⟩ | ⟨g', _, _, e, hge, _⟩
    · cases e
    · cases e; show g' ≠ g; omega
  · subst hp
    rcases hr.2 with ⟨e, _⟩ | ⟨g', _, _, e, hge, _⟩
    · cases e
    · cases e; show g' ≠ g; omega
set_option maxRecDepth 100000 in
theorem wnum_any (g : Nat) (v : Nat) (l : List UInt8) (d : Nat) (odd : Bool) (W : World) (h : SAt 78 W g l d odd) (hv : v < 18446744073709551616) (hl : l.length + (uv v).length ≤ 1000000000) :
    Calls Tryz.prog 17 #[.pointer (some ⟨g, 0, none⟩), .int .u64 v] W (WD g l d odd (uv v) (fun _ => False) W) := by
  have HS := Lib.hid h
  obtain ⟨a, c, h1, h2, h3, h4⟩ := h
  have p0 := heap_cell h1 0
  simp at p0
  have HP := Lib.hid (put_any a c l v W (by omega) h2 hv h3)
  have H1 := Lib.hid h1
  have hgl := heap_lt h1
  clear h1 h3 h4
  go_enter Tryz.func17, Tryz.ntmps17
  go_wp2_with fail
  refine HP.out.mono ?_
  clear HP
  rintro e W1 ⟨v', rfl, hr, hb⟩
  have f0 := frozen_of_row W1 g 0 _ _ ((hb.block g hgl).trans H1.out)
  have q0 := heap_cell ((hb.block g hgl).trans H1.out) 0
  simp at q0
  obtain ⟨a2, m2, c2, rfl⟩ := row_slice hr
  have HE := Lib.hid (st_wr HS.out hr hb)
  clear hr hb
  go_wp2_with fail
  go_end0
  exact ⟨rfl, HE.out.2, _, d, odd, HE.out.1, by rw [List.length_append]; omega, by omega, id, fun ho _ => ⟨ho, rfl, rfl⟩, fun _ h => h.elim⟩
set_option maxRecDepth 100000 in
theorem wtext_any (g : Nat) (s : ByteArray) (l : List UInt8) (d : Nat) (odd : Bool) (W : World) (h : SAt 78 W g l d odd) (hs : s.size ≤ 1000000000) (hl : l.length + (txt s).length ≤ 1000000000) :
    Calls Tryz.prog 19 #[.pointer (some ⟨g, 0, none⟩), .string s] W (WD g l d odd (txt s) (fun _ => False) W) := by
  have HS := Lib.hid h
  obtain ⟨a, c, h1, h2, h3, h4⟩ := h
  have p0 := heap_cell h1 0
  simp at p0
  have HP := Lib.hid (puttext_any a c l s W (by omega) h2 hs h3)
  have H1 := Lib.hid h1
  have hgl := heap_lt h1
  clear h1 h3 h4
  go_enter Tryz.func19, Tryz.ntmps19
  go_wp2_with fail
  refine HP.out.mono ?_
  clear HP
  rintro e W1 ⟨v', rfl, hr, hb⟩
  have f0 := frozen_of_row W1 g 0 _ _ ((hb.block g hgl).trans H1.out)
  have q0 := heap_cell ((hb.block g hgl).trans H1.out) 0
  simp at q0
  obtain ⟨a2, m2, c2, rfl⟩ := row_slice hr
  have HE := Lib.hid (st_wr HS.out hr hb)
  clear hr hb
  go_wp2_with fail
  go_end0
  exact ⟨rfl, HE.out.2, _, d, odd, HE.out.1, by rw [List.length_append]; exact Nat.le_refl _, by omega, id, fun ho _ => ⟨ho, rfl, rfl⟩, fun _ h => h.elim⟩
end Go.Proofs.YtacjbgmnoiimbabGreat
