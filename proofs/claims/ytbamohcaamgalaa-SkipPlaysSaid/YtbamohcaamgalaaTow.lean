/- Towers in memory; height: walked. -/
import Derived.Test.YtbamohcaamgalaaWalkD
namespace Go.Proofs.Ytbamohcaamgalaa
set_option linter.unusedVariables false
set_option linter.unusedSimpArgs false
open Go.RowKit

theorem cell_heap {W W' : World} {b : Nat} (h : W'.heap[b]? = W.heap[b]?) (o : Nat) : W'.cell? ⟨b, o, none⟩ = W.cell? ⟨b, o, none⟩ := by
  simp only [World.cell?]; rw [h]
theorem heap_cell {w : World} {g : Nat} {cs : Array Value} {t : TypeId} (h : w.heap[g]? = some (.cells cs t (0, 0))) (i : Nat) : w.cell? ⟨g, i, none⟩ = cs[i]? := cell_of_row w g i cs t _ h
theorem heap_lt {w : World} {g : Nat} {o : Obj} (h : w.heap[g]? = some o) : g < w.heap.size := (Array.getElem?_eq_some_iff.1 h).1
def keysN (ns : List Nd) : List ByteArray := ns.map (·.key)
def sizeN (ns : List Nd) : Nat := (ns.map (·.key.size)).sum
def DrawsAt (W : World) (a : Option Addr) (n : Nat) : Prop := 0 < n → ∃ b off cs, a = some ⟨b, off, none⟩ ∧ W.heap[b]? = some (.cells cs 5 (0, 0)) ∧ ∀ k, k < n → ∃ c : UInt8, cs[off + k]? = some (.int .u8 (c.toNat : Int))
structure Tw (W : World) (g : Nat) (ns : List Nd) : Prop where
  head : ∃ cs : Array Value, W.heap[g]? = some (.cells cs 47 (0, 0)) ∧ cs.size = 12
  draws : ∃ a n cap, W.cell? ⟨g, 9, none⟩ = some (.slice a n cap) ∧ n ≤ cap ∧ n ≤ 9223372036854775807 ∧ DrawsAt W a n
  count : W.cell? ⟨g, 10, none⟩ = some (.int .i64 (ns.length : Int))
  size : W.cell? ⟨g, 11, none⟩ = some (.int .i64 (sizeN ns : Int))
  node : ∀ i, i < ns.length → (∃ cs : Array Value, W.heap[(ns.getD i default).b]? = some (.cells cs 45 (0, 0)) ∧ cs.size = 9) ∧ W.cell? ⟨(ns.getD i default).b, 0, none⟩ = some (.string (ns.getD i default).key) ∧ 0 < (ns.getD i default).ht ∧ (ns.getD i default).ht ≤ 8
  linked : Linked W g ns
  apart : Apart g ns
  rises : Rises (keysOf (keysN ns))
theorem DrawsAt.same {W W' : World} {a : Option Addr} {n : Nat} (h : DrawsAt W a n) (hs : ∀ (k : Nat) (cs : Array Value), W.heap[k]? = some (.cells cs 5 (0, 0)) → W'.heap[k]? = W.heap[k]?) : DrawsAt W' a n := by
  intro h0
  obtain ⟨b, off, cs, ha, hb, hc⟩ := h h0
  exact ⟨b, off, cs, ha, (hs b cs hb).trans hb, hc⟩
theorem Tw.posHeap {W : World} {g : Nat} {ns : List Nd} (h : Tw W g ns) (i : Nat) (hi : i ≤ ns.length) : ∃ (cs : Array Value) (t : TypeId), W.heap[posB g ns i]? = some (.cells cs t (0, 0)) ∧ 9 ≤ cs.size := by
  unfold posB
  by_cases h0 : i = 0
  · rw [if_pos h0]; obtain ⟨cs, h1, h2⟩ := h.head; exact ⟨cs, 47, h1, by omega⟩
  · rw [if_neg h0]; obtain ⟨⟨cs, h1, h2⟩, _⟩ := h.node (i - 1) (by omega); exact ⟨cs, 45, h1, by omega⟩
/-- nothing that the list needs turned -/
theorem Tw.same {W W' : World} {g : Nat} {ns : List Nd} (h : Tw W g ns) (hg : W'.heap[g]? = W.heap[g]?) (hn : ∀ i, i < ns.length → W'.heap[(ns.getD i default).b]? = W.heap[(ns.getD i default).b]?) (hs : ∀ (k : Nat) (cs : Array Value), W.heap[k]? = some (.cells cs 5 (0, 0)) → W'.heap[k]? = W.heap[k]?) : Tw W' g ns where
  head := by obtain ⟨cs, h1, h2⟩ := h.head; exact ⟨cs, hg.trans h1, h2⟩
  draws := by obtain ⟨a, n, cap, h1, h2, h3, h4⟩ := h.draws; exact ⟨a, n, cap, (cell_heap hg 9).trans h1, h2, h3, h4.same hs⟩
  count := (cell_heap hg 10).trans h.count
  size := (cell_heap hg 11).trans h.size
  node := fun i hi => by
    obtain ⟨⟨cs, h1, h2⟩, h3, h4⟩ := h.node i hi
    exact ⟨⟨cs, (hn i hi).trans h1, h2⟩, (cell_heap (hn i hi) 0).trans h3, h4⟩
  linked := by
    intro i hh hi h8 hti
    have e : W'.heap[posB g ns i]? = W.heap[posB g ns i]? := by
      unfold posB
      by_cases h0 : i = 0
      · rw [if_pos h0]; exact hg
      · rw [if_neg h0]; exact hn _ (by omega)
    rw [cell_heap e]
    exact h.linked i hh hi h8 hti
  apart := h.apart
  rises := h.rises
theorem Tw.below {W W' : World} {g : Nat} {ns : List Nd} (h : Tw W g ns) (hb : Below W.heap.size W W') : Tw W' g ns := by
  refine h.same ?_ (fun i hi => ?_) (fun k cs hk => ?_)
  · obtain ⟨cs, h1, _⟩ := h.head; exact hb.block _ (heap_lt h1)
  · obtain ⟨⟨cs, h1, _⟩, _⟩ := h.node i hi; exact hb.block _ (heap_lt h1)
  · exact hb.block _ (heap_lt hk)
/-- a cell of the list's own head behind the towers is stored to -/
theorem Tw.stored {W : World} {g : Nat} {ns : List Nd} (h : Tw W g ns) (v : Value) (hd : ∃ a n cap, v = .slice a n cap ∧ n ≤ cap ∧ n ≤ 9223372036854775807 ∧ DrawsAt W a n) : Tw (W.setCell ⟨g, 9, none⟩ v) g ns := by
  obtain ⟨cs, h1, h2⟩ := h.head
  have hh := heap_setCell_same W g 9 cs 47 v h1
  have ho : ∀ k, k ≠ g → (W.setCell ⟨g, 9, none⟩ v).heap[k]? = W.heap[k]? := fun k hk => heap_setCell_other W ⟨g, 9, none⟩ k v hk
  have hc : ∀ b o, ¬ (b = g ∧ o = 9) → (W.setCell ⟨g, 9, none⟩ v).cell? ⟨b, o, none⟩ = W.cell? ⟨b, o, none⟩ := fun b o hne => World.cell?_setCell_other _ _ _ _ (by
    intro e
    simp only [Addr.mk.injEq, and_true] at e
    exact hne ⟨e.1.symm, e.2.symm⟩)
  have h5 : ∀ (k : Nat) (cs' : Array Value), W.heap[k]? = some (.cells cs' 5 (0, 0)) → (W.setCell ⟨g, 9, none⟩ v).heap[k]? = W.heap[k]? := fun k cs' hk => ho k (by
    rintro rfl
    rw [h1] at hk
    simp at hk)
  obtain ⟨a0, n0, cap0, hd0, _⟩ := h.draws
  refine ⟨⟨_, hh, by simpa using h2⟩, ?_, (hc g 10 (by omega)).trans h.count, (hc g 11 (by omega)).trans h.size, fun i hi => ?_, ?_, h.apart, h.rises⟩
  · obtain ⟨a, n, cap, rfl, h3, h4, h6⟩ := hd
    exact ⟨a, n, cap, World.cell?_setCell_same _ _ _ hd0, h3, h4, h6.same h5⟩
  · obtain ⟨⟨cs', h3, h4⟩, h6, h7⟩ := h.node i hi
    have hne := h.apart.1 i hi
    exact ⟨⟨cs', (ho _ hne).trans h3, h4⟩, (hc _ 0 (by omega)).trans h6, h7⟩
  · intro i hh hi h8 hti
    rw [hc _ (1 + hh) (by omega)]
    exact h.linked i hh hi h8 hti
theorem Try.info5 : (Try.prog.info? 5).map (fun i => (i.zero, i.size, i.bytes)) = some (some (.int .u8 0), 1, 1) := by kernel_rfl
theorem grown_cell (w : World) (g i : Nat) (x : Value) : w.grownBy (w.setCell ⟨g, i, none⟩ x) (some g) :=
  ⟨rfl, rfl, rfl, by simp, fun k _ hk => heap_setCell_other w ⟨g, i, none⟩ k x (fun e => hk (by simp [e]))⟩
theorem xor_u8 (a b : Int) : ∃ m : Nat, bits BinOp.xor IntKind.u8 a b = (m : Int) ∧ m < 256 := by
  obtain ⟨x, hx⟩ : ∃ x : Nat, bits BinOp.xor IntKind.u8 a b = IntKind.u8.wrap (x : Int) := ⟨_, rfl⟩
  rw [hx, IntKind.wrap_u8]
  exact ⟨x % 256, by omega, by omega⟩
set_option maxRecDepth 100000 in
set_option maxHeartbeats 1000000 in
theorem height_any (g : Nat) (ns : List Nd) (w : World) (h : Tw w g ns) :
    Calls Try.prog 24 #[.pointer (some ⟨g, 0, none⟩)] w fun e w' => (∃ H : Nat, e = .returned (.int .i64 H) ∧ 0 < H ∧ H ≤ 8) ∧ Tw w' g ns ∧ w.grownBy w' (some g) ∧ w'.heap.size = w.heap.size := by
  obtain ⟨i5, hi5, hy0, hy1, hy2⟩ := info_parts Try.info5
  obtain ⟨a, n, cap, hc9, hnc, hn63, hdr⟩ := h.draws
  obtain ⟨cs, hh1, hh2⟩ := h.head
  have f9 := frozen_of_row w g 9 cs 47 hh1
  have HT := Lib.hid h
  clear h hh1 hh2
  by_cases hn : n = 0
  · subst hn
    go_enter Try.func24, Try.ntmps24
    go_wp2_with fail
    go_ret
    exact ⟨⟨1, rfl, by omega, by omega⟩, HT.out, World.grownBy.refl _ _, rfl⟩
  · obtain ⟨b, off, dc, rfl, hb, hcs⟩ := hdr (by omega)
    obtain ⟨c, hc⟩ := hcs 0 (by omega)
    have c0 := (heap_cell hb off).trans hc
    have be : ((n : Int) == 0) = false := by rw [beq_eq_false_iff_ne]; omega
    have hs1 : ∀ W, (Instr.slice 22 (.slice (some ⟨b, off, none⟩) n cap) (some (.int .i64 (1 : Int))) none none).run Try.prog W = .ok (.slice (cutA (some ⟨b, off, none⟩) cap 1) (n - 1) (cap - 1)) W := fun W => run_slice_l1 (P := Try.prog) W 22 5 i5 Try.underlying22 hi5 hy1 (some ⟨b, off, none⟩) n cap 1 .i64 (by omega)
    have hdr2 : DrawsAt w (cutA (some ⟨b, off, none⟩) cap 1) (n - 1) := by
      intro h0
      refine ⟨b, off + 1, dc, ?_, hb, fun k hk => ?_⟩
      · unfold cutA
        rw [if_neg (by omega)]
        simp [Addr.add_lit]
      · obtain ⟨c', hc'⟩ := hcs (1 + k) (by omega)
        exact ⟨c', by rw [Nat.add_assoc]; exact hc'⟩
    have hi0 : (0 : Int) < (n : Int) := by omega
    have HT2 := Lib.hid (HT.out.stored (.slice (cutA (some ⟨b, off, none⟩) cap 1) (n - 1) (cap - 1)) ⟨_, _, _, rfl, by omega, by omega, hdr2⟩)
    generalize cutA (some ⟨b, off, none⟩) cap 1 = A2 at *
    have hcl := c.toNat_lt
    generalize c.toNat = cn at *
    clear hdr hdr2 hcs hc hb hn
    go_enter Try.func24, Try.ntmps24
    go_wp2_with fail
    obtain ⟨m, hm, hm256⟩ := xor_u8 IntKind.u8.max (cn : Int)
    rw [hm]
    refine (tz8_any m _ hm256).mono ?_
    rintro e w2 ⟨z, rfl, hz, rfl⟩
    clear hm
    go_wp2_with fail
    go_ret
    refine ⟨⟨min (1 + z) 8, ?_, by omega, by omega⟩, HT2.out, grown_cell _ _ _ _, by simp⟩
    show Ending.returned (.int .i64 (min (1 + (z : Int)) 8)) = _
    rw [show ((min (1 + z) 8 : Nat) : Int) = min (1 + (z : Int)) 8 by omega]
theorem row_draws {w : World} {B n m c : Nat} {a : Option Addr} {l : List UInt8} (h : w.ownsRow B 5 1 (.slice a m c) n (bytesV l)) : DrawsAt w a m := by
  intro h0
  rcases h.2 with ⟨hv, h1⟩ | ⟨g, cap, cur, hv, _, hg, _, _, _, htake⟩
  · cases hv; omega
  · cases hv
    refine ⟨g, 0, cur, rfl, hg, fun k hk => ?_⟩
    have hl := h.1
    rw [length_bytesV, Nat.mul_one] at hl
    refine ⟨l.getD k 0, ?_⟩
    have hc := bytesV_get l k (by omega)
    rw [← htake, List.getElem?_take, if_pos (by omega)] at hc
    rw [Nat.zero_add, ← Array.getElem?_toList]
    exact hc
theorem row_empty (w : World) (B : Nat) (e : TypeId) (size : Nat) (h : B ≤ w.heap.size) : (w.alloc (.cells #[] e)).ownsRow B e size (.slice (some ⟨w.heap.size, 0, none⟩) 0 0) 0 [] :=
  ⟨by simp, .inr ⟨w.heap.size, 0, #[], rfl, h, heap_alloc_new w _, Nat.le_refl _, by unfold maxLen; omega, by simp, by simp⟩⟩
set_option maxRecDepth 100000 in
set_option maxHeartbeats 1000000 in
theorem clone_any (a : Option Addr) (cap : Nat) (l : List UInt8) (w : World) (hl : l.length ≤ 1000000) (hc : l.length ≤ cap) (h : IsBytes w a l) :
    Calls Try.prog 21 #[.slice a l.length cap] w fun e w' => ∃ a' n cap', e = .returned (.slice a' n cap') ∧ n ≤ cap' ∧ n ≤ 1000000 ∧ DrawsAt w' a' n ∧ Below w.heap.size w w' := by
  obtain ⟨i5, hi5, hy0, hy1, hy2⟩ := info_parts Try.info5
  have H := Lib.hid h
  clear h
  have hnil := Lib.run_eql_slice_nil (P := Try.prog)
  cases a with
  | none =>
    go_enter Try.func21, Try.ntmps21
    go_wp2_with fail
    go_ret
    exact ⟨none, 0, 0, rfl, Nat.le_refl _, by omega, fun h => absurd h (Nat.lt_irrefl _), Below.refl _ _⟩
  | some ad =>
    have HE := Lib.hid (row_empty w w.heap.size 5 1 (Nat.le_refl _))
    have HB := Lib.hid (H.out.below ((Below.refl _ _).alloc (Nat.le_refl _) (.cells #[] 5)))
    have HBA := Lib.hid ((Below.refl w.heap.size w).alloc (Nat.le_refl _) (.cells #[] 5))
    go_enter Try.func21, Try.ntmps21
    go_wp2_with (at_builtin; refine wpList_append_bytes _ rfl (.tmp 5) (.tmp 6) 22 rfl w.heap.size 5 i5 _ Try.underlying22 hi5 hy0 hy1 hy2 rfl (.slice (some ⟨w.heap.size, 0, none⟩) 0 0) 0 [] (by rfl) HE.out (some ad) l.length cap l (by rfl) rfl HB.out (by omega) HBA.out.size ?_; intro v4 w4 hrow4 hg4 _; have hB4 := Below.own HBA.out HE.out (Nat.le_refl _) HBA.out.size hg4; obtain ⟨a4, m4, c4, rfl⟩ := row_slice hrow4; have HR4 := Lib.hid hrow4; clear hrow4 hg4)
    go_ret
    have hm := row_len' HR4.out
    exact ⟨a4, m4, c4, rfl, by have := row_cap HR4.out; omega, by omega, row_draws HR4.out, hB4⟩
set_option maxRecDepth 100000 in
set_option maxHeartbeats 1000000 in
theorem new_any (a : Option Addr) (cap : Nat) (l : List UInt8) (w : World) (hl : l.length ≤ 1000000) (hc : l.length ≤ cap) (h : IsBytes w a l) :
    Calls Try.prog 9 #[.slice a l.length cap] w fun e w' => ∃ g, e = .returned (.pointer (some ⟨g, 0, none⟩)) ∧ w.heap.size ≤ g ∧ Tw w' g [] ∧ Below w.heap.size w w' := by
  have HC := Lib.hid (clone_any a cap l w hl hc h)
  clear h
  go_enter Try.func9, Try.ntmps9
  go_wp2_with fail
  refine HC.out.mono ?_
  clear HC
  rintro e w2 ⟨a', n, cap', rfl, h1, h2, h3, h4⟩
  have H3 := Lib.hid h3
  clear h3
  go_wp2_with fail
  go_ret
  have hh := heap_alloc_new w2 (.cells #[.string { data := #[] }, .pointer none, .pointer none, .pointer none, .pointer none, .pointer none, .pointer none, .pointer none, .pointer none, .slice a' n cap', .int .i64 0, .int .i64 0] 47)
  refine ⟨w2.heap.size, rfl, h4.size, ?_, h4.alloc h4.size _⟩
  refine ⟨⟨_, hh, rfl⟩, ⟨a', n, cap', (heap_cell hh 9), h1, by omega, H3.out.same (fun k cs hk => Below.heap_alloc w2 _ k (heap_lt hk))⟩, heap_cell hh 10, heap_cell hh 11, fun i hi => absurd hi (Nat.not_lt_zero _), ?_, ⟨fun i hi => absurd hi (Nat.not_lt_zero _), fun i j hi => absurd hi (Nat.not_lt_zero _)⟩, fun i hi => absurd hi (Nat.not_lt_zero _)⟩
  intro i h hi hh8 _
  have hi0 : i = 0 := Nat.le_zero.1 hi
  subst hi0
  refine .inl ⟨?_, fun j _ hj => absurd hj (Nat.not_lt_zero _)⟩
  rw [show posB w2.heap.size ([] : List Nd) 0 = w2.heap.size from rfl, heap_cell hh (1 + h)]
  rcases (show h = 0 ∨ h = 1 ∨ h = 2 ∨ h = 3 ∨ h = 4 ∨ h = 5 ∨ h = 6 ∨ h = 7 by omega) with rfl | rfl | rfl | rfl | rfl | rfl | rfl | rfl <;> rfl
end Go.Proofs.Ytbamohcaamgalaa
