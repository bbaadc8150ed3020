/- Small laws for the document's encoders: truth onto a row of one's own; two signs laid; texts laid. -/
import Derived.Test.YtacjbgmnoiimbabGreatRfC
namespace Go.Proofs.YtacjbgmnoiimbabGreat
set_option linter.unusedVariables false
set_option linter.unusedSimpArgs false
open Go.RowKit

theorem row_not {w : World} {B g : Nat} {e t : TypeId} {size n : Nat} {v : Value} {xs : List Value} {cs : Array Value} (hown : w.ownsRow B e size v n xs) (h : w.heap[g]? = some (.cells cs t (0, 0))) (hne : e ≠ t) : v.ownBlock = none ∨ v.ownBlock ≠ some g := by
  rcases hown.2 with ⟨rfl, _⟩ | ⟨g', cap', cur, rfl, _, hg, _⟩
  · exact .inl rfl
  · right
    intro e
    simp only [Value.ownBlock, Option.some.injEq] at e
    subst e
    rw [hg] at h
    simp only [Option.some.injEq, Obj.cells.injEq] at h
    exact hne h.2.1
theorem heap_kept {w w' : World} {B g : Nat} {e t : TypeId} {size n : Nat} {v : Value} {xs : List Value} {cs : Array Value} (hown : w.ownsRow B e size v n xs) (h : w.heap[g]? = some (.cells cs t (0, 0))) (hne : e ≠ t) (hg : w.grownBy w' v.ownBlock) : w'.heap[g]? = some (.cells cs t (0, 0)) := by
  rw [hg.block g (heap_lt h) ?_]
  · exact h
  · rcases row_not hown h hne with e | e
    · rw [e]; intro e2; cases e2
    · exact fun e2 => e e2.symm
set_option maxRecDepth 100000 in
theorem rtruth2_any (B : Nat) (v : Value) (l : List UInt8) (b : Bool) (W : World) (hl : l.length ≤ 1000000000) (h : Own5 B W v l) (hB : B ≤ W.heap.size) :
    Calls Tryz.prog 54 #[v, .bool b] W fun e W' => ∃ v', e = .returned v' ∧ Own5 B W' v' (l ++ boolE b) ∧ W.grownBy W' v.ownBlock := by
  obtain ⟨i5, hi5, z0, z1, z2⟩ := info_parts Tryz.info5
  have HR := Lib.hid h
  clear h
  obtain ⟨a, n, c, rfl⟩ := row_slice HR.out
  have hn := row_len' HR.out
  subst hn
  cases b with
  | true =>
    have e1 : bytesV (l ++ [1]) = bytesV l ++ [.int .u8 1] := bytesV_append l [1]
    go_enter Tryz.func54, Tryz.ntmps54
    go_wp2_with (at_builtin; refine wpList_append_one W rfl (.tmp 6) (.tmp 7) 39 rfl B 5 i5 _ 1 Tryz.underlying39 hi5 z0 z1 z2 rfl (.slice a l.length c) l.length (bytesV l) (by rfl) HR.out (.int .u8 1) 1 (by rfl) rfl (by omega) (by omega) hB ?_; intro v6 w6 hrow6 hg6 hnn; have HG6 := Lib.hid hg6; have HR6 := Lib.hid hrow6; clear hrow6 hg6 hnn)
    go_ret
    exact ⟨_, rfl, by
      unfold Own5
      rw [boolE_eq, List.length_append]
      show w6.ownsRow B 5 1 _ (l.length + 1) (bytesV (l ++ [1]))
      rw [e1]; exact HR6.out, HG6.out⟩
  | false =>
    have e1 : bytesV (l ++ [0]) = bytesV l ++ [.int .u8 0] := bytesV_append l [0]
    go_enter Tryz.func54, Tryz.ntmps54
    go_wp2_with (at_builtin; refine wpList_append_one W rfl (.tmp 9) (.tmp 10) 39 rfl B 5 i5 _ 1 Tryz.underlying39 hi5 z0 z1 z2 rfl (.slice a l.length c) l.length (bytesV l) (by rfl) HR.out (.int .u8 0) 1 (by rfl) rfl (by omega) (by omega) hB ?_; intro v6 w6 hrow6 hg6 hnn; have HG6 := Lib.hid hg6; have HR6 := Lib.hid hrow6; clear hrow6 hg6 hnn)
    go_ret
    exact ⟨_, rfl, by
      unfold Own5
      rw [boolE_eq, List.length_append]
      show w6.ownsRow B 5 1 _ (l.length + 1) (bytesV (l ++ [0]))
      rw [e1]; exact HR6.out, HG6.out⟩
theorem cell_alloc_of {w : World} (o : Obj) {p : Addr} {v : Value} (h : w.cell? p = some v) : (w.alloc o).cell? p = some v := Lib.cell?_alloc_marked o h
theorem conv_mark (w : World) (t e : TypeId) (g : Nat) (C : Array Value) (n c : Nat) (ht : Tryz.prog.underlying t = some (.slice e)) (he : Tryz.prog.underlying e = some (.int .u8)) (hg : w.heap[g]? = some (.cells C e (0, 0))) :
    ∃ w', (convert t t (.slice (some ⟨g, 0, none⟩) n c)).run Tryz.prog w = .ok (.slice (some ⟨g, 0, none⟩) n c) w' ∧ w.grownBy w' (some g) ∧ w'.heap[g]? = some (.cells C e (C.size, C.size + 1)) := by
  have hsh : w.shape? g = some (e, C.size) := by
    unfold World.shape?
    rw [hg]
  refine ⟨w.freeze ⟨g, C.size, none⟩ 1, ?_, ?_, ?_⟩
  · simp [convert, run_underlying ht, run_underlying he, markStringish, hsh]
  · unfold World.freeze
    rw [if_neg (by decide)]
    refine ⟨rfl, rfl, rfl, ?_, fun k hk hne => ?_⟩
    · simp
    · have : g ≠ k := fun e => hne (by rw [e])
      simp [Array.getElem?_modify, this]
  · unfold World.freeze
    rw [if_neg (by decide)]
    simp [Array.getElem?_modify, hg]
theorem lit_bytes {w : World} {g : Nat} {x y : UInt8} {m : Nat × Nat} (h : w.heap[g]? = some (.cells #[.int .u8 (x.toNat : Int), .int .u8 (y.toNat : Int)] 5 m)) : IsBytes w (some ⟨g, 0, none⟩) [x, y] := fun _ => ⟨g, 0, rfl, heap_lt h, fun k hk => by
  rw [Nat.zero_add, cell_of_row _ _ _ _ _ _ h]
  match k, hk with
  | 0, _ => rfl
  | 1, _ => rfl⟩
theorem strs_grown {W W' : World} {t g : Nat} {l : List ByteArray} (h : IsStrs W (some ⟨t, 0, none⟩) l) (hg : W.grownBy W' (some g)) (hne : t ≠ g) : IsStrs W' (some ⟨t, 0, none⟩) l := fun h0 => by
  obtain ⟨b, off, ha, hb, hc⟩ := h h0
  cases ha
  exact ⟨t, 0, rfl, Nat.lt_of_lt_of_le hb hg.size, fun k hk => (cell_kept hg hb hne _).trans (hc k hk)⟩
theorem below_on' {B g : Nat} {a w w' : World} (h : Below B a w) (hg : w.grownBy w' (some g)) (hB : B ≤ w.heap.size) (hBg : B ≤ g) : Below B a w' := h.grown hg hB (fun k hk => by cases hk; exact hBg)
end Go.Proofs.YtacjbgmnoiimbabGreat
