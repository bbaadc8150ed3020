/- heap.Fix, heap.Pop, pile.Pop: walked. -/
import Derived.Test.YtacjbgmnoiimbaaWalkE
namespace Go.Proofs.Ytacjbgmnoiimbaa
set_option linter.unusedVariables false
set_option linter.unusedSimpArgs false
open Go.RowKit

theorem up_zero (m : Nat) (w : World) : Calls Try.prog 23 #[.iface 46 (.pointer (some ⟨m, 0, none⟩)), .int .i64 0] w fun e w' => e = .returned (.tuple #[]) ∧ w' = w := by
  go_enter Try.func23, Try.ntmps23
  go_wp2_with fail
  go_loopw [1] (fun i wr => i = .int .i64 0 ∧ Hid (wr = w)) (fun _ _ => 0)
  case atStart => exact ⟨rfl, rfl⟩
  case round =>
    obtain ⟨rfl, HZ⟩ := hrel
    have hq : (-1 : Int).tdiv 2 = 0 := by decide
    go_wp2_with fail
    go_end0
    exact ⟨rfl, HZ.out⟩
def FixIs (B m : Nat) (v : Value) (rs : List RR) (w : World) (e : Ending) (w' : World) : Prop :=
  ∃ rs', e = .returned (.tuple #[]) ∧ PileAt B w' m v rs' ∧ SameR rs.length rs rs' ∧ HeapFrom rs' rs.length 0 ∧ Below B w w' ∧ KeepM w w'
set_option maxRecDepth 100000 in
theorem fix_any (B m : Nat) (v : Value) (rs : List RR) (w : World) (h : PileAt B w m v rs) (hl : rs.length ≤ 1000000) (hne : ∀ i, i < rs.length → 0 < (at_ rs i).keys.length) (hH : HeapFrom rs rs.length 1) :
    Calls Try.prog 22 #[.iface 46 (.pointer (some ⟨m, 0, none⟩)), .int .i64 0] w (FixIs B m v rs w) := by
  obtain ⟨a, c, rfl⟩ := h.shape
  have hLen := meth_val 171 "Len" 40 Try.methLen m _ w (heap_cell h.1 0)
  have HLn := Lib.hid (len_any a rs.length c w)
  have HD := Lib.hid (down_any B m _ rs rs.length 0 w h (Nat.le_refl _) hl (by omega) hne hH)
  have HUp := Lib.hid (fun W => up_zero m W)
  clear h hne hH
  go_enter Try.func22, Try.ntmps22
  go_wp2_with fail
  refine HLn.out.mono ?_
  clear HLn
  rintro e w1 ⟨rfl, rfl⟩
  go_wp2_with fail
  refine HD.out.mono ?_
  clear HD
  rintro e w2 ⟨b, rs', rfl, hp, hs, hh, hb, hk⟩
  have HE : Hid (FixIs B m (.slice a rs.length c) rs w1 (.returned (.tuple #[])) w2) := ⟨rs', rfl, hp, hs, hh, hb, hk⟩
  clear hp hs hh hb hk hLen
  cases b with
  | true =>
    go_wp2_with fail
    go_end0
    exact HE.out
  | false =>
    go_wp2_with fail
    refine (HUp.out _).mono ?_
    clear HUp
    rintro e w3 ⟨rfl, rfl⟩
    go_wp2_with fail
    go_end0
    exact HE.out
theorem Try.info26 : (Try.prog.info? 26).map (fun i => (i.zero, i.size, i.bytes)) = some (some (.slice none 0 0), 1, 24) := by kernel_rfl
theorem cut0 (g cap : Nat) : cutA (some ⟨g, 0, none⟩) cap 0 = some ⟨g, 0, none⟩ := by
  unfold cutA
  split <;> rfl
theorem PileAt.take {B : Nat} {W : World} {m g cap n : Nat} {rs : List RR} (hn : rs.length = n + 1) (h : PileAt B W m (.slice (some ⟨g, 0, none⟩) (n + 1) cap) rs) :
    PileAt B (W.setCell ⟨m, 0, none⟩ (.slice (some ⟨g, 0, none⟩) n cap)) m (.slice (some ⟨g, 0, none⟩) n cap) (rs.take n) ∧ Below B W (W.setCell ⟨m, 0, none⟩ (.slice (some ⟨g, 0, none⟩) n cap)) ∧ KeepM W (W.setCell ⟨m, 0, none⟩ (.slice (some ⟨g, 0, none⟩) n cap)) := by
  obtain ⟨g', cap', cs, e, h1, h2, h3, h4⟩ := h.rows (by omega)
  rw [hn] at e
  simp only [Value.slice.injEq, Option.some.injEq, Addr.mk.injEq, and_true, true_and] at e
  obtain ⟨rfl, rfl⟩ := e
  have hk := (KeepM.refl W).set h.1 (.inl rfl) 0 (.slice (some ⟨g, 0, none⟩) n cap)
  have hmg : g ≠ m := by
    rintro rfl
    have := h.1
    rw [h2] at this
    cases this
  have hl : (rs.take n).length = n := by rw [List.length_take]; omega
  refine ⟨⟨heap_setCell_same W m 0 _ 44 _ h.1, h.2.1, .inr ⟨g, cap, cs, by rw [hl], h1, (heap_setCell_other W ⟨m, 0, none⟩ g _ hmg).trans h2, by rw [hl]; omega, fun i hi => ?_⟩, fun x hx => ?_⟩, (Below.refl B W).setCell (p := ⟨m, 0, none⟩) h.2.1 _, hk⟩
  · rw [hl] at hi
    rw [h4 i (by omega)]
    unfold at_
    rw [List.getD_eq_getElem?_getD, List.getD_eq_getElem?_getD, List.getElem?_take, if_pos hi]
  · have := h.2.2.2 x (List.mem_of_mem_take hx)
    exact ⟨this.1, this.2.keep hk⟩
set_option maxRecDepth 100000 in
theorem pilePop_any (B m g n cap : Nat) (rs : List RR) (w : World) (hn : rs.length = n + 1) (h : PileAt B w m (.slice (some ⟨g, 0, none⟩) (n + 1) cap) rs) (hl : n ≤ 1000000) :
    Calls Try.prog 43 #[.pointer (some ⟨m, 0, none⟩)] w fun e w' => (∃ x, e = .returned (.iface 26 x)) ∧ PileAt B w' m (.slice (some ⟨g, 0, none⟩) n cap) (rs.take n) ∧ Below B w w' ∧ KeepM w w' := by
  obtain ⟨i26, hi26, hz0, hz1, hz2⟩ := info_parts Try.info26
  obtain ⟨g', cap', cs, e, h1, h2, h3, h4⟩ := h.rows (by omega)
  rw [hn] at e
  simp only [Value.slice.injEq, Option.some.injEq, Addr.mk.injEq, and_true, true_and] at e
  obtain ⟨rfl, rfl⟩ := e
  have hsl : ∀ W : World, (Instr.slice 42 (.slice (some ⟨g, 0, none⟩) (n + 1) cap) none (some (.int .i64 (n : Int))) none).run Try.prog W = .ok (.slice (some ⟨g, 0, none⟩) n cap) W := fun W => by
    rw [run_slice_h1 (P := Try.prog) W 42 26 i26 Try.underlying42 hi26 hz1 _ _ _ n .i64 (by omega), cut0]
  have p0 := heap_cell h.1 0
  simp at p0
  have f0 := frozen_of_row w m 0 _ _ h.1
  have p1 := (heap_cell h2 n).trans (h4 n (by omega))
  unfold rowV at p1
  have e1 : (n : Int) < ((n : Int) + 1) := by omega
  have HE := Lib.hid (h.take hn)
  clear h h2 h3 h4 h1
  go_enter Try.func43, Try.ntmps43
  go_wp2_with fail
  all_goals (try go_region)
  go_ret
  obtain ⟨a1, a2, a3⟩ := HE.out
  exact ⟨⟨_, rfl⟩, a1, a2, a3⟩
def PopIs (B m g cap n : Nat) (rs : List RR) (w : World) (e : Ending) (w' : World) : Prop :=
  (∃ x, e = .returned (.iface 26 x)) ∧ ∃ rs', PileAt B w' m (.slice (some ⟨g, 0, none⟩) n cap) rs' ∧ rs'.length = n ∧ HeapFrom rs' n 0 ∧ (∀ i, i < n → ∃ i', 0 < i' ∧ i' < n + 1 ∧ at_ rs' i = at_ rs i') ∧ (∀ i', 0 < i' → i' < n + 1 → ∃ i, i < n ∧ at_ rs i' = at_ rs' i) ∧ tot rs' + (at_ rs 0).keys.length = tot rs ∧ Below B w w' ∧ KeepM w w'
theorem take_at_lt (rs : List RR) (n i : Nat) (h : i < n) : at_ (rs.take n) i = at_ rs i := by
  unfold at_
  rw [List.getD_eq_getElem?_getD, List.getD_eq_getElem?_getD, List.getElem?_take, if_pos h]
set_option maxRecDepth 100000 in
theorem heapPop_any (B m g n cap : Nat) (rs : List RR) (w : World) (hn : rs.length = n + 1) (h : PileAt B w m (.slice (some ⟨g, 0, none⟩) (n + 1) cap) rs) (hl : n < 1000000) (hne : ∀ i, 0 < i → i < n + 1 → 0 < (at_ rs i).keys.length) (hH : HeapFrom rs (n + 1) 1) :
    Calls Try.prog 21 #[.iface 46 (.pointer (some ⟨m, 0, none⟩))] w (PopIs B m g cap n rs w) := by
  have hswap := fun k => swap_at rs 0 n k (by omega) (by omega)
  have h' : PileAt B w m (.slice (some ⟨g, 0, none⟩) rs.length cap) rs := by rw [hn]; exact h
  have HS := Lib.hid (swap_pile h' 0 n (by omega) (by omega))
  rw [hn] at HS
  have hLen := meth_val 171 "Len" 40 Try.methLen m _ w (heap_cell h.1 0)
  have hSwp := meth_val 171 "Swap" 42 Try.methSwap m _ w (heap_cell h.1 0)
  have HLn := Lib.hid (len_any (some ⟨g, 0, none⟩) (n + 1) cap w)
  have hne2 : ∀ i, i < n → 0 < (at_ (swapR rs 0 n) i).keys.length := fun i hi => by
    rw [hswap, if_neg (by omega)]
    split
    · exact hne n (by omega) (by omega)
    · exact hne i (by omega) (by omega)
  have hH2 : HeapFrom (swapR rs 0 n) n 1 := fun i j h1 h2 h3 => by
    rw [hswap, hswap, if_neg (by omega), if_neg (by omega), if_neg (by omega), if_neg (by omega)]
    exact hH i j h1 h2 (by omega)
  have hl2 : (swapR rs 0 n).length = n + 1 := by rw [length_swapR]; exact hn
  have HF1 : Hid (∀ i, i < n → ∃ i', 0 < i' ∧ i' < n + 1 ∧ at_ (swapR rs 0 n) i = at_ rs i') := fun i hi => by
    rw [hswap, if_neg (by omega)]
    split
    · exact ⟨n, by omega, by omega, rfl⟩
    · exact ⟨i, by omega, by omega, rfl⟩
  have HF2 : Hid (∀ i', 0 < i' → i' < n + 1 → ∃ i, i < n ∧ at_ rs i' = at_ (swapR rs 0 n) i) := fun i h1 h2 => by
    by_cases e : i = n
    · exact ⟨0, by omega, by rw [hswap, if_neg (by omega), if_pos rfl, e]⟩
    · exact ⟨i, by omega, by rw [hswap, if_neg e, if_neg (by omega)]⟩
  have HT1 : Hid (tot (swapR rs 0 n) = tot rs ∧ at_ (swapR rs 0 n) n = at_ rs 0) := ⟨tot_swap rs 0 n (by omega) (by omega), by rw [hswap, if_pos rfl]⟩
  generalize swapR rs 0 n = rs1 at *
  have HNe2 := Lib.hid hne2
  have HH2 := Lib.hid hH2
  have hwr : IntKind.i64.wrap ((n : Int) + 1 - 1) = (n : Int) := by rw [IntKind.wrap_i64]; omega
  clear h h' hne hH hne2 hH2 hswap
  go_enter Try.func21, Try.ntmps21
  go_wp2_with fail
  refine HLn.out.mono ?_
  clear HLn
  rintro e w1 ⟨rfl, rfl⟩
  go_wp2_with fail
  refine HS.out.mono ?_
  clear HS
  rintro e w2 ⟨rfl, hp2, hb2, hk2⟩
  have HD := Lib.hid (down_any B m (.slice (some ⟨g, 0, none⟩) (n + 1) cap) rs1 n 0 w2 hp2 (by rw [hl2]; omega) (by rw [hl2]; omega) (Nat.zero_le _) HNe2.out HH2.out)
  have HB2 := Lib.hid hb2
  have HK2 := Lib.hid hk2
  clear hp2 hb2 hk2 hLen hSwp
  go_wp2_with fail
  refine HD.out.mono ?_
  clear HD
  rintro e w3 ⟨b, rs2, rfl, hp, hs, hh, hb, hk⟩
  have hl3 : rs2.length = n + 1 := hs.1.trans hl2
  have HP := Lib.hid (pilePop_any B m g n cap rs2 w3 hl3 hp (by omega))
  have hPp := meth_ptr 171 m w3
  have HSm := Lib.hid hs
  have HH := Lib.hid hh
  have HB3 := Lib.hid (HB2.out.trans hb)
  have HK3 := Lib.hid (HK2.out.trans hk)
  clear hp hs hh hb hk
  go_wp2_with fail
  refine HP.out.mono ?_
  clear HP
  rintro e w4 ⟨⟨x, rfl⟩, hp4, hb4, hk4⟩
  have HE : Hid (∀ x, PopIs B m g cap n rs w1 (.returned (.iface 26 x)) w4) := fun x => ⟨⟨x, rfl⟩, rs2.take n, hp4, by rw [List.length_take]; omega, (fun i j h1 h2 h3 => by rw [take_at_lt _ _ _ h3, take_at_lt _ _ _ (by omega)]; exact HH.out i j h1 h2 h3), (fun i hi => by
    rw [take_at_lt _ _ _ hi]
    obtain ⟨i1, hi1, e1⟩ := HSm.out.2.2.1 i hi
    obtain ⟨i2, h1, h2, e2⟩ := HF1.out i1 hi1
    exact ⟨i2, h1, h2, e1.trans e2⟩), (fun i h1 h2 => by
    obtain ⟨i1, hi1, e1⟩ := HF2.out i h1 h2
    obtain ⟨i2, hi2, e2⟩ := HSm.out.2.2.2.1 i1 hi1
    exact ⟨i2, hi2, by rw [take_at_lt _ _ _ hi2]; exact e1.trans e2⟩), (by have h1 := tot_take rs2 n hl3; rw [HSm.out.2.1 n (Nat.le_refl _), HT1.out.2, HSm.out.2.2.2.2, HT1.out.1] at h1; exact h1), HB3.out.trans hb4, HK3.out.trans hk4⟩
  clear hp4 hb4 hk4 hPp
  go_wp2_with fail
  go_ret
  exact HE.out _
end Go.Proofs.Ytacjbgmnoiimbaa
