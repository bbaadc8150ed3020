/- What the document fixes; MergeNil: walked. -/
import Derived.Test.YtacjbgmnoiimbaaView
namespace Go.Proofs.Ytacjbgmnoiimbaa
set_option linter.unusedVariables false
set_option linter.unusedSimpArgs false
open Go.RowKit

theorem rises_tail {x : Text} {r : List Text} (h : Rises (x :: r)) : Rises r := fun i hi => h (i + 1) (by rw [List.length_cons]; omega)
theorem rises_head {x : Text} {r : List Text} (h : Rises (x :: r)) : ∀ k ∈ r, x < k := fun k hk => by
  obtain ⟨i, hi, e⟩ := List.getElem_of_mem hk
  have := rises_lt h 0 (i + 1) (by omega) (by rw [List.length_cons]; omega)
  rw [List.getD_cons_succ, List.getD_eq_getElem?_getD (l := r), List.getElem?_eq_getElem hi, Option.getD_some, e] at this
  exact this
theorem rises_unique : ∀ {a b : List Text}, Rises a → Rises b → (∀ k, k ∈ a ↔ k ∈ b) → a = b
  | [], [], _, _, _ => rfl
  | [], y :: s, _, _, h => by have := (h y).2 List.mem_cons_self; cases this
  | x :: r, [], _, _, h => by have := (h x).1 List.mem_cons_self; cases this
  | x :: r, y :: s, ha, hb, h => by
    have hxy : x = y := by
      rcases List.mem_cons.1 ((h x).1 List.mem_cons_self) with e | h1
      · exact e
      · rcases List.mem_cons.1 ((h y).2 List.mem_cons_self) with e | h2
        · exact e.symm
        · exact absurd (rises_head ha y h2) (less_asym (rises_head hb x h1))
    subst hxy
    congr 1
    refine rises_unique (rises_tail ha) (rises_tail hb) (fun k => ?_)
    constructor
    · intro hk
      rcases List.mem_cons.1 ((h k).1 (List.mem_cons_of_mem _ hk)) with e | h1
      · subst e; exact absurd (rises_head ha _ hk) (text_irr _)
      · exact h1
    · intro hk
      rcases List.mem_cons.1 ((h k).2 (List.mem_cons_of_mem _ hk)) with e | h1
      · subst e; exact absurd (rises_head hb _ hk) (text_irr _)
      · exact h1
theorem keysOf_inj : ∀ {a b : List ByteArray}, keysOf a = keysOf b → a = b
  | [], [], _ => rfl
  | [], y :: s, h => by cases h
  | x :: r, [], h => by cases h
  | x :: r, y :: s, h => by
    have h' : x.data.toList :: keysOf r = y.data.toList :: keysOf s := h
    rw [bytes_ext (List.cons.inj h').1, keysOf_inj (List.cons.inj h').2]
def sA : ByteArray := { data := #[97] }
def sB : ByteArray := { data := #[98] }
def sC : ByteArray := { data := #[99] }
theorem two_strs (w : World) (x y : ByteArray) : IsStrs (w.alloc (.cells #[.string x, .string y] 9)) (some ⟨w.heap.size, 0, none⟩) [x, y] := fun _ => ⟨w.heap.size, 0, rfl, by simp, fun k hk => by
  rw [Nat.zero_add, heap_cell (heap_alloc_new w _)]
  match k, hk with
  | 0, _ => rfl
  | 1, _ => rfl⟩
theorem three_strs (w : World) (x y z : ByteArray) : IsStrs (w.alloc (.cells #[.string x, .string y, .string z] 9)) (some ⟨w.heap.size, 0, none⟩) [x, y, z] := fun _ => ⟨w.heap.size, 0, rfl, by simp, fun k hk => by
  rw [Nat.zero_add, heap_cell (heap_alloc_new w _)]
  match k, hk with
  | 0, _ => rfl
  | 1, _ => rfl
  | 2, _ => rfl⟩
theorem same_at (a a2 : Option Addr) (cap cap2 n n2 : Nat) (l l2 : List ByteArray) (w : World) (hn : l.length = n) (hn2 : l2.length = n2) (hl : n ≤ 1000000000) (hl2 : n2 ≤ 1000000000) (h : IsStrs w a l) (h2 : IsStrs w a2 l2) :
    Calls Try.prog 11 #[.slice a n cap, .slice a2 n2 cap2] w fun e w' => e = .returned (.bool (decide (l = l2))) ∧ Below w.heap.size w w' := by
  subst hn hn2
  refine (same_any a a2 cap cap2 l l2 w hl hl2 h h2).mono fun e w' hs => ?_
  obtain ⟨rfl, n, rfl⟩ := hs
  exact ⟨rfl, Below.drewN (Below.refl _ _) n⟩
theorem same_yes (a a2 : Option Addr) (cap cap2 n n2 : Nat) (l l2 : List ByteArray) (w : World) (hn : l.length = n) (hn2 : l2.length = n2) (hl : n ≤ 1000000000) (hl2 : n2 ≤ 1000000000) (h : IsStrs w a l) (h2 : IsStrs w a2 l2) (he : l = l2) :
    Calls Try.prog 11 #[.slice a n cap, .slice a2 n2 cap2] w fun e w' => e = .returned (.bool true) ∧ Below w.heap.size w w' :=
  (same_at a a2 cap cap2 n n2 l l2 w hn hn2 hl hl2 h h2).mono fun e w' ⟨h1, h2⟩ => ⟨by rw [h1, decide_eq_true he], h2⟩
theorem fix_out {out : List ByteArray} {a1 a2 : Option Addr} (hr : Rises (keysOf out)) (hm : ∀ k, k ∈ keysOf out ↔ HasK [⟨a1, 2, [sA, sC]⟩, ⟨a2, 2, [sB, sC]⟩] k) : out = [sA, sB, sC] := by
  refine keysOf_inj (rises_unique hr (fun i hi => ?_) (fun k => ?_))
  · have hi' : i + 1 < 3 := hi
    match i, hi' with
    | 0, _ => decide
    | 1, _ => decide
  · rw [hm]
    unfold HasK
    have e1 : keysOf [sA, sC] = [[97], [99]] := rfl
    have e2 : keysOf [sB, sC] = [[98], [99]] := rfl
    have e3 : keysOf [sA, sB, sC] = [[97], [98], [99]] := rfl
    rw [e3]
    constructor
    · rintro ⟨x, hx, hk⟩
      simp only [List.mem_cons, List.not_mem_nil, or_false] at hx
      rcases hx with rfl | rfl
      · rw [e1] at hk
        simp only [List.mem_cons, List.not_mem_nil, or_false] at hk ⊢
        rcases hk with h | h <;> simp [h]
      · rw [e2] at hk
        simp only [List.mem_cons, List.not_mem_nil, or_false] at hk ⊢
        rcases hk with h | h <;> simp [h]
    · intro hk
      simp only [List.mem_cons, List.not_mem_nil, or_false] at hk
      rcases hk with rfl | rfl | rfl
      · exact ⟨_, List.mem_cons_self, by rw [e1]; simp⟩
      · exact ⟨_, List.mem_cons_of_mem _ List.mem_cons_self, by rw [e2]; simp⟩
      · exact ⟨_, List.mem_cons_self, by rw [e1]; simp⟩
theorem alloc_size (w : World) (o : Obj) : (w.alloc o).heap.size = w.heap.size + 1 := by simp
theorem fix_rows (w : World) : IsRows (((w.alloc (.cells #[.string sA, .string sC] 9)).alloc (.cells #[.string sB, .string sC] 9)).alloc (.cells #[.slice (some ⟨w.heap.size, 0, none⟩) 2 2, .slice (some ⟨w.heap.size + 1, 0, none⟩) 2 2] 26)) (some ⟨w.heap.size + 1 + 1, 0, none⟩) [⟨some ⟨w.heap.size, 0, none⟩, 2, [sA, sC]⟩, ⟨some ⟨w.heap.size + 1, 0, none⟩, 2, [sB, sC]⟩] := fun _ => by
  have e1 := alloc_size w (.cells #[.string sA, .string sC] 9)
  have e2 := alloc_size (w.alloc (.cells #[.string sA, .string sC] 9)) (.cells #[.string sB, .string sC] 9)
  rw [e1] at e2
  refine ⟨_, 0, rfl, by rw [alloc_size, e2]; omega, fun k hk => ?_⟩
  have hb1 : ∀ (W : World) (o : Obj), Below W.heap.size W (W.alloc o) := fun W o => (Below.refl _ _).alloc (Nat.le_refl _) _
  have s1 := ((two_strs w sA sC).below (hb1 _ (.cells #[.string sB, .string sC] 9))).below (hb1 _ (.cells #[.slice (some ⟨w.heap.size, 0, none⟩) 2 2, .slice (some ⟨w.heap.size + 1, 0, none⟩) 2 2] 26))
  have s2 := (two_strs (w.alloc (.cells #[.string sA, .string sC] 9)) sB sC).below (hb1 _ (.cells #[.slice (some ⟨w.heap.size, 0, none⟩) 2 2, .slice (some ⟨w.heap.size + 1, 0, none⟩) 2 2] 26))
  rw [e1] at s2
  have hc := heap_cell (heap_alloc_new ((w.alloc (.cells #[.string sA, .string sC] 9)).alloc (.cells #[.string sB, .string sC] 9)) (.cells #[.slice (some ⟨w.heap.size, 0, none⟩) 2 2, .slice (some ⟨w.heap.size + 1, 0, none⟩) 2 2] 26))
  rw [e2] at hc
  rw [Nat.zero_add, hc]
  match k, hk with
  | 0, _ => exact ⟨rfl, Nat.le_refl _, s1⟩
  | 1, _ => exact ⟨rfl, Nat.le_refl _, s2⟩
theorem fix_row (w : World) : IsRows ((w.alloc (.cells #[.string sB, .string sA] 9)).alloc (.cells #[.slice (some ⟨w.heap.size, 0, none⟩) 2 2] 26)) (some ⟨w.heap.size + 1, 0, none⟩) [⟨some ⟨w.heap.size, 0, none⟩, 2, [sB, sA]⟩] := fun _ => by
  have e1 := alloc_size w (.cells #[.string sB, .string sA] 9)
  refine ⟨_, 0, rfl, by rw [alloc_size, e1]; omega, fun k hk => ?_⟩
  have s1 := (two_strs w sB sA).below ((Below.refl _ _).alloc (Nat.le_refl _) (.cells #[.slice (some ⟨w.heap.size, 0, none⟩) 2 2] 26))
  have hc := heap_cell (heap_alloc_new (w.alloc (.cells #[.string sB, .string sA] 9)) (.cells #[.slice (some ⟨w.heap.size, 0, none⟩) 2 2] 26))
  rw [e1] at hc
  rw [Nat.zero_add, hc]
  match k, hk with
  | 0, _ => exact ⟨rfl, Nat.le_refl _, s1⟩
theorem rises_AC : RisesK [sA, sC] := fun i hi => by
  have hi' : i + 1 < 2 := hi
  match i, hi' with
  | 0, _ => decide
theorem rises_BC : RisesK [sB, sC] := fun i hi => by
  have hi' : i + 1 < 2 := hi
  match i, hi' with
  | 0, _ => decide
theorem falls_BA : ¬ RisesK [sB, sA] := fun h => by
  have := h 0 (by decide)
  revert this
  decide
set_option maxRecDepth 100000 in
set_option maxHeartbeats 2000000 in
theorem fixed_any (w : World) : Calls Try.prog 7 #[] w fun e w' => e = .returned (.bool true) ∧ Below w.heap.size w w' := by
  have HA := Lib.hid (all_any (some ⟨w.heap.size + 1 + 1, 0, none⟩) 2 [⟨some ⟨w.heap.size, 0, none⟩, 2, [sA, sC]⟩, ⟨some ⟨w.heap.size + 1, 0, none⟩, 2, [sB, sC]⟩] _ (by show 2 ≤ 10000; omega) (fun i hi => by
    have hi' : i < 2 := hi
    match i, hi' with
    | 0, _ => show 2 ≤ 10000; omega
    | 1, _ => show 2 ≤ 10000; omega) (by show 4 ≤ 1000000; omega) (fix_rows w))
  have HBA := Lib.hid ((((Below.refl w.heap.size w).alloc (Nat.le_refl _) (.cells #[.string sA, .string sC] 9)).alloc (by simp) (.cells #[.string sB, .string sC] 9)).alloc (by simp; omega) (.cells #[.slice (some ⟨w.heap.size, 0, none⟩) 2 2, .slice (some ⟨w.heap.size + 1, 0, none⟩) 2 2] 26))
  go_enter Try.func7, Try.ntmps7
  go_wp2_with fail
  refine HA.out.mono ?_
  clear HA
  rintro e w1 ⟨_, hok⟩
  obtain ⟨out, v1, rfl, hrow, hris, hmem, _, hb1⟩ := hok (fun i hi => by
    have hi' : i < 2 := hi
    match i, hi' with
    | 0, _ => exact rises_AC
    | 1, _ => exact rises_BC)
  have hout := fix_out hris hmem
  subst hout
  obtain ⟨oa, on, oc, rfl⟩ := row_slice hrow
  have hon := row_len' hrow
  subst hon
  have HB1 := Lib.hid (HBA.out.trans (hb1.mono HBA.out.size))
  have HRow := Lib.hid hrow
  clear hok hris hmem hrow hb1 HBA
  have HA2 := Lib.hid (all_any (some ⟨w1.heap.size + 1, 0, none⟩) 1 [⟨some ⟨w1.heap.size, 0, none⟩, 2, [sB, sA]⟩] _ (by show 1 ≤ 10000; omega) (fun i hi => by
    have hi' : i < 1 := hi
    match i, hi' with
    | 0, _ => show 2 ≤ 10000; omega) (by show 2 ≤ 1000000; omega) (fix_row w1))
  have HBA2 := Lib.hid ((HB1.out.alloc HB1.out.size (.cells #[.string sB, .string sA] 9)).alloc (by have := HB1.out.size; rw [alloc_size]; omega) (.cells #[.slice (some ⟨w1.heap.size, 0, none⟩) 2 2] 26))
  go_wp2_with fail
  refine HA2.out.mono ?_
  clear HA2
  rintro e w2 ⟨hbad, _⟩
  obtain ⟨rfl, hb2⟩ := hbad ⟨0, by show 0 < 1; omega, falls_BA⟩
  have HB2 := Lib.hid (HBA2.out.trans (hb2.mono HBA2.out.size))
  have hcon : Below w1.heap.size w1 w2 := (((Below.refl w1.heap.size w1).alloc (Nat.le_refl _) (.cells #[.string sB, .string sA] 9)).alloc (by simp) (.cells #[.slice (some ⟨w1.heap.size, 0, none⟩) 2 2] 26)).trans (hb2.mono (by rw [alloc_size, alloc_size]; omega))
  have hst : IsStrs w2 oa [sA, sB, sC] := (row_strs HRow.out).below hcon
  clear hbad hb2 HBA2
  have HSm := Lib.hid (same_yes oa (some ⟨w2.heap.size, 0, none⟩) oc 3 3 3 [sA, sB, sC] [sA, sB, sC] (w2.alloc (.cells #[.string sA, .string sB, .string sC] 9)) rfl rfl (by omega) (by omega) (hst.below ((Below.refl _ _).alloc (Nat.le_refl _) _)) (three_strs w2 sA sB sC) rfl)
  have HB3 := Lib.hid (HB2.out.alloc HB2.out.size (.cells #[.string sA, .string sB, .string sC] 9))
  clear hst hcon HRow
  go_wp2_with fail
  refine HSm.out.mono ?_
  clear HSm
  rintro e w3 ⟨rfl, hb3⟩
  have HB4 := Lib.hid (HB3.out.trans (hb3.mono HB3.out.size))
  clear hb3
  go_wp2_with fail
  go_ret
  exact ⟨rfl, HB4.out⟩
theorem tmod3 (k : Nat) : ((k : Int)).tmod 3 = ((k % 3 : Nat) : Int) ∧ ((k : Int)) % 3 = ((k % 3 : Nat) : Int) := ⟨rfl, rfl⟩
set_option maxRecDepth 100000 in
theorem lawNil (n : Nat) (w : World) (hn : n < 256) : Calls Try.prog 6 #[.int .u8 (n : Int)] w fun e w' => e = .returned (.bool true) ∧ Below w.heap.size w w' := by
  have HF := Lib.hid (fixed_any w)
  have HNx := Lib.hid (fun W => next_nil W)
  have HLf := Lib.hid (fun W => left_nil W)
  obtain ⟨K3, hK3⟩ : ∃ K3, K3 = n % 3 := ⟨_, rfl⟩
  have ht3 : ((n : Int)).tmod 3 = (K3 : Int) := by rw [hK3]; rfl
  have hm3 : ((n : Int)) % 3 = (K3 : Int) := by rw [hK3]; rfl
  have hK3l : K3 < 3 := by rw [hK3]; omega
  clear hK3
  go_enter Try.func6, Try.ntmps6
  go_wp2_with fail
  refine HF.out.mono ?_
  clear HF
  rintro e w1 ⟨rfl, hB1⟩
  have HB1 := Lib.hid hB1
  clear hB1
  go_wp2_with fail
  go_loopw [11] (fun iv wr => ∃ j : Nat, iv = .int .u8 j ∧ j ≤ K3 + 1 ∧ Hid (Below w.heap.size w wr)) (fun iv _ => K3 + 1 - (intOf iv).toNat)
  case atStart => exact ⟨0, rfl, by omega, HB1⟩
  case round =>
    clear HB1 ht3 hm3
    obtain ⟨j, rfl, hj, HB⟩ := hrel
    by_cases hjl : j < K3 + 1
    · have dj : decide ((j : Int) < (1 : Int) + (K3 : Int)) = true := decide_eq_true (by omega)
      have dj2 : decide ((j : Int) < (K3 : Int) + 1) = true := decide_eq_true (by omega)
      go_wp2_with fail
      refine (HNx.out _).mono ?_
      rintro e w2 ⟨rfl, rfl⟩
      go_wp2_with fail
      refine (HLf.out _).mono ?_
      rintro e w2 ⟨rfl, rfl⟩
      go_wp2_with fail
      go_roundw
      case rel => exact ⟨j + 1, by go_num, by omega, HB⟩
      case measure => simp [intOf]; omega
    · have dj : decide ((j : Int) < (1 : Int) + (K3 : Int)) = false := decide_eq_false (by omega)
      have dj2 : decide ((j : Int) < (K3 : Int) + 1) = false := decide_eq_false (by omega)
      go_wp2_with fail
      go_ret
      exact ⟨rfl, HB.out⟩
end Go.Proofs.Ytacjbgmnoiimbaa
