/- Rules, nodes, steps written: walked (printed by genWireT.py). -/
import Derived.Test.YtacjbgmnoiimbabGreatMem
namespace Go.Proofs.YtacjbgmnoiimbabGreat
set_option linter.unusedVariables false
set_option linter.unusedSimpArgs false
open Go.RowKit

set_option maxRecDepth 100000 in
set_option maxHeartbeats 2000000 in
theorem lrule_any (g : Nat) (a : Option Addr) (cap : Nat) (xs : List RE) (l : List UInt8) (d : Nat) (odd : Bool) (W : World) (h : SAt 78 W g l d odd) (hx : IsEls reC 4 W a xs) (hne : 0 < xs.length → ∀ p, a = some p → p.block ≠ g) (hdd : d + 2 * (listE reE xs).length ≤ 2000000000) (hone : ∀ x ∈ xs, (∀ (l1 : List UInt8) (d1 : Nat) (o1 : Bool) (W1 : World), SAt 78 W1 g l1 d1 o1 → W.grownBy W1 (some g) → l1.length + (reE x).length ≤ 1000000000 → d1 + 2 * (reE x).length ≤ 2000000000 → Calls Tryz.prog 89 #[.pointer (some ⟨g, 0, none⟩), .agg #[.int .i64 x.k, .string x.A, .string x.B, .slice x.a x.ps.length x.c]] W1 (WD g l1 d1 o1 (reE x) (reB x) W1))) (hl : l.length + (listE reE xs).length ≤ 1000000000) (hn : xs.length ≤ 1000000000) :
    Calls Tryz.prog 111 #[.pointer (some ⟨g, 0, none⟩), .slice a xs.length cap, .func (.func 89) #[.pointer (some ⟨g, 0, none⟩)] #[]] W (WD g l d odd (listE reE xs) (fun d => ∃ x ∈ xs, reB x d) W) := by
  have hL := hl
  unfold listE at hL
  rw [List.length_append] at hL
  have HX := Lib.hid hx
  have HC := Lib.hid (wnum_any g xs.length l d odd W h (by omega) (by omega))
  have HNe := Lib.hid hne
  clear h hx hne
  have HOne := Lib.hid hone
  clear hone
  have hDD := hdd
  unfold listE at hDD
  rw [List.length_append] at hDD
  go_enter Tryz.func111, Tryz.ntmps111
  go_wp2_with fail
  refine HC.out.mono ?_
  clear HC
  intro e w1 hw
  obtain ⟨rfl, _⟩ := id hw
  have HR0 : Hid (LRel g l d odd reE (reB) xs 0 W w1) := lrel_start hw
  clear hw
  go_wp2_with fail
  go_loopw [15] (fun i wr => ∃ j : Nat, i = .int .i64 j ∧ j ≤ xs.length ∧ Hid (LRel g l d odd reE (reB) xs j W wr)) (fun i _ => xs.length - (intOf i).toNat)
  case atStart => exact ⟨0, rfl, Nat.zero_le _, HR0⟩
  case round =>
    clear HR0
    obtain ⟨j, rfl, hj, hst⟩ := hrel
    by_cases hjl : j < xs.length
    · obtain ⟨hg, l1, d1, o1, hs, hstp⟩ := hst.out
      have dj : decide ((j : Int) < (xs.length : Int)) = true := decide_eq_true (by omega)
      have hij : (j : Int) < (xs.length : Int) := by omega
      obtain ⟨b, off, rfl, hb, hc⟩ := (HX.out.grown HNe.out hg) (by omega)
      have c0 := hc j hjl 0 (by omega)
      have c1 := hc j hjl 1 (by omega)
      have c2 := hc j hjl 2 (by omega)
      have c3 := hc j hjl 3 (by omega)
      have hbt := body_take reE xs j hjl
      have hble := body_le reE xs (j + 1)
      have HN := Lib.hid (fun e w1 w2 (hg1 : wr.grownBy w1 (some g)) => lrel_next (w1 := w1) (w2 := w2) (e := e) hjl hg hstp hg1)
      have HOdd := Lib.hid (fun (w2 : World) (hg2 : wr.grownBy w2 (some g)) (hb2 : Below wr.heap.size wr w2) (ho : o1 = true) => (by subst ho; exact (lrel_odd (e := .returned (.tuple #[])) rfl (grownBy_trans hg hg2) (hs.below hb2) hstp) : WD g l d odd (listE reE xs) (fun d => ∃ x ∈ xs, reB x d) W (.returned (.tuple #[])) w2))
      have hz := hstp.1
      rw [List.length_append] at hz
      rw [hbt, List.length_append] at hble
      obtain ⟨sa, sc, hsg, _⟩ := id hs
      have HS := Lib.hid hs
      have HO1 := Lib.hid (HOne.out _ (getD_mem hjl))
      have HGr := Lib.hid hg
      have hzd := hstp.2.1
      rw [List.length_append] at hzd
      clear hst hc hbt hs hstp hg
      generalize xs.getD j default = x at *
      simp [reC] at c0 c1 c2 c3
      have HB0 := Lib.hid ((Below.refl wr.heap.size wr).alloc (Nat.le_refl _) (.cells #[.int .i64 x.k, .string x.A, .string x.B, .slice x.a x.ps.length x.c] 71))
      have HG0 : Hid (wr.grownBy (wr.alloc (.cells #[.int .i64 x.k, .string x.A, .string x.B, .slice x.a x.ps.length x.c] 71)) (some g)) := World.grownBy_alloc wr _ _
      have q2 := heap_cell ((HB0.out.block g (heap_lt hsg)).trans hsg) 2
      simp at q2
      clear hsg
      cases o1 with
      | true =>
        have HE := Lib.hid (HOdd.out _ HG0.out HB0.out rfl)
        clear HOdd HN
        go_wp2_with fail
        go_end0
        exact HE.out
      | false =>
        have HCall := Lib.hid (HO1.out l1 d1 false (wr.alloc (.cells #[.int .i64 x.k, .string x.A, .string x.B, .slice x.a x.ps.length x.c] 71)) (HS.out.below HB0.out) (grownBy_trans HGr.out HG0.out) (by omega) (by omega))
        clear HOdd
        go_wp2_with fail
        refine HCall.out.mono ?_
        clear HCall
        intro e w2 hw
        obtain ⟨rfl, _⟩ := id hw
        have HRN := Lib.hid (HN.out _ _ w2 HG0.out hw)
        clear hw HN
        go_wp2_with fail
        go_roundw
        case rel => exact ⟨j + 1, by go_num, by omega, HRN⟩
        case measure => simp [intOf]; omega
    · obtain rfl : j = xs.length := by omega
      have dj : decide ((xs.length : Int) < (xs.length : Int)) = false := by simp
      have HE := Lib.hid (lrel_end (e := .returned (.tuple #[])) rfl hst.out)
      clear hst
      go_wp2_with fail
      go_end0
      exact HE.out
set_option maxRecDepth 100000 in
set_option maxHeartbeats 2000000 in
theorem lnode_any (g : Nat) (a : Option Addr) (cap : Nat) (xs : List NE) (l : List UInt8) (d : Nat) (odd : Bool) (W : World) (h : SAt 78 W g l d odd) (hx : IsEls neC 6 W a xs) (hne : 0 < xs.length → ∀ p, a = some p → p.block ≠ g) (hdd : d + 2 * (listE neE xs).length ≤ 2000000000) (hone : ∀ x ∈ xs, (∀ (l1 : List UInt8) (d1 : Nat) (o1 : Bool) (W1 : World), SAt 78 W1 g l1 d1 o1 → W.grownBy W1 (some g) → l1.length + (neE x).length ≤ 1000000000 → d1 + 2 * (neE x).length ≤ 2000000000 → Calls Tryz.prog 30 #[.pointer (some ⟨g, 0, none⟩), .agg #[.int .i64 x.k, .string x.t, .string x.i, .string x.r, .slice x.sa x.ss.length x.sc, .slice x.a x.ps.length x.c]] W1 (WD g l1 d1 o1 (neE x) (neB x) W1))) (hl : l.length + (listE neE xs).length ≤ 1000000000) (hn : xs.length ≤ 1000000000) :
    Calls Tryz.prog 94 #[.pointer (some ⟨g, 0, none⟩), .slice a xs.length cap, .func (.func 30) #[.pointer (some ⟨g, 0, none⟩)] #[]] W (WD g l d odd (listE neE xs) (fun d => ∃ x ∈ xs, neB x d) W) := by
  have hL := hl
  unfold listE at hL
  rw [List.length_append] at hL
  have HX := Lib.hid hx
  have HC := Lib.hid (wnum_any g xs.length l d odd W h (by omega) (by omega))
  have HNe := Lib.hid hne
  clear h hx hne
  have HOne := Lib.hid hone
  clear hone
  have hDD := hdd
  unfold listE at hDD
  rw [List.length_append] at hDD
  go_enter Tryz.func94, Tryz.ntmps94
  go_wp2_with fail
  refine HC.out.mono ?_
  clear HC
  intro e w1 hw
  obtain ⟨rfl, _⟩ := id hw
  have HR0 : Hid (LRel g l d odd neE (neB) xs 0 W w1) := lrel_start hw
  clear hw
  go_wp2_with fail
  go_loopw [15] (fun i wr => ∃ j : Nat, i = .int .i64 j ∧ j ≤ xs.length ∧ Hid (LRel g l d odd neE (neB) xs j W wr)) (fun i _ => xs.length - (intOf i).toNat)
  case atStart => exact ⟨0, rfl, Nat.zero_le _, HR0⟩
  case round =>
    clear HR0
    obtain ⟨j, rfl, hj, hst⟩ := hrel
    by_cases hjl : j < xs.length
    · obtain ⟨hg, l1, d1, o1, hs, hstp⟩ := hst.out
      have dj : decide ((j : Int) < (xs.length : Int)) = true := decide_eq_true (by omega)
      have hij : (j : Int) < (xs.length : Int) := by omega
      obtain ⟨b, off, rfl, hb, hc⟩ := (HX.out.grown HNe.out hg) (by omega)
      have c0 := hc j hjl 0 (by omega)
      have c1 := hc j hjl 1 (by omega)
      have c2 := hc j hjl 2 (by omega)
      have c3 := hc j hjl 3 (by omega)
      have c4 := hc j hjl 4 (by omega)
      have c5 := hc j hjl 5 (by omega)
      have hbt := body_take neE xs j hjl
      have hble := body_le neE xs (j + 1)
      have HN := Lib.hid (fun e w1 w2 (hg1 : wr.grownBy w1 (some g)) => lrel_next (w1 := w1) (w2 := w2) (e := e) hjl hg hstp hg1)
      have HOdd := Lib.hid (fun (w2 : World) (hg2 : wr.grownBy w2 (some g)) (hb2 : Below wr.heap.size wr w2) (ho : o1 = true) => (by subst ho; exact (lrel_odd (e := .returned (.tuple #[])) rfl (grownBy_trans hg hg2) (hs.below hb2) hstp) : WD g l d odd (listE neE xs) (fun d => ∃ x ∈ xs, neB x d) W (.returned (.tuple #[])) w2))
      have hz := hstp.1
      rw [List.length_append] at hz
      rw [hbt, List.length_append] at hble
      obtain ⟨sa, sc, hsg, _⟩ := id hs
      have HS := Lib.hid hs
      have HO1 := Lib.hid (HOne.out _ (getD_mem hjl))
      have HGr := Lib.hid hg
      have hzd := hstp.2.1
      rw [List.length_append] at hzd
      clear hst hc hbt hs hstp hg
      generalize xs.getD j default = x at *
      simp [neC] at c0 c1 c2 c3 c4 c5
      have HB0 := Lib.hid ((Below.refl wr.heap.size wr).alloc (Nat.le_refl _) (.cells #[.int .i64 x.k, .string x.t, .string x.i, .string x.r, .slice x.sa x.ss.length x.sc, .slice x.a x.ps.length x.c] 34))
      have HG0 : Hid (wr.grownBy (wr.alloc (.cells #[.int .i64 x.k, .string x.t, .string x.i, .string x.r, .slice x.sa x.ss.length x.sc, .slice x.a x.ps.length x.c] 34)) (some g)) := World.grownBy_alloc wr _ _
      have q2 := heap_cell ((HB0.out.block g (heap_lt hsg)).trans hsg) 2
      simp at q2
      clear hsg
      cases o1 with
      | true =>
        have HE := Lib.hid (HOdd.out _ HG0.out HB0.out rfl)
        clear HOdd HN
        go_wp2_with fail
        go_end0
        exact HE.out
      | false =>
        have HCall := Lib.hid (HO1.out l1 d1 false (wr.alloc (.cells #[.int .i64 x.k, .string x.t, .string x.i, .string x.r, .slice x.sa x.ss.length x.sc, .slice x.a x.ps.length x.c] 34)) (HS.out.below HB0.out) (grownBy_trans HGr.out HG0.out) (by omega) (by omega))
        clear HOdd
        go_wp2_with fail
        refine HCall.out.mono ?_
        clear HCall
        intro e w2 hw
        obtain ⟨rfl, _⟩ := id hw
        have HRN := Lib.hid (HN.out _ _ w2 HG0.out hw)
        clear hw HN
        go_wp2_with fail
        go_roundw
        case rel => exact ⟨j + 1, by go_num, by omega, HRN⟩
        case measure => simp [intOf]; omega
    · obtain rfl : j = xs.length := by omega
      have dj : decide ((xs.length : Int) < (xs.length : Int)) = false := by simp
      have HE := Lib.hid (lrel_end (e := .returned (.tuple #[])) rfl hst.out)
      clear hst
      go_wp2_with fail
      go_end0
      exact HE.out
end Go.Proofs.YtacjbgmnoiimbabGreat
