/- Lists written: walked (printed by genWireL.py). -/
import Derived.Test.YtacjbgmnoiimbabGreatEls
namespace Go.Proofs.YtacjbgmnoiimbabGreat
set_option linter.unusedVariables false
set_option linter.unusedSimpArgs false
open Go.RowKit

theorem getD_mem {T : Type} [Inhabited T] {xs : List T} {i : Nat} (h : i < xs.length) : xs.getD i default ∈ xs := by
  rw [List.getD_eq_getElem?_getD, List.getElem?_eq_getElem h]; exact List.getElem_mem h
set_option maxRecDepth 100000 in
set_option maxHeartbeats 2000000 in
theorem lobj_any (g : Nat) (a : Option Addr) (cap : Nat) (xs : List Duo) (l : List UInt8) (d : Nat) (odd : Bool) (W : World) (h : SAt 78 W g l d odd) (hx : IsEls duoC 2 W a xs) (hne : 0 < xs.length → ∀ p, a = some p → p.block ≠ g) (hl : l.length + (listE duoE xs).length ≤ 1000000000) (hn : xs.length ≤ 1000000000) :
    Calls Tryz.prog 24 #[.pointer (some ⟨g, 0, none⟩), .slice a xs.length cap, .func (.func 25) #[.pointer (some ⟨g, 0, none⟩)] #[]] W (WD g l d odd (listE duoE xs) (fun _ => False) W) := by
  have hL := hl
  unfold listE at hL
  rw [List.length_append] at hL
  have HX := Lib.hid hx
  have HC := Lib.hid (wnum_any g xs.length l d odd W h (by omega) (by omega))
  have HNe := Lib.hid hne
  clear h hx hne
  go_enter Tryz.func24, Tryz.ntmps24
  go_wp2_with fail
  refine HC.out.mono ?_
  clear HC
  intro e w1 hw
  obtain ⟨rfl, _⟩ := id hw
  have HR0 : Hid (LRel g l d odd duoE (fun _ _ => False) xs 0 W w1) := lrel_start hw
  clear hw
  go_wp2_with fail
  go_loopw [15] (fun i wr => ∃ j : Nat, i = .int .i64 j ∧ j ≤ xs.length ∧ Hid (LRel g l d odd duoE (fun _ _ => False) xs j W wr)) (fun i _ => xs.length - (intOf i).toNat)
  case atStart => exact ⟨0, rfl, Nat.zero_le _, HR0⟩
  case round =>
    clear HR0
    obtain ⟨j, rfl, hj, hst⟩ := hrel
    by_cases hjl : j < xs.length
    · obtain ⟨hg, l1, d1, o1, hs, hstp⟩ := hst.out
      have dj : decide ((j : Int) < (xs.length : Int)) = true := decide_eq_true (by omega)
      have hij : (j : Int) < (xs.length : Int) := by omega
      obtain ⟨b, off, rfl, hb, hc⟩ := (HX.out.grown HNe.out hg) (by omega)
      have c0 := hc j hjl 0 (by omega)
      have c1 := hc j hjl 1 (by omega)
      have hbt := body_take duoE xs j hjl
      have hble := body_le duoE xs (j + 1)
      have HN := Lib.hid (fun e w1 w2 (hg1 : wr.grownBy w1 (some g)) => lrel_next (w1 := w1) (w2 := w2) (e := e) hjl hg hstp hg1)
      have HOdd := Lib.hid (fun (w2 : World) (hg2 : wr.grownBy w2 (some g)) (hb2 : Below wr.heap.size wr w2) (ho : o1 = true) => (by subst ho; exact (lrel_odd (e := .returned (.tuple #[])) rfl (grownBy_trans hg hg2) (hs.below hb2) hstp).flat : WD g l d odd (listE duoE xs) (fun _ => False) W (.returned (.tuple #[])) w2))
      have hz := hstp.1
      rw [List.length_append] at hz
      rw [hbt, List.length_append] at hble
      obtain ⟨sa, sc, hsg, _⟩ := id hs
      have HS := Lib.hid hs
      clear hst hc hbt hs hstp hg
      generalize xs.getD j default = x at *
      obtain ⟨xa, xb⟩ := x
      simp [duoC] at c0 c1
      have HB0 := Lib.hid ((Below.refl wr.heap.size wr).alloc (Nat.le_refl _) (.cells #[.string xa, .string xb] 30))
      have HG0 : Hid (wr.grownBy (wr.alloc (.cells #[.string xa, .string xb] 30)) (some g)) := World.grownBy_alloc wr _ _
      have q2 := heap_cell ((HB0.out.block g (heap_lt hsg)).trans hsg) 2
      simp at q2
      clear hsg
      cases o1 with
      | true =>
        have HE := Lib.hid (HOdd.out _ HG0.out HB0.out rfl)
        clear HOdd HN
        go_wp2_with fail
        go_end0
        exact HE.out
      | false =>
        have HCall := Lib.hid (wobj_any g xa xb l1 d1 false (wr.alloc (.cells #[.string xa, .string xb] 30)) (HS.out.below HB0.out) (by omega))
        clear HOdd
        go_wp2_with fail
        refine HCall.out.mono ?_
        clear HCall
        intro e w2 hw
        obtain ⟨rfl, _⟩ := id hw
        have HRN := Lib.hid (HN.out _ _ w2 HG0.out hw)
        clear hw HN
        go_wp2_with fail
        go_roundw
        case rel => exact ⟨j + 1, by go_num, by omega, HRN⟩
        case measure => simp [intOf]; omega
    · obtain rfl : j = xs.length := by omega
      have dj : decide ((xs.length : Int) < (xs.length : Int)) = false := by simp
      have HE := Lib.hid (lrel_end (e := .returned (.tuple #[])) rfl hst.out).flat
      clear hst
      go_wp2_with fail
      go_end0
      exact HE.out
set_option maxRecDepth 100000 in
set_option maxHeartbeats 2000000 in
theorem lsub_any (g : Nat) (a : Option Addr) (cap : Nat) (xs : List Tri) (l : List UInt8) (d : Nat) (odd : Bool) (W : World) (h : SAt 78 W g l d odd) (hx : IsEls triC 3 W a xs) (hne : 0 < xs.length → ∀ p, a = some p → p.block ≠ g) (hl : l.length + (listE triE xs).length ≤ 1000000000) (hn : xs.length ≤ 1000000000) :
    Calls Tryz.prog 91 #[.pointer (some ⟨g, 0, none⟩), .slice a xs.length cap, .func (.func 87) #[.pointer (some ⟨g, 0, none⟩)] #[]] W (WD g l d odd (listE triE xs) (fun _ => False) W) := by
  have hL := hl
  unfold listE at hL
  rw [List.length_append] at hL
  have HX := Lib.hid hx
  have HC := Lib.hid (wnum_any g xs.length l d odd W h (by omega) (by omega))
  have HNe := Lib.hid hne
  clear h hx hne
  go_enter Tryz.func91, Tryz.ntmps91
  go_wp2_with fail
  refine HC.out.mono ?_
  clear HC
  intro e w1 hw
  obtain ⟨rfl, _⟩ := id hw
  have HR0 : Hid (LRel g l d odd triE (fun _ _ => False) xs 0 W w1) := lrel_start hw
  clear hw
  go_wp2_with fail
  go_loopw [15] (fun i wr => ∃ j : Nat, i = .int .i64 j ∧ j ≤ xs.length ∧ Hid (LRel g l d odd triE (fun _ _ => False) xs j W wr)) (fun i _ => xs.length - (intOf i).toNat)
  case atStart => exact ⟨0, rfl, Nat.zero_le _, HR0⟩
  case round =>
    clear HR0
    obtain ⟨j, rfl, hj, hst⟩ := hrel
    by_cases hjl : j < xs.length
    · obtain ⟨hg, l1, d1, o1, hs, hstp⟩ := hst.out
      have dj : decide ((j : Int) < (xs.length : Int)) = true := decide_eq_true (by omega)
      have hij : (j : Int) < (xs.length : Int) := by omega
      obtain ⟨b, off, rfl, hb, hc⟩ := (HX.out.grown HNe.out hg) (by omega)
      have c0 := hc j hjl 0 (by omega)
      have c1 := hc j hjl 1 (by omega)
      have c2 := hc j hjl 2 (by omega)
      have hbt := body_take triE xs j hjl
      have hble := body_le triE xs (j + 1)
      have HN := Lib.hid (fun e w1 w2 (hg1 : wr.grownBy w1 (some g)) => lrel_next (w1 := w1) (w2 := w2) (e := e) hjl hg hstp hg1)
      have HOdd := Lib.hid (fun (w2 : World) (hg2 : wr.grownBy w2 (some g)) (hb2 : Below wr.heap.size wr w2) (ho : o1 = true) => (by subst ho; exact (lrel_odd (e := .returned (.tuple #[])) rfl (grownBy_trans hg hg2) (hs.below hb2) hstp).flat : WD g l d odd (listE triE xs) (fun _ => False) W (.returned (.tuple #[])) w2))
      have hz := hstp.1
      rw [List.length_append] at hz
      rw [hbt, List.length_append] at hble
      obtain ⟨sa, sc, hsg, _⟩ := id hs
      have HS := Lib.hid hs
      clear hst hc hbt hs hstp hg
      generalize xs.getD j default = x at *
      obtain ⟨xa, xb, xc⟩ := x
      simp [triC] at c0 c1 c2
      have HB0 := Lib.hid ((Below.refl wr.heap.size wr).alloc (Nat.le_refl _) (.cells #[.string xa, .string xb, .string xc] 60))
      have HG0 : Hid (wr.grownBy (wr.alloc (.cells #[.string xa, .string xb, .string xc] 60)) (some g)) := World.grownBy_alloc wr _ _
      have q2 := heap_cell ((HB0.out.block g (heap_lt hsg)).trans hsg) 2
      simp at q2
      clear hsg
      cases o1 with
      | true =>
        have HE := Lib.hid (HOdd.out _ HG0.out HB0.out rfl)
        clear HOdd HN
        go_wp2_with fail
        go_end0
        exact HE.out
      | false =>
        have HCall := Lib.hid (wsub_any g xa xb xc l1 d1 false (wr.alloc (.cells #[.string xa, .string xb, .string xc] 60)) (HS.out.below HB0.out) (by omega))
        clear HOdd
        go_wp2_with fail
        refine HCall.out.mono ?_
        clear HCall
        intro e w2 hw
        obtain ⟨rfl, _⟩ := id hw
        have HRN := Lib.hid (HN.out _ _ w2 HG0.out hw)
        clear hw HN
        go_wp2_with fail
        go_roundw
        case rel => exact ⟨j + 1, by go_num, by omega, HRN⟩
        case measure => simp [intOf]; omega
    · obtain rfl : j = xs.length := by omega
      have dj : decide ((xs.length : Int) < (xs.length : Int)) = false := by simp
      have HE := Lib.hid (lrel_end (e := .returned (.tuple #[])) rfl hst.out).flat
      clear hst
      go_wp2_with fail
      go_end0
      exact HE.out
set_option maxRecDepth 100000 in
set_option maxHeartbeats 2000000 in
theorem ltuple_any (g : Nat) (a : Option Addr) (cap : Nat) (xs : List Six) (l : List UInt8) (d : Nat) (odd : Bool) (W : World) (h : SAt 78 W g l d odd) (hx : IsEls sixC 6 W a xs) (hne : 0 < xs.length → ∀ p, a = some p → p.block ≠ g) (hl : l.length + (listE sixE xs).length ≤ 1000000000) (hn : xs.length ≤ 1000000000) :
    Calls Tryz.prog 22 #[.pointer (some ⟨g, 0, none⟩), .slice a xs.length cap, .func (.func 23) #[.pointer (some ⟨g, 0, none⟩)] #[]] W (WD g l d odd (listE sixE xs) (fun _ => False) W) := by
  have hL := hl
  unfold listE at hL
  rw [List.length_append] at hL
  have HX := Lib.hid hx
  have HC := Lib.hid (wnum_any g xs.length l d odd W h (by omega) (by omega))
  have HNe := Lib.hid hne
  clear h hx hne
  go_enter Tryz.func22, Tryz.ntmps22
  go_wp2_with fail
  refine HC.out.mono ?_
  clear HC
  intro e w1 hw
  obtain ⟨rfl, _⟩ := id hw
  have HR0 : Hid (LRel g l d odd sixE (fun _ _ => False) xs 0 W w1) := lrel_start hw
  clear hw
  go_wp2_with fail
  go_loopw [15] (fun i wr => ∃ j : Nat, i = .int .i64 j ∧ j ≤ xs.length ∧ Hid (LRel g l d odd sixE (fun _ _ => False) xs j W wr)) (fun i _ => xs.length - (intOf i).toNat)
  case atStart => exact ⟨0, rfl, Nat.zero_le _, HR0⟩
  case round =>
    clear HR0
    obtain ⟨j, rfl, hj, hst⟩ := hrel
    by_cases hjl : j < xs.length
    · obtain ⟨hg, l1, d1, o1, hs, hstp⟩ := hst.out
      have dj : decide ((j : Int) < (xs.length : Int)) = true := decide_eq_true (by omega)
      have hij : (j : Int) < (xs.length : Int) := by omega
      obtain ⟨b, off, rfl, hb, hc⟩ := (HX.out.grown HNe.out hg) (by omega)
      have c0 := hc j hjl 0 (by omega)
      have c1 := hc j hjl 1 (by omega)
      have c2 := hc j hjl 2 (by omega)
      have c3 := hc j hjl 3 (by omega)
      have c4 := hc j hjl 4 (by omega)
      have c5 := hc j hjl 5 (by omega)
      have hbt := body_take sixE xs j hjl
      have hble := body_le sixE xs (j + 1)
      have HN := Lib.hid (fun e w1 w2 (hg1 : wr.grownBy w1 (some g)) => lrel_next (w1 := w1) (w2 := w2) (e := e) hjl hg hstp hg1)
      have HOdd := Lib.hid (fun (w2 : World) (hg2 : wr.grownBy w2 (some g)) (hb2 : Below wr.heap.size wr w2) (ho : o1 = true) => (by subst ho; exact (lrel_odd (e := .returned (.tuple #[])) rfl (grownBy_trans hg hg2) (hs.below hb2) hstp).flat : WD g l d odd (listE sixE xs) (fun _ => False) W (.returned (.tuple #[])) w2))
      have hz := hstp.1
      rw [List.length_append] at hz
      rw [hbt, List.length_append] at hble
      obtain ⟨sa, sc, hsg, _⟩ := id hs
      have HS := Lib.hid hs
      clear hst hc hbt hs hstp hg
      generalize xs.getD j default = x at *
      obtain ⟨⟨xa, xb, xc⟩, xd, xe, xf⟩ := x
      simp [sixC, triC] at c0 c1 c2 c3 c4 c5
      have HB0 := Lib.hid ((Below.refl wr.heap.size wr).alloc (Nat.le_refl _) (.cells #[.string xa, .string xb, .string xc, .string xd, .string xe, .string xf] 62))
      have HG0 : Hid (wr.grownBy (wr.alloc (.cells #[.string xa, .string xb, .string xc, .string xd, .string xe, .string xf] 62)) (some g)) := World.grownBy_alloc wr _ _
      have q2 := heap_cell ((HB0.out.block g (heap_lt hsg)).trans hsg) 2
      simp at q2
      clear hsg
      cases o1 with
      | true =>
        have HE := Lib.hid (HOdd.out _ HG0.out HB0.out rfl)
        clear HOdd HN
        go_wp2_with fail
        go_end0
        exact HE.out
      | false =>
        have HCall := Lib.hid (wtuple_any g xa xb xc xd xe xf l1 d1 false (wr.alloc (.cells #[.string xa, .string xb, .string xc, .string xd, .string xe, .string xf] 62)) (HS.out.below HB0.out) (by omega))
        clear HOdd
        go_wp2_with fail
        refine HCall.out.mono ?_
        clear HCall
        intro e w2 hw
        obtain ⟨rfl, _⟩ := id hw
        have HRN := Lib.hid (HN.out _ _ w2 HG0.out hw)
        clear hw HN
        go_wp2_with fail
        go_roundw
        case rel => exact ⟨j + 1, by go_num, by omega, HRN⟩
        case measure => simp [intOf]; omega
    · obtain rfl : j = xs.length := by omega
      have dj : decide ((xs.length : Int) < (xs.length : Int)) = false := by simp
      have HE := Lib.hid (lrel_end (e := .returned (.tuple #[])) rfl hst.out).flat
      clear hst
      go_wp2_with fail
      go_end0
      exact HE.out
set_option maxRecDepth 100000 in
set_option maxHeartbeats 2000000 in
theorem lask_any (g : Nat) (a : Option Addr) (cap : Nat) (xs : List Six) (l : List UInt8) (d : Nat) (odd : Bool) (W : World) (h : SAt 78 W g l d odd) (hx : IsEls sixC 6 W a xs) (hne : 0 < xs.length → ∀ p, a = some p → p.block ≠ g) (hl : l.length + (listE sixE xs).length ≤ 1000000000) (hn : xs.length ≤ 1000000000) :
    Calls Tryz.prog 70 #[.pointer (some ⟨g, 0, none⟩), .slice a xs.length cap, .func (.func 71) #[.pointer (some ⟨g, 0, none⟩)] #[]] W (WD g l d odd (listE sixE xs) (fun _ => False) W) := by
  have hL := hl
  unfold listE at hL
  rw [List.length_append] at hL
  have HX := Lib.hid hx
  have HC := Lib.hid (wnum_any g xs.length l d odd W h (by omega) (by omega))
  have HNe := Lib.hid hne
  clear h hx hne
  go_enter Tryz.func70, Tryz.ntmps70
  go_wp2_with fail
  refine HC.out.mono ?_
  clear HC
  intro e w1 hw
  obtain ⟨rfl, _⟩ := id hw
  have HR0 : Hid (LRel g l d odd sixE (fun _ _ => False) xs 0 W w1) := lrel_start hw
  clear hw
  go_wp2_with fail
  go_loopw [15] (fun i wr => ∃ j : Nat, i = .int .i64 j ∧ j ≤ xs.length ∧ Hid (LRel g l d odd sixE (fun _ _ => False) xs j W wr)) (fun i _ => xs.length - (intOf i).toNat)
  case atStart => exact ⟨0, rfl, Nat.zero_le _, HR0⟩
  case round =>
    clear HR0
    obtain ⟨j, rfl, hj, hst⟩ := hrel
    by_cases hjl : j < xs.length
    · obtain ⟨hg, l1, d1, o1, hs, hstp⟩ := hst.out
      have dj : decide ((j : Int) < (xs.length : Int)) = true := decide_eq_true (by omega)
      have hij : (j : Int) < (xs.length : Int) := by omega
      obtain ⟨b, off, rfl, hb, hc⟩ := (HX.out.grown HNe.out hg) (by omega)
      have c0 := hc j hjl 0 (by omega)
      have c1 := hc j hjl 1 (by omega)
      have c2 := hc j hjl 2 (by omega)
      have c3 := hc j hjl 3 (by omega)
      have c4 := hc j hjl 4 (by omega)
      have c5 := hc j hjl 5 (by omega)
      have hbt := body_take sixE xs j hjl
      have hble := body_le sixE xs (j + 1)
      have HN := Lib.hid (fun e w1 w2 (hg1 : wr.grownBy w1 (some g)) => lrel_next (w1 := w1) (w2 := w2) (e := e) hjl hg hstp hg1)
      have HOdd := Lib.hid (fun (w2 : World) (hg2 : wr.grownBy w2 (some g)) (hb2 : Below wr.heap.size wr w2) (ho : o1 = true) => (by subst ho; exact (lrel_odd (e := .returned (.tuple #[])) rfl (grownBy_trans hg hg2) (hs.below hb2) hstp).flat : WD g l d odd (listE sixE xs) (fun _ => False) W (.returned (.tuple #[])) w2))
      have hz := hstp.1
      rw [List.length_append] at hz
      rw [hbt, List.length_append] at hble
      obtain ⟨sa, sc, hsg, _⟩ := id hs
      have HS := Lib.hid hs
      clear hst hc hbt hs hstp hg
      generalize xs.getD j default = x at *
      obtain ⟨⟨xa, xb, xc⟩, xd, xe, xf⟩ := x
      simp [sixC, triC] at c0 c1 c2 c3 c4 c5
      have HB0 := Lib.hid ((Below.refl wr.heap.size wr).alloc (Nat.le_refl _) (.cells #[.string xa, .string xb, .string xc, .string xd, .string xe, .string xf] 136))
      have HG0 : Hid (wr.grownBy (wr.alloc (.cells #[.string xa, .string xb, .string xc, .string xd, .string xe, .string xf] 136)) (some g)) := World.grownBy_alloc wr _ _
      have q2 := heap_cell ((HB0.out.block g (heap_lt hsg)).trans hsg) 2
      simp at q2
      clear hsg
      cases o1 with
      | true =>
        have HE := Lib.hid (HOdd.out _ HG0.out HB0.out rfl)
        clear HOdd HN
        go_wp2_with fail
        go_end0
        exact HE.out
      | false =>
        have HCall := Lib.hid (wask_any g xa xb xc xd xe xf l1 d1 false (wr.alloc (.cells #[.string xa, .string xb, .string xc, .string xd, .string xe, .string xf] 136)) (HS.out.below HB0.out) (by omega))
        clear HOdd
        go_wp2_with fail
        refine HCall.out.mono ?_
        clear HCall
        intro e w2 hw
        obtain ⟨rfl, _⟩ := id hw
        have HRN := Lib.hid (HN.out _ _ w2 HG0.out hw)
        clear hw HN
        go_wp2_with fail
        go_roundw
        case rel => exact ⟨j + 1, by go_num, by omega, HRN⟩
        case measure => simp [intOf]; omega
    · obtain rfl : j = xs.length := by omega
      have dj : decide ((xs.length : Int) < (xs.length : Int)) = false := by simp
      have HE := Lib.hid (lrel_end (e := .returned (.tuple #[])) rfl hst.out).flat
      clear hst
      go_wp2_with fail
      go_end0
      exact HE.out
set_option maxRecDepth 100000 in
set_option maxHeartbeats 2000000 in
theorem lwrite_any (g : Nat) (a : Option Addr) (cap : Nat) (xs : List Wrt) (l : List UInt8) (d : Nat) (odd : Bool) (W : World) (h : SAt 78 W g l d odd) (hx : IsEls wrtC 7 W a xs) (hne : 0 < xs.length → ∀ p, a = some p → p.block ≠ g) (hl : l.length + (listE wrtE xs).length ≤ 1000000000) (hn : xs.length ≤ 1000000000) :
    Calls Tryz.prog 66 #[.pointer (some ⟨g, 0, none⟩), .slice a xs.length cap, .func (.func 67) #[.pointer (some ⟨g, 0, none⟩)] #[]] W (WD g l d odd (listE wrtE xs) (fun _ => False) W) := by
  have hL := hl
  unfold listE at hL
  rw [List.length_append] at hL
  have HX := Lib.hid hx
  have HC := Lib.hid (wnum_any g xs.length l d odd W h (by omega) (by omega))
  have HNe := Lib.hid hne
  clear h hx hne
  go_enter Tryz.func66, Tryz.ntmps66
  go_wp2_with fail
  refine HC.out.mono ?_
  clear HC
  intro e w1 hw
  obtain ⟨rfl, _⟩ := id hw
  have HR0 : Hid (LRel g l d odd wrtE (fun _ _ => False) xs 0 W w1) := lrel_start hw
  clear hw
  go_wp2_with fail
  go_loopw [15] (fun i wr => ∃ j : Nat, i = .int .i64 j ∧ j ≤ xs.length ∧ Hid (LRel g l d odd wrtE (fun _ _ => False) xs j W wr)) (fun i _ => xs.length - (intOf i).toNat)
  case atStart => exact ⟨0, rfl, Nat.zero_le _, HR0⟩
  case round =>
    clear HR0
    obtain ⟨j, rfl, hj, hst⟩ := hrel
    by_cases hjl : j < xs.length
    · obtain ⟨hg, l1, d1, o1, hs, hstp⟩ := hst.out
      have dj : decide ((j : Int) < (xs.length : Int)) = true := decide_eq_true (by omega)
      have hij : (j : Int) < (xs.length : Int) := by omega
      obtain ⟨b, off, rfl, hb, hc⟩ := (HX.out.grown HNe.out hg) (by omega)
      have c0 := hc j hjl 0 (by omega)
      have c1 := hc j hjl 1 (by omega)
      have c2 := hc j hjl 2 (by omega)
      have c3 := hc j hjl 3 (by omega)
      have c4 := hc j hjl 4 (by omega)
      have c5 := hc j hjl 5 (by omega)
      have c6 := hc j hjl 6 (by omega)
      have hbt := body_take wrtE xs j hjl
      have hble := body_le wrtE xs (j + 1)
      have HN := Lib.hid (fun e w1 w2 (hg1 : wr.grownBy w1 (some g)) => lrel_next (w1 := w1) (w2 := w2) (e := e) hjl hg hstp hg1)
      have HOdd := Lib.hid (fun (w2 : World) (hg2 : wr.grownBy w2 (some g)) (hb2 : Below wr.heap.size wr w2) (ho : o1 = true) => (by subst ho; exact (lrel_odd (e := .returned (.tuple #[])) rfl (grownBy_trans hg hg2) (hs.below hb2) hstp).flat : WD g l d odd (listE wrtE xs) (fun _ => False) W (.returned (.tuple #[])) w2))
      have hz := hstp.1
      rw [List.length_append] at hz
      rw [hbt, List.length_append] at hble
      obtain ⟨sa, sc, hsg, _⟩ := id hs
      have HS := Lib.hid hs
      clear hst hc hbt hs hstp hg
      generalize xs.getD j default = x at *
      obtain ⟨xq, ⟨⟨xa, xb, xc⟩, xd, xe, xf⟩⟩ := x
      simp [wrtC, sixC, triC] at c0 c1 c2 c3 c4 c5 c6
      have HB0 := Lib.hid ((Below.refl wr.heap.size wr).alloc (Nat.le_refl _) (.cells #[.bool xq, .string xa, .string xb, .string xc, .string xd, .string xe, .string xf] 65))
      have HG0 : Hid (wr.grownBy (wr.alloc (.cells #[.bool xq, .string xa, .string xb, .string xc, .string xd, .string xe, .string xf] 65)) (some g)) := World.grownBy_alloc wr _ _
      have q2 := heap_cell ((HB0.out.block g (heap_lt hsg)).trans hsg) 2
      simp at q2
      clear hsg
      cases o1 with
      | true =>
        have HE := Lib.hid (HOdd.out _ HG0.out HB0.out rfl)
        clear HOdd HN
        go_wp2_with fail
        go_end0
        exact HE.out
      | false =>
        have HCall := Lib.hid (wwrite_any g xq xa xb xc xd xe xf l1 d1 false (wr.alloc (.cells #[.bool xq, .string xa, .string xb, .string xc, .string xd, .string xe, .string xf] 65)) (HS.out.below HB0.out) (by omega))
        clear HOdd
        go_wp2_with fail
        refine HCall.out.mono ?_
        clear HCall
        intro e w2 hw
        obtain ⟨rfl, _⟩ := id hw
        have HRN := Lib.hid (HN.out _ _ w2 HG0.out hw)
        clear hw HN
        go_wp2_with fail
        go_roundw
        case rel => exact ⟨j + 1, by go_num, by omega, HRN⟩
        case measure => simp [intOf]; omega
    · obtain rfl : j = xs.length := by omega
      have dj : decide ((xs.length : Int) < (xs.length : Int)) = false := by simp
      have HE := Lib.hid (lrel_end (e := .returned (.tuple #[])) rfl hst.out).flat
      clear hst
      go_wp2_with fail
      go_end0
      exact HE.out
set_option maxRecDepth 100000 in
set_option maxHeartbeats 2000000 in
theorem lpre_any (g : Nat) (a : Option Addr) (cap : Nat) (xs : List Wrt) (l : List UInt8) (d : Nat) (odd : Bool) (W : World) (h : SAt 78 W g l d odd) (hx : IsEls wrtC 7 W a xs) (hne : 0 < xs.length → ∀ p, a = some p → p.block ≠ g) (hl : l.length + (listE wrtE xs).length ≤ 1000000000) (hn : xs.length ≤ 1000000000) :
    Calls Tryz.prog 68 #[.pointer (some ⟨g, 0, none⟩), .slice a xs.length cap, .func (.func 69) #[.pointer (some ⟨g, 0, none⟩)] #[]] W (WD g l d odd (listE wrtE xs) (fun _ => False) W) := by
  have hL := hl
  unfold listE at hL
  rw [List.length_append] at hL
  have HX := Lib.hid hx
  have HC := Lib.hid (wnum_any g xs.length l d odd W h (by omega) (by omega))
  have HNe := Lib.hid hne
  clear h hx hne
  go_enter Tryz.func68, Tryz.ntmps68
  go_wp2_with fail
  refine HC.out.mono ?_
  clear HC
  intro e w1 hw
  obtain ⟨rfl, _⟩ := id hw
  have HR0 : Hid (LRel g l d odd wrtE (fun _ _ => False) xs 0 W w1) := lrel_start hw
  clear hw
  go_wp2_with fail
  go_loopw [15] (fun i wr => ∃ j : Nat, i = .int .i64 j ∧ j ≤ xs.length ∧ Hid (LRel g l d odd wrtE (fun _ _ => False) xs j W wr)) (fun i _ => xs.length - (intOf i).toNat)
  case atStart => exact ⟨0, rfl, Nat.zero_le _, HR0⟩
  case round =>
    clear HR0
    obtain ⟨j, rfl, hj, hst⟩ := hrel
    by_cases hjl : j < xs.length
    · obtain ⟨hg, l1, d1, o1, hs, hstp⟩ := hst.out
      have dj : decide ((j : Int) < (xs.length : Int)) = true := decide_eq_true (by omega)
      have hij : (j : Int) < (xs.length : Int) := by omega
      obtain ⟨b, off, rfl, hb, hc⟩ := (HX.out.grown HNe.out hg) (by omega)
      have c0 := hc j hjl 0 (by omega)
      have c1 := hc j hjl 1 (by omega)
      have c2 := hc j hjl 2 (by omega)
      have c3 := hc j hjl 3 (by omega)
      have c4 := hc j hjl 4 (by omega)
      have c5 := hc j hjl 5 (by omega)
      have c6 := hc j hjl 6 (by omega)
      have hbt := body_take wrtE xs j hjl
      have hble := body_le wrtE xs (j + 1)
      have HN := Lib.hid (fun e w1 w2 (hg1 : wr.grownBy w1 (some g)) => lrel_next (w1 := w1) (w2 := w2) (e := e) hjl hg hstp hg1)
      have HOdd := Lib.hid (fun (w2 : World) (hg2 : wr.grownBy w2 (some g)) (hb2 : Below wr.heap.size wr w2) (ho : o1 = true) => (by subst ho; exact (lrel_odd (e := .returned (.tuple #[])) rfl (grownBy_trans hg hg2) (hs.below hb2) hstp).flat : WD g l d odd (listE wrtE xs) (fun _ => False) W (.returned (.tuple #[])) w2))
      have hz := hstp.1
      rw [List.length_append] at hz
      rw [hbt, List.length_append] at hble
      obtain ⟨sa, sc, hsg, _⟩ := id hs
      have HS := Lib.hid hs
      clear hst hc hbt hs hstp hg
      generalize xs.getD j default = x at *
      obtain ⟨xq, ⟨⟨xa, xb, xc⟩, xd, xe, xf⟩⟩ := x
      simp [wrtC, sixC, triC] at c0 c1 c2 c3 c4 c5 c6
      have HB0 := Lib.hid ((Below.refl wr.heap.size wr).alloc (Nat.le_refl _) (.cells #[.bool xq, .string xa, .string xb, .string xc, .string xd, .string xe, .string xf] 132))
      have HG0 : Hid (wr.grownBy (wr.alloc (.cells #[.bool xq, .string xa, .string xb, .string xc, .string xd, .string xe, .string xf] 132)) (some g)) := World.grownBy_alloc wr _ _
      have q2 := heap_cell ((HB0.out.block g (heap_lt hsg)).trans hsg) 2
      simp at q2
      clear hsg
      cases o1 with
      | true =>
        have HE := Lib.hid (HOdd.out _ HG0.out HB0.out rfl)
        clear HOdd HN
        go_wp2_with fail
        go_end0
        exact HE.out
      | false =>
        have HCall := Lib.hid (wpre_any g xq xa xb xc xd xe xf l1 d1 false (wr.alloc (.cells #[.bool xq, .string xa, .string xb, .string xc, .string xd, .string xe, .string xf] 132)) (HS.out.below HB0.out) (by omega))
        clear HOdd
        go_wp2_with fail
        refine HCall.out.mono ?_
        clear HCall
        intro e w2 hw
        obtain ⟨rfl, _⟩ := id hw
        have HRN := Lib.hid (HN.out _ _ w2 HG0.out hw)
        clear hw HN
        go_wp2_with fail
        go_roundw
        case rel => exact ⟨j + 1, by go_num, by omega, HRN⟩
        case measure => simp [intOf]; omega
    · obtain rfl : j = xs.length := by omega
      have dj : decide ((xs.length : Int) < (xs.length : Int)) = false := by simp
      have HE := Lib.hid (lrel_end (e := .returned (.tuple #[])) rfl hst.out).flat
      clear hst
      go_wp2_with fail
      go_end0
      exact HE.out
set_option maxRecDepth 100000 in
set_option maxHeartbeats 2000000 in
theorem lbool_any (g : Nat) (a : Option Addr) (cap : Nat) (xs : List Bool) (l : List UInt8) (d : Nat) (odd : Bool) (W : World) (h : SAt 78 W g l d odd) (hx : IsEls boolC 1 W a xs) (hne : 0 < xs.length → ∀ p, a = some p → p.block ≠ g) (hl : l.length + (listE boolE xs).length ≤ 1000000000) (hn : xs.length ≤ 1000000000) :
    Calls Tryz.prog 20 #[.pointer (some ⟨g, 0, none⟩), .slice a xs.length cap, .func (.func 21) #[.pointer (some ⟨g, 0, none⟩)] #[]] W (WD g l d odd (listE boolE xs) (fun _ => False) W) := by
  have hL := hl
  unfold listE at hL
  rw [List.length_append] at hL
  have HX := Lib.hid hx
  have HC := Lib.hid (wnum_any g xs.length l d odd W h (by omega) (by omega))
  have HNe := Lib.hid hne
  clear h hx hne
  go_enter Tryz.func20, Tryz.ntmps20
  go_wp2_with fail
  refine HC.out.mono ?_
  clear HC
  intro e w1 hw
  obtain ⟨rfl, _⟩ := id hw
  have HR0 : Hid (LRel g l d odd boolE (fun _ _ => False) xs 0 W w1) := lrel_start hw
  clear hw
  go_wp2_with fail
  go_loopw [15] (fun i wr => ∃ j : Nat, i = .int .i64 j ∧ j ≤ xs.length ∧ Hid (LRel g l d odd boolE (fun _ _ => False) xs j W wr)) (fun i _ => xs.length - (intOf i).toNat)
  case atStart => exact ⟨0, rfl, Nat.zero_le _, HR0⟩
  case round =>
    clear HR0
    obtain ⟨j, rfl, hj, hst⟩ := hrel
    by_cases hjl : j < xs.length
    · obtain ⟨hg, l1, d1, o1, hs, hstp⟩ := hst.out
      have dj : decide ((j : Int) < (xs.length : Int)) = true := decide_eq_true (by omega)
      have hij : (j : Int) < (xs.length : Int) := by omega
      obtain ⟨b, off, rfl, hb, hc⟩ := (HX.out.grown HNe.out hg) (by omega)
      have c0 := hc j hjl 0 (by omega)
      have hbt := body_take boolE xs j hjl
      have hble := body_le boolE xs (j + 1)
      have HN := Lib.hid (fun e w1 w2 (hg1 : wr.grownBy w1 (some g)) => lrel_next (w1 := w1) (w2 := w2) (e := e) hjl hg hstp hg1)
      have HOdd := Lib.hid (fun (w2 : World) (hg2 : wr.grownBy w2 (some g)) (hb2 : Below wr.heap.size wr w2) (ho : o1 = true) => (by subst ho; exact (lrel_odd (e := .returned (.tuple #[])) rfl (grownBy_trans hg hg2) (hs.below hb2) hstp).flat : WD g l d odd (listE boolE xs) (fun _ => False) W (.returned (.tuple #[])) w2))
      have hz := hstp.1
      rw [List.length_append] at hz
      rw [hbt, List.length_append] at hble
      obtain ⟨sa, sc, hsg, _⟩ := id hs
      have HS := Lib.hid hs
      clear hst hc hbt hs hstp hg
      generalize xs.getD j default = x at *
      simp [boolC] at c0
      have HB0 := Lib.hid (Below.refl wr.heap.size wr)
      have HG0 : Hid (wr.grownBy wr (some g)) := grown_refl wr g
      have q2 := heap_cell ((HB0.out.block g (heap_lt hsg)).trans hsg) 2
      simp at q2
      clear hsg
      cases o1 with
      | true =>
        have HE := Lib.hid (HOdd.out _ HG0.out HB0.out rfl)
        clear HOdd HN
        go_wp2_with fail
        go_end0
        exact HE.out
      | false =>
        have HCall := Lib.hid (wtruth_any g x l1 d1 false wr (HS.out.below HB0.out) (by omega))
        clear HOdd
        go_wp2_with fail
        refine HCall.out.mono ?_
        clear HCall
        intro e w2 hw
        obtain ⟨rfl, _⟩ := id hw
        have HRN := Lib.hid (HN.out _ _ w2 HG0.out hw)
        clear hw HN
        go_wp2_with fail
        go_roundw
        case rel => exact ⟨j + 1, by go_num, by omega, HRN⟩
        case measure => simp [intOf]; omega
    · obtain rfl : j = xs.length := by omega
      have dj : decide ((xs.length : Int) < (xs.length : Int)) = false := by simp
      have HE := Lib.hid (lrel_end (e := .returned (.tuple #[])) rfl hst.out).flat
      clear hst
      go_wp2_with fail
      go_end0
      exact HE.out
set_option maxRecDepth 100000 in
set_option maxHeartbeats 2000000 in
theorem lint_any (g : Nat) (a : Option Addr) (cap : Nat) (xs : List Int) (l : List UInt8) (d : Nat) (odd : Bool) (W : World) (h : SAt 78 W g l d odd) (hx : IsEls intC 1 W a xs) (hne : 0 < xs.length → ∀ p, a = some p → p.block ≠ g) (hk : ∀ x ∈ xs, iok x) (hl : l.length + (listE intE xs).length ≤ 1000000000) (hn : xs.length ≤ 1000000000) :
    Calls Tryz.prog 90 #[.pointer (some ⟨g, 0, none⟩), .slice a xs.length cap, .func (.func 18) #[.pointer (some ⟨g, 0, none⟩)] #[]] W (WD g l d odd (listE intE xs) (fun _ => False) W) := by
  have hL := hl
  unfold listE at hL
  rw [List.length_append] at hL
  have HX := Lib.hid hx
  have HC := Lib.hid (wnum_any g xs.length l d odd W h (by omega) (by omega))
  have HNe := Lib.hid hne
  clear h hx hne
  have HK := Lib.hid hk
  clear hk
  go_enter Tryz.func90, Tryz.ntmps90
  go_wp2_with fail
  refine HC.out.mono ?_
  clear HC
  intro e w1 hw
  obtain ⟨rfl, _⟩ := id hw
  have HR0 : Hid (LRel g l d odd intE (fun _ _ => False) xs 0 W w1) := lrel_start hw
  clear hw
  go_wp2_with fail
  go_loopw [15] (fun i wr => ∃ j : Nat, i = .int .i64 j ∧ j ≤ xs.length ∧ Hid (LRel g l d odd intE (fun _ _ => False) xs j W wr)) (fun i _ => xs.length - (intOf i).toNat)
  case atStart => exact ⟨0, rfl, Nat.zero_le _, HR0⟩
  case round =>
    clear HR0
    obtain ⟨j, rfl, hj, hst⟩ := hrel
    by_cases hjl : j < xs.length
    · obtain ⟨hg, l1, d1, o1, hs, hstp⟩ := hst.out
      have dj : decide ((j : Int) < (xs.length : Int)) = true := decide_eq_true (by omega)
      have hij : (j : Int) < (xs.length : Int) := by omega
      obtain ⟨b, off, rfl, hb, hc⟩ := (HX.out.grown HNe.out hg) (by omega)
      have c0 := hc j hjl 0 (by omega)
      have hbt := body_take intE xs j hjl
      have hble := body_le intE xs (j + 1)
      have HN := Lib.hid (fun e w1 w2 (hg1 : wr.grownBy w1 (some g)) => lrel_next (w1 := w1) (w2 := w2) (e := e) hjl hg hstp hg1)
      have HOdd := Lib.hid (fun (w2 : World) (hg2 : wr.grownBy w2 (some g)) (hb2 : Below wr.heap.size wr w2) (ho : o1 = true) => (by subst ho; exact (lrel_odd (e := .returned (.tuple #[])) rfl (grownBy_trans hg hg2) (hs.below hb2) hstp).flat : WD g l d odd (listE intE xs) (fun _ => False) W (.returned (.tuple #[])) w2))
      have hz := hstp.1
      rw [List.length_append] at hz
      rw [hbt, List.length_append] at hble
      obtain ⟨sa, sc, hsg, _⟩ := id hs
      have HS := Lib.hid hs
      have hkx := HK.out _ (getD_mem hjl)
      clear hst hc hbt hs hstp hg
      generalize xs.getD j default = x at *
      simp [intC] at c0
      have HB0 := Lib.hid (Below.refl wr.heap.size wr)
      have HG0 : Hid (wr.grownBy wr (some g)) := grown_refl wr g
      have q2 := heap_cell ((HB0.out.block g (heap_lt hsg)).trans hsg) 2
      simp at q2
      clear hsg
      cases o1 with
      | true =>
        have HE := Lib.hid (HOdd.out _ HG0.out HB0.out rfl)
        clear HOdd HN
        go_wp2_with fail
        go_end0
        exact HE.out
      | false =>
        have HCall := Lib.hid (wint_any g x l1 d1 false wr (HS.out.below HB0.out) hkx (by omega))
        clear HOdd
        go_wp2_with fail
        refine HCall.out.mono ?_
        clear HCall
        intro e w2 hw
        obtain ⟨rfl, _⟩ := id hw
        have HRN := Lib.hid (HN.out _ _ w2 HG0.out hw)
        clear hw HN
        go_wp2_with fail
        go_roundw
        case rel => exact ⟨j + 1, by go_num, by omega, HRN⟩
        case measure => simp [intOf]; omega
    · obtain rfl : j = xs.length := by omega
      have dj : decide ((xs.length : Int) < (xs.length : Int)) = false := by simp
      have HE := Lib.hid (lrel_end (e := .returned (.tuple #[])) rfl hst.out).flat
      clear hst
      go_wp2_with fail
      go_end0
      exact HE.out
set_option maxRecDepth 100000 in
set_option maxHeartbeats 2000000 in
theorem larg_any (g : Nat) (a : Option Addr) (cap : Nat) (xs : List ArgT) (l : List UInt8) (d : Nat) (odd : Bool) (W : World) (h : SAt 78 W g l d odd) (hx : IsEls argC 4 W a xs) (hne : 0 < xs.length → ∀ p, a = some p → p.block ≠ g) (hk : ∀ x ∈ xs, iok x.2.1 ∧ iok x.2.2.1) (hl : l.length + (listE argE xs).length ≤ 1000000000) (hn : xs.length ≤ 1000000000) :
    Calls Tryz.prog 72 #[.pointer (some ⟨g, 0, none⟩), .slice a xs.length cap, .func (.func 73) #[.pointer (some ⟨g, 0, none⟩)] #[]] W (WD g l d odd (listE argE xs) (fun _ => False) W) := by
  have hL := hl
  unfold listE at hL
  rw [List.length_append] at hL
  have HX := Lib.hid hx
  have HC := Lib.hid (wnum_any g xs.length l d odd W h (by omega) (by omega))
  have HNe := Lib.hid hne
  clear h hx hne
  have HK := Lib.hid hk
  clear hk
  go_enter Tryz.func72, Tryz.ntmps72
  go_wp2_with fail
  refine HC.out.mono ?_
  clear HC
  intro e w1 hw
  obtain ⟨rfl, _⟩ := id hw
  have HR0 : Hid (LRel g l d odd argE (fun _ _ => False) xs 0 W w1) := lrel_start hw
  clear hw
  go_wp2_with fail
  go_loopw [15] (fun i wr => ∃ j : Nat, i = .int .i64 j ∧ j ≤ xs.length ∧ Hid (LRel g l d odd argE (fun _ _ => False) xs j W wr)) (fun i _ => xs.length - (intOf i).toNat)
  case atStart => exact ⟨0, rfl, Nat.zero_le _, HR0⟩
  case round =>
    clear HR0
    obtain ⟨j, rfl, hj, hst⟩ := hrel
    by_cases hjl : j < xs.length
    · obtain ⟨hg, l1, d1, o1, hs, hstp⟩ := hst.out
      have dj : decide ((j : Int) < (xs.length : Int)) = true := decide_eq_true (by omega)
      have hij : (j : Int) < (xs.length : Int) := by omega
      obtain ⟨b, off, rfl, hb, hc⟩ := (HX.out.grown HNe.out hg) (by omega)
      have c0 := hc j hjl 0 (by omega)
      have c1 := hc j hjl 1 (by omega)
      have c2 := hc j hjl 2 (by omega)
      have c3 := hc j hjl 3 (by omega)
      have hbt := body_take argE xs j hjl
      have hble := body_le argE xs (j + 1)
      have HN := Lib.hid (fun e w1 w2 (hg1 : wr.grownBy w1 (some g)) => lrel_next (w1 := w1) (w2 := w2) (e := e) hjl hg hstp hg1)
      have HOdd := Lib.hid (fun (w2 : World) (hg2 : wr.grownBy w2 (some g)) (hb2 : Below wr.heap.size wr w2) (ho : o1 = true) => (by subst ho; exact (lrel_odd (e := .returned (.tuple #[])) rfl (grownBy_trans hg hg2) (hs.below hb2) hstp).flat : WD g l d odd (listE argE xs) (fun _ => False) W (.returned (.tuple #[])) w2))
      have hz := hstp.1
      rw [List.length_append] at hz
      rw [hbt, List.length_append] at hble
      obtain ⟨sa, sc, hsg, _⟩ := id hs
      have HS := Lib.hid hs
      have hkx := HK.out _ (getD_mem hjl)
      clear hst hc hbt hs hstp hg
      generalize xs.getD j default = x at *
      obtain ⟨xa, xn, xk, xb⟩ := x
      simp [argC] at c0 c1 c2 c3
      have HB0 := Lib.hid ((Below.refl wr.heap.size wr).alloc (Nat.le_refl _) (.cells #[.string xa, .int .i64 xn, .int .i64 xk, .string xb] 142))
      have HG0 : Hid (wr.grownBy (wr.alloc (.cells #[.string xa, .int .i64 xn, .int .i64 xk, .string xb] 142)) (some g)) := World.grownBy_alloc wr _ _
      have q2 := heap_cell ((HB0.out.block g (heap_lt hsg)).trans hsg) 2
      simp at q2
      clear hsg
      cases o1 with
      | true =>
        have HE := Lib.hid (HOdd.out _ HG0.out HB0.out rfl)
        clear HOdd HN
        go_wp2_with fail
        go_end0
        exact HE.out
      | false =>
        have HCall := Lib.hid (warg_any g xa xn xk xb l1 d1 false (wr.alloc (.cells #[.string xa, .int .i64 xn, .int .i64 xk, .string xb] 142)) (HS.out.below HB0.out) hkx.1 hkx.2 (by omega))
        clear HOdd
        go_wp2_with fail
        refine HCall.out.mono ?_
        clear HCall
        intro e w2 hw
        obtain ⟨rfl, _⟩ := id hw
        have HRN := Lib.hid (HN.out _ _ w2 HG0.out hw)
        clear hw HN
        go_wp2_with fail
        go_roundw
        case rel => exact ⟨j + 1, by go_num, by omega, HRN⟩
        case measure => simp [intOf]; omega
    · obtain rfl : j = xs.length := by omega
      have dj : decide ((xs.length : Int) < (xs.length : Int)) = false := by simp
      have HE := Lib.hid (lrel_end (e := .returned (.tuple #[])) rfl hst.out).flat
      clear hst
      go_wp2_with fail
      go_end0
      exact HE.out
set_option maxRecDepth 100000 in
set_option maxHeartbeats 2000000 in
theorem levent_any (g : Nat) (a : Option Addr) (cap : Nat) (xs : List Evt) (l : List UInt8) (d : Nat) (odd : Bool) (W : World) (h : SAt 78 W g l d odd) (hx : IsEls evtC 8 W a xs) (hne : 0 < xs.length → ∀ p, a = some p → p.block ≠ g) (hk : ∀ x ∈ xs, x.1 < 18446744073709551616) (hl : l.length + (listE evtE xs).length ≤ 1000000000) (hn : xs.length ≤ 1000000000) :
    Calls Tryz.prog 26 #[.pointer (some ⟨g, 0, none⟩), .slice a xs.length cap, .func (.func 27) #[.pointer (some ⟨g, 0, none⟩)] #[]] W (WD g l d odd (listE evtE xs) (fun _ => False) W) := by
  have hL := hl
  unfold listE at hL
  rw [List.length_append] at hL
  have HX := Lib.hid hx
  have HC := Lib.hid (wnum_any g xs.length l d odd W h (by omega) (by omega))
  have HNe := Lib.hid hne
  clear h hx hne
  have HK := Lib.hid hk
  clear hk
  go_enter Tryz.func26, Tryz.ntmps26
  go_wp2_with fail
  refine HC.out.mono ?_
  clear HC
  intro e w1 hw
  obtain ⟨rfl, _⟩ := id hw
  have HR0 : Hid (LRel g l d odd evtE (fun _ _ => False) xs 0 W w1) := lrel_start hw
  clear hw
  go_wp2_with fail
  go_loopw [15] (fun i wr => ∃ j : Nat, i = .int .i64 j ∧ j ≤ xs.length ∧ Hid (LRel g l d odd evtE (fun _ _ => False) xs j W wr)) (fun i _ => xs.length - (intOf i).toNat)
  case atStart => exact ⟨0, rfl, Nat.zero_le _, HR0⟩
  case round =>
    clear HR0
    obtain ⟨j, rfl, hj, hst⟩ := hrel
    by_cases hjl : j < xs.length
    · obtain ⟨hg, l1, d1, o1, hs, hstp⟩ := hst.out
      have dj : decide ((j : Int) < (xs.length : Int)) = true := decide_eq_true (by omega)
      have hij : (j : Int) < (xs.length : Int) := by omega
      obtain ⟨b, off, rfl, hb, hc⟩ := (HX.out.grown HNe.out hg) (by omega)
      have c0 := hc j hjl 0 (by omega)
      have c1 := hc j hjl 1 (by omega)
      have c2 := hc j hjl 2 (by omega)
      have c3 := hc j hjl 3 (by omega)
      have c4 := hc j hjl 4 (by omega)
      have c5 := hc j hjl 5 (by omega)
      have c6 := hc j hjl 6 (by omega)
      have c7 := hc j hjl 7 (by omega)
      have hbt := body_take evtE xs j hjl
      have hble := body_le evtE xs (j + 1)
      have HN := Lib.hid (fun e w1 w2 (hg1 : wr.grownBy w1 (some g)) => lrel_next (w1 := w1) (w2 := w2) (e := e) hjl hg hstp hg1)
      have HOdd := Lib.hid (fun (w2 : World) (hg2 : wr.grownBy w2 (some g)) (hb2 : Below wr.heap.size wr w2) (ho : o1 = true) => (by subst ho; exact (lrel_odd (e := .returned (.tuple #[])) rfl (grownBy_trans hg hg2) (hs.below hb2) hstp).flat : WD g l d odd (listE evtE xs) (fun _ => False) W (.returned (.tuple #[])) w2))
      have hz := hstp.1
      rw [List.length_append] at hz
      rw [hbt, List.length_append] at hble
      obtain ⟨sa, sc, hsg, _⟩ := id hs
      have HS := Lib.hid hs
      have hkx := HK.out _ (getD_mem hjl)
      clear hst hc hbt hs hstp hg
      generalize xs.getD j default = x at *
      obtain ⟨xv, xq, ⟨⟨xa, xb, xc⟩, xd, xe, xf⟩⟩ := x
      simp [evtC, wrtC, sixC, triC] at c0 c1 c2 c3 c4 c5 c6 c7
      have HB0 := Lib.hid ((Below.refl wr.heap.size wr).alloc (Nat.le_refl _) (.cells #[.int .u64 xv, .bool xq, .string xa, .string xb, .string xc, .string xd, .string xe, .string xf] 67))
      have HG0 : Hid (wr.grownBy (wr.alloc (.cells #[.int .u64 xv, .bool xq, .string xa, .string xb, .string xc, .string xd, .string xe, .string xf] 67)) (some g)) := World.grownBy_alloc wr _ _
      have q2 := heap_cell ((HB0.out.block g (heap_lt hsg)).trans hsg) 2
      simp at q2
      clear hsg
      cases o1 with
      | true =>
        have HE := Lib.hid (HOdd.out _ HG0.out HB0.out rfl)
        clear HOdd HN
        go_wp2_with fail
        go_end0
        exact HE.out
      | false =>
        have HCall := Lib.hid (wevent_any g xv xq xa xb xc xd xe xf l1 d1 false (wr.alloc (.cells #[.int .u64 xv, .bool xq, .string xa, .string xb, .string xc, .string xd, .string xe, .string xf] 67)) (HS.out.below HB0.out) hkx (by omega))
        clear HOdd
        go_wp2_with fail
        refine HCall.out.mono ?_
        clear HCall
        intro e w2 hw
        obtain ⟨rfl, _⟩ := id hw
        have HRN := Lib.hid (HN.out _ _ w2 HG0.out hw)
        clear hw HN
        go_wp2_with fail
        go_roundw
        case rel => exact ⟨j + 1, by go_num, by omega, HRN⟩
        case measure => simp [intOf]; omega
    · obtain rfl : j = xs.length := by omega
      have dj : decide ((xs.length : Int) < (xs.length : Int)) = false := by simp
      have HE := Lib.hid (lrel_end (e := .returned (.tuple #[])) rfl hst.out).flat
      clear hst
      go_wp2_with fail
      go_end0
      exact HE.out
end Go.Proofs.YtacjbgmnoiimbabGreat
