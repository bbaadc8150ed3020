/- Steps written: walked (printed by genWireG.py). -/
import Derived.Test.YtacjbgmnoiimbabGreatWrF
namespace Go.Proofs.YtacjbgmnoiimbabGreat
set_option linter.unusedVariables false
set_option linter.unusedSimpArgs false
open Go.RowKit

/-- a step where it lies -/
structure SE where
  p : Tri
  r : RE
  s : Tri
  ba : Option Addr
  bc : Nat
  bs : List Int
instance : Inhabited SE := ⟨⟨default, default, default, none, 0, []⟩⟩
def SE.plain (x : SE) : PS := (x.p, x.r.plain, x.s, x.bs)
def seC (x : SE) : List Value := [.string x.p.1, .string x.p.2.1, .string x.p.2.2, .int .i64 x.r.k, .string x.r.A, .string x.r.B, .slice x.r.a x.r.ps.length x.r.c, .string x.s.1, .string x.s.2.1, .string x.s.2.2, .slice x.ba x.bs.length x.bc]
def seE (x : SE) : List UInt8 := stepE x.plain
def seB (x : SE) (d : Nat) : Prop := badR x.r.plain d
theorem stepE_eq (p : Tri) (r : PR) (s : Tri) (bs : List Int) : stepE (p, r, s, bs) = triE p ++ (encR r ++ (triE s ++ listE intE bs)) := rfl
set_option maxRecDepth 100000 in
set_option maxHeartbeats 1000000 in
theorem wstep_any (g : Nat) (a b c : ByteArray) (k : Int) (A B : ByteArray) (ra : Option Addr) (rc : Nat) (ps : List PR) (e f h : ByteArray) (ba : Option Addr) (bc : Nat) (bs : List Int) (l : List UInt8) (d : Nat) (odd : Bool) (W : World) (hS : SAt 78 W g l d odd) (hk : iok k) (hl : l.length + (stepE ((a, b, c), PR.mk k A B ps, (e, f, h), bs)).length ≤ 1000000000) (hd : d + 2 * (stepE ((a, b, c), PR.mk k A B ps, (e, f, h), bs)).length ≤ 2000000000) (hbs : IsEls intC 1 W ba bs) (hne : 0 < bs.length → ∀ p, ba = some p → p.block ≠ g) (hn : bs.length ≤ 1000000000) (hbk : ∀ x ∈ bs, iok x) (hlist : RListOk g W ra rc ps) :
    Calls Tryz.prog 29 #[.pointer (some ⟨g, 0, none⟩), .agg #[.string a, .string b, .string c, .int .i64 k, .string A, .string B, .slice ra ps.length rc, .string e, .string f, .string h, .slice ba bs.length bc]] W (WD g l d odd (stepE ((a, b, c), PR.mk k A B ps, (e, f, h), bs)) (badR (.mk k A B ps)) W) := by
  have hL := hl
  have hD := hd
  rw [stepE_eq] at hL hD
  simp only [List.length_append] at hL hD
  have hgx := hS.lt
  have HB1 := Lib.hid ((Below.refl W.heap.size W).alloc (Nat.le_refl _) (.cells #[.string a, .string b, .string c, .int .i64 k, .string A, .string B, .slice ra ps.length rc, .string e, .string f, .string h, .slice ba bs.length bc] 74))
  have HX0 := Lib.hid (heap_alloc_new W (.cells #[.string a, .string b, .string c, .int .i64 k, .string A, .string B, .slice ra ps.length rc, .string e, .string f, .string h, .slice ba bs.length bc] 74))
  have HS0 := Lib.hid (hS.below HB1.out)
  have HG0 : Hid (W.grownBy (W.alloc (.cells #[.string a, .string b, .string c, .int .i64 k, .string A, .string B, .slice ra ps.length rc, .string e, .string f, .string h, .slice ba bs.length bc] 74)) (some g)) := World.grownBy_alloc W _ _
  have HList := Lib.hid hlist
  have HBs := Lib.hid hbs
  have HNe := Lib.hid hne
  have HBk := Lib.hid hbk
  clear hS hlist HB1 hbs hne hbk
  go_enter Tryz.func29, Tryz.ntmps29
  go_upto_region 1 with (fail)
  generalize (W.alloc (.cells #[.string a, .string b, .string c, .int .i64 k, .string A, .string B, .slice ra ps.length rc, .string e, .string f, .string h, .slice ba bs.length bc] 74)) = W0 at *
  obtain ⟨x, hx⟩ : ∃ x, x = W.heap.size := ⟨_, rfl⟩
  rw [← hx] at hgx HX0
  have hxg : x ≠ g := by omega
  rw [← hx]
  clear hx
  have q0 := heap_cell HX0.out 0
  have q1 := heap_cell HX0.out 1
  have q2 := heap_cell HX0.out 2
  have q3 := heap_cell HX0.out 3
  have q4 := heap_cell HX0.out 4
  have q5 := heap_cell HX0.out 5
  have q6 := heap_cell HX0.out 6
  have q7 := heap_cell HX0.out 7
  have q8 := heap_cell HX0.out 8
  have q9 := heap_cell HX0.out 9
  have q10 := heap_cell HX0.out 10
  simp at q0 q1 q2 q3 q4 q5 q6 q7 q8 q9 q10
  have HC := Lib.hid (wpoint_any g a b c l d odd W0 HS0.out (by omega))
  go_wp2_with fail
  refine HC.out.mono ?_
  clear HC
  rintro ee W1 ⟨rfl, hg, l1, d1, o1, hs, st⟩
  have HX1 := Lib.hid (grown_block hg HX0.out hxg)
  have HG1 := Lib.hid (grownBy_trans HG0.out hg)
  have HS1 := Lib.hid hs
  have HT1 := Lib.hid st
  have hz1 := st.1
  have hy1 := st.2.1
  clear hg hs st q0 q1 q2 q3 q4 q5 q6 q7 q8 q9 q10
  have q0 := heap_cell HX1.out 0
  have q1 := heap_cell HX1.out 1
  have q2 := heap_cell HX1.out 2
  have q3 := heap_cell HX1.out 3
  have q4 := heap_cell HX1.out 4
  have q5 := heap_cell HX1.out 5
  have q6 := heap_cell HX1.out 6
  have q7 := heap_cell HX1.out 7
  have q8 := heap_cell HX1.out 8
  have q9 := heap_cell HX1.out 9
  have q10 := heap_cell HX1.out 10
  simp at q0 q1 q2 q3 q4 q5 q6 q7 q8 q9 q10
  have HC := Lib.hid (wrule_any g k A B ra rc ps l1 d1 o1 W1 HS1.out hk (by omega) (by omega) (HList.out.grown HG1.out))
  go_wp2_with fail
  refine HC.out.mono ?_
  clear HC
  rintro ee W2 ⟨rfl, hg, l2, d2, o2, hs, st⟩
  have HX2 := Lib.hid (grown_block hg HX1.out hxg)
  have HG2 := Lib.hid (grownBy_trans HG1.out hg)
  have HS2 := Lib.hid hs
  have HT2 := Lib.hid st
  have hz2 := st.1
  have hy2 := st.2.1
  clear hg hs st q0 q1 q2 q3 q4 q5 q6 q7 q8 q9 q10
  have q0 := heap_cell HX2.out 0
  have q1 := heap_cell HX2.out 1
  have q2 := heap_cell HX2.out 2
  have q3 := heap_cell HX2.out 3
  have q4 := heap_cell HX2.out 4
  have q5 := heap_cell HX2.out 5
  have q6 := heap_cell HX2.out 6
  have q7 := heap_cell HX2.out 7
  have q8 := heap_cell HX2.out 8
  have q9 := heap_cell HX2.out 9
  have q10 := heap_cell HX2.out 10
  simp at q0 q1 q2 q3 q4 q5 q6 q7 q8 q9 q10
  have HC := Lib.hid (wsub_any g e f h l2 d2 o2 W2 HS2.out (by omega))
  go_wp2_with fail
  refine HC.out.mono ?_
  clear HC
  rintro ee W3 ⟨rfl, hg, l3, d3, o3, hs, st⟩
  have HX3 := Lib.hid (grown_block hg HX2.out hxg)
  have HG3 := Lib.hid (grownBy_trans HG2.out hg)
  have HS3 := Lib.hid hs
  have HT3 := Lib.hid st
  have hz3 := st.1
  have hy3 := st.2.1
  clear hg hs st q0 q1 q2 q3 q4 q5 q6 q7 q8 q9 q10
  have q0 := heap_cell HX3.out 0
  have q1 := heap_cell HX3.out 1
  have q2 := heap_cell HX3.out 2
  have q3 := heap_cell HX3.out 3
  have q4 := heap_cell HX3.out 4
  have q5 := heap_cell HX3.out 5
  have q6 := heap_cell HX3.out 6
  have q7 := heap_cell HX3.out 7
  have q8 := heap_cell HX3.out 8
  have q9 := heap_cell HX3.out 9
  have q10 := heap_cell HX3.out 10
  simp at q0 q1 q2 q3 q4 q5 q6 q7 q8 q9 q10
  have HC := Lib.hid (lint_any g ba bc bs l3 d3 o3 W3 HS3.out (HBs.out.grown HNe.out HG3.out) HNe.out HBk.out (by omega) hn)
  go_wp2_with fail
  refine HC.out.mono ?_
  clear HC
  rintro ee W4 ⟨rfl, hg, l4, d4, o4, hs, st⟩
  have HX4 := Lib.hid (grown_block hg HX3.out hxg)
  have HG4 := Lib.hid (grownBy_trans HG3.out hg)
  have HS4 := Lib.hid hs
  have HT4 := Lib.hid st
  have hz4 := st.1
  have hy4 := st.2.1
  clear hg hs st q0 q1 q2 q3 q4 q5 q6 q7 q8 q9 q10
  have HE : Hid (WD g l d odd (stepE ((a, b, c), PR.mk k A B ps, (e, f, h), bs)) (badR (.mk k A B ps)) W (.returned (.tuple #[])) W4) := ⟨rfl, HG4.out, l4, d4, o4, HS4.out, (HT1.out.trans (HT2.out.trans (HT3.out.trans HT4.out))).to (by rw [stepE_eq]) (fun d => by simp)⟩
  go_wp2_with fail
  go_end0
  exact HE.out
set_option maxRecDepth 100000 in
set_option maxHeartbeats 2000000 in
theorem lstep_any (g : Nat) (a : Option Addr) (cap : Nat) (xs : List SE) (l : List UInt8) (d : Nat) (odd : Bool) (W : World) (h : SAt 78 W g l d odd) (hx : IsEls seC 11 W a xs) (hne : 0 < xs.length → ∀ p, a = some p → p.block ≠ g) (hdd : d + 2 * (listE seE xs).length ≤ 2000000000) (hone : ∀ x ∈ xs, (∀ (l1 : List UInt8) (d1 : Nat) (o1 : Bool) (W1 : World), SAt 78 W1 g l1 d1 o1 → W.grownBy W1 (some g) → l1.length + (seE x).length ≤ 1000000000 → d1 + 2 * (seE x).length ≤ 2000000000 → Calls Tryz.prog 29 #[.pointer (some ⟨g, 0, none⟩), .agg #[.string x.p.1, .string x.p.2.1, .string x.p.2.2, .int .i64 x.r.k, .string x.r.A, .string x.r.B, .slice x.r.a x.r.ps.length x.r.c, .string x.s.1, .string x.s.2.1, .string x.s.2.2, .slice x.ba x.bs.length x.bc]] W1 (WD g l1 d1 o1 (seE x) (seB x) W1))) (hl : l.length + (listE seE xs).length ≤ 1000000000) (hn : xs.length ≤ 1000000000) :
    Calls Tryz.prog 28 #[.pointer (some ⟨g, 0, none⟩), .slice a xs.length cap, .func (.func 29) #[.pointer (some ⟨g, 0, none⟩)] #[]] W (WD g l d odd (listE seE xs) (fun d => ∃ x ∈ xs, seB x d) W) := by
  have hL := hl
  unfold listE at hL
  rw [List.length_append] at hL
  have HX := Lib.hid hx
  have HC := Lib.hid (wnum_any g xs.length l d odd W h (by omega) (by omega))
  have HNe := Lib.hid hne
  clear h hx hne
  have HOne := Lib.hid hone
  clear hone
  have hDD := hdd
  unfold listE at hDD
  rw [List.length_append] at hDD
  go_enter Tryz.func28, Tryz.ntmps28
  go_wp2_with fail
  refine HC.out.mono ?_
  clear HC
  intro e w1 hw
  obtain ⟨rfl, _⟩ := id hw
  have HR0 : Hid (LRel g l d odd seE (seB) xs 0 W w1) := lrel_start hw
  clear hw
  go_wp2_with fail
  go_loopw [15] (fun i wr => ∃ j : Nat, i = .int .i64 j ∧ j ≤ xs.length ∧ Hid (LRel g l d odd seE (seB) xs j W wr)) (fun i _ => xs.length - (intOf i).toNat)
  case atStart => exact ⟨0, rfl, Nat.zero_le _, HR0⟩
  case round =>
    clear HR0
    obtain ⟨j, rfl, hj, hst⟩ := hrel
    by_cases hjl : j < xs.length
    · obtain ⟨hg, l1, d1, o1, hs, hstp⟩ := hst.out
      have dj : decide ((j : Int) < (xs.length : Int)) = true := decide_eq_true (by omega)
      have hij : (j : Int) < (xs.length : Int) := by omega
      obtain ⟨b, off, rfl, hb, hc⟩ := (HX.out.grown HNe.out hg) (by omega)
      have c0 := hc j hjl 0 (by omega)
      have c1 := hc j hjl 1 (by omega)
      have c2 := hc j hjl 2 (by omega)
      have c3 := hc j hjl 3 (by omega)
      have c4 := hc j hjl 4 (by omega)
      have c5 := hc j hjl 5 (by omega)
      have c6 := hc j hjl 6 (by omega)
      have c7 := hc j hjl 7 (by omega)
      have c8 := hc j hjl 8 (by omega)
      have c9 := hc j hjl 9 (by omega)
      have c10 := hc j hjl 10 (by omega)
      have hbt := body_take seE xs j hjl
      have hble := body_le seE xs (j + 1)
      have HN := Lib.hid (fun e w1 w2 (hg1 : wr.grownBy w1 (some g)) => lrel_next (w1 := w1) (w2 := w2) (e := e) hjl hg hstp hg1)
      have HOdd := Lib.hid (fun (w2 : World) (hg2 : wr.grownBy w2 (some g)) (hb2 : Below wr.heap.size wr w2) (ho : o1 = true) => (by subst ho; exact (lrel_odd (e := .returned (.tuple #[])) rfl (grownBy_trans hg hg2) (hs.below hb2) hstp) : WD g l d odd (listE seE xs) (fun d => ∃ x ∈ xs, seB x d) W (.returned (.tuple #[])) w2))
      have hz := hstp.1
      rw [List.length_append] at hz
      rw [hbt, List.length_append] at hble
      obtain ⟨sa, sc, hsg, _⟩ := id hs
      have HS := Lib.hid hs
      have HO1 := Lib.hid (HOne.out _ (getD_mem hjl))
      have HGr := Lib.hid hg
      have hzd := hstp.2.1
      rw [List.length_append] at hzd
      clear hst hc hbt hs hstp hg
      generalize xs.getD j default = x at *
      simp [seC] at c0 c1 c2 c3 c4 c5 c6 c7 c8 c9 c10
      have HB0 := Lib.hid ((Below.refl wr.heap.size wr).alloc (Nat.le_refl _) (.cells #[.string x.p.1, .string x.p.2.1, .string x.p.2.2, .int .i64 x.r.k, .string x.r.A, .string x.r.B, .slice x.r.a x.r.ps.length x.r.c, .string x.s.1, .string x.s.2.1, .string x.s.2.2, .slice x.ba x.bs.length x.bc] 74))
      have HG0 : Hid (wr.grownBy (wr.alloc (.cells #[.string x.p.1, .string x.p.2.1, .string x.p.2.2, .int .i64 x.r.k, .string x.r.A, .string x.r.B, .slice x.r.a x.r.ps.length x.r.c, .string x.s.1, .string x.s.2.1, .string x.s.2.2, .slice x.ba x.bs.length x.bc] 74)) (some g)) := World.grownBy_alloc wr _ _
      have q2 := heap_cell ((HB0.out.block g (heap_lt hsg)).trans hsg) 2
      simp at q2
      clear hsg
      cases o1 with
      | true =>
        have HE := Lib.hid (HOdd.out _ HG0.out HB0.out rfl)
        clear HOdd HN
        go_wp2_with fail
        go_end0
        exact HE.out
      | false =>
        have HCall := Lib.hid (HO1.out l1 d1 false (wr.alloc (.cells #[.string x.p.1, .string x.p.2.1, .string x.p.2.2, .int .i64 x.r.k, .string x.r.A, .string x.r.B, .slice x.r.a x.r.ps.length x.r.c, .string x.s.1, .string x.s.2.1, .string x.s.2.2, .slice x.ba x.bs.length x.bc] 74)) (HS.out.below HB0.out) (grownBy_trans HGr.out HG0.out) (by omega) (by omega))
        clear HOdd
        go_wp2_with fail
        refine HCall.out.mono ?_
        clear HCall
        intro e w2 hw
        obtain ⟨rfl, _⟩ := id hw
        have HRN := Lib.hid (HN.out _ _ w2 HG0.out hw)
        clear hw HN
        go_wp2_with fail
        go_roundw
        case rel => exact ⟨j + 1, by go_num, by omega, HRN⟩
        case measure => simp [intOf]; omega
    · obtain rfl : j = xs.length := by omega
      have dj : decide ((xs.length : Int) < (xs.length : Int)) = false := by simp
      have HE := Lib.hid (lrel_end (e := .returned (.tuple #[])) rfl hst.out)
      clear hst
      go_wp2_with fail
      go_end0
      exact HE.out
end Go.Proofs.YtacjbgmnoiimbabGreat
