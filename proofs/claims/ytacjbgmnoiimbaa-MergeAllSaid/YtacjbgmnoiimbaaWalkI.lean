/- Does a row rise? both; heap.Init: walked. -/
import Derived.Test.YtacjbgmnoiimbaaWalkH
namespace Go.Proofs.Ytacjbgmnoiimbaa
set_option linter.unusedVariables false
set_option linter.unusedSimpArgs false
open Go.RowKit

def RisIs (l : List ByteArray) (e : Ending) : Prop := ∃ r : Bool, e = .returned (.bool r) ∧ (r = true ↔ RisesK l)
def RisesTo (l : List ByteArray) (j : Nat) : Prop := ∀ i, i + 1 < j → (l.getD i ByteArray.empty).data.toList < (l.getD (i + 1) ByteArray.empty).data.toList
theorem risesTo_all {l : List ByteArray} : RisesTo l l.length ↔ RisesK l := by
  unfold RisesTo RisesK Rises
  rw [length_keysOf]
  constructor
  · intro h i hi
    rw [keysOf_at, keysOf_at]; exact h i hi
  · intro h i hi
    have := h i hi
    rw [keysOf_at, keysOf_at] at this; exact this
theorem risesTo_next {l : List ByteArray} {j : Nat} (h : RisesTo l (j + 1)) (hlt : (l.getD j ByteArray.empty).data.toList < (l.getD (j + 1) ByteArray.empty).data.toList) : RisesTo l (j + 2) := fun i hi => by
  by_cases e : i = j
  · subst e; exact hlt
  · exact h i (by omega)
theorem risesTo_one (l : List ByteArray) : RisesTo l 1 := fun i hi => by omega
theorem not_rises {l : List ByteArray} {j : Nat} (hj : j + 1 < l.length) (h : ¬ (l.getD j ByteArray.empty).data.toList < (l.getD (j + 1) ByteArray.empty).data.toList) : ¬ RisesK l := fun k => h ((risesTo_all.2 k) j hj)
set_option maxRecDepth 100000 in
set_option maxHeartbeats 1000000 in
theorem rises_any (a : Option Addr) (cap : Nat) (l : List ByteArray) (w : World) (hl : l.length ≤ 1000000000) (h : IsStrs w a l) :
    Calls Try.prog 17 #[.slice a l.length cap] w fun e w' => RisIs l e ∧ w' = w := by
  have H := Lib.hid h
  clear h
  go_enter Try.func17, Try.ntmps17
  go_wp2_with fail
  go_loopw [7] (fun i wr => ∃ k : Nat, k ≤ l.length ∧ i = .int .i64 k ∧ Hid (RisesTo l k) ∧ wr = w) (fun i _ => l.length - (intOf i).toNat)
  case atStart => exact ⟨0, Nat.zero_le _, rfl, (fun i hi => by omega), rfl⟩
  case round =>
    obtain ⟨k, hkl, rfl, HE, rfl⟩ := hrel
    by_cases hlt : k < l.length
    · obtain ⟨b, off, rfl, hb, hc⟩ := H.out (by omega)
      have c1 := hc k hlt
      have hdk : decide ((k : Int) < (l.length : Int)) = true := decide_eq_true (by omega)
      have hij : (k : Int) < (l.length : Int) := by omega
      cases k with
      | zero =>
        have c2 := c1
        rw [Nat.add_zero] at c2
        clear c1 hc hdk hij
        have hij0 : (0 : Int) < (l.length : Int) := by omega
        have hdk0 : decide ((0 : Int) < (l.length : Int)) = true := decide_eq_true hij0
        go_wp2_with fail
        go_roundw
        case rel => exact ⟨1, by omega, by first | rfl | go_num, risesTo_one l, by first | rfl | trivial⟩
        case measure => simp [intOf]; omega
      | succ j =>
        have d0 : decide ((0 : Int) < (((j + 1 : Nat)) : Int)) = true := decide_eq_true (by omega)
        have c2 := hc j (by omega)
        have hij2 : (j : Int) < (l.length : Int) := by omega
        obtain ⟨J, hJ⟩ : ∃ J, J = j + 1 := ⟨_, rfl⟩
        have hw : IntKind.i64.wrap ((J : Int) - 1) = (j : Int) := by rw [IntKind.wrap_i64]; omega
        have hwj : (J : Int) - 1 = (j : Int) := by omega
        by_cases hr : (l.getD j ByteArray.empty).data.toList < (l.getD (j + 1) ByteArray.empty).data.toList
        · have HN := Lib.hid (risesTo_next HE.out hr)
          obtain ⟨t1, t2, t3⟩ := less_yes _ _ hr
          have t4 := text_eq_no (l.getD j ByteArray.empty) (l.getD (j + 1) ByteArray.empty) (fun e => by rw [e] at hr; exact text_irr _ hr)
          clear hr HE hc
          rw [← hJ] at c1 d0 hdk hij hlt hkl t1 t2 t3 t4 ⊢
          generalize l.getD J ByteArray.empty = y at *
          generalize l.getD j ByteArray.empty = x at *
          have HJ := Lib.hid hJ
          clear hJ
          go_wp2_with fail
          go_roundw
          case rel => exact ⟨J + 1, by omega, by go_num, by rw [HJ.out]; exact HN.out, by first | rfl | trivial⟩
          case measure => simp [intOf]; omega
        · have HN : Hid (RisIs l (.returned (.bool false))) := ⟨false, rfl, Iff.intro (fun h => by cases h) (fun h => absurd h (not_rises (by omega) hr))⟩
          obtain ⟨t1, t2⟩ := less_no _ _ hr
          clear hr HE hc
          rw [← hJ] at c1 d0 hdk hij hlt hkl t1 t2 ⊢
          generalize l.getD J ByteArray.empty = y at *
          generalize l.getD j ByteArray.empty = x at *
          have HJ := Lib.hid hJ
          clear hJ
          go_wp2_with fail
          go_ret
          exact ⟨HN.out, rfl⟩
    · obtain rfl : k = l.length := by omega
      have hdk : decide ((l.length : Int) < (l.length : Int)) = false := by simp
      have HN : Hid (RisIs l (.returned (.bool true))) := ⟨true, rfl, Iff.intro (fun _ => risesTo_all.1 HE.out) (fun _ => rfl)⟩
      go_wp2_with fail
      go_ret
      exact ⟨HN.out, rfl⟩
set_option maxRecDepth 100000 in
set_option maxHeartbeats 1000000 in
theorem refrises_any (a : Option Addr) (cap : Nat) (l : List ByteArray) (w : World) (hl : l.length ≤ 1000000000) (h : IsStrs w a l) :
    Calls Try.prog 9 #[.slice a l.length cap] w fun e w' => RisIs l e ∧ ∃ n, w' = w.drewN n := by
  have H := Lib.hid h
  clear h
  go_enter Try.func9, Try.ntmps9
  go_wp2_with fail
  go_loopw [3] (fun i wr => ∃ k : Nat, k ≤ l.length + 1 ∧ 1 ≤ k ∧ i = .int .i64 k ∧ Hid (RisesTo l k) ∧ Hid (∃ n, wr = w.drewN n)) (fun i _ => l.length + 1 - (intOf i).toNat)
  case atStart => exact ⟨1, by omega, Nat.le_refl _, rfl, risesTo_one l, ⟨0, rfl⟩⟩
  case round =>
    obtain ⟨K, hkl, hk1, rfl, HE, HW⟩ := hrel
    obtain ⟨n0, hw0⟩ := HW.out
    by_cases hlt : K < l.length
    · obtain ⟨b, off, rfl, hb, hc⟩ := (H.out.below (by rw [hw0]; exact Below.drewN (Below.refl _ _) n0 : Below w.heap.size w wr)) (by omega)
      have c1 := hc K hlt
      have hdk : decide ((K : Int) < (l.length : Int)) = true := decide_eq_true (by omega)
      have hij : (K : Int) < (l.length : Int) := by omega
      obtain ⟨j, hJ⟩ : ∃ j, K = j + 1 := ⟨K - 1, by omega⟩
      have c2 := hc j (by omega)
      have hij2 : (j : Int) < (l.length : Int) := by omega
      have hw : IntKind.i64.wrap ((K : Int) - 1) = (j : Int) := by rw [IntKind.wrap_i64]; omega
      have hwj : (K : Int) - 1 = (j : Int) := by omega
      have hwk : IntKind.i64.wrap ((K : Int) + 1) = (K : Int) + 1 := by rw [IntKind.wrap_i64]; omega
      by_cases hr : (l.getD j ByteArray.empty).data.toList < (l.getD K ByteArray.empty).data.toList
      · have HN := Lib.hid (risesTo_next (j := j) (by rw [← hJ]; exact HE.out) (by rw [← hJ]; exact hr))
        obtain ⟨t1, t2, t3⟩ := less_yes _ _ hr
        have t4 := text_eq_no (l.getD j ByteArray.empty) (l.getD K ByteArray.empty) (fun e => by rw [e] at hr; exact text_irr _ hr)
        clear hr HE hc HW
        generalize l.getD K ByteArray.empty = y at *
        generalize l.getD j ByteArray.empty = x at *
        have HJ := Lib.hid hJ
        have HW0 := Lib.hid hw0
        clear hJ hw0
        go_wp2_with (first | go_quiet (fail))
        go_roundw
        case rel => exact ⟨K + 1, by omega, by omega, by go_num, by rw [HJ.out]; exact HN.out, by rw [HW0.out]; exact ⟨_, World.drewN_drewN _ _ _⟩⟩
        case measure => simp [intOf]; omega
      · have HN : Hid (RisIs l (.returned (.bool false))) := ⟨false, rfl, Iff.intro (fun h => by cases h) (fun h => absurd h (not_rises (j := j) (by omega) (by rw [← hJ]; exact hr)))⟩
        obtain ⟨t1, t2⟩ := less_no _ _ hr
        clear hr HE hc HW
        generalize l.getD K ByteArray.empty = y at *
        generalize l.getD j ByteArray.empty = x at *
        have HJ := Lib.hid hJ
        have HW0 := Lib.hid hw0
        clear hJ hw0
        go_wp2_with (first | go_quiet (fail))
        go_ret
        exact ⟨HN.out, by rw [HW0.out]; exact ⟨_, World.drewN_drewN _ _ _⟩⟩
    · have hdk : decide ((K : Int) < (l.length : Int)) = false := decide_eq_false (by omega)
      have HN : Hid (RisIs l (.returned (.bool true))) := ⟨true, rfl, Iff.intro (fun _ => risesTo_all.1 (fun i hi => HE.out i (by omega))) (fun _ => rfl)⟩
      go_wp2_with fail
      go_ret
      exact ⟨HN.out, ⟨_, rfl⟩⟩
def InitIs (B m : Nat) (v : Value) (rs : List RR) (w : World) (e : Ending) (w' : World) : Prop :=
  e = .returned (.tuple #[]) ∧ ∃ rs', PileAt B w' m v rs' ∧ SameR rs.length rs rs' ∧ HeapFrom rs' rs.length 0 ∧ Below B w w' ∧ KeepM w w'
def IRel (B m : Nat) (v : Value) (rs : List RR) (w : World) (k : Nat) (wr : World) : Prop := ∃ rs', PileAt B wr m v rs' ∧ SameR rs.length rs rs' ∧ HeapFrom rs' rs.length k ∧ Below B w wr ∧ KeepM w wr
set_option maxRecDepth 100000 in
set_option maxHeartbeats 1000000 in
theorem init_any (B m : Nat) (v : Value) (rs : List RR) (w : World) (h : PileAt B w m v rs) (hl : rs.length ≤ 100000) (hne : ∀ i, i < rs.length → 0 < (at_ rs i).keys.length) :
    Calls Try.prog 18 #[.iface 46 (.pointer (some ⟨m, 0, none⟩))] w (InitIs B m v rs w) := by
  obtain ⟨a, c, rfl⟩ := h.shape
  have hLen := meth_val 171 "Len" 40 Try.methLen m _ w (heap_cell h.1 0)
  have HLn := Lib.hid (len_any a rs.length c w)
  obtain ⟨k0, hk0⟩ : ∃ k0, k0 = rs.length / 2 := ⟨_, rfl⟩
  have hq : ((rs.length : Int)).tdiv 2 = (k0 : Int) := by rw [hk0]; rfl
  have hq2 : (rs.length : Int) / 2 = (k0 : Int) := by omega
  have hR0 : Hid (IRel B m (.slice a rs.length c) rs w k0 w) := ⟨rs, h, SameR.refl _ _, (fun i j h1 h2 h3 => by omega), Below.refl _ _, KeepM.refl _⟩
  have hk0l : k0 ≤ 100000 := by omega
  have HNe := Lib.hid hne
  have HK0 := Lib.hid hk0
  clear h hne hk0
  go_enter Try.func18, Try.ntmps18
  go_wp2_with fail
  refine HLn.out.mono ?_
  clear HLn
  rintro e w1 ⟨rfl, rfl⟩
  clear hLen
  go_wp2_with fail
  go_loopw [3] (fun i wr => ∃ k : Nat, k ≤ k0 ∧ i = .int .i64 ((k : Int) - 1) ∧ Hid (IRel B m (.slice a rs.length c) rs w1 k wr)) (fun i _ => (intOf i + 1).toNat)
  case atStart => exact ⟨k0, Nat.le_refl _, by first | rfl | go_num, hR0⟩
  case round =>
    clear hR0 hq hq2
    obtain ⟨k, hk, rfl, hst⟩ := hrel
    obtain ⟨rs', hp, hs, hh, hb, hm⟩ := hst.out
    cases k with
    | zero =>
      have HE : Hid (InitIs B m (.slice a rs.length c) rs w1 (.returned (.tuple #[])) wr) := ⟨rfl, rs', hp, hs, hh, hb, hm⟩
      clear hst hp hs hh hb hm
      go_wp2_with fail
      go_end0
      exact HE.out
    | succ i =>
      have hi1 : ((i + 1 : Nat) : Int) - 1 = (i : Int) := by omega
      have HD := Lib.hid (down_any B m _ rs' rs.length i wr hp (by rw [hs.1]; exact Nat.le_refl _) (by rw [hs.1]; omega) (by omega) (fun j hj => same_ne hs HNe.out j hj) hh)
      have HSm := Lib.hid hs
      have HB := Lib.hid hb
      have HM := Lib.hid hm
      clear hst hp hs hh hb hm
      rw [hi1]
      have d0 : decide ((0 : Int) ≤ (i : Int)) = true := decide_eq_true (by omega)
      clear hi1
      go_wp2_with fail
      refine HD.out.mono ?_
      clear HD
      rintro e w2 ⟨b, rs2, rfl, hp2, hs2, hh2, hb2, hm2⟩
      have HRN : Hid (IRel B m (.slice a rs.length c) rs w1 i w2) := ⟨rs2, hp2, HSm.out.trans hs2, hh2, HB.out.trans hb2, HM.out.trans hm2⟩
      clear hp2 hs2 hh2 hb2 hm2
      go_wp2_with fail
      go_roundw
      case rel => exact ⟨i, by omega, by first | rfl | go_num, HRN⟩
      case measure => first | (simp [intOf]; done) | (simp [intOf]; omega)
end Go.Proofs.Ytacjbgmnoiimbaa
