/- The reader of a record: walked. -/
import Derived.Test.YtbamohcaamgalaeWalkL
namespace Go.Proofs.Ytbamohcaamgalae
set_option linter.unusedVariables false
set_option linter.unusedSimpArgs false
open Go.RowKit

/-- the reader's block -/
def RdAt (w : World) (g : Nat) (w0 : World) (l : List UInt8) (odd : Bool) : Prop :=
  ∃ a cap, w.heap[g]? = some (.cells #[.slice a l.length cap, .bool odd] 57 (0, 0)) ∧ IsBytes w0 a l ∧ l.length ≤ cap
def stepL (odd : Bool) (e n : Nat) (l : List UInt8) : List UInt8 := if odd = false ∧ e = 0 then l.drop n else l
def stepO (odd : Bool) (e : Nat) : Bool := odd || e != 0
theorem rd_cells {w : World} {g n cap : Nat} {a : Option Addr} {odd : Bool} (h : w.heap[g]? = some (.cells #[.slice a n cap, .bool odd] 57 (0, 0))) :
    w.cell? ⟨g, 0, none⟩ = some (.slice a n cap) ∧ w.cell? ⟨g, 1, none⟩ = some (.bool odd) ∧ w.frozen? ⟨g, 0, none⟩ = false ∧ w.frozen? ⟨g, 1, none⟩ = false ∧ g < w.heap.size :=
  ⟨by rw [cell_of_row w g 0 _ _ _ h]; rfl, by rw [cell_of_row w g 1 _ _ _ h]; rfl, by simp [World.frozen?, h], by simp [World.frozen?, h], (Array.getElem?_eq_some_iff.1 h).1⟩
theorem rd_odd {w : World} {g n cap : Nat} {a : Option Addr} {odd : Bool} (h : w.heap[g]? = some (.cells #[.slice a n cap, .bool odd] 57 (0, 0))) (o2 : Bool) :
    (w.setCell ⟨g, 1, none⟩ (.bool o2)).heap[g]? = some (.cells #[.slice a n cap, .bool o2] 57 (0, 0)) := heap_setCell_same _ g 1 _ 57 (.bool o2) h
theorem rd_cut {w : World} {g n cap : Nat} {a : Option Addr} {odd : Bool} (h : w.heap[g]? = some (.cells #[.slice a n cap, .bool odd] 57 (0, 0))) (v : Value) :
    (w.setCell ⟨g, 0, none⟩ v).heap[g]? = some (.cells #[v, .bool odd] 57 (0, 0)) := heap_setCell_same _ g 0 _ 57 v h
theorem grown_cell (w : World) (g i : Nat) (x : Value) : w.grownBy (w.setCell ⟨g, i, none⟩ x) (some g) :=
  ⟨rfl, rfl, rfl, by simp, fun j hj hr => heap_setCell_other _ _ _ _ (fun e => hr (by rw [e]))⟩
set_option maxHeartbeats 1000000 in
theorem took_any (g n e : Nat) (w w0 : World) (l : List UInt8) (odd : Bool) (he : e ≤ 1000) (hn : odd = false → e = 0 → n ≤ l.length) (hl : l.length ≤ 1000000000) (h : RdAt w g w0 l odd) :
    Calls Try.prog 40 #[.pointer (some ⟨g, 0, none⟩), .int .i64 (n : Int), .int .i64 (e : Int)] w fun x w' => x = .returned (.tuple #[]) ∧ w.grownBy w' (some g) ∧ RdAt w' g w0 (stepL odd e n l) (stepO odd e) := by
  obtain ⟨i5, hi5, hy0, hy1, hy2⟩ := info_parts Try.info5
  obtain ⟨a, cap, hh, hb, hc⟩ := h
  obtain ⟨c0, c1, f0, f1, hgl⟩ := rd_cells hh
  have HH := Lib.hid hh
  have HB := Lib.hid hb
  clear hb hh
  cases odd with
  | true =>
    go_enter Try.func40, Try.ntmps40
    go_wp2_with fail
    go_end0
    exact ⟨rfl, grown_cell w g 1 _, a, cap, rd_odd HH.out true, HB.out, hc⟩
  | false =>
    by_cases h0 : e = 0
    · subst h0
      have hnl := hn rfl rfl
      have hs1 : ∀ W, (Instr.slice 28 (.slice a l.length cap) (some (.int .i64 (n : Int))) none none).run Try.prog W = .ok (.slice (cutA a cap n) (l.length - n) (cap - n)) W := fun W => run_slice_l1 (P := Try.prog) W 28 5 i5 Try.underlying28 hi5 hy1 a l.length cap n .i64 hnl
      have hcb := cutA_bytes HB.out (lo := n) (hi := l.length) (Nat.le_refl _) hc
      rw [List.take_length] at hcb
      have HCB := Lib.hid hcb
      generalize cutA a cap n = A at *
      clear hcb
      go_enter Try.func40, Try.ntmps40
      go_wp2_with fail
      go_end0
      refine ⟨rfl, grownBy_trans (grown_cell w g 1 _) (grown_cell _ g 0 _), A, cap - n, ?_, ?_, ?_⟩
      · have := rd_cut (rd_odd HH.out false) (.slice A (l.length - n) (cap - n))
        rw [stepL, if_pos ⟨rfl, rfl⟩, List.length_drop]
        exact this
      · rw [stepL, if_pos ⟨rfl, rfl⟩]; exact HCB.out
      · rw [stepL, if_pos ⟨rfl, rfl⟩, List.length_drop]; omega
    · have hne : ((e : Int) != 0) = true := by rw [bne_iff_ne]; omega
      have HS1 : Hid (stepL false e n l = l) := by show _ = _; rw [stepL, if_neg (fun h => h0 h.2)]
      have HS2 : Hid (stepO false e = true) := by show _ = _; simp [stepO, h0]
      go_enter Try.func40, Try.ntmps40
      go_wp2_with fail
      go_end0
      rw [HS1.out, HS2.out]
      exact ⟨rfl, grown_cell w g 1 _, a, cap, rd_odd HH.out true, HB.out, hc⟩
theorem rd_kept {w : World} {g : Nat} {w0 : World} {l : List UInt8} {odd : Bool} (h : RdAt w g w0 l odd) (hb : Below w0.heap.size w0 w) : ∃ a cap, w.heap[g]? = some (.cells #[.slice a l.length cap, .bool odd] 57 (0, 0)) ∧ IsBytes w a l ∧ l.length ≤ cap := by
  obtain ⟨a, cap, h1, h2, h3⟩ := h
  exact ⟨a, cap, h1, h2.below hb, h3⟩
theorem getE_le (l : List UInt8) : getE l ≤ 1000 := by
  unfold getE
  split
  · omega
  · split
    · omega
    · split <;> omega
theorem textN_le (l : List UInt8) : textN l ≤ 1000 := by
  have := getE_le l
  unfold textN
  split
  · split <;> omega
  · exact this
set_option maxHeartbeats 1000000 in
theorem rdnum_any (g : Nat) (w w0 : World) (l : List UInt8) (odd : Bool) (hl : l.length ≤ 1000000000) (hb : Below w0.heap.size w0 w) (h : RdAt w g w0 l odd) :
    Calls Try.prog 28 #[.pointer (some ⟨g, 0, none⟩)] w fun e w' => e = .returned (.int .u64 (getV l : Nat)) ∧ w.grownBy w' (some g) ∧ RdAt w' g w0 (stepL odd (getE l) (getN l) l) (stepO odd (getE l)) := by
  have HR := Lib.hid h
  obtain ⟨a, cap, hh, hib, hc⟩ := rd_kept h hb
  obtain ⟨c0, c1, f0, f1, hgl⟩ := rd_cells hh
  have HGet := Lib.hid (get_any a cap l w hl hib)
  have HT := Lib.hid (took_any g (getN l) (getE l) w w0 l odd (getE_le l) (fun _ _ => getN_le l) hl h)
  clear h hh hib
  unfold GetIs at HGet
  generalize stepL odd (getE l) (getN l) l = L2 at *
  generalize stepO odd (getE l) = O2 at *
  generalize getV l = V at *
  generalize getN l = N at *
  generalize getE l = E at *
  go_enter Try.func28, Try.ntmps28
  go_wp2_with fail
  refine HGet.out.mono ?_
  rintro e w1 ⟨rfl, rfl⟩
  go_wp2_with fail
  refine HT.out.mono ?_
  rintro e w2 ⟨rfl, hg2, hr2⟩
  go_wp2_with fail
  go_ret
  exact ⟨rfl, hg2, hr2⟩
set_option maxHeartbeats 1000000 in
theorem rdtext_any (g : Nat) (w w0 : World) (l : List UInt8) (odd : Bool) (hl : l.length ≤ 1000000000) (hb : Below w0.heap.size w0 w) (h : RdAt w g w0 l odd) :
    Calls Try.prog 30 #[.pointer (some ⟨g, 0, none⟩)] w fun e w' => e = .returned (.string ⟨(gotT l).toArray⟩) ∧ w.grownBy w' (some g) ∧ RdAt w' g w0 (stepL odd (textN l) (usedT l) l) (stepO odd (textN l)) := by
  have HR := Lib.hid h
  obtain ⟨a, cap, hh, hib, hc⟩ := rd_kept h hb
  obtain ⟨c0, c1, f0, f1, hgl⟩ := rd_cells hh
  have HGet := Lib.hid (gettext_any a cap l w hl hc hib)
  have HT := Lib.hid (took_any g (usedT l) (textN l) w w0 l odd (textN_le l) (fun _ _ => usedT_le l) hl h)
  clear h hh hib
  unfold GetTextIs at HGet
  generalize stepL odd (textN l) (usedT l) l = L2 at *
  generalize stepO odd (textN l) = O2 at *
  generalize gotT l = V at *
  generalize usedT l = N at *
  generalize textN l = E at *
  go_enter Try.func30, Try.ntmps30
  go_wp2_with fail
  refine HGet.out.mono ?_
  rintro e w1 ⟨rfl, rfl⟩
  go_wp2_with fail
  refine HT.out.mono ?_
  rintro e w2 ⟨rfl, hg2, hr2⟩
  go_wp2_with fail
  go_ret
  exact ⟨rfl, hg2, hr2⟩
/-- is a flag there? -/
def flagE (l : List UInt8) : Nat := if l.length = 0 ∨ 1 < (l.getD 0 0).toNat then 9 else 0
def flagV (l : List UInt8) : Bool := if flagE l = 0 then decide ((l.getD 0 0).toNat = 1) else false
set_option maxHeartbeats 1000000 in
theorem rdflag_any (g : Nat) (w w0 : World) (l : List UInt8) (odd : Bool) (hl : l.length ≤ 1000000000) (hb : Below w0.heap.size w0 w) (h : RdAt w g w0 l odd) :
    Calls Try.prog 29 #[.pointer (some ⟨g, 0, none⟩)] w fun e w' => e = .returned (.bool (flagV l)) ∧ w.grownBy w' (some g) ∧ RdAt w' g w0 (stepL odd (flagE l) 1 l) (stepO odd (flagE l)) := by
  have HR := Lib.hid h
  obtain ⟨a, cap, hh, hib, hc⟩ := rd_kept h hb
  obtain ⟨a', cap', hh', hib', hc'⟩ := h
  obtain ⟨c0, c1, f0, f1, hgl⟩ := rd_cells hh
  obtain ⟨_, _⟩ : a' = a ∧ cap' = cap := by rw [hh] at hh'; cases hh'; exact ⟨rfl, rfl⟩
  subst a' cap'
  have HH := Lib.hid hh
  have HIB := Lib.hid hib'
  by_cases h0 : l.length = 0
  · have HE : Hid (flagE l = 9) := by show _ = _; rw [flagE, if_pos (.inl h0)]
    have HV : Hid (flagV l = false) := by show _ = _; rw [flagV, HE.out]; rfl
    have HO : Hid (stepL odd 9 1 l = l ∧ stepO odd 9 = true) := by
      constructor
      · rw [stepL, if_neg (by rintro ⟨_, h⟩; cases h)]
      · simp [stepO]
    have d0 : ((l.length : Int) == 0) = true := by rw [beq_iff_eq]; omega
    clear hh hh' hib hib'
    go_enter Try.func29, Try.ntmps29
    go_wp2_with fail
    go_ret
    rw [HV.out, HE.out, HO.out.1, HO.out.2]
    exact ⟨rfl, grown_cell w g 1 _, a, cap, rd_odd HH.out true, HIB.out, hc⟩
  · have d0 : ((l.length : Int) == 0) = false := by rw [beq_eq_false_iff_ne]; omega
    obtain ⟨b, off, rfl, hbb, hcell⟩ := hib (by omega)
    have k0 := hcell 0 (by omega)
    rw [Nat.add_zero] at k0
    have hi0 : (0 : Int) < (l.length : Int) := by omega
    by_cases h1 : 1 < (l.getD 0 0).toNat
    · have HE : Hid (flagE l = 9) := by show _ = _; rw [flagE, if_pos (.inr h1)]
      have HV : Hid (flagV l = false) := by show _ = _; rw [flagV, HE.out]; rfl
      have HO : Hid (stepL odd 9 1 l = l ∧ stepO odd 9 = true) := by
        constructor
        · rw [stepL, if_neg (by rintro ⟨_, h⟩; cases h)]
        · simp [stepO]
      have d1 : decide (1 < ((l.getD 0 0).toNat : Int)) = true := decide_eq_true (by omega)
      have d1' : decide (1 < (l.getD 0 0).toNat) = true := decide_eq_true h1
      generalize (l.getD 0 0).toNat = c at *
      clear hh hh' hib hib' hcell
      go_enter Try.func29, Try.ntmps29
      go_wp2_with fail
      go_ret
      rw [HV.out, HE.out, HO.out.1, HO.out.2]
      exact ⟨rfl, grown_cell w g 1 _, _, cap, rd_odd HH.out true, HIB.out, hc⟩
    · have HE : Hid (flagE l = 0) := by show _ = _; rw [flagE, if_neg (by omega)]
      have HV : Hid (flagV l = decide ((l.getD 0 0).toNat = 1)) := by show _ = _; rw [flagV, HE.out]; rfl
      have d1 : decide (1 < ((l.getD 0 0).toNat : Int)) = false := decide_eq_false (by omega)
      have d1' : decide (1 < (l.getD 0 0).toNat) = false := decide_eq_false h1
      have HT := Lib.hid (took_any g 1 0 w w0 l odd (by decide) (fun _ _ => by omega) hl HR.out)
      have hcv : (((l.getD 0 0).toNat : Int) == 1) = decide ((l.getD 0 0).toNat = 1) := by
        by_cases h : (l.getD 0 0).toNat = 1
        · rw [h]; rfl
        · rw [decide_eq_false h, beq_eq_false_iff_ne]; omega
      have HCV := Lib.hid hcv
      rw [HV.out, HE.out]
      rw [← hcv]
      generalize (l.getD 0 0).toNat = c at *
      clear hh hh' hib hib' hcell hcv
      generalize hcc : ((c : Int) == 1) = cc at *
      go_enter Try.func29, Try.ntmps29
      go_wp2_with fail
      refine HT.out.mono ?_
      rintro e w2 ⟨rfl, hg2, hr2⟩
      go_wp2_with fail
      go_ret
      exact ⟨by first | rfl | rw [← hcc], hg2, hr2⟩
end Go.Proofs.Ytbamohcaamgalae
