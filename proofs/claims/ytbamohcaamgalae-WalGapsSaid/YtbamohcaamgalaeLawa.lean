/- WalReads: the law walked. -/
import Derived.Test.YtbamohcaamgalaeWalkU
namespace Go.Proofs.Ytbamohcaamgalae
set_option linter.unusedVariables false
set_option linter.unusedSimpArgs false
open Go.RowKit

noncomputable def decV (l : List UInt8) : Nat × List Ent × Nat := match decOf l with
  | some p => (p.1, p.2, 0)
  | none => (0, [], 9)
theorem decIs_view {l : List UInt8} {w w' : World} {e : Ending} (h : DecIs l w e w') :
    Below w.heap.size w w' ∧ (decV l).2.1.length ≤ 256 ∧ (decV l).2.2 ≤ 9 ∧ ∃ a cap, e = .returned (.tuple #[.agg #[.int .u64 ((decV l).1 : Int), .slice a (decV l).2.1.length cap], .int .i64 ((decV l).2.2 : Nat)]) ∧ IsEnts w' a (decV l).2.1 := by
  obtain ⟨hB, hy, hn⟩ := h
  by_cases hd : ∃ r es, Decodes l r es
  · obtain ⟨r, es, hd⟩ := hd
    obtain ⟨a, cap, he, hrow⟩ := hy r es hd
    have e : decV l = (r, es, 0) := by rw [decV, decOf_some hd]
    rw [e]
    exact ⟨hB, hd.2.2.2.2.2.2.1, Nat.zero_le _, a, cap, he, row_ents hrow⟩
  · have hno : ∀ r es, ¬ Decodes l r es := fun r es h => hd ⟨r, es, h⟩
    have e : decV l = (0, [], 9) := by rw [decV, decOf_none hno]
    rw [e]
    exact ⟨hB, by decide, by decide, none, 0, hn hno, fun h => by cases h⟩
theorem repRead {w : World} {B n m c : Nat} {a : Option Addr} {cs : List CM} (hrow : w.ownsRow B 25 2 (.slice a m c) n (comsV cs)) (hce : ComEnts w B cs) : ComsRead w a cs := by
  refine ⟨row_vals hrow, fun c hc => ⟨row_ents (hce c hc).1, ?_⟩⟩
  have h := (hce c hc).1
  rcases h.2 with ⟨_, h0⟩ | ⟨g, cap, cur, hv, _, _, hcc, hm, _⟩
  · omega
  · unfold maxLen at hm; omega
set_option maxRecDepth 100000 in
set_option maxHeartbeats 4000000 in
theorem lawReads (a : Option Addr) (cap : Nat) (l : List UInt8) (w : World) (hl : l.length ≤ 9223372036854775807) (hc : l.length ≤ cap) (h : IsBytes w a l) :
    Calls Try.prog 4 #[.slice a l.length cap] w fun e w' => e = .returned (.bool true) ∧ Below w.heap.size w w' := by
  have HF := Lib.hid (fixed_any w)
  have H := Lib.hid h
  clear h
  by_cases h1 : l.length ≤ 3000
  · have d1 : decide (3000 < (l.length : Int)) = false := decide_eq_false (by omega)
    have d1' : decide (3000 < l.length) = false := decide_eq_false (by omega)
    go_enter Try.func4, Try.ntmps4
    go_wp2_with fail
    refine HF.out.mono ?_
    clear HF
    rintro e w1 ⟨rfl, hB1⟩
    have HD := Lib.hid (decode_any a cap l w1 (by omega) hc (H.out.below hB1))
    go_wp2_with fail
    refine HD.out.mono ?_
    clear HD
    intro e w2 hdec
    obtain ⟨hb2, hes, hgl, a2, c2, rfl, hib2⟩ := decIs_view hdec
    have hB2 := hB1.trans (hb2.mono hB1.size)
    clear hdec hb2
    generalize hdv : decV l = dv at *
    obtain ⟨rev, es, g⟩ := dv
    simp only at hes hgl hib2
    have HDV := Lib.hid hdv
    clear hdv
    have hx2 := heap_alloc_new w2 (.cells #[.int .u64 (rev : Int), .slice a2 es.length c2] 25)
    have hB2a := hB2.alloc hB2.size (.cells #[.int .u64 (rev : Int), .slice a2 es.length c2] 25)
    have HRD := Lib.hid (refdecode_any a cap l _ (by omega) hc (H.out.below hB2a))
    have hib2a := hib2.below ((Below.refl _ _).alloc (Nat.le_refl _) (.cells #[.int .u64 (rev : Int), .slice a2 es.length c2] 25))
    have hg2 : w2.heap.size < (w2.alloc (.cells #[.int .u64 (rev : Int), .slice a2 es.length c2] 25)).heap.size := by simp
    clear hib2 hB2
    go_wp2_with fail
    refine HRD.out.mono ?_
    clear HRD
    intro e w3 hdec
    obtain ⟨hb3, _, _, a3, c3, rfl, hib3⟩ := decIs_view hdec
    rw [HDV.out] at hib3 ⊢
    simp only at hib3 ⊢
    have hB3 := hB2a.trans (hb3.mono hB2a.size)
    have hx3 := (hb3.block w2.heap.size hg2).trans hx2
    have HI2 := Lib.hid (hib2a.below hb3)
    clear hdec hb3 hx2 hib2a hB2a
    generalize w2.heap.size = g2 at *
    have hg3 := heap_lt hx3
    have hxx2 := (Below.heap_alloc _ (.cells #[.int .u64 (rev : Int), .slice a3 es.length c3] 25) _ hg3).trans hx3
    have hx4 := heap_alloc_new w3 (.cells #[.int .u64 (rev : Int), .slice a3 es.length c3] 25)
    have hB3a := hB3.alloc hB3.size (.cells #[.int .u64 (rev : Int), .slice a3 es.length c3] 25)
    have hbb := (Below.refl w3.heap.size w3).alloc (Nat.le_refl _) (.cells #[.int .u64 (rev : Int), .slice a3 es.length c3] 25)
    have HI2a := Lib.hid (HI2.out.below hbb)
    have HI3a := Lib.hid (hib3.below hbb)
    have HRp := Lib.hid (replay_any a cap l _ (by omega) hc (H.out.below hB3a))
    clear hib3 hbb HI2 hx3 hg2
    go_wp2_with fail
    refine HRp.out.mono ?_
    clear HRp
    rintro e w4 ⟨hb4, v4, cs4, rfl, hp4, hl4, hrow4, hce4⟩
    have hB4 := hB3a.trans (hb4.mono hB3a.size)
    have hy2 := (hb4.block g2 (heap_lt hxx2)).trans hxx2
    have hy4 := (hb4.block w3.heap.size (heap_lt hx4)).trans hx4
    have HI2b := Lib.hid (HI2a.out.below hb4)
    have HI3b := Lib.hid (HI3a.out.below hb4)
    have HRr := Lib.hid (refreplay_any a cap l w4 (by omega) hc (H.out.below hB4))
    obtain ⟨a4, m4, c4, rfl⟩ := row_slice hrow4
    have hm4 := row_len' hrow4
    subst hm4
    clear hb4 hxx2 hx4 HI2a HI3a hB3 hB3a
    generalize w3.heap.size = g4 at *
    go_wp2_with fail
    refine HRr.out.mono ?_
    clear HRr
    rintro e w5 ⟨hb5, v5, cs5, rfl, hp5, hl5, hrow5, hce5⟩
    have hB5 := hB4.trans (hb5.mono hB4.size)
    have hz2 := (hb5.block g2 (heap_lt hy2)).trans hy2
    have hz4 := (hb5.block g4 (heap_lt hy4)).trans hy4
    have hI2 := HI2b.out.below hb5
    have hI3 := HI3b.out.below hb5
    obtain ⟨a5, m5, c5, rfl⟩ := row_slice hrow5
    have hm5 := row_len' hrow5
    subst hm5
    have HR4 := Lib.hid ((repRead hrow4 hce4).below hb5)
    have HR5 := Lib.hid (repRead hrow5 hce5)
    have HP : Hid (pairs cs4 = pairs cs5) := hp4.trans hp5.symm
    have z0 := heap_cell hz2 0
    have z1 := heap_cell hz2 1
    have y0 := heap_cell hz4 0
    have y1 := heap_cell hz4 1
    simp at z0 z1 y0 y1
    have HSame := Lib.hid (same_any rev rev a2 a3 c2 c3 es es w5 (by omega) (by omega) hI2 hI3)
    unfold comV at HSame
    have hgg : ((g : Int) == (g : Int)) = true := by simp
    generalize hnn : (rep l none).2 = nn at *
    have hnn2 : ((nn : Int) == (nn : Int)) = true := by simp
    clear hb5 hp4 hp5 hrow4 hce4 hrow5 hce5 hI2 hI3 hy2 hy4 hz2 hz4 hB4 hnn
    go_wp2_with fail
    refine HSame.out.mono ?_
    clear HSame
    rintro e w6 ⟨⟨r, rfl, hr⟩, hb6⟩
    have hr1 := hr.2 (by simp)
    subst hr1
    have hB6 := hB5.trans (hb6.mono hB5.size)
    have HAll := Lib.hid (sameall_any a4 a5 c4 c5 cs4 cs5 w6 (by omega) (by omega) (HR4.out.below hb6) (HR5.out.below hb6))
    clear hr hb6
    go_wp2_with fail
    refine HAll.out.mono ?_
    clear HAll
    rintro e w7 ⟨⟨r, rfl, hr⟩, hb7⟩
    have hr1 := hr.2 HP.out
    subst hr1
    have hB7 := hB6.trans (hb7.mono hB6.size)
    clear hr hb7
    go_wp2_with fail
    go_ret
    exact ⟨rfl, hB7⟩
  · have d1 : decide (3000 < (l.length : Int)) = true := decide_eq_true (by omega)
    have d1' : decide (3000 < l.length) = true := decide_eq_true (by omega)
    go_enter Try.func4, Try.ntmps4
    go_wp2_with fail
    refine HF.out.mono ?_
    rintro e w1 ⟨rfl, hB1⟩
    go_wp2_with fail
    go_ret
    exact ⟨rfl, hB1⟩
end Go.Proofs.Ytbamohcaamgalae
