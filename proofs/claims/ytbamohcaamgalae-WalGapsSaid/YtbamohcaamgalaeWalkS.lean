/- A log replayed, as the document does: walked. -/
import Derived.Test.YtbamohcaamgalaeWalkR
namespace Go.Proofs.Ytbamohcaamgalae
set_option linter.unusedVariables false
set_option linter.unusedSimpArgs false
open Go.RowKit

set_option maxRecDepth 100000 in
set_option maxHeartbeats 2000000 in
theorem refreplay_any (a : Option Addr) (cap : Nat) (l : List UInt8) (w : World) (hl : l.length ≤ 1000000) (hc : l.length ≤ cap) (h : IsBytes w a l) :
    Calls Try.prog 17 #[.slice a l.length cap] w (RepIs l w) := by
  obtain ⟨i25, hi, hz0, hz1, hz2⟩ := info_parts Try.info25
  obtain ⟨i5, hi5, hy0, hy1, hy2⟩ := info_parts Try.info5
  have H := Lib.hid h
  have HCut : Hid (∀ W lo, IsBytes W a l → IsBytes W (cutA a cap lo) (l.drop lo)) := fun W lo hW => by
    have := cutA_bytes (lo := lo) (hi := l.length) hW (Nat.le_refl _) hc
    rwa [List.take_length] at this
  have h0 : RepRel l w 0 [] (.slice none 0 0) w := by
    refine ⟨World.ownsRow_nil _ _ _ _, (fun c hc => by cases hc), Below.refl _ _, Nat.zero_le _, Nat.le_refl _, ?_⟩
    show _ = _
    rw [List.drop_zero, Nat.zero_add]
    show rep l none = ((rep l (lastR [])).1, (rep l (lastR [])).2)
    rfl
  clear h
  go_enter Try.func17, Try.ntmps17
  go_wp2_with fail
  go_loopw [4, 5] (fun v i wr => ∃ (at' : Nat) (cs : List CM), i = .int .i64 at' ∧ Hid (RepRel l w at' cs v wr)) (fun _ i _ => l.length - (intOf i).toNat)
  case atStart => exact ⟨0, [], rfl, h0⟩
  case round =>
    clear h0
    obtain ⟨at', cs, rfl, hst⟩ := hrel
    obtain ⟨hrow, hce, hB, hat, hcs, hrep⟩ := hst.out
    have HST := Lib.hid hst.out
    clear hst
    obtain ⟨av, mv, cv, rfl⟩ := row_slice hrow
    have hmv := row_len' hrow
    subst hmv
    have hs1 : ∀ W, (Instr.slice 28 (.slice a l.length cap) (some (.int .i64 (at' : Int))) none none).run Try.prog W = .ok (.slice (cutA a cap at') (l.length - at') (cap - at')) W := fun W => run_slice_l1 (P := Try.prog) W 28 5 i5 Try.underlying28 hi5 hy1 a l.length cap at' .i64 hat
    have hDl : (l.drop at').length = l.length - at' := List.length_drop
    have HNext := Lib.hid (refnext_any (cutA a cap at') (cap - at') (l.length - at') (l.drop at') _ hDl (by omega) (by omega) (HCut.out _ at' (H.out.below hB)))
    by_cases hE : nextE (l.drop at') = 0
    · obtain ⟨hn1, hn2⟩ := nextE_len (l.drop at') hE
      rw [hDl] at hn1
      have HE := Lib.hid hE
      have HSP : Hid ((payload (l.drop at')).length ≤ 1000000) := by show _ ≤ _; omega
      obtain ⟨PL, hPL⟩ : ∃ PL, payload (l.drop at') = PL := ⟨_, rfl⟩
      have HPL := Lib.hid hPL
      rw [hPL] at hn2 HSP
      clear hE hPL hDl
      go_wp2_with fail
      refine HNext.out.mono ?_
      clear HNext
      rintro e w2 ⟨⟨k2, rfl⟩, hok, _⟩
      obtain ⟨b2, o2, c2, rfl, hib2, hc2, _⟩ := hok HE.out
      rw [HPL.out] at hib2
      have hb2 := Below.drewN (Below.refl wr.heap.size wr) k2
      have hB2 := hB.trans (hb2.mono hB.size)
      have hrw2 := Below.row hb2 hrow
      have hce2 := hce.below hb2
      have hib2' := hib2.below hb2
      rw [← hn2] at hc2
      generalize wr.drewN k2 = w2 at *
      have HA2 : Hid ((some ⟨b2, o2, none⟩ : Option Addr) = some ⟨b2, o2, none⟩) := rfl
      have HDec := Lib.hid (refdecode_any (some ⟨b2, o2, none⟩) c2 PL w2 HSP.out hc2 hib2')
      rw [hn2] at HDec
      clear hok hb2 hrow hce hB hib2 hib2'
      generalize hNN : num (l.drop at') = NN at *
      have HNN := Lib.hid hNN
      have HLP := Lib.hid hn2
      clear hNN hc2 hn2
      generalize hPN : PL.length = PN at *
      clear hPN
      go_wp2_with fail
      refine HDec.out.mono ?_
      clear HDec
      rintro e w3 ⟨hb3, hdy, hdn⟩
      have hB3 := hB2.trans (hb3.mono hB2.size)
      have hrw3 := Below.row hb3 hrw2
      have hce3 := hce2.below hb3
      have hw2 : w.heap.size ≤ w2.heap.size := hB2.size
      clear hrw2 hce2 hB2
      by_cases hd : ∃ r es, Decodes PL r es
      · obtain ⟨r, es, hd⟩ := hd
        obtain ⟨a3, c3, rfl, hent⟩ := hdy r es hd
        have HD := Lib.hid hd
        have hr1 : 0 < r := hd.2.2.2.2.1
        have hrv : r < 18446744073709551616 := by rw [hd.2.1]; exact getV_lt _
        have hent3 := row_lower hent hw2
        clear hdy hdn hb3 hd hent
        unfold comV
        have hwr : IntKind.u64.wrap ((r : Int) - 1) = ((r - 1 : Nat) : Int) := by
          have : ((r : Int) - 1) = ((r - 1 : Nat) : Int) := by omega
          rw [this]; exact IntWalk.u64_in _ (by omega)
        have hr1' : ((r : Int) - 1) = ((r - 1 : Nat) : Int) := by omega
        have HHR := Lib.hid hr1'
        have hrz : ((r : Int) == 0) = false := by rw [beq_eq_false_iff_ne]; omega
        clear hr1'
        by_cases hk : cs.length = 0
        · have dk : decide (0 < (cs.length : Int)) = false := decide_eq_false (by omega)
          have dk' : decide (0 < cs.length) = false := decide_eq_false (by omega)
          have HGo : Hid (lastR cs = none ∨ lastR cs = some (r - 1)) := .inl (by rw [lastR, if_pos hk])
          have HKK := Lib.hid hk
          clear hk
          have HRep2 : Hid (rep l none = (pairs (cs ++ [⟨r, a3, c3, es⟩]) ++ (rep (l.drop (at' + (8 + NN))) (lastR (cs ++ [⟨r, a3, c3, es⟩]))).1, at' + (8 + NN) + (rep (l.drop (at' + (8 + NN))) (lastR (cs ++ [⟨r, a3, c3, es⟩]))).2)) := by
            have hst := rep_step HE.out (by rw [HPL.out]; exact HD.out) HGo.out
            show _ = _
            rw [hrep.out, hst, lastR_snoc, HNN.out, List.drop_drop]
            simp [pairs, Nat.add_assoc]
          have HX := Lib.hid (heap_alloc_new w3 (.cells #[.int .u64 (r : Int), .slice a3 es.length c3] 25))
          have HCeA : Hid (ComEnts (w3.alloc (.cells #[.int .u64 (r : Int), .slice a3 es.length c3] 25)) w.heap.size cs) := fun c hc => ⟨(hce3 c hc).1.alloc (.cells #[.int .u64 (r : Int), .slice a3 es.length c3] 25), (hce3 c hc).2⟩
          clear HHR
          go_wp2_with fail
          go_quiet (fail)
          have hX4 : ((w3.alloc (.cells #[.int .u64 (r : Int), .slice a3 es.length c3] 25)).drewN nq).heap[w3.heap.size]? = some (.cells #[.int .u64 (r : Int), .slice a3 es.length c3] 25 (0, 0)) := HX.out
          have hrw4 : ((w3.alloc (.cells #[.int .u64 (r : Int), .slice a3 es.length c3] 25)).drewN nq).ownsRow w.heap.size 25 2 (.slice av cs.length cv) cs.length (comsV cs) := hrw3.alloc (.cells #[.int .u64 (r : Int), .slice a3 es.length c3] 25)
          have hce4 : ComEnts ((w3.alloc (.cells #[.int .u64 (r : Int), .slice a3 es.length c3] 25)).drewN nq) w.heap.size cs := HCeA.out
          have hent4 : ((w3.alloc (.cells #[.int .u64 (r : Int), .slice a3 es.length c3] 25)).drewN nq).ownsRow w.heap.size 48 3 (.slice a3 es.length c3) es.length (entsV es) := hent3.alloc (.cells #[.int .u64 (r : Int), .slice a3 es.length c3] 25)
          have hB4 : Below w.heap.size w ((w3.alloc (.cells #[.int .u64 (r : Int), .slice a3 es.length c3] 25)).drewN nq) := Below.drewN (hB3.alloc hB3.size (.cells #[.int .u64 (r : Int), .slice a3 es.length c3] 25)) nq
          clear hrw3 hce3 hent3 hB3
          generalize (w3.alloc (.cells #[.int .u64 (r : Int), .slice a3 es.length c3] 25)).drewN nq = W4 at *
          generalize w3.heap.size = gx at *
          have x0 := heap_cell hX4 0
          have x1 := heap_cell hX4 1
          simp at x0 x1
          have HRwA := Lib.hid (hrw4.alloc (.cells #[.int .u64 (r : Int), .slice a3 es.length c3] 25))
          have HCe4 := Lib.hid (fun c hc => (⟨(hce4 c hc).1.alloc (.cells #[.int .u64 (r : Int), .slice a3 es.length c3] 25), (hce4 c hc).2⟩ : (W4.alloc (.cells #[.int .u64 (r : Int), .slice a3 es.length c3] 25)).ownsRow w.heap.size 48 3 (.slice c.a c.es.length c.cap) c.es.length (entsV c.es) ∧ c.rev < 18446744073709551616))
          have HEntA := Lib.hid (hent4.alloc (.cells #[.int .u64 (r : Int), .slice a3 es.length c3] 25))
          have HBA := Lib.hid (hB4.alloc hB4.size (.cells #[.int .u64 (r : Int), .slice a3 es.length c3] 25))
          have HOne := Lib.hid (two_vals W4 (.int .u64 (r : Int)) (.slice a3 es.length c3) 25)
          clear hrw4 hce4 hent4 hB4
          go_wp2_with (at_builtin; refine wpList_append_vals _ rfl _ (.tmp 56) 37 rfl w.heap.size 25 i25 _ 2 32 Try.underlying37 hi hz0 hz1 hz2 rfl (by decide) (.slice av cs.length cv) cs.length (comsV cs) (by rfl) HRwA.out (some ⟨W4.heap.size, 0, none⟩) 1 1 [.int .u64 (r : Int), .slice a3 es.length c3] rfl rfl HOne.out (comsV_one [⟨r, a3, c3, es⟩]) (by unfold maxLen; omega) (by omega) HBA.out.size ?_; intro v6 w6 hrow6 hg6; have hce6 := ComEnts.kept (cs := cs) HCe4.out HRwA.out (by decide) hg6; have hent6 := HEntA.out.kept hg6 (own_ne HRwA.out HEntA.out (by decide)); have hB6 := Below.own HBA.out HRwA.out (Nat.le_refl _) HBA.out.size hg6)
          go_roundw
          case rel =>
            refine ⟨at' + (8 + NN), cs ++ [⟨r, a3, c3, es⟩], by go_num, ?_, ?_, hB6, by omega, by rw [List.length_append]; simp; omega, HRep2⟩
            · rw [comsV_append, List.length_append]
              exact hrow6
            · intro c hc
              rw [List.mem_append] at hc
              rcases hc with hc | hc
              · exact hce6 c hc
              · simp only [List.mem_cons, List.not_mem_nil, or_false] at hc
                subst hc
                exact ⟨hent6, hrv⟩
          case measure => simp [intOf]; omega
        · have dk : decide (0 < (cs.length : Int)) = true := decide_eq_true (by omega)
          have dk' : decide (0 < cs.length) = true := decide_eq_true (by omega)
          obtain ⟨q1, q2⟩ := comsV_get cs (cs.length - 1) (by omega)
          obtain ⟨gg, go, hga, hcell⟩ := (show ∃ gg go, av = some ⟨gg, go, none⟩ ∧ ∀ j, j < cs.length * 2 → w3.cell? ⟨gg, go + j, none⟩ = (comsV cs)[j]? from by
            obtain ⟨b, off, h1, _, h2⟩ := row_vals hrw3 (by rw [length_comsV]; omega)
            exact ⟨b, off, h1, fun j hj => h2 j (by rw [length_comsV]; exact hj)⟩)
          subst hga
          have cc := (hcell ((cs.length - 1) * 2) (by omega)).trans q1
          have hggl : gg < w3.heap.size := World.block_lt_of_cell? w3 _ cc
          have hkm : ((cs.length : Int) - 1) = ((cs.length - 1 : Nat) : Int) := by omega
          have hkw : IntKind.i64.wrap ((cs.length : Int) - 1) = ((cs.length - 1 : Nat) : Int) := by rw [hkm, IntKind.wrap_i64]; omega
          have hki : ((cs.length - 1 : Nat) : Int) < (cs.length : Int) := by omega
          have hlast : lastR cs = some (cs.getD (cs.length - 1) default).rev := by rw [lastR, if_neg hk]
          generalize hlr : (cs.getD (cs.length - 1) default).rev = lr at *
          have HLast := Lib.hid hlast
          generalize hk1 : cs.length - 1 = km at *
          clear q1 q2 hcell hlast hlr hk
          by_cases hq : lr = r - 1
          · have bq : (((r - 1 : Nat) : Int) != (lr : Int)) = false := by rw [hq]; simp
            have HGo : Hid (lastR cs = none ∨ lastR cs = some (r - 1)) := .inr (by rw [HLast.out, hq])
            clear hq
            have HRep2 : Hid (rep l none = (pairs (cs ++ [⟨r, a3, c3, es⟩]) ++ (rep (l.drop (at' + (8 + NN))) (lastR (cs ++ [⟨r, a3, c3, es⟩]))).1, at' + (8 + NN) + (rep (l.drop (at' + (8 + NN))) (lastR (cs ++ [⟨r, a3, c3, es⟩]))).2)) := by
              have hst := rep_step HE.out (by rw [HPL.out]; exact HD.out) HGo.out
              show _ = _
              rw [hrep.out, hst, lastR_snoc, HNN.out, List.drop_drop]
              simp [pairs, Nat.add_assoc]
            have HX := Lib.hid (heap_alloc_new w3 (.cells #[.int .u64 (r : Int), .slice a3 es.length c3] 25))
            have HCeA : Hid (ComEnts (w3.alloc (.cells #[.int .u64 (r : Int), .slice a3 es.length c3] 25)) w.heap.size cs) := fun c hc => ⟨(hce3 c hc).1.alloc (.cells #[.int .u64 (r : Int), .slice a3 es.length c3] 25), (hce3 c hc).2⟩
            clear HHR
            go_wp2_with fail
            go_quiet (fail)
            have hX4 : ((w3.alloc (.cells #[.int .u64 (r : Int), .slice a3 es.length c3] 25)).drewN nq).heap[w3.heap.size]? = some (.cells #[.int .u64 (r : Int), .slice a3 es.length c3] 25 (0, 0)) := HX.out
            have hrw4 : ((w3.alloc (.cells #[.int .u64 (r : Int), .slice a3 es.length c3] 25)).drewN nq).ownsRow w.heap.size 25 2 (.slice (some ⟨gg, go, none⟩) cs.length cv) cs.length (comsV cs) := hrw3.alloc (.cells #[.int .u64 (r : Int), .slice a3 es.length c3] 25)
            have hce4 : ComEnts ((w3.alloc (.cells #[.int .u64 (r : Int), .slice a3 es.length c3] 25)).drewN nq) w.heap.size cs := HCeA.out
            have hent4 : ((w3.alloc (.cells #[.int .u64 (r : Int), .slice a3 es.length c3] 25)).drewN nq).ownsRow w.heap.size 48 3 (.slice a3 es.length c3) es.length (entsV es) := hent3.alloc (.cells #[.int .u64 (r : Int), .slice a3 es.length c3] 25)
            have hB4 : Below w.heap.size w ((w3.alloc (.cells #[.int .u64 (r : Int), .slice a3 es.length c3] 25)).drewN nq) := Below.drewN (hB3.alloc hB3.size (.cells #[.int .u64 (r : Int), .slice a3 es.length c3] 25)) nq
            clear hrw3 hce3 hent3 hB3
            generalize (w3.alloc (.cells #[.int .u64 (r : Int), .slice a3 es.length c3] 25)).drewN nq = W4 at *
            generalize w3.heap.size = gx at *
            have x0 := heap_cell hX4 0
            have x1 := heap_cell hX4 1
            simp at x0 x1
            have HRwA := Lib.hid (hrw4.alloc (.cells #[.int .u64 (r : Int), .slice a3 es.length c3] 25))
            have HCe4 := Lib.hid (fun c hc => (⟨(hce4 c hc).1.alloc (.cells #[.int .u64 (r : Int), .slice a3 es.length c3] 25), (hce4 c hc).2⟩ : (W4.alloc (.cells #[.int .u64 (r : Int), .slice a3 es.length c3] 25)).ownsRow w.heap.size 48 3 (.slice c.a c.es.length c.cap) c.es.length (entsV c.es) ∧ c.rev < 18446744073709551616))
            have HEntA := Lib.hid (hent4.alloc (.cells #[.int .u64 (r : Int), .slice a3 es.length c3] 25))
            have HBA := Lib.hid (hB4.alloc hB4.size (.cells #[.int .u64 (r : Int), .slice a3 es.length c3] 25))
            have HOne := Lib.hid (two_vals W4 (.int .u64 (r : Int)) (.slice a3 es.length c3) 25)
            clear hrw4 hce4 hent4 hB4
            go_wp2_with (at_builtin; refine wpList_append_vals _ rfl _ (.tmp 56) 37 rfl w.heap.size 25 i25 _ 2 32 Try.underlying37 hi hz0 hz1 hz2 rfl (by decide) (.slice (some ⟨gg, go, none⟩) cs.length cv) cs.length (comsV cs) (by rfl) HRwA.out (some ⟨W4.heap.size, 0, none⟩) 1 1 [.int .u64 (r : Int), .slice a3 es.length c3] rfl rfl HOne.out (comsV_one [⟨r, a3, c3, es⟩]) (by unfold maxLen; omega) (by omega) HBA.out.size ?_; intro v6 w6 hrow6 hg6; have hce6 := ComEnts.kept (cs := cs) HCe4.out HRwA.out (by decide) hg6; have hent6 := HEntA.out.kept hg6 (own_ne HRwA.out HEntA.out (by decide)); have hB6 := Below.own HBA.out HRwA.out (Nat.le_refl _) HBA.out.size hg6)
            go_roundw
            case rel =>
              refine ⟨at' + (8 + NN), cs ++ [⟨r, a3, c3, es⟩], by go_num, ?_, ?_, hB6, by omega, by rw [List.length_append]; simp; omega, HRep2⟩
              · rw [comsV_append, List.length_append]
                exact hrow6
              · intro c hc
                rw [List.mem_append] at hc
                rcases hc with hc | hc
                · exact hce6 c hc
                · simp only [List.mem_cons, List.not_mem_nil, or_false] at hc
                  subst hc
                  exact ⟨hent6, hrv⟩
            case measure => simp [intOf]; omega
          · have bq : (((r - 1 : Nat) : Int) != (lr : Int)) = true := by rw [bne_iff_ne]; omega
            have HStop : Hid (rep (l.drop at') (lastR cs) = ([], 0)) := by
              show _ = _
              rw [HLast.out]
              exact rep_stop3 HE.out (by rw [HPL.out]; exact HD.out) hq
            have HR2 : Hid (∀ n, RepRel l w at' cs (.slice (some ⟨gg, go, none⟩) cs.length cv) ((w3.alloc (.cells #[.int .u64 (r : Int), .slice a3 es.length c3] 25)).drewN n)) := fun n => ⟨hrw3.alloc (.cells #[.int .u64 (r : Int), .slice a3 es.length c3] 25), fun c hc => ⟨(hce3 c hc).1.alloc (.cells #[.int .u64 (r : Int), .slice a3 es.length c3] 25), (hce3 c hc).2⟩, Below.drewN (hB3.alloc hB3.size (.cells #[.int .u64 (r : Int), .slice a3 es.length c3] 25)) n, hat, hcs, hrep⟩
            clear hq
            go_wp2_with fail
            go_quiet (fail)
            go_wp2_with fail
            go_ret2
            exact repIs_stop (HR2.out _) HStop.out
      · have := hdn (fun r es h => hd ⟨r, es, h⟩)
        subst this
        have HStop : Hid (rep (l.drop at') (lastR cs) = ([], 0)) := rep_stop2 HE.out (fun r es h => hd ⟨r, es, by rw [← HPL.out]; exact h⟩)
        clear hdy hdn hb3 hd
        unfold comV
        have HR2 : Hid (∀ n, RepRel l w at' cs (.slice av cs.length cv) ((w3.alloc (.cells #[.int .u64 0, .slice none 0 0] 25)).drewN n)) := fun n => ⟨hrw3.alloc _, fun c hc => ⟨(hce3 c hc).1.alloc _, (hce3 c hc).2⟩, Below.drewN (hB3.alloc hB3.size _) n, hat, hcs, hrep⟩
        go_wp2_with fail
        go_quiet (fail)
        go_wp2_with fail
        go_ret2
        exact repIs_stop (HR2.out _) HStop.out
    · have HStop : Hid (rep (l.drop at') (lastR cs) = ([], 0)) := rep_stop1 hE
      have HE := Lib.hid hE
      have be : ((nextE (l.drop at') : Int) != 0) = true := by rw [bne_iff_ne]; omega
      clear hE hDl
      go_wp2_with fail
      refine HNext.out.mono ?_
      rintro e w2 ⟨⟨k2, rfl⟩, _, hbad⟩
      have := hbad HE.out
      subst this
      have hb2 := Below.drewN (Below.refl wr.heap.size wr) k2
      generalize wr.drewN k2 = w2 at *
      have HR2 : Hid (RepRel l w at' cs (.slice av cs.length cv) w2) := by
        obtain ⟨g1, g2, g3, g4, g5, g6⟩ := HST.out
        exact ⟨Below.row hb2 g1, g2.below hb2, g3.trans (hb2.mono g3.size), g4, g5, g6⟩
      clear hbad hb2
      go_wp2_with fail
      go_ret2
      exact repIs_stop HR2.out HStop.out
end Go.Proofs.Ytbamohcaamgalae
