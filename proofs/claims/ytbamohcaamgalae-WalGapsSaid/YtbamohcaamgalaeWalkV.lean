/- The commits of lists of entries: walked. -/
import Derived.Test.YtbamohcaamgalaePlaind
import Derived.Test.YtbamohcaamgalaeViewb
namespace Go.Proofs.Ytbamohcaamgalae
set_option linter.unusedVariables false
set_option linter.unusedSimpArgs false
open Go.RowKit

def esOf (ls : List SL) : List (List Ent) := ls.map (·.es)
/-- what 'commits' answers -/
def CommitsIs (first : Nat) (ls : List SL) (w : World) (e : Ending) (w' : World) : Prop :=
  Below w.heap.size w w' ∧ ∃ (v : Value) (cs : List CM), e = .returned v ∧ pairs cs = comsOf first (esOf ls) ∧ w'.ownsRow w.heap.size 25 2 v cs.length (comsV cs) ∧ ComEnts w' w.heap.size cs ∧ ∀ c ∈ cs, c.es.length * 32 ≤ 140737488351232 ∧ ∀ i, EntOk (c.es.getD i default)
/-- the outer loop -/
def CoRel (first : Nat) (ls : List SL) (w : World) (k : Nat) (cs : List CM) (v : Value) (wr : World) : Prop :=
  wr.ownsRow w.heap.size 25 2 v cs.length (comsV cs) ∧ ComEnts wr w.heap.size cs ∧ Below w.heap.size w wr ∧ cs.length ≤ k ∧ pairs cs = comsOf first (esOf (ls.take k)) ∧ ∀ c ∈ cs, c.es.length * 32 ≤ 140737488351232 ∧ ∀ i, EntOk (c.es.getD i default)
/-- the inner loop -/
def CiRel (wc : World) (rev : Nat) (es : List Ent) (j : Nat) (v : Value) (wr : World) : Prop :=
  wr.heap[wc.heap.size]? = some (.cells #[.int .u64 (rev : Int), v] 25 (0, 0)) ∧ wr.ownsRow wc.heap.size 48 3 v j (entsV ((es.take j).map (setR rev))) ∧ Below wc.heap.size wc wr
theorem setR_take (rev : Nat) (es : List Ent) (j : Nat) (h : j < es.length) : (es.take (j + 1)).map (setR rev) = (es.take j).map (setR rev) ++ [setR rev (es.getD j default)] := by rw [take_snoc es j h, List.map_append]; rfl
theorem esOf_take (ls : List SL) (k : Nat) (h : k < ls.length) : esOf (ls.take (k + 1)) = esOf (ls.take k) ++ [(ls.getD k default).es] := by rw [take_snoc ls k h, esOf, List.map_append]; rfl
theorem ents_at {w : World} {a : Option Addr} {l : List Ent} (h : IsEnts w a l) (j : Nat) (hj : j < l.length) : ∃ b off, a = some ⟨b, off, none⟩ ∧ b < w.heap.size ∧ w.cell? ⟨b, off + j * 3, none⟩ = some (.string (l.getD j default).key) ∧ w.cell? ⟨b, off + j * 3 + 1, none⟩ = some (.int .u64 ((l.getD j default).rev : Int)) ∧ w.cell? ⟨b, off + j * 3 + 2, none⟩ = some (.bool (l.getD j default).del) := by
  obtain ⟨b, off, ha, hb, hc⟩ := h (by omega)
  exact ⟨b, off, ha, hb, hc j hj⟩
theorem own_not_new {w : World} {B : Nat} {e : TypeId} {size n : Nat} {v : Value} {xs : List Value} (h : w.ownsRow B e size v n xs) (g : Nat) (hg : w.heap.size ≤ g) : v.ownBlock = none ∨ v.ownBlock ≠ some g := by
  cases ho : v.ownBlock with
  | none => exact .inl rfl
  | some g' =>
    right
    intro e
    cases e
    have := (h.lt g ho).2
    omega
set_option maxRecDepth 100000 in
set_option maxHeartbeats 4000000 in
theorem commits_any (first : Nat) (a : Option Addr) (cap : Nat) (ls : List SL) (w : World) (hf : first + ls.length < 18446744073709551616) (hl : ls.length ≤ 1000) (h : IsSls w a ls) :
    Calls Try.prog 19 #[.int .u64 (first : Int), .slice a ls.length cap] w (CommitsIs first ls w) := by
  obtain ⟨i48, hi, hz0, hz1, hz2⟩ := info_parts Try.info48
  obtain ⟨i25, hi25, hy0, hy1, hy2⟩ := info_parts Try.info25
  have H := Lib.hid h
  clear h
  go_enter Try.func19, Try.ntmps19
  go_wp2_with fail
  have hrel0 : Hid (CoRel first ls w 0 [] (.slice none 0 0) w) := ⟨World.ownsRow_nil _ _ _ _, (fun c hc => by cases hc), Below.refl _ _, Nat.le_refl _, rfl, (fun c hc => by cases hc)⟩
  go_loopw [5, 6, 15] (fun v r i wr => ∃ (k : Nat) (cs : List CM), r = .int .u64 ((first + cs.length : Nat) : Int) ∧ i = .int .i64 k ∧ k ≤ ls.length ∧ Hid (CoRel first ls w k cs v wr)) (fun _ _ i _ => ls.length - (intOf i).toNat)
  case atStart => exact ⟨0, [], rfl, rfl, Nat.zero_le _, hrel0⟩
  case round =>
    clear hrel0
    obtain ⟨k, cs, rfl, rfl, hk, hst⟩ := hrel
    obtain ⟨hrow, hce, hB, hck, hpr, hok⟩ := hst.out
    obtain ⟨av, mv, cv, rfl⟩ := row_slice hrow
    have hmv := row_len' hrow
    subst hmv
    clear hst
    by_cases hkl : k < ls.length
    · obtain ⟨b, off, rfl, hbb, hc0⟩ := (H.out.below hB) (by omega)
      obtain ⟨hcell, hsl, heo, hie⟩ := hc0 k hkl
      have hik : (k : Int) < (ls.length : Int) := by omega
      have dk : decide ((k : Int) < (ls.length : Int)) = true := decide_eq_true (by omega)
      have hstep : pairs cs = comsOf first (esOf (ls.take k)) → comsOf first (esOf (ls.take (k + 1))) = pairs cs ++ comsOf (first + cs.length) [(ls.getD k default).es] := by
        intro h
        rw [esOf_take ls k hkl, comsOf_append, ← h]
        simp [pairs]
      have hstep := hstep hpr
      generalize ls.getD k default = s at *
      clear hc0
      obtain ⟨sa, scap, es⟩ := s
      simp only at hcell hsl heo hie hstep
      have HPR := Lib.hid hpr
      have HOK := Lib.hid hok
      have HST := Lib.hid hstep
      have HSL : Hid (SLok wr ⟨sa, scap, es⟩) := ⟨hsl, heo, hie⟩
      clear hpr hok hstep hie heo
      by_cases he : es.length = 0
      · have be : ((es.length : Int) == 0) = true := by rw [he]; rfl
        have HN : Hid (comsOf (first + cs.length) [es] = []) := by
          show comsOf (first + cs.length) [es] = []
          rw [comsOf, if_pos he, comsOf]
        clear he
        go_wp2_with fail
        go_roundw
        case rel =>
          refine ⟨k + 1, cs, rfl, by go_num, by omega, ⟨hrow, hce, hB, by omega, ?_, HOK.out⟩⟩
          rw [HST.out, HN.out, List.append_nil]
        case measure => simp [intOf]; omega
      · have be : ((es.length : Int) == 0) = false := by rw [beq_eq_false_iff_ne]; omega
        have HN : Hid (comsOf (first + cs.length) [es] = [(first + cs.length, es.map (setR (first + cs.length)))]) := by
          show comsOf (first + cs.length) [es] = _
          rw [comsOf, if_neg he, comsOf]
        have hwrap : IntKind.u64.wrap (((first + cs.length : Nat) : Int) + 1) = ((first + (cs.length + 1) : Nat) : Int) := by
          have : ((first + cs.length : Nat) : Int) + 1 = ((first + (cs.length + 1) : Nat) : Int) := by omega
          rw [this]; exact IntWalk.u64_in _ (by omega)
        have HW := Lib.hid hwrap
        have hrlt : first + cs.length < 18446744073709551616 := by omega
        have HRL := Lib.hid hrlt
        generalize hrr : first + cs.length = rev at *
        have HRR := Lib.hid hrr
        clear he hwrap hrr hrlt
        generalize wr = wc at *
        clear wr
        go_wp2_with fail
        have hir : CiRel wc rev es 0 (.slice none 0 0) (wc.alloc (.cells #[.int .u64 (rev : Int), .slice none 0 0] 25)) :=
          ⟨heap_alloc_new _ _, World.ownsRow_nil _ _ _ _, (Below.refl _ _).alloc (Nat.le_refl _) _⟩
        have HIR := Lib.hid hir
        clear hir
        generalize (wc.alloc (.cells #[.int .u64 (rev : Int), .slice none 0 0] 25)) = W0 at *
        go_loopw [26] (fun i wi => ∃ (j : Nat) (v : Value), i = .int .i64 j ∧ j ≤ es.length ∧ Hid (CiRel wc rev es j v wi)) (fun i _ => es.length - (intOf i).toNat)
        case atStart => exact ⟨0, .slice none 0 0, rfl, Nat.zero_le _, HIR⟩
        case round =>
          clear HIR
          obtain ⟨j, v, rfl, hj, hst2⟩ := hrel
          obtain ⟨hgc, hvr, hBi⟩ := hst2.out
          obtain ⟨a2, m2, c2, rfl⟩ := row_slice hvr
          have hm2 := row_len' hvr
          clear hst2
          by_cases hjl : j < es.length
          · obtain ⟨eb, eo, rfl, heb, e0, e1, e2⟩ := ents_at (HSL.out.2.2.below hBi) j hjl
            have hij : (j : Int) < (es.length : Int) := by omega
            have dj : decide ((j : Int) < (es.length : Int)) = true := decide_eq_true (by omega)
            have HT := Lib.hid (setR_take rev es j hjl)
            generalize es.getD j default = x at *
            obtain ⟨xk, xr, xd⟩ := x
            simp only at e0 e1 e2
            subst hm2
            have hgl := heap_lt hgc
            have hx1 := heap_alloc_new wr (.cells #[.string xk, .int .u64 (xr : Int), .bool xd] 48)
            have hvr1 := hvr.alloc (.cells #[.string xk, .int .u64 (xr : Int), .bool xd] 48)
            have hgc1 := (Below.heap_alloc wr (.cells #[.string xk, .int .u64 (xr : Int), .bool xd] 48) _ hgl).trans hgc
            have hB1 := hBi.alloc hBi.size (.cells #[.string xk, .int .u64 (xr : Int), .bool xd] 48)
            have HX2 := Lib.hid (heap_alloc_new wr (.cells #[.string xk, .int .u64 (rev : Int), .bool xd] 48))
            have HV2 := Lib.hid (hvr.alloc (.cells #[.string xk, .int .u64 (rev : Int), .bool xd] 48))
            have HG2 := Lib.hid ((Below.heap_alloc wr (.cells #[.string xk, .int .u64 (rev : Int), .bool xd] 48) _ hgl).trans hgc)
            have HB2 := Lib.hid (hBi.alloc hBi.size (.cells #[.string xk, .int .u64 (rev : Int), .bool xd] 48))
            have f1 := frozen_of_row _ wr.heap.size 1 _ _ hx1
            have c1 := heap_cell hx1 1
            simp at c1
            have HWI := Lib.hid hBi.size
            have HES : Hid (es.length * 32 ≤ 140737488351232) := HSL.out.1
            clear hx1 hvr1 hgc1 hB1 hvr hgc hBi
            go_upto_region 12 with (fail)
            generalize (wr.alloc (.cells #[.string xk, .int .u64 (rev : Int), .bool xd] 48)) = W2 at *
            generalize wr.heap.size = gx at *
            clear f1 c1
            have z0 := heap_cell HX2.out 0
            have z1 := heap_cell HX2.out 1
            have z2 := heap_cell HX2.out 2
            have y0 := heap_cell HG2.out 0
            have y1 := heap_cell HG2.out 1
            have yf := frozen_of_row W2 wc.heap.size 1 _ _ HG2.out
            simp at z0 z1 z2 y0 y1
            have hone := one_vals W2 (.string xk) (.int .u64 (rev : Int)) (.bool xd) 48
            have HRowA := Lib.hid (HV2.out.alloc (.cells #[.string xk, .int .u64 (rev : Int), .bool xd] 48))
            have HCmA := Lib.hid ((Below.heap_alloc W2 (.cells #[.string xk, .int .u64 (rev : Int), .bool xd] 48) _ (heap_lt HG2.out)).trans HG2.out)
            have HBA := Lib.hid (HB2.out.alloc HB2.out.size (.cells #[.string xk, .int .u64 (rev : Int), .bool xd] 48))
            have HOne := Lib.hid hone
            clear hone
            have he1 : es.length * 32 ≤ 140737488351232 := HES.out
            go_wp2_with (at_builtin; refine wpList_append_vals _ rfl (.tmp 33) (.tmp 35) 23 rfl wc.heap.size 48 i48 _ 3 32 Try.underlying23 hi hz0 hz1 hz2 rfl (by decide) (.slice a2 m2 c2) m2 (entsV ((es.take m2).map (setR rev))) (by rfl) HRowA.out (some ⟨W2.heap.size, 0, none⟩) 1 1 [.string xk, .int .u64 (rev : Int), .bool xd] rfl rfl HOne.out (entsV_one [⟨xk, rev, xd⟩]) (by unfold maxLen; omega) (by omega) HBA.out.size ?_; intro v6 w6 hrow6 hg6; have hcm6 := heap_kept HRowA.out HCmA.out (by decide) hg6; have hB6 := Below.own HBA.out HRowA.out (Nat.le_refl _) HBA.out.size hg6; have hp6 := heap_cell hcm6 1; have hpf6 := frozen_of_row w6 wc.heap.size 1 _ _ hcm6; obtain ⟨a6, m6, c6, rfl⟩ := row_slice hrow6; have HCm6 := Lib.hid hcm6; have HB6 := Lib.hid hB6; have HRow6 := Lib.hid hrow6; clear hcm6 hB6 hrow6 hg6; simp at hp6)
            go_roundw
            case rel =>
              refine ⟨m2 + 1, .slice a6 m6 c6, by go_num, by omega, ⟨heap_setCell_same _ wc.heap.size 1 _ 25 _ HCm6.out, ?_, HB6.out.setCell (Nat.le_refl _) _⟩⟩
              have hrow7 := HRow6.out.kept (grown_cell w6 wc.heap.size 1 (.slice a6 m6 c6)) (row_not HRow6.out HCm6.out (by decide))
              rw [HT.out, entsV_append]
              exact hrow7
            case measure => simp [intOf]; omega
          · obtain rfl : j = es.length := by omega
            have dj : decide ((es.length : Int) < (es.length : Int)) = false := by simp
            have y0 := heap_cell hgc 0
            have y1 := heap_cell hgc 1
            simp at y0 y1
            have hgl := heap_lt hgc
            have hrowA := (Below.row hBi hrow).alloc (.cells #[.int .u64 (rev : Int), .slice a2 m2 c2] 25)
            have hceA : ComEnts (wr.alloc (.cells #[.int .u64 (rev : Int), .slice a2 m2 c2] 25)) w.heap.size cs := fun c hc => ⟨((hce.below hBi) c hc).1.alloc (.cells #[.int .u64 (rev : Int), .slice a2 m2 c2] 25), ((hce.below hBi) c hc).2⟩
            have hentA := (row_lower hvr hB.size).alloc (.cells #[.int .u64 (rev : Int), .slice a2 m2 c2] 25)
            have hB1 := hB.trans (hBi.mono hB.size)
            have hBA := hB1.alloc hB1.size (.cells #[.int .u64 (rev : Int), .slice a2 m2 c2] 25)
            have HRowA := Lib.hid hrowA
            have HCeA := Lib.hid hceA
            have HEntA := Lib.hid hentA
            have HBA := Lib.hid hBA
            have HOne := Lib.hid (two_vals wr (.int .u64 (rev : Int)) (.slice a2 m2 c2) 25)
            have HOC : Hid (∀ u ∈ [Value.int .u64 (rev : Int), .slice a2 m2 c2], u.oneCell' = true) := by
              intro u hu
              simp only [List.mem_cons, List.not_mem_nil, or_false] at hu
              rcases hu with rfl | rfl <;> rfl
            have HM2 := Lib.hid hm2
            have HKL : Hid (cs.length ≤ 1000) := by show _ ≤ _; omega
            clear hrowA hceA hentA hBA hB1 hgc hvr hBi hm2
            have hcl : cs.length ≤ 1000 := HKL.out
            go_wp2_with (at_builtin; refine wpList_append_vals _ rfl (.tmp 39) (.tmp 41) 37 rfl w.heap.size 25 i25 _ 2 32 Try.underlying37 hi25 hy0 hy1 hy2 rfl (by decide) (.slice av cs.length cv) cs.length (comsV cs) (by rfl) HRowA.out (some ⟨wr.heap.size, 0, none⟩) 1 1 [.int .u64 (rev : Int), .slice a2 m2 c2] rfl rfl HOne.out HOC.out (by unfold maxLen; omega) (by omega) HBA.out.size ?_; intro v6 w6 hrow6 hg6; have hce6 := ComEnts.kept (cs := cs) HCeA.out HRowA.out (by decide) hg6; have hent6 := HEntA.out.kept hg6 (own_ne HRowA.out HEntA.out (by decide)); have hB6 := Below.own HBA.out HRowA.out (Nat.le_refl _) HBA.out.size hg6)
            go_roundw
            case rel =>
              refine ⟨k + 1, cs ++ [⟨rev, a2, c2, es.map (setR rev)⟩], ?_, by go_num, by omega, ⟨?_, ?_, hB6, by rw [List.length_append]; simp; omega, ?_, ?_⟩⟩
              · rw [HW.out, ← HRR.out]; simp
              · rw [comsV_append, List.length_append]
                have : comsV [⟨rev, a2, c2, es.map (setR rev)⟩] = [.int .u64 (rev : Int), .slice a2 m2 c2] := by simp [comsV, HM2.out]
                rw [this]
                exact hrow6
              · intro c hc
                rw [List.mem_append] at hc
                rcases hc with hc | hc
                · exact hce6 c hc
                · simp only [List.mem_cons, List.not_mem_nil, or_false] at hc
                  subst hc
                  refine ⟨?_, HRL.out⟩
                  have := hent6
                  rw [List.take_length] at this
                  simpa [HM2.out] using this
              · rw [HST.out, HN.out, pairs, List.map_append]; rfl
              · intro c hc
                rw [List.mem_append] at hc
                rcases hc with hc | hc
                · exact HOK.out c hc
                · simp only [List.mem_cons, List.not_mem_nil, or_false] at hc
                  subst hc
                  refine ⟨by simpa using HSL.out.1, fun i => ?_⟩
                  show EntOk ((es.map (setR rev)).getD i default)
                  by_cases hi : i < es.length
                  · rw [List.getD_eq_getElem?_getD, List.getElem?_map, List.getElem?_eq_getElem hi]
                    have := HSL.out.2.1 i
                    rw [List.getD_eq_getElem?_getD, List.getElem?_eq_getElem hi] at this
                    exact ⟨HRL.out, this.2⟩
                  · rw [List.getD_eq_getElem?_getD, List.getElem?_eq_none (by simp; omega)]
                    exact ⟨by decide, by decide⟩
            case measure => simp [intOf]; omega
    · obtain rfl : k = ls.length := by omega
      have dk : decide ((ls.length : Int) < (ls.length : Int)) = false := by simp
      have HPR := Lib.hid hpr
      have HOK := Lib.hid hok
      rw [List.take_length] at HPR
      clear hpr hok
      go_wp2_with fail
      go_ret
      exact ⟨hB, _, cs, rfl, HPR.out, hrow, hce, HOK.out⟩
end Go.Proofs.Ytbamohcaamgalae
