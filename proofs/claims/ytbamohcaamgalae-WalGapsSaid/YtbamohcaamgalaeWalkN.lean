/- A record decoded: walked. -/
import Derived.Test.YtbamohcaamgalaeKitc
namespace Go.Proofs.Ytbamohcaamgalae
set_option linter.unusedVariables false
set_option linter.unusedSimpArgs false
open Go.RowKit

theorem Try.info48 : (Try.prog.info? 48).map (fun i => (i.zero, i.size, i.bytes)) = some (some (.agg #[.string ⟨#[]⟩, .int .u64 0, .bool false]), 3, 32) := by kernel_rfl
/-- what decoding answers -/
def DecIs (l : List UInt8) (w : World) (e : Ending) (w' : World) : Prop :=
  Below w.heap.size w w' ∧ (∀ rev es, Decodes l rev es → ∃ a cap, e = .returned (.tuple #[comV rev a es.length cap, .int .i64 0]) ∧ w'.ownsRow w.heap.size 48 3 (.slice a es.length cap) es.length (entsV es)) ∧
    ((∀ rev es, ¬ Decodes l rev es) → e = .returned (.tuple #[comV 0 none 0 0, .int .i64 9]))
theorem com_new (w : World) (rev : Int) (v : Value) : (w.alloc (.cells #[.int .u64 rev, v] 25)).heap[w.heap.size]? = some (.cells #[.int .u64 rev, v] 25 (0, 0)) := heap_alloc_new w _
theorem gotT_len (l : List UInt8) : (gotT l).length ≤ l.length := by
  unfold gotT
  split
  · rw [List.length_take, List.length_drop]; omega
  · simp
theorem stepL_len (o : Bool) (e n : Nat) (q : List UInt8) : (stepL o e n q).length ≤ q.length := by
  unfold stepL
  split
  · rw [List.length_drop]; omega
  · exact Nat.le_refl _
theorem decIs_bad {l : List UInt8} {w w' : World} (hB : Below w.heap.size w w') (h : ∀ r es, ¬ Decodes l r es) : DecIs l w (.returned (.tuple #[.agg #[.int .u64 0, .slice none 0 0], .int .i64 9])) w' :=
  ⟨hB, fun r es hd => absurd hd (h r es), fun _ => rfl⟩
theorem RdAt.kept {w w' : World} {g : Nat} {w0 : World} {l : List UInt8} {odd : Bool} (h : RdAt w g w0 l odd) (e : w'.heap[g]? = w.heap[g]?) : RdAt w' g w0 l odd := by
  obtain ⟨a, cap, h1, h2, h3⟩ := h
  exact ⟨a, cap, e.trans h1, h2, h3⟩
theorem RdAt.lt {w : World} {g : Nat} {w0 : World} {l : List UInt8} {odd : Bool} (h : RdAt w g w0 l odd) : g < w.heap.size := by
  obtain ⟨a, cap, h1, _⟩ := h
  exact (Array.getElem?_eq_some_iff.1 h1).1
theorem row_not {w : World} {B g : Nat} {e t : TypeId} {size n : Nat} {v : Value} {xs : List Value} {cs : Array Value} (hown : w.ownsRow B e size v n xs) (h : w.heap[g]? = some (.cells cs t (0, 0))) (hne : e ≠ t) : v.ownBlock = none ∨ v.ownBlock ≠ some g := by
  rcases hown.2 with ⟨rfl, _⟩ | ⟨g', cap', cur, rfl, _, hg, _⟩
  · exact .inl rfl
  · right
    intro e
    simp only [Value.ownBlock, Option.some.injEq] at e
    subst e
    rw [hg] at h
    simp only [Option.some.injEq, Obj.cells.injEq] at h
    exact hne h.2.1
theorem row_kept_rd {w w' : World} {B g : Nat} {e : TypeId} {size n : Nat} {v : Value} {xs : List Value} {w0 : World} {l : List UInt8} {odd : Bool} (hown : w.ownsRow B e size v n xs) (h : RdAt w g w0 l odd) (hne : e ≠ 57) (hg : w.grownBy w' (some g)) : w'.ownsRow B e size v n xs := by
  obtain ⟨a, cap, h1, _⟩ := h
  exact hown.kept hg (row_not hown h1 hne)
section
variable {P : Program} {ops : Array Oper} {Q : Exit → Act → World → Prop} {md : Region.Mode} {S : World → Prop}
theorem only_none (i : Nat) {o : Oper} {fuel : Nat} {listed : Array Bool} {a : Act} {w : World} (hr : Region.ready md ops listed = [i]) (ho : ops[i]? = some o) (hd : o.dst = none) (hw : Region.wanted o (yielded ops a.tmps) = true)
    (h : ∀ K' : Act → World → Prop, Shut (∀ a w, S w → (S w → wpAnyH P md ops Q S fuel (listed.setIfInBounds i true) a w) → K' a w) → Oper.wp P { o with dst := none } a w K' Q) : wpAnyH P md ops Q S (fuel + 1) listed a w := by
  refine wpAnyH_ready hr (by simp) (AllReadyH.cons ho (fun K' hK => ?_) AllReadyH.nil)
  rw [if_pos hw]
  have e : ({ o with dst := none } : Oper) = o := by cases o; simp_all
  have := h K' hK
  rwa [e] at this
end
/-- what is known of the entries -/
def DecP (l : List UInt8) (rev n : Nat) (lc : List UInt8) (odd : Bool) (acc : List Ent) : Prop :=
  lc.length ≤ l.length ∧ (odd = false → acc.length + lc.length ≤ l.length) ∧ acc.length ≤ l.length + 1 ∧
    (odd = false → (ents rev n lc).map (fun p => (acc ++ p.1, p.2)) = ents (getV l) (getV (rest1 l)) (rest1 (rest1 l)) ∧ getE l = 0 ∧ getE (rest1 l) = 0) ∧ (odd = true → ∀ r es, ¬ Decodes l r es) ∧ (∀ x ∈ acc, x.rev = rev ∧ x.key.size ≤ l.length)
theorem dec_step {l : List UInt8} {rev n : Nat} {lc : List UInt8} {acc : List Ent} (hn : 0 < n) (h : DecP l rev n lc false acc) :
    DecP l rev (n - 1) (stepL (stepO false (flagE lc)) (textN (stepL false (flagE lc) 1 lc)) (usedT (stepL false (flagE lc) 1 lc)) (stepL false (flagE lc) 1 lc)) (stepO (stepO false (flagE lc)) (textN (stepL false (flagE lc) 1 lc))) (acc ++ [⟨⟨(gotT (stepL false (flagE lc) 1 lc)).toArray⟩, rev, flagV lc⟩]) := by
  obtain ⟨h1, h2, h3, h4, h5, h6⟩ := h
  obtain ⟨k1, k2, k3⟩ := h4 rfl
  have hsl := stepL_len
  have hl1 := hsl false (flagE lc) 1 lc
  have hl2 := hsl (stepO false (flagE lc)) (textN (stepL false (flagE lc) 1 lc)) (usedT (stepL false (flagE lc) 1 lc)) (stepL false (flagE lc) 1 lc)
  have hg := gotT_len (stepL false (flagE lc) 1 lc)
  obtain ⟨n, rfl⟩ : ∃ m, n = m + 1 := ⟨n - 1, by omega⟩
  have hlen : (acc ++ [(⟨⟨(gotT (stepL false (flagE lc) 1 lc)).toArray⟩, rev, flagV lc⟩ : Ent)]).length = acc.length + 1 := by simp
  have hne : stepO (stepO false (flagE lc)) (textN (stepL false (flagE lc) 1 lc)) = false → flagE lc = 0 ∧ textN (lc.drop 1) = 0 ∧ stepL false (flagE lc) 1 lc = lc.drop 1 ∧ stepO false (flagE lc) = false ∧ 0 < lc.length := by
    intro ho
    have e0 : flagE lc = 0 := by
      by_cases h0 : flagE lc = 0
      · exact h0
      · simp [stepO, h0] at ho
    have e1 : stepL false (flagE lc) 1 lc = lc.drop 1 := by rw [stepL, if_pos ⟨rfl, e0⟩]
    have e2 : stepO false (flagE lc) = false := by rw [e0]; rfl
    rw [e1, e2] at ho
    have e3 : textN (lc.drop 1) = 0 := by
      simp only [stepO, Bool.false_or, bne_eq_false_iff_eq] at ho
      exact ho
    refine ⟨e0, e3, e1, e2, ?_⟩
    rcases Nat.eq_zero_or_pos lc.length with h | h
    · rw [flagE, if_pos (.inl h)] at e0; cases e0
    · exact h
  refine ⟨by omega, fun ho => ?_, ?_, fun ho => ?_, fun ho r es hd => ?_, fun x hx => ?_⟩
  · obtain ⟨_, _, e1, _, hpos⟩ := hne ho
    have := h2 rfl
    have : (stepL false (flagE lc) 1 lc).length = lc.length - 1 := by rw [e1, List.length_drop]
    rw [hlen]; omega
  · have := h2 rfl; rw [hlen]; omega
  · obtain ⟨e0, e3, e1, e2, hpos⟩ := hne ho
    refine ⟨?_, k2, k3⟩
    rw [← k1, ents_step rev n lc e0 e3, e1, e2, e3]
    have : stepL false 0 (usedT (lc.drop 1)) (lc.drop 1) = (lc.drop 1).drop (usedT (lc.drop 1)) := by rw [stepL, if_pos ⟨rfl, rfl⟩]
    rw [this, Nat.add_sub_cancel]
    cases ents rev n ((lc.drop 1).drop (usedT (lc.drop 1))) with
    | none => rfl
    | some p => simp
  · have hbad : flagE lc ≠ 0 ∨ textN (lc.drop 1) ≠ 0 := by
      by_cases e0 : flagE lc = 0
      · right
        intro e3
        have e1 : stepL false (flagE lc) 1 lc = lc.drop 1 := by rw [stepL, if_pos ⟨rfl, e0⟩]
        have e2 : stepO false (flagE lc) = false := by rw [e0]; rfl
        rw [e1, e2, e3] at ho
        cases ho
      · exact .inl e0
    have hs := hd.2.2.2.1
    rw [← k1, ents_bad rev n lc hbad] at hs
    cases hs
  · rw [List.mem_append] at hx
    rcases hx with hx | hx
    · exact h6 x hx
    · simp only [List.mem_cons, List.not_mem_nil, or_false] at hx
      subst hx
      refine ⟨rfl, ?_⟩
      simp only
      have : (ByteArray.mk (gotT (stepL false (flagE lc) 1 lc)).toArray).size = (gotT (stepL false (flagE lc) 1 lc)).length := List.size_toArray
      rw [this]; omega
theorem heap_kept {w w' : World} {B g : Nat} {e t : TypeId} {size n : Nat} {v : Value} {xs : List Value} {cs : Array Value} (hown : w.ownsRow B e size v n xs) (h : w.heap[g]? = some (.cells cs t (0, 0))) (hne : e ≠ t) (hg : w.grownBy w' v.ownBlock) : w'.heap[g]? = some (.cells cs t (0, 0)) := by
  rw [hg.block g (Array.getElem?_eq_some_iff.1 h).1 ?_]
  · exact h
  · rcases row_not hown h hne with e | e
    · rw [e]; intro e2; cases e2
    · exact fun e2 => e e2.symm
theorem rd_keptrow {w w' : World} {B g : Nat} {e : TypeId} {size n : Nat} {v : Value} {xs : List Value} {w0 : World} {l : List UInt8} {odd : Bool} (hown : w.ownsRow B e size v n xs) (h : RdAt w g w0 l odd) (hne : e ≠ 57) (hg : w.grownBy w' v.ownBlock) : RdAt w' g w0 l odd := by
  obtain ⟨a, cap, h1, h2, h3⟩ := h
  exact ⟨a, cap, heap_kept hown h1 hne hg, h2, h3⟩
theorem one_vals (w : World) (x y z : Value) (t : TypeId) : IsVals (w.alloc (.cells #[x, y, z] t)) (some ⟨w.heap.size, 0, none⟩) [x, y, z] := by
  intro _
  refine ⟨w.heap.size, 0, rfl, by simp, fun k hk => ?_⟩
  rw [cell_of_row _ _ _ _ _ _ (heap_alloc_new w _)]
  match k, hk with
  | 0, _ => rfl
  | 1, _ => rfl
  | 2, _ => rfl
theorem heap_cell {w : World} {g : Nat} {cs : Array Value} {t : TypeId} (h : w.heap[g]? = some (.cells cs t (0, 0))) (i : Nat) : w.cell? ⟨g, i, none⟩ = cs[i]? := cell_of_row w g i cs t _ h
theorem heap_lt {w : World} {g : Nat} {o : Obj} (h : w.heap[g]? = some o) : g < w.heap.size := (Array.getElem?_eq_some_iff.1 h).1
def resV : Obj := .cells #[.int .u64 0, .slice none 0 0] 25 (0, 0)
/-- behind some entries -/
def DecRel (l : List UInt8) (w : World) (gr gc : Nat) (rev n : Nat) (lc : List UInt8) (odd : Bool) (acc : List Ent) (v : Value) (wr : World) : Prop :=
  RdAt wr gr w lc odd ∧ wr.heap[gc]? = some (.cells #[.int .u64 (rev : Int), v] 25 (0, 0)) ∧ wr.ownsRow w.heap.size 48 3 v acc.length (entsV acc) ∧ Below w.heap.size w wr ∧
    Hid (DecP l rev n lc odd acc)
/-- an entry is begun -/
def EntAt (w : World) (l : List UInt8) (gr gc rev : Nat) (lc : List UInt8) (v : Value) (acc : List Ent) (gt : Nat) (wc : World) : Prop :=
  wc.heap[gt]? = some (.cells #[.string { data := #[] }, .int .u64 (rev : Int), .bool (flagV lc)] 48 (0, 0)) ∧ RdAt wc gr w (stepL false (flagE lc) 1 lc) (stepO false (flagE lc)) ∧ wc.heap[gc]? = some (.cells #[.int .u64 (rev : Int), v] 25 (0, 0)) ∧
    wc.ownsRow w.heap.size 48 3 v acc.length (entsV acc) ∧ Below w.heap.size w wc ∧ gt ≠ gc ∧ gt ≠ gr ∧ w.heap.size ≤ gt ∧ (v.ownBlock = none ∨ v.ownBlock ≠ some gt)
theorem ent_alloc {l : List UInt8} {w W1 : World} {gr gc rev : Nat} {lc : List UInt8} {v : Value} {acc : List Ent} (hr : RdAt W1 gr w (stepL false (flagE lc) 1 lc) (stepO false (flagE lc))) (hcm : W1.heap[gc]? = some (.cells #[.int .u64 (rev : Int), v] 25 (0, 0)))
    (hrow : W1.ownsRow w.heap.size 48 3 v acc.length (entsV acc)) (hB : Below w.heap.size w W1) :
    EntAt w l gr gc rev lc v acc W1.heap.size (W1.alloc (.cells #[.string { data := #[] }, .int .u64 (rev : Int), .bool (flagV lc)] 48)) := by
  have h1 := hr.lt
  have h2 := heap_lt hcm
  refine ⟨heap_alloc_new W1 _, hr.kept (Below.heap_alloc _ _ _ h1), (Below.heap_alloc _ _ _ h2).trans hcm, hrow.alloc _, hB.alloc hB.size _, by omega, by omega, hB.size, ?_⟩
  cases hv : v.ownBlock with
  | none => exact .inl rfl
  | some g =>
    right
    have := (hrow.lt g hv).2
    intro e
    have := Option.some.inj e
    omega
theorem ent_set {l : List UInt8} {w W : World} {gr gc rev gt : Nat} {lc : List UInt8} {v : Value} {acc : List Ent} {x y z : Value} (ht : W.heap[gt]? = some (.cells #[x, y, z] 48 (0, 0))) (hr : RdAt W gr w (stepL false (flagE lc) 1 lc) (stepO false (flagE lc))) (hcm : W.heap[gc]? = some (.cells #[.int .u64 (rev : Int), v] 25 (0, 0)))
    (hrow : W.ownsRow w.heap.size 48 3 v acc.length (entsV acc)) (hB : Below w.heap.size w W) (h1 : gt ≠ gc) (h2 : gt ≠ gr) (h3 : w.heap.size ≤ gt) (h4 : v.ownBlock = none ∨ v.ownBlock ≠ some gt) :
    EntAt w l gr gc rev lc v acc gt (((W.setCell ⟨gt, 0, none⟩ (.string { data := #[] })).setCell ⟨gt, 1, none⟩ (.int .u64 (rev : Int))).setCell ⟨gt, 2, none⟩ (.bool (flagV lc))) := by
  have k1 := heap_setCell_same _ gt 0 _ 48 (.string { data := #[] }) ht
  have k2 := heap_setCell_same _ gt 1 _ 48 (.int .u64 (rev : Int)) k1
  have k3 := heap_setCell_same _ gt 2 _ 48 (.bool (flagV lc)) k2
  have hg : W.grownBy (((W.setCell ⟨gt, 0, none⟩ (.string { data := #[] })).setCell ⟨gt, 1, none⟩ (.int .u64 (rev : Int))).setCell ⟨gt, 2, none⟩ (.bool (flagV lc))) (some gt) :=
    grownBy_trans (grownBy_trans (grown_cell W gt 0 _) (grown_cell _ gt 1 _)) (grown_cell _ gt 2 _)
  exact ⟨k3, hr.kept (hg.block gr hr.lt (fun e => h2 (Option.some.inj e).symm)), (hg.block gc (heap_lt hcm) (fun e => h1 (Option.some.inj e).symm)).trans hcm, hrow.kept hg h4, hB.grown hg hB.size (fun k e => by cases e; exact h3), h1, h2, h3, h4⟩
set_option maxRecDepth 100000 in
set_option maxHeartbeats 2000000 in
theorem decode_any (a : Option Addr) (cap : Nat) (l : List UInt8) (w : World) (hl : l.length ≤ 1000000) (hc : l.length ≤ cap) (h : IsBytes w a l) :
    Calls Try.prog 13 #[.slice a l.length cap] w (DecIs l w) := by
  obtain ⟨i48, hi, hz0, hz1, hz2⟩ := info_parts Try.info48
  have H := Lib.hid h
  have hN1 := getN_le l
  have hV := getV_lt l
  have hB0 := (Below.refl w.heap.size w).alloc (Nat.le_refl _) (.cells #[.int .u64 0, .slice none 0 0] 25)
  have hB1 := hB0.alloc hB0.size (.cells #[.slice a l.length cap, .bool false] 57)
  have hr1 : RdAt ((w.alloc (.cells #[.int .u64 0, .slice none 0 0] 25)).alloc (.cells #[.slice a l.length cap, .bool false] 57)) (w.heap.size + 1) w l false := by
    refine ⟨a, cap, ?_, h, hc⟩
    have := heap_alloc_new (w.alloc (.cells #[.int .u64 0, .slice none 0 0] 25)) (.cells #[.slice a l.length cap, .bool false] 57)
    simpa using this
  have hres1 : ((w.alloc (.cells #[.int .u64 0, .slice none 0 0] 25)).alloc (.cells #[.slice a l.length cap, .bool false] 57)).heap[w.heap.size]? = some (.cells #[.int .u64 0, .slice none 0 0] 25 (0, 0)) := by
    rw [Below.heap_alloc _ _ _ (by simp)]; exact heap_alloc_new w _
  have HNum1 := Lib.hid (rdnum_any (w.heap.size + 1) _ w l false (by omega) hB1 hr1)
  have hgr1 := hr1.lt
  clear h
  go_enter Try.func13, Try.ntmps13
  go_wp2_with fail
  refine HNum1.out.mono ?_
  clear HNum1 hr1
  rintro e w2 ⟨rfl, hg2, hr2⟩
  have hB2 := hB1.grown hg2 hB1.size (fun k e => by cases e; omega)
  have hres2 := (hg2.block w.heap.size (by simp; omega) (fun e => by have := Option.some.inj e; omega)).trans hres1
  have hgr2 := hr2.lt
  have hB3 := hB2.alloc hB2.size (.cells #[.int .u64 (getV l : Int), .slice none 0 0] 25)
  have hr3 : RdAt (w2.alloc (.cells #[.int .u64 (getV l : Int), .slice none 0 0] 25)) (w.heap.size + 1) w (stepL false (getE l) (getN l) l) (stepO false (getE l)) := hr2.kept (Below.heap_alloc _ _ _ hgr2)
  have hl1 : (stepL false (getE l) (getN l) l).length ≤ l.length := stepL_len _ _ _ _
  have hc3 := com_new w2 (getV l : Int) (.slice none 0 0)
  have hres3 : (w2.alloc (.cells #[.int .u64 (getV l : Int), .slice none 0 0] 25)).heap[w.heap.size]? = some (.cells #[.int .u64 0, .slice none 0 0] 25 (0, 0)) := (Below.heap_alloc _ _ _ (by omega)).trans hres2
  have HNum2 := Lib.hid (rdnum_any (w.heap.size + 1) _ w _ _ (by omega) hB3 hr3)
  have hgc : w.heap.size + 1 < w2.heap.size := hgr2
  have hgc3 : w2.heap.size < (w2.alloc (.cells #[.int .u64 (getV l : Int), .slice none 0 0] 25)).heap.size := by simp
  clear hB0 hB1 hres1 hg2 hr2 hres2 hB2
  go_wp2_with fail
  refine HNum2.out.mono ?_
  clear HNum2
  rintro e w4 ⟨rfl, hg4, hr4⟩
  have hB4 := hB3.grown hg4 hB3.size (fun k e => by cases e; omega)
  have hc4 := (hg4.block w2.heap.size hgc3 (fun e => by have := Option.some.inj e; omega)).trans hc3
  have hres4 := (hg4.block w.heap.size (by omega) (fun e => by have := Option.some.inj e; omega)).trans hres3
  have hl2 : (stepL (stepO false (getE l)) (getE (stepL false (getE l) (getN l) l)) (getN (stepL false (getE l) (getN l) l)) (stepL false (getE l) (getN l) l)).length ≤ l.length := by
    have := stepL_len
    exact Nat.le_trans (this _ _ _ _) hl1
  have hrel0 : DecRel l w (w.heap.size + 1) w2.heap.size (getV l) (getV (stepL false (getE l) (getN l) l)) (stepL (stepO false (getE l)) (getE (stepL false (getE l) (getN l) l)) (getN (stepL false (getE l) (getN l) l)) (stepL false (getE l) (getN l) l)) (stepO (stepO false (getE l)) (getE (stepL false (getE l) (getN l) l))) [] (.slice none 0 0) w4 := by
    refine ⟨hr4, hc4, World.ownsRow_nil _ _ _ _, hB4, hl2, fun _ => by rw [List.length_nil, Nat.zero_add]; exact hl2, Nat.zero_le _, ?_, ?_, fun x hx => by cases hx⟩
    · intro ho
      have h0 : getE l = 0 := by
        by_cases h0 : getE l = 0
        · exact h0
        · simp [stepO, h0] at ho
      have e1 : stepL false (getE l) (getN l) l = rest1 l := by rw [stepL, if_pos ⟨rfl, h0⟩]; rfl
      have e0 : stepO false (getE l) = false := by rw [h0]; rfl
      rw [e1, e0] at ho ⊢
      have h1 : getE (rest1 l) = 0 := by
        by_cases h1 : getE (rest1 l) = 0
        · exact h1
        · simp [stepO, h1] at ho
      have e2 : stepL false (getE (rest1 l)) (getN (rest1 l)) (rest1 l) = rest1 (rest1 l) := by rw [stepL, if_pos ⟨rfl, h1⟩]; rfl
      rw [e2]
      refine ⟨?_, h0, h1⟩
      cases ents (getV l) (getV (rest1 l)) (rest1 (rest1 l)) <;> rfl
    · intro ho r es hd
      obtain ⟨h0, _, h1, _⟩ := hd
      have e1 : stepL false (getE l) (getN l) l = rest1 l := by rw [stepL, if_pos ⟨rfl, h0⟩]; rfl
      have e0 : stepO false (getE l) = false := by rw [h0]; rfl
      rw [e0, e1] at ho
      simp [stepO, h1] at ho
  have hnv := getV_lt (stepL false (getE l) (getN l) l)
  clear hr4 hc4 hB4 hg4 hres3 hc3 hr3 hB3 hl2 hl1 hgc3 hgr1
  generalize getV (stepL false (getE l) (getN l) l) = n0 at *
  generalize (stepL (stepO false (getE l)) (getE (stepL false (getE l) (getN l) l)) (getN (stepL false (getE l) (getN l) l)) (stepL false (getE l) (getN l) l)) = l20 at *
  generalize (stepO (stepO false (getE l)) (getE (stepL false (getE l) (getN l) l))) = o20 at *
  have HRev : Hid (getV l = getV l) := rfl
  obtain ⟨rev, hrv⟩ : ∃ rev, getV l = rev := ⟨_, rfl⟩
  rw [hrv] at hrel0 hV
  have HRV := Lib.hid hrv
  generalize hgcc : w2.heap.size = gc at *
  generalize hgrr : w.heap.size + 1 = gr at *
  have HGR := Lib.hid hgrr
  have hwg : w.heap.size ≤ gr := by omega
  have hwg2 : w.heap.size < gr := by omega
  clear hgcc hgrr hgr2
  rw [hrv]
  clear hrv
  go_wp2_with fail
  go_loopw [6] (fun i wr => ∃ (n : Nat) (lc : List UInt8) (odd : Bool) (acc : List Ent) (v : Value), i = .int .u64 n ∧ n < 18446744073709551616 ∧ Hid (DecRel l w gr gc rev n lc odd acc v wr ∧ wr.heap[w.heap.size]? = some (.cells #[.int .u64 0, .slice none 0 0] 25 (0, 0)))) (fun i _ => (intOf i).toNat)
  case atStart => exact ⟨n0, l20, o20, [], .slice none 0 0, rfl, hnv, hrel0, hres4⟩
  case round =>
    clear hrel0 hres4 hnv
    obtain ⟨n, lc, odd, acc, v, rfl, hn, hst⟩ := hrel
    obtain ⟨⟨hrd, hcm, hrow, hB, HP⟩, hres⟩ := hst.out
    have HRD := Lib.hid hrd
    have HCM := Lib.hid hcm
    have HRES := Lib.hid hres
    obtain ⟨ar, cr, hh, hibr, hcr⟩ := hrd
    obtain ⟨c0, c1, f0, f1, hgl⟩ := rd_cells hh
    clear hst hh hibr
    obtain ⟨av, mv, cv, rfl⟩ := row_slice hrow
    have hmv := row_len' hrow
    subst hmv
    by_cases hcont : 0 < n ∧ odd = false
    · obtain ⟨hn0, rfl⟩ := hcont
      have dn : decide (0 < (n : Int)) = true := decide_eq_true (by omega)
      have hS0 : wr.drew.cell? ⟨gc, 0, none⟩ = some (.int .u64 (rev : Int)) := heap_cell (w := wr.drew) hcm 0
      have hbl : lc.length ≤ l.length := HP.out.1
      go_upto_region 6 with (fail)
      go_cut [7] (fun x wc => ∃ gt, x = .pointer (some ⟨gt, 0, none⟩) ∧ Hid (EntAt w l gr gc rev lc (.slice av acc.length cv) acc gt wc ∧ wc.heap[w.heap.size]? = some (.cells #[.int .u64 0, .slice none 0 0] 25 (0, 0))))
      case first =>
        have hrd0 : RdAt wr.drew gr w lc false := HRD.out
        have hcm0 : wr.drew.heap[gc]? = some (.cells #[.int .u64 (rev : Int), .slice av acc.length cv] 25 (0, 0)) := HCM.out
        have hrow0 : wr.drew.ownsRow w.heap.size 48 3 (.slice av acc.length cv) acc.length (entsV acc) := hrow
        have hB0 := hB.drew
        have hres0 : wr.drew.heap[w.heap.size]? = some (.cells #[.int .u64 0, .slice none 0 0] 25 (0, 0)) := HRES.out
        clear c0 c1 f0 f1 hgl hcm hrow hB hres
        refine wp_region_noPanic ?_
        refine wp_region_held_drew (S := fun w' => w'.cell? ⟨gc, 0, none⟩ = some (.int .u64 (rev : Int))) (by kernel_rfl) hS0 (fun hHeld => ?_)
        clear hS0
        generalize wr.drew = W0 at *
        have hgcl := heap_lt hcm0
        have hgrl := hrd0.lt
        have hwl := heap_lt hres0
        refine take_at 0 27 (v := ?_) rfl rfl (by kernel_rfl) (by kernel_rfl) (by kernel_rfl) (fun _ _ _ h => h) (Or.inl ⟨by rfl, ?_⟩) hHeld ?_
        rotate_left
        · (intro w hSw; (try dsimp only at hSw); go_simp; try with_reducible rfl)
        try simp only [List.setIfInBounds_toArray, List.set_cons_zero, List.set_cons_succ]
        refine take_at 1 28 (v := ?_) rfl rfl (by kernel_rfl) (by kernel_rfl) (by kernel_rfl) (fun _ _ _ h => h) (Or.inl ⟨by rfl, ?_⟩) hHeld ?_
        rotate_left
        · (intro w hSw; (try dsimp only at hSw); go_simp; try with_reducible rfl)
        try simp only [List.setIfInBounds_toArray, List.set_cons_zero, List.set_cons_succ]
        refine take_at 2 29 (v := ?_) rfl rfl (by kernel_rfl) (by kernel_rfl) (by kernel_rfl) (fun _ _ _ h => h) (Or.inl ⟨by rfl, ?_⟩) hHeld ?_
        rotate_left
        · (intro w hSw; (try dsimp only at hSw); go_simp; try with_reducible rfl)
        try simp only [List.setIfInBounds_toArray, List.set_cons_zero, List.set_cons_succ]
        refine two_at 3 5 30 7 (by kernel_rfl) rfl rfl (by rfl) rfl rfl (by rfl) (fun K hK => ?_) (fun K hK => ?_)
        · go_simp
          refine (rdflag_any gr W0 w lc false (by omega) hB0 hrd0).mono ?_
          rintro e W1 ⟨rfl, hg1, hr1⟩
          have hcm1 := (hg1.block gc hgcl (fun e => by have := Option.some.inj e; omega)).trans hcm0
          have hres1 := (hg1.block w.heap.size hwl (fun e => by have := Option.some.inj e; omega)).trans hres0
          have hrow1 := row_kept_rd hrow0 hrd0 (by decide) hg1
          have hB1 := hB0.grown hg1 hB0.size (fun k e => by cases e; exact hwg)
          have hS1 : W1.cell? ⟨gc, 0, none⟩ = some (.int .u64 (rev : Int)) := heap_cell hcm1 0
          go_wp2_with fail
          refine hK.out _ _ hS1 (fun hHeld2 => ?_)
          clear hK K hHeld
          have hHeld := hHeld2
          clear hHeld2
          try simp only [Act.put, List.setIfInBounds_toArray, List.set_cons_zero, List.set_cons_succ]
          refine take_at 4 31 (v := ?_) rfl rfl (by kernel_rfl) (by kernel_rfl) (by kernel_rfl) (fun _ _ _ h => h) (Or.inl ⟨by rfl, ?_⟩) hHeld ?_
          rotate_left
          · (intro w hSw; (try dsimp only at hSw); go_simp; try with_reducible rfl)
          try simp only [List.setIfInBounds_toArray, List.set_cons_zero, List.set_cons_succ]
          refine only_at 5 7 (by kernel_rfl) rfl rfl (by rfl) (fun K hK => ?_)
          have hS2 : (W1.alloc (.cells #[.string { data := #[] }, .int .u64 0, .bool false] 48)).cell? ⟨gc, 0, none⟩ = some (.int .u64 (rev : Int)) := heap_cell ((Below.heap_alloc _ _ _ (heap_lt hcm1)).trans hcm1) 0
          go_simp
          refine hK.out _ _ hS2 (fun hHeld2 => ?_)
          clear hK K hHeld
          have hHeld := hHeld2
          clear hHeld2
          try simp only [Act.put, List.setIfInBounds_toArray, List.set_cons_zero, List.set_cons_succ]
          have hEA := ent_alloc (l := l) hr1 hcm1 hrow1 hB1
          have hS3 : (W1.alloc (.cells #[.string { data := #[] }, .int .u64 (rev : Int), .bool (flagV lc)] 48)).cell? ⟨gc, 0, none⟩ = some (.int .u64 (rev : Int)) := heap_cell ((Below.heap_alloc _ _ _ (heap_lt hcm1)).trans hcm1) 0
          refine only_none 6 (by kernel_rfl) rfl rfl (by rfl) (fun K hK => ?_)
          go_simp
          refine hK.out _ _ hS3 (fun hHeld2 => ?_)
          clear hK K hHeld
          have hHeld := hHeld2
          clear hHeld2
          try simp only [Act.put, List.setIfInBounds_toArray, List.set_cons_zero, List.set_cons_succ]
          refine wpAnyH_done (by kernel_rfl) ?_ _
          refine NoPanic.normal ?_
          go_wp2_with fail
          go_meet
          case rel => exact ⟨W1.heap.size, rfl, hEA, (Below.heap_alloc _ _ _ (heap_lt hres1)).trans hres1⟩
        · have hS1 : (W0.alloc (.cells #[.string { data := #[] }, .int .u64 0, .bool false] 48)).cell? ⟨gc, 0, none⟩ = some (.int .u64 (rev : Int)) := heap_cell ((Below.heap_alloc _ _ _ hgcl).trans hcm0) 0
          have hrd1 : RdAt (W0.alloc (.cells #[.string { data := #[] }, .int .u64 0, .bool false] 48)) gr w lc false := hrd0.kept (Below.heap_alloc _ _ _ hgrl)
          have hcm1 := (Below.heap_alloc W0 (.cells #[.string { data := #[] }, .int .u64 0, .bool false] 48) gc hgcl).trans hcm0
          have hres1 := (Below.heap_alloc W0 (.cells #[.string { data := #[] }, .int .u64 0, .bool false] 48) w.heap.size hwl).trans hres0
          have hrow1 := hrow0.alloc (.cells #[.string { data := #[] }, .int .u64 0, .bool false] 48)
          have hB1 := hB0.alloc hB0.size (.cells #[.string { data := #[] }, .int .u64 0, .bool false] 48)
          have hgt1 := heap_alloc_new W0 (.cells #[.string { data := #[] }, .int .u64 0, .bool false] 48)
          have hgt0 : w.heap.size ≤ W0.heap.size := hB0.size
          have hgn : (Value.slice av acc.length cv).ownBlock = none ∨ (Value.slice av acc.length cv).ownBlock ≠ some W0.heap.size := by
            cases hv : (Value.slice av acc.length cv).ownBlock with
            | none => exact .inl rfl
            | some g =>
              right
              have := (hrow0.lt g hv).2
              intro e
              have := Option.some.inj e
              omega
          have HCM1 := Lib.hid hcm1
          have HRES1 := Lib.hid hres1
          have HRD1 := Lib.hid hrd1
          have HROW1 := Lib.hid hrow1
          have HB1 := Lib.hid hB1
          have HGT1 := Lib.hid hgt1
          have HGN := Lib.hid hgn
          clear hcm1 hres1 hrd1 hrow1 hB1 hgt1 hgn
          go_simp
          refine hK.out _ _ hS1 (fun hHeld2 => ?_)
          clear hK K hHeld
          have hHeld := hHeld2
          clear hHeld2
          try simp only [Act.put, List.setIfInBounds_toArray, List.set_cons_zero, List.set_cons_succ]
          have hsz1 : W0.heap.size < (W0.alloc (.cells #[.string { data := #[] }, .int .u64 0, .bool false] 48)).heap.size := by simp
          generalize W0.alloc (.cells #[.string { data := #[] }, .int .u64 0, .bool false] 48) = W1 at *
          refine only_at 3 30 (by kernel_rfl) rfl rfl (by rfl) (fun K hK => ?_)
          go_simp
          refine (rdflag_any gr W1 w lc false (by omega) HB1.out HRD1.out).mono ?_
          rintro e W2 ⟨rfl, hg2, hr2⟩
          have hcm2 := (hg2.block gc (heap_lt HCM1.out) (fun e => by have := Option.some.inj e; omega)).trans HCM1.out
          have hres2 := (hg2.block w.heap.size (heap_lt HRES1.out) (fun e => by have := Option.some.inj e; omega)).trans HRES1.out
          have hgt2 := (hg2.block W0.heap.size hsz1 (fun e => by have := Option.some.inj e; omega)).trans HGT1.out
          have hrow2 := row_kept_rd HROW1.out HRD1.out (by decide) hg2
          have hB2 := HB1.out.grown hg2 HB1.out.size (fun k e => by cases e; exact hwg)
          have hS2 : W2.cell? ⟨gc, 0, none⟩ = some (.int .u64 (rev : Int)) := heap_cell hcm2 0
          have HEA := Lib.hid (ent_set (l := l) (lc := lc) hgt2 hr2 hcm2 hrow2 hB2 (by omega) (by omega) hgt0 HGN.out)
          have hq0 := heap_cell hgt2 0
          have hq1 := heap_cell hgt2 1
          have hq2 := heap_cell hgt2 2
          have hf0 := frozen_of_row W2 W0.heap.size 0 _ _ hgt2
          have hf1 := frozen_of_row W2 W0.heap.size 1 _ _ hgt2
          have hf2 := frozen_of_row W2 W0.heap.size 2 _ _ hgt2
          simp at hq0 hq1 hq2
          have HRES2 := Lib.hid hres2
          have hne : ¬ gc = W0.heap.size := by omega
          have hne' : ¬ W0.heap.size = gc := by omega
          clear hcm2 hres2 hgt2 hrow2 hB2 hr2 hg2
          go_wp2_with fail
          refine hK.out _ _ hS2 (fun hHeld2 => ?_)
          clear hK K hHeld
          have hHeld := hHeld2
          clear hHeld2
          try simp only [Act.put, List.setIfInBounds_toArray, List.set_cons_zero, List.set_cons_succ]
          refine take_at 4 31 (v := ?_) rfl rfl (by kernel_rfl) (by kernel_rfl) (by kernel_rfl) (fun _ _ _ h => h) (Or.inl ⟨by rfl, ?_⟩) hHeld ?_
          rotate_left
          · (intro w hSw; (try dsimp only at hSw); go_simp; try with_reducible rfl)
          try simp only [List.setIfInBounds_toArray, List.set_cons_zero, List.set_cons_succ]
          refine only_none 6 (by kernel_rfl) rfl rfl (by rfl) (fun K hK => ?_)
          go_simp
          refine hK.out _ _ (heap_cell HEA.out.2.2.1 0) (fun hHeld2 => ?_)
          clear hK K hHeld
          have hHeld := hHeld2
          clear hHeld2
          try simp only [Act.put, List.setIfInBounds_toArray, List.set_cons_zero, List.set_cons_succ]
          refine wpAnyH_done (by kernel_rfl) ?_ _
          refine NoPanic.normal ?_
          go_wp2_with fail
          go_meet
          case rel => exact ⟨W0.heap.size, rfl, HEA.out, by rw [heap_setCell_other _ _ _ _ (by simp only; omega), heap_setCell_other _ _ _ _ (by simp only; omega), heap_setCell_other _ _ _ _ (by simp only; omega)]; exact HRES2.out⟩
      case rest =>
        obtain ⟨gt, rfl, hst⟩ := hcut
        obtain ⟨⟨htt, hrd, hcm, hrow, hB, h1, h2, h3, h4⟩, hres⟩ := hst.out
        have HLP := Lib.hid HP.out
        have hl1 : (stepL false (flagE lc) 1 lc).length ≤ l.length := Nat.le_trans (stepL_len _ _ _ _) hbl
        have HText := Lib.hid (rdtext_any gr _ w _ _ (by omega) hB hrd)
        have hgtl := heap_lt htt
        have hgcl := heap_lt hcm
        have hwl := heap_lt hres
        go_wp2_with fail
        refine HText.out.mono ?_
        clear HText
        rintro e w5 ⟨rfl, hg5, hr5⟩
        have htt5 := (hg5.block gt hgtl (fun e => h2 (Option.some.inj e))).trans htt
        have hcm5 := (hg5.block gc hgcl (fun e => by have := Option.some.inj e; omega)).trans hcm
        have hres5 := (hg5.block w.heap.size hwl (fun e => by have := Option.some.inj e; omega)).trans hres
        have hrow5 := row_kept_rd hrow hrd (by decide) hg5
        have hB5 := hB.grown hg5 hB.size (fun k e => by cases e; exact hwg)
        have q0 := heap_cell htt5 0
        have q1 := heap_cell htt5 1
        have q2 := heap_cell htt5 2
        have g0 := frozen_of_row w5 gt 0 _ _ htt5
        have p0 := heap_cell hcm5 0
        have p1 := heap_cell hcm5 1
        have pf := frozen_of_row w5 gc 1 _ _ hcm5
        simp at q0 q1 q2 p0 p1
        have h1' : ¬ gc = gt := fun e => h1 e.symm
        have hrdK := (hr5.kept (heap_setCell_other w5 ⟨gt, 0, none⟩ gr (.string { data := (gotT (stepL false (flagE lc) 1 lc)).toArray }) (fun e => h2 e.symm)))
        have hcmK := (heap_setCell_other w5 ⟨gt, 0, none⟩ gc (.string { data := (gotT (stepL false (flagE lc) 1 lc)).toArray }) (fun e => h1 e.symm)).trans hcm5
        have hresK := (heap_setCell_other w5 ⟨gt, 0, none⟩ w.heap.size (.string { data := (gotT (stepL false (flagE lc) 1 lc)).toArray }) (fun e => by simp only at e; have := hres5; rw [e, htt5] at this; simp at this)).trans hres5
        have hrowK := hrow5.kept (grown_cell w5 gt 0 (.string { data := (gotT (stepL false (flagE lc) 1 lc)).toArray })) h4
        have hBK := hB5.setCell (p := ⟨gt, 0, none⟩) h3 (.string { data := (gotT (stepL false (flagE lc) 1 lc)).toArray })
        have hszK : (w5.setCell ⟨gt, 0, none⟩ (.string { data := (gotT (stepL false (flagE lc) 1 lc)).toArray })).heap.size = w5.heap.size := by simp
        have HNext := Lib.hid (dec_step hn0 HLP.out)
        have hacc := HLP.out.2.1 rfl
        have HO : Hid (wc = wc) := rfl
        clear hst htt hrd hcm hrow hB hres hg5 hr5 hcm5 hres5 hrow5 hB5 HO
        generalize gotT (stepL false (flagE lc) 1 lc) = KT at *
        generalize (stepL (stepO false (flagE lc)) (textN (stepL false (flagE lc) 1 lc)) (usedT (stepL false (flagE lc) 1 lc)) (stepL false (flagE lc) 1 lc)) = lc2 at *
        generalize stepO (stepO false (flagE lc)) (textN (stepL false (flagE lc) 1 lc)) = o2 at *
        generalize flagV lc = fv at *
        have hone : IsVals ((w5.setCell ⟨gt, 0, none⟩ (.string { data := KT.toArray })).alloc (.cells #[.string { data := KT.toArray }, .int .u64 (rev : Int), .bool fv] 48)) (some ⟨w5.heap.size, 0, none⟩) [.string { data := KT.toArray }, .int .u64 (rev : Int), .bool fv] := by
          have := one_vals (w5.setCell ⟨gt, 0, none⟩ (.string { data := KT.toArray })) (.string { data := KT.toArray }) (.int .u64 (rev : Int)) (.bool fv) 48
          rwa [hszK] at this
        have hrowA := hrowK.alloc (.cells #[.string { data := KT.toArray }, .int .u64 (rev : Int), .bool fv] 48)
        have hcmA := (Below.heap_alloc _ (.cells #[.string { data := KT.toArray }, .int .u64 (rev : Int), .bool fv] 48) _ (heap_lt hcmK)).trans hcmK
        have hresA := (Below.heap_alloc _ (.cells #[.string { data := KT.toArray }, .int .u64 (rev : Int), .bool fv] 48) _ (heap_lt hresK)).trans hresK
        have hrdA := hrdK.kept (Below.heap_alloc _ (.cells #[.string { data := KT.toArray }, .int .u64 (rev : Int), .bool fv] 48) _ hrdK.lt)
        have hBA := hBK.alloc hBK.size (.cells #[.string { data := KT.toArray }, .int .u64 (rev : Int), .bool fv] 48)
        have HOne := Lib.hid hone
        have HRowA := Lib.hid hrowA
        have HCmA := Lib.hid hcmA
        have HResA := Lib.hid hresA
        have HRdA := Lib.hid hrdA
        have HBA := Lib.hid hBA
        clear hone hrowA hcmA hresA hrdA hBA hrdK hcmK hresK hrowK hBK
        go_wp2_with (at_builtin; refine wpList_append_vals _ rfl _ (.tmp 38) 23 rfl w.heap.size 48 i48 _ 3 32 Try.underlying23 hi hz0 hz1 hz2 rfl (by decide) _ acc.length _ (by rfl) HRowA.out (some ⟨w5.heap.size, 0, none⟩) 1 1 [.string { data := KT.toArray }, .int .u64 (rev : Int), .bool fv] rfl rfl HOne.out (entsV_one [⟨{ data := KT.toArray }, rev, fv⟩]) (by unfold maxLen; omega) (by omega) HBA.out.size ?_; intro v6 w6 hrow6 hg6; have hcm6 := heap_kept HRowA.out HCmA.out (by decide) hg6; have hrd6 := rd_keptrow HRowA.out HRdA.out (by decide) hg6; have hres6 := heap_kept HRowA.out HResA.out (by decide) hg6; have hB6 := Below.own HBA.out HRowA.out (Nat.le_refl _) HBA.out.size hg6; have hp6 := heap_cell hcm6 1; have hpf6 := frozen_of_row w6 gc 1 _ _ hcm6; obtain ⟨a6, m6, c6, rfl⟩ := row_slice hrow6; have HCm6 := Lib.hid hcm6; have HRd6 := Lib.hid hrd6; have HRes6 := Lib.hid hres6; have HB6 := Lib.hid hB6; have HRow6 := Lib.hid hrow6; clear hcm6 hrd6 hres6 hB6 hrow6 hg6; simp at hp6)
        go_roundw
        case rel =>
          refine ⟨n - 1, lc2, o2, acc ++ [⟨{ data := KT.toArray }, rev, fv⟩], .slice a6 m6 c6, ?_, by omega, ⟨?_, ?_, ?_, HB6.out.setCell (by simp only; omega) _, HNext⟩, ?_⟩
          · have : ((n : Int) - 1) = ((n - 1 : Nat) : Int) := by omega
            rw [this]
          · exact HRd6.out.kept (heap_setCell_other _ _ _ _ (by simp only; omega))
          · exact heap_setCell_same _ gc 1 _ 25 _ HCm6.out
          · have hrow7 := HRow6.out.kept (grown_cell w6 gc 1 (.slice a6 m6 c6)) (row_not HRow6.out HCm6.out (by decide))
            rw [entsV_append, List.length_append]
            exact hrow7
          · rw [heap_setCell_other _ _ _ _ (by simp only; omega)]; exact HRes6.out
        case measure => simp [intOf]; omega
    · have hresl := heap_lt hres
      have r0 := heap_cell hres 0
      have r1 := heap_cell hres 1
      have rf0 := frozen_of_row wr w.heap.size 0 _ _ hres
      have rf1 := frozen_of_row wr w.heap.size 1 _ _ hres
      simp at r0 r1
      have k0 := heap_cell hcm 0
      have k1 := heap_cell hcm 1
      simp at k0 k1
      have hRs : ∀ x y, Below w.heap.size w ((wr.setCell ⟨w.heap.size, 0, none⟩ x).setCell ⟨w.heap.size, 1, none⟩ y) := fun x y => (hB.setCell (Nat.le_refl _) x).setCell (Nat.le_refl _) y
      have HRs := Lib.hid hRs
      clear hRs
      cases odd with
      | true =>
        have HNo : Hid (∀ r es, ¬ Decodes l r es) := HP.out.2.2.2.2.1 rfl
        by_cases hn0 : 0 < n
        · have dn : decide (0 < (n : Int)) = true := decide_eq_true (by omega)
          go_wp2_with fail
          exact bodyPost_ret (v := .tuple #[.agg #[.int .u64 0, .slice none 0 0], .int .i64 9]) (by simp [results, Try.results13, go_sem, r0, r1]) rfl (decIs_bad (HRs.out _ _) HNo.out)
        · obtain rfl : n = 0 := by omega
          go_wp2_with fail
          exact bodyPost_ret (v := .tuple #[.agg #[.int .u64 0, .slice none 0 0], .int .i64 9]) (by simp [results, Try.results13, go_sem, r0, r1]) rfl (decIs_bad (HRs.out _ _) HNo.out)
      | false =>
        obtain rfl : n = 0 := by
          rcases Nat.eq_zero_or_pos n with h | h
          · exact h
          · exact absurd ⟨h, rfl⟩ hcont
        obtain ⟨t1, t2, t3⟩ := HP.out.2.2.2.1 rfl
        have hT : ents (getV l) (getV (rest1 l)) (rest1 (rest1 l)) = some (acc, lc) := by rw [← t1]; simp [ents]
        by_cases hlc : 0 < lc.length
        · have HNo : Hid (∀ r es, ¬ Decodes l r es) := by
            intro r es hd
            have := hd.2.2.2.1
            rw [hT] at this
            simp only [Option.some.injEq, Prod.mk.injEq] at this
            rw [this.2] at hlc
            cases hlc
          have dl : decide (0 < (lc.length : Int)) = true := decide_eq_true (by omega)
          clear hT t1 t2 t3
          go_wp2_with fail
          exact bodyPost_ret (v := .tuple #[.agg #[.int .u64 0, .slice none 0 0], .int .i64 9]) (by simp [results, Try.results13, go_sem, r0, r1]) rfl (decIs_bad (HRs.out _ _) HNo.out)
        · have hl0 : lc.length = 0 := by omega
          obtain rfl : lc = [] := List.length_eq_zero_iff.1 hl0
          have dl : decide (0 < (([] : List UInt8).length : Int)) = false := rfl
          have hmem := HP.out.2.2.2.2.2
          have hacc := HP.out.2.2.1
          have hok : ∀ i, EntOk (acc.getD i default) := by
            intro i
            by_cases hi : i < acc.length
            · have := hmem (acc.getD i default) (by rw [List.getD_eq_getElem?_getD, List.getElem?_eq_getElem hi]; exact List.getElem_mem hi)
              exact ⟨by rw [this.1]; exact hV, by have := this.2; omega⟩
            · rw [List.getD_eq_getElem?_getD, List.getElem?_eq_none (by omega)]
              exact ⟨by decide, by decide⟩
          have HRight := Lib.hid (right_any rev av cv acc wr (by omega) hV hok (row_ents hrow))
          have HT := Lib.hid hT
          have HT2 := Lib.hid t2
          have HT3 := Lib.hid t3
          unfold comV at HRight
          clear hT t1 t2 t3 hok hmem dl
          go_wp2_with fail
          refine HRight.out.mono ?_
          clear HRight
          rintro e w5 ⟨⟨r, rfl, hr⟩, hb5⟩
          have hB5 := hB.trans (hb5.mono hB.size)
          have hrow5 := Below.row hb5 hrow
          have hres5 := (hb5.block w.heap.size hresl).trans hres
          have hcm5 := (hb5.block gc (heap_lt hcm)).trans hcm
          have r0' := heap_cell hres5 0
          have r1' := heap_cell hres5 1
          have rf0' := frozen_of_row w5 w.heap.size 0 _ _ hres5
          have rf1' := frozen_of_row w5 w.heap.size 1 _ _ hres5
          have k0' := heap_cell hcm5 0
          have k1' := heap_cell hcm5 1
          simp at r0' r1' k0' k1'
          have hne1 : ¬ gc = w.heap.size := by omega
          have hne2 : ¬ w.heap.size = gc := by omega
          cases r with
          | false =>
            have HNo : Hid (∀ r es, ¬ Decodes l r es) := by
              intro r es hd
              have h1 := hd.2.2.2.1
              rw [HT.out] at h1
              simp only [Option.some.injEq, Prod.mk.injEq, and_true] at h1
              have h2 := hd.2.2.2.2
              rw [← h1, hd.2.1, HRV.out] at h2
              have := hr.2 h2
              cases this
            have HB5 := Lib.hid hB5
            clear hr hb5 hB5 hrow5
            go_wp2_with fail
            exact bodyPost_ret (v := .tuple #[.agg #[.int .u64 0, .slice none 0 0], .int .i64 9]) (by simp [results, Try.results13, go_sem, r0', r1']) rfl (decIs_bad ((HB5.out.setCell (Nat.le_refl _) _).setCell (Nat.le_refl _) _) HNo.out)
          | true =>
            have HD : Hid (Decodes l rev acc) := ⟨HT2.out, HRV.out.symm, HT3.out, HT.out, hr.1 rfl⟩
            have HB5 := Lib.hid hB5
            have HR5 := Lib.hid hrow5
            have HM5 := Lib.hid hres5
            clear hr hb5 hB5 hrow5
            go_wp2_with fail
            refine bodyPost_ret (v := .tuple #[.agg #[.int .u64 (rev : Int), .slice av acc.length cv], .int .i64 0]) (by simp [results, Try.results13, go_sem, r0', r1']) rfl ⟨(HB5.out.setCell (Nat.le_refl _) _).setCell (Nat.le_refl _) _, fun r es hd => ?_, fun hn => absurd HD.out (hn _ _)⟩
            obtain ⟨rfl, rfl⟩ := decodes_one HD.out hd
            refine ⟨av, cv, rfl, ?_⟩
            have g1 := HR5.out.kept (grown_cell w5 w.heap.size 0 (.int .u64 (rev : Int))) (row_not HR5.out HM5.out (by decide))
            have hm2 := heap_setCell_same _ w.heap.size 0 _ 25 (.int .u64 (rev : Int)) HM5.out
            exact g1.kept (grown_cell _ w.heap.size 1 (.slice av acc.length cv)) (row_not g1 hm2 (by decide))
end Go.Proofs.Ytbamohcaamgalae
