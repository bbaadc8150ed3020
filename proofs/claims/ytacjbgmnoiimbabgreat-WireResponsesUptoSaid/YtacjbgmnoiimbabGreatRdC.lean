/- Parts read: walked (printed by genWireRd.py). -/
import Derived.Test.YtacjbgmnoiimbabGreatRdB
import Derived.Deep.RegionHeld3
namespace Go.Proofs.YtacjbgmnoiimbabGreat
set_option linter.unusedVariables false
set_option linter.unusedSimpArgs false
open Go.RowKit

def duoV (t : Duo) : Value := .agg #[.string t.1, .string t.2]
def triV (t : Tri) : Value := .agg #[.string t.1, .string t.2.1, .string t.2.2]
def sixV (t : Six) : Value := .agg #[.string t.1.1, .string t.1.2.1, .string t.1.2.2, .string t.2.1, .string t.2.2.1, .string t.2.2.2]
def wrtV (t : Wrt) : Value := .agg #[.bool t.1, .string t.2.1.1, .string t.2.1.2.1, .string t.2.1.2.2, .string t.2.2.1, .string t.2.2.2.1, .string t.2.2.2.2]
def argV (t : ArgT) : Value := .agg #[.string t.1, .int .i64 t.2.1, .int .i64 t.2.2.1, .string t.2.2.2]
def evtV (t : Evt) : Value := .agg #[.int .u64 (t.1 : Int), .bool t.2.1, .string t.2.2.1.1, .string t.2.2.1.2.1, .string t.2.2.1.2.2, .string t.2.2.2.1, .string t.2.2.2.2.1, .string t.2.2.2.2.2]
theorem grown_own {W W1 W2 : World} {g x : Nat} (h : W.grownBy W1 (some g)) (k : W1.grownBy W2 (some x)) (hx : W.heap.size ≤ x) : W.grownBy W2 (some g) :=
  ⟨k.os.trans h.os, k.tape.trans h.tape, k.output.trans h.output, Nat.le_trans h.size k.size, fun i hi hr => (k.block i (Nat.lt_of_lt_of_le hi h.size) (fun e => by cases e; omega)).trans (h.block i hi hr)⟩
theorem RAt.bbl {W : World} {g bb : Nat} {l : List UInt8} {d : Nat} {odd : Bool} (h : RAt W g bb l d odd) : bb < W.heap.size := by
  obtain ⟨_, _, _, _, _, _, _, h6⟩ := h; exact h6
theorem RAt.drew {W : World} {g bb : Nat} {l : List UInt8} {d : Nat} {odd : Bool} (h : RAt W g bb l d odd) : RAt W.drew g bb l d odd := h.below (Below.refl _ _).drew
theorem grown_drew (W : World) (g : Nat) : W.grownBy W.drew (some g) := ⟨rfl, rfl, rfl, Nat.le_refl _, fun _ _ _ => rfl⟩
theorem grown_row {w : World} {g : Nat} {old cells : Array Value} {t : TypeId} {m : Nat × Nat} (hg : w.heap[g]? = some (.cells old t m)) : w.grownBy (w.setRow g cells) (some g) := ⟨rfl, rfl, rfl, by simp, fun k _ hk => setRow_other w g k _ (fun e => hk (by simp [e]))⟩
section
variable {P : Program} {ops : Array Oper} {Q : Exit → Act → World → Prop} {md : Region.Mode} {S : World → Prop}
/-- an operation is taken first, and its slot is named -/
theorem rtake_at (i d : Nat) {oi : Oper} {v : Value} {fuel : Nat} {listed : Array Bool} {tmps : Array Value} {ds : List Deferred} {w : World} (hi : ops[i]? = some oi) (hd : oi.dst = some d)
    (hs : Region.noSelect ops = true) (hf : Region.free md ops listed i = true) (hr : (Region.ready md ops listed).contains i = true)
    (hQ : ∀ c a w, Q (.panic c) (a.put oi.dst v) w → Q (.panic c) a w) (hy : YieldsIf P ops S oi v ⟨tmps, ds⟩) (hS : S w)
    (h : wpAnyH P md ops Q S fuel (listed.setIfInBounds i true) ⟨tmps.setIfInBounds d v, ds⟩ w) : wpAnyH P md ops Q S (fuel + 1) listed ⟨tmps, ds⟩ w :=
  wpAnyH_take hi hs hf hr hQ hy hS (by rw [hd]; exact h)
/-- one operation alone may come up, and its slot is named -/
theorem ronly_at (i d : Nat) {o : Oper} {fuel : Nat} {listed : Array Bool} {a : Act} {w : World} (hr : Region.ready md ops listed = [i]) (ho : ops[i]? = some o) (hd : o.dst = some d) (hw : Region.wanted o (yielded ops a.tmps) = true)
    (h : ∀ K' : Act → World → Prop, Shut (∀ a w, S w → (S w → wpAnyH P md ops Q S fuel (listed.setIfInBounds i true) a w) → K' a w) → Oper.wp P { o with dst := some d } a w K' Q) : wpAnyH P md ops Q S (fuel + 1) listed a w := by
  refine wpAnyH_ready hr (by simp) (AllReadyH.cons ho (fun K' hK => ?_) AllReadyH.nil)
  rw [if_pos hw]
  have e : ({ o with dst := some d } : Oper) = o := by cases o; simp_all
  have := h K' hK
  rwa [e] at this
/-- either of two operations may come up -/
theorem rtwo_at (i j di dj : Nat) {oi oj : Oper} {fuel : Nat} {listed : Array Bool} {a : Act} {w : World} (hr : Region.ready md ops listed = [i, j]) (hoi : ops[i]? = some oi) (hdi : oi.dst = some di) (hwi : Region.wanted oi (yielded ops a.tmps) = true)
    (hoj : ops[j]? = some oj) (hdj : oj.dst = some dj) (hwj : Region.wanted oj (yielded ops a.tmps) = true)
    (h1 : ∀ K' : Act → World → Prop, Shut (∀ a w, S w → (S w → wpAnyH P md ops Q S fuel (listed.setIfInBounds i true) a w) → K' a w) → Oper.wp P { oi with dst := some di } a w K' Q)
    (h2 : ∀ K' : Act → World → Prop, Shut (∀ a w, S w → (S w → wpAnyH P md ops Q S fuel (listed.setIfInBounds j true) a w) → K' a w) → Oper.wp P { oj with dst := some dj } a w K' Q) : wpAnyH P md ops Q S (fuel + 1) listed a w := by
  refine wpAnyH_ready hr (by simp) (AllReadyH.cons hoi (fun K' hK => ?_) (AllReadyH.cons hoj (fun K' hK => ?_) AllReadyH.nil))
  · rw [if_pos hwi]
    have e : ({ oi with dst := some di } : Oper) = oi := by cases oi; simp_all
    have := h1 K' hK
    rwa [e] at this
  · rw [if_pos hwj]
    have e : ({ oj with dst := some dj } : Oper) = oj := by cases oj; simp_all
    have := h2 K' hK
    rwa [e] at this
theorem ronly_none (i : Nat) {o : Oper} {fuel : Nat} {listed : Array Bool} {a : Act} {w : World} (hr : Region.ready md ops listed = [i]) (ho : ops[i]? = some o) (hd : o.dst = none) (hw : Region.wanted o (yielded ops a.tmps) = true)
    (h : ∀ K' : Act → World → Prop, Shut (∀ a w, S w → (S w → wpAnyH P md ops Q S fuel (listed.setIfInBounds i true) a w) → K' a w) → Oper.wp P { o with dst := none } a w K' Q) : wpAnyH P md ops Q S (fuel + 1) listed a w := by
  refine wpAnyH_ready hr (by simp) (AllReadyH.cons ho (fun K' hK => ?_) AllReadyH.nil)
  rw [if_pos hw]
  have e : ({ o with dst := none } : Oper) = o := by cases o; simp_all
  have := h K' hK
  rwa [e] at this
end
set_option maxRecDepth 100000 in
set_option maxHeartbeats 1000000 in
theorem robj_any (g bb : Nat) (W : World) (l : List UInt8) (d : Nat) (odd : Bool) (hl : l.length ≤ 1000000000) (h : RAt W g bb l d odd) :
    Calls Tryz.prog 43 #[.pointer (some ⟨g, 0, none⟩)] W (RDf g bb duoE duook duoV l d odd W) := by
  have hgl := h.lt
  have hbl := h.bbl
  have HX0 := Lib.hid (heap_alloc_new W (.cells #[.string { data := #[] }, .string { data := #[] }] 30))
  have HG0 : Hid (W.grownBy (W.alloc (.cells #[.string { data := #[] }, .string { data := #[] }] 30)) (some g)) := World.grownBy_alloc W _ _
  have HC := Lib.hid (rtxt_any g bb _ l d odd hl (h.alloc (.cells #[.string { data := #[] }, .string { data := #[] }] 30)))
  clear h
  go_enter Tryz.func43, Tryz.ntmps43
  go_wp2_with fail
  refine HC.out.mono ?_
  clear HC
  generalize (W.alloc (.cells #[.string { data := #[] }, .string { data := #[] }] 30)) = W0 at *
  obtain ⟨x, hx⟩ : ∃ x, x = W.heap.size := ⟨_, rfl⟩
  rw [← hx] at HX0
  rw [← hx]
  have hxg : x ≠ g := by omega
  have hxb : x ≠ bb := by omega
  have hxs : W.heap.size ≤ x := by omega
  clear hx
  rintro e W1 ⟨v1, l1, o1, rfl, hg, hr, hm1, st1⟩
  have HX1 := Lib.hid (grown_block hg HX0.out hxg)
  have HG1 := Lib.hid (grownBy_trans HG0.out hg)
  have HT1 := Lib.hid st1
  have hl1 := st1.len
  clear st1 hm1
  have HC := Lib.hid (rtxt_any g bb _ l1 d o1 (by omega) hr)
  clear hg hr
  simp only [txtV]
  go_wp2_with fail
  refine HC.out.mono ?_
  clear HC
  rintro e W2 ⟨u1, l2, o2, rfl, hg, hr, hm2, st2⟩
  have HX2 := Lib.hid (grown_block hg HX1.out hxg)
  have HG2 := Lib.hid (grownBy_trans HG1.out hg)
  have HT2 := Lib.hid st2
  have hl2 := st2.len
  clear st2 hm2
  have HRE := Lib.hid hr
  have HGE := HG2
  clear hg hr
  simp only [txtV]
  have h1c : (#[.string v1, .string u1] : Array Value).all (·.oneCell') = true := by simp [Value.oneCell']
  go_wp2_with (refine wpList_store_arr W2 rfl rfl 30 _ _ rfl x 30 _ #[.string v1, .string u1] (by rfl) (by rfl) HX2.out (by rfl) (by rfl) h1c ?_; intro w3 hrow3 hg3 hsz3; have HY := Lib.hid hrow3; have HG3 := Lib.hid hg3; clear hrow3 hg3 hsz3)
  have q0 := heap_cell HY.out 0
  have q1 := heap_cell HY.out 1
  simp at q0 q1
  go_wp2_with fail
  exact bodyPost_ret (v := .agg #[.string v1, .string u1]) (by simp [results, Tryz.results43, go_sem, q0, q1]) rfl ⟨(v1, u1), l2, o2, rfl, grown_own HGE.out HG3.out hxs, HRE.out.other HG3.out hxg hxb, trivial, HT1.out.pairf HT2.out uq_txt⟩
set_option maxRecDepth 100000 in
set_option maxHeartbeats 1000000 in
theorem rsubd_any (g bb : Nat) (W : World) (l : List UInt8) (d : Nat) (odd : Bool) (hl : l.length ≤ 1000000000) (h : RAt W g bb l d odd) :
    Calls Tryz.prog 101 #[.pointer (some ⟨g, 0, none⟩)] W (RDf g bb triE triok triV l d odd W) := by
  have hgl := h.lt
  have hbl := h.bbl
  have HX0 := Lib.hid (heap_alloc_new W (.cells #[.string { data := #[] }, .string { data := #[] }, .string { data := #[] }] 60))
  have HG0 : Hid (W.grownBy (W.alloc (.cells #[.string { data := #[] }, .string { data := #[] }, .string { data := #[] }] 60)) (some g)) := World.grownBy_alloc W _ _
  have HC := Lib.hid (robj_any g bb _ l d odd hl (h.alloc (.cells #[.string { data := #[] }, .string { data := #[] }, .string { data := #[] }] 60)))
  clear h
  go_enter Tryz.func101, Tryz.ntmps101
  go_wp2_with fail
  refine HC.out.mono ?_
  clear HC
  generalize (W.alloc (.cells #[.string { data := #[] }, .string { data := #[] }, .string { data := #[] }] 60)) = W0 at *
  obtain ⟨x, hx⟩ : ∃ x, x = W.heap.size := ⟨_, rfl⟩
  rw [← hx] at HX0
  rw [← hx]
  have hxg : x ≠ g := by omega
  have hxb : x ≠ bb := by omega
  have hxs : W.heap.size ≤ x := by omega
  clear hx
  rintro e W1 ⟨⟨v1, v2⟩, l1, o1, rfl, hg, hr, hm1, st1⟩
  have HX1 := Lib.hid (grown_block hg HX0.out hxg)
  have HG1 := Lib.hid (grownBy_trans HG0.out hg)
  have HT1 := Lib.hid st1
  have hl1 := st1.len
  clear st1 hm1
  obtain ⟨V, hV⟩ : ∃ V, V = (W1.alloc (.cells #[.string v1, .string v2] 30)).drew := ⟨_, rfl⟩
  have HXV : Hid (V.heap[x]? = some (.cells #[.string { data := #[] }, .string { data := #[] }, .string { data := #[] }] 60 (0, 0))) := by
    show V.heap[x]? = _
    rw [hV]; exact (((Below.refl W1.heap.size W1).alloc (Nat.le_refl _) (.cells #[.string v1, .string v2] 30)).drew.block x (heap_lt HX1.out)).trans HX1.out
  have HYV : Hid (V.heap[W1.heap.size]? = some (.cells #[.string v1, .string v2] 30 (0, 0))) := by
    show V.heap[W1.heap.size]? = _
    rw [hV]; exact heap_alloc_new W1 (.cells #[.string v1, .string v2] 30)
  have HRV : Hid (RAt V g bb l1 d o1) := by
    show RAt _ _ _ _ _ _
    rw [hV]; exact (hr.alloc _).drew
  have HGV : Hid (W.grownBy V (some g)) := by
    show W.grownBy _ _
    rw [hV]; exact grownBy_trans (grownBy_trans HG1.out (World.grownBy_alloc W1 _ _)) (grown_drew _ g)
  obtain ⟨y, hy⟩ : ∃ y, y = W1.heap.size := ⟨_, rfl⟩
  rw [← hy] at HYV
  have hyx : y ≠ x := by
    have := heap_lt HX1.out
    omega
  have hyg : y ≠ g := by
    have := hr.lt
    omega
  have HHy := Lib.hid hy
  simp only [duoV]
  have hS0 : V.cell? ⟨y, 0, none⟩ = some (.string v1) ∧ V.cell? ⟨y, 1, none⟩ = some (.string v2) := ⟨heap_cell HYV.out 0, heap_cell HYV.out 1⟩
  clear hg hr hy
  go_wp2_with fail
  try refine wp_region_noPanic ?_
  refine wp_region_held_drew (S := fun w' => w'.cell? ⟨W1.heap.size, 0, none⟩ = some (.string v1) ∧ w'.cell? ⟨W1.heap.size, 1, none⟩ = some (.string v2)) (by kernel_rfl) (by rw [← hV, ← HHy.out]; exact hS0) (fun hHeld => ?_)
  rw [← hV, ← HHy.out] at hHeld ⊢
  clear hV hS0
  refine rtake_at 0 6 (v := ?_) rfl rfl (by kernel_rfl) (by kernel_rfl) (by kernel_rfl) (fun _ _ _ h => h) (Or.inl ⟨by rfl, ?_⟩) hHeld ?_
  rotate_left
  · (intro w hSw; (try dsimp only at hSw); go_simp; try with_reducible rfl)
  try simp only [List.setIfInBounds_toArray, List.set_cons_zero, List.set_cons_succ]
  refine rtake_at 1 7 (v := ?_) rfl rfl (by kernel_rfl) (by kernel_rfl) (by kernel_rfl) (fun _ _ _ h => h) (Or.inl ⟨by rfl, ?_⟩) hHeld ?_
  rotate_left
  · (intro w hSw; (try dsimp only at hSw); go_simp; try with_reducible rfl)
  try simp only [List.setIfInBounds_toArray, List.set_cons_zero, List.set_cons_succ]
  refine ronly_at 2 8 (by kernel_rfl) rfl rfl (by rfl) (fun K hK => ?_)
  go_simp
  refine (rtxt_any g bb V l1 d o1 (by omega) HRV.out).mono ?_
  rintro e W2 ⟨u1, l2, o2, rfl, hg, hr, hm2, st2⟩
  have HX2 := Lib.hid (grown_block hg HXV.out hxg)
  have HY2 := Lib.hid (grown_block hg HYV.out hyg)
  have HGE := Lib.hid (grownBy_trans HGV.out hg)
  have HT2 := Lib.hid st2
  have hl2 := st2.len
  have HRE := Lib.hid hr
  clear hg hr st2 hm2
  simp only [txtV]
  go_wp2_with fail
  refine hK.out _ _ (⟨heap_cell HY2.out 0, heap_cell HY2.out 1⟩) (fun hHeld2 => ?_)
  clear hK K hHeld
  have hHeld := hHeld2
  clear hHeld2
  try simp only [Act.put, List.setIfInBounds_toArray, List.set_cons_zero, List.set_cons_succ]
  refine rtake_at 3 9 (v := ?_) rfl rfl (by kernel_rfl) (by kernel_rfl) (by kernel_rfl) (fun _ _ _ h => h) (Or.inl ⟨by rfl, ?_⟩) hHeld ?_
  rotate_left
  · (intro w hSw; (try dsimp only at hSw); go_simp; try with_reducible rfl)
  try simp only [List.setIfInBounds_toArray, List.set_cons_zero, List.set_cons_succ]
  have h1c : (#[.string v1, .string v2, .string u1] : Array Value).all (·.oneCell') = true := by simp [Value.oneCell']
  have HG3 : Hid (W2.grownBy (W2.setRow x #[.string v1, .string v2, .string u1]) (some x)) := grown_row HX2.out
  have HY : Hid ((W2.setRow x #[.string v1, .string v2, .string u1]).heap[x]? = some (.cells #[.string v1, .string v2, .string u1] 60 (0, 0))) := setRow_heap W2 x _ _ 60 _ HX2.out
  have HY3 : Hid ((W2.setRow x #[.string v1, .string v2, .string u1]).heap[y]? = some (.cells #[.string v1, .string v2] 30 (0, 0))) := grown_block HG3.out HY2.out hyx
  refine ronly_none 4 (by kernel_rfl) rfl rfl (by rfl) (fun K hK => ?_)
  refine wp_store_row 60 _ _ rfl x #[.string v1, .string v2, .string u1] (by rfl) (by rfl) 60 _ HX2.out (by rfl) (by rfl) h1c ?_
  generalize (W2.setRow x #[.string v1, .string v2, .string u1]) = w3 at *
  refine hK.out _ _ ⟨heap_cell HY3.out 0, heap_cell HY3.out 1⟩ (fun hHeld2 => ?_)
  clear hK K hHeld hHeld2
  try simp only [Act.put, List.setIfInBounds_toArray, List.set_cons_zero, List.set_cons_succ]
  refine wpAnyH_done (by kernel_rfl) ?_ _
  try refine NoPanic.normal ?_
  have q0 := heap_cell HY.out 0
  have q1 := heap_cell HY.out 1
  have q2 := heap_cell HY.out 2
  simp at q0 q1 q2
  go_wp2_with fail
  exact bodyPost_ret (v := .agg #[.string v1, .string v2, .string u1]) (by simp [results, Tryz.results101, go_sem, q0, q1, q2]) rfl ⟨(v1, v2, u1), l2, o2, rfl, grown_own HGE.out HG3.out hxs, HRE.out.other HG3.out hxg hxb, trivial, (RSt.map (HT1.out.pairf HT2.out uq_duo) (fun t => (t.1.1, t.1.2, t.2)) (fun ⟨a, b, c⟩ => ⟨((a, b), c), rfl⟩) (fun ⟨⟨a, b⟩, c⟩ => by simp only [triE, duoE, List.append_assoc]) (fun ⟨⟨a, b⟩, c⟩ => by simp only [triok, duook, and_assoc]) (fun _ _ => Iff.rfl))⟩
set_option maxRecDepth 100000 in
set_option maxHeartbeats 1000000 in
theorem rptd_any (g bb : Nat) (W : World) (l : List UInt8) (d : Nat) (odd : Bool) (hl : l.length ≤ 1000000000) (h : RAt W g bb l d odd) :
    Calls Tryz.prog 100 #[.pointer (some ⟨g, 0, none⟩)] W (RDf g bb triE triok triV l d odd W) := by
  have hgl := h.lt
  have hbl := h.bbl
  have HX0 := Lib.hid (heap_alloc_new W (.cells #[.string { data := #[] }, .string { data := #[] }, .string { data := #[] }] 68))
  have HG0 : Hid (W.grownBy (W.alloc (.cells #[.string { data := #[] }, .string { data := #[] }, .string { data := #[] }] 68)) (some g)) := World.grownBy_alloc W _ _
  have HC := Lib.hid (rsubd_any g bb _ l d odd hl (h.alloc (.cells #[.string { data := #[] }, .string { data := #[] }, .string { data := #[] }] 68)))
  clear h
  go_enter Tryz.func100, Tryz.ntmps100
  go_wp2_with fail
  refine HC.out.mono ?_
  clear HC
  generalize (W.alloc (.cells #[.string { data := #[] }, .string { data := #[] }, .string { data := #[] }] 68)) = W0 at *
  obtain ⟨x, hx⟩ : ∃ x, x = W.heap.size := ⟨_, rfl⟩
  rw [← hx] at HX0
  rw [← hx]
  have hxg : x ≠ g := by omega
  have hxb : x ≠ bb := by omega
  have hxs : W.heap.size ≤ x := by omega
  clear hx
  rintro e W1 ⟨⟨v1, v2, v3⟩, l1, o1, rfl, hg, hr, hm1, st1⟩
  have HX1 := Lib.hid (grown_block hg HX0.out hxg)
  have HG1 := Lib.hid (grownBy_trans HG0.out hg)
  have HT1 := Lib.hid st1
  have hl1 := st1.len
  clear st1 hm1
  have HRE := Lib.hid hr
  have HGE := HG1
  clear hg hr
  simp only [triV]
  have h1c : (#[.string v1, .string v2, .string v3] : Array Value).all (·.oneCell') = true := by simp [Value.oneCell']
  go_wp2_with (refine wpList_store_arr W1 rfl rfl 68 _ _ rfl x 68 _ #[.string v1, .string v2, .string v3] (by rfl) (by rfl) HX1.out (by rfl) (by rfl) h1c ?_; intro w3 hrow3 hg3 hsz3; have HY := Lib.hid hrow3; have HG3 := Lib.hid hg3; clear hrow3 hg3 hsz3)
  have q0 := heap_cell HY.out 0
  have q1 := heap_cell HY.out 1
  have q2 := heap_cell HY.out 2
  simp at q0 q1 q2
  go_wp2_with fail
  exact bodyPost_ret (v := .agg #[.string v1, .string v2, .string v3]) (by simp [results, Tryz.results100, go_sem, q0, q1, q2]) rfl ⟨(v1, v2, v3), l1, o1, rfl, grown_own HGE.out HG3.out hxs, HRE.out.other HG3.out hxg hxb, trivial, HT1.out⟩
set_option maxRecDepth 100000 in
set_option maxHeartbeats 1000000 in
theorem rtupd_any (g bb : Nat) (W : World) (l : List UInt8) (d : Nat) (odd : Bool) (hl : l.length ≤ 1000000000) (h : RAt W g bb l d odd) :
    Calls Tryz.prog 41 #[.pointer (some ⟨g, 0, none⟩)] W (RDf g bb sixE sixok sixV l d odd W) := by
  have hgl := h.lt
  have hbl := h.bbl
  have HX0 := Lib.hid (heap_alloc_new W (.cells #[.string { data := #[] }, .string { data := #[] }, .string { data := #[] }, .string { data := #[] }, .string { data := #[] }, .string { data := #[] }] 62))
  have HG0 : Hid (W.grownBy (W.alloc (.cells #[.string { data := #[] }, .string { data := #[] }, .string { data := #[] }, .string { data := #[] }, .string { data := #[] }, .string { data := #[] }] 62)) (some g)) := World.grownBy_alloc W _ _
  have HC := Lib.hid (rptd_any g bb _ l d odd hl (h.alloc (.cells #[.string { data := #[] }, .string { data := #[] }, .string { data := #[] }, .string { data := #[] }, .string { data := #[] }, .string { data := #[] }] 62)))
  clear h
  go_enter Tryz.func41, Tryz.ntmps41
  go_wp2_with fail
  refine HC.out.mono ?_
  clear HC
  generalize (W.alloc (.cells #[.string { data := #[] }, .string { data := #[] }, .string { data := #[] }, .string { data := #[] }, .string { data := #[] }, .string { data := #[] }] 62)) = W0 at *
  obtain ⟨x, hx⟩ : ∃ x, x = W.heap.size := ⟨_, rfl⟩
  rw [← hx] at HX0
  rw [← hx]
  have hxg : x ≠ g := by omega
  have hxb : x ≠ bb := by omega
  have hxs : W.heap.size ≤ x := by omega
  clear hx
  rintro e W1 ⟨⟨v1, v2, v3⟩, l1, o1, rfl, hg, hr, hm1, st1⟩
  have HX1 := Lib.hid (grown_block hg HX0.out hxg)
  have HG1 := Lib.hid (grownBy_trans HG0.out hg)
  have HT1 := Lib.hid st1
  have hl1 := st1.len
  clear st1 hm1
  obtain ⟨V, hV⟩ : ∃ V, V = (W1.alloc (.cells #[.string v1, .string v2, .string v3] 68)).drew := ⟨_, rfl⟩
  have HXV : Hid (V.heap[x]? = some (.cells #[.string { data := #[] }, .string { data := #[] }, .string { data := #[] }, .string { data := #[] }, .string { data := #[] }, .string { data := #[] }] 62 (0, 0))) := by
    show V.heap[x]? = _
    rw [hV]; exact (((Below.refl W1.heap.size W1).alloc (Nat.le_refl _) (.cells #[.string v1, .string v2, .string v3] 68)).drew.block x (heap_lt HX1.out)).trans HX1.out
  have HYV : Hid (V.heap[W1.heap.size]? = some (.cells #[.string v1, .string v2, .string v3] 68 (0, 0))) := by
    show V.heap[W1.heap.size]? = _
    rw [hV]; exact heap_alloc_new W1 (.cells #[.string v1, .string v2, .string v3] 68)
  have HRV : Hid (RAt V g bb l1 d o1) := by
    show RAt _ _ _ _ _ _
    rw [hV]; exact (hr.alloc _).drew
  have HGV : Hid (W.grownBy V (some g)) := by
    show W.grownBy _ _
    rw [hV]; exact grownBy_trans (grownBy_trans HG1.out (World.grownBy_alloc W1 _ _)) (grown_drew _ g)
  obtain ⟨y, hy⟩ : ∃ y, y = W1.heap.size := ⟨_, rfl⟩
  rw [← hy] at HYV
  have hyx : y ≠ x := by
    have := heap_lt HX1.out
    omega
  have hyg : y ≠ g := by
    have := hr.lt
    omega
  have HHy := Lib.hid hy
  simp only [triV]
  have hS0 : V.cell? ⟨y, 0, none⟩ = some (.string v1) ∧ V.cell? ⟨y, 1, none⟩ = some (.string v2) ∧ V.cell? ⟨y, 2, none⟩ = some (.string v3) := ⟨heap_cell HYV.out 0, heap_cell HYV.out 1, heap_cell HYV.out 2⟩
  clear hg hr hy
  go_wp2_with fail
  try refine wp_region_noPanic ?_
  refine wp_region_held_drew (S := fun w' => w'.cell? ⟨W1.heap.size, 0, none⟩ = some (.string v1) ∧ w'.cell? ⟨W1.heap.size, 1, none⟩ = some (.string v2) ∧ w'.cell? ⟨W1.heap.size, 2, none⟩ = some (.string v3)) (by kernel_rfl) (by rw [← hV, ← HHy.out]; exact hS0) (fun hHeld => ?_)
  rw [← hV, ← HHy.out] at hHeld ⊢
  clear hV hS0
  refine rtake_at 0 6 (v := ?_) rfl rfl (by kernel_rfl) (by kernel_rfl) (by kernel_rfl) (fun _ _ _ h => h) (Or.inl ⟨by rfl, ?_⟩) hHeld ?_
  rotate_left
  · (intro w hSw; (try dsimp only at hSw); go_simp; try with_reducible rfl)
  try simp only [List.setIfInBounds_toArray, List.set_cons_zero, List.set_cons_succ]
  refine rtake_at 1 7 (v := ?_) rfl rfl (by kernel_rfl) (by kernel_rfl) (by kernel_rfl) (fun _ _ _ h => h) (Or.inl ⟨by rfl, ?_⟩) hHeld ?_
  rotate_left
  · (intro w hSw; (try dsimp only at hSw); go_simp; try with_reducible rfl)
  try simp only [List.setIfInBounds_toArray, List.set_cons_zero, List.set_cons_succ]
  refine rtake_at 2 8 (v := ?_) rfl rfl (by kernel_rfl) (by kernel_rfl) (by kernel_rfl) (fun _ _ _ h => h) (Or.inl ⟨by rfl, ?_⟩) hHeld ?_
  rotate_left
  · (intro w hSw; (try dsimp only at hSw); go_simp; try with_reducible rfl)
  try simp only [List.setIfInBounds_toArray, List.set_cons_zero, List.set_cons_succ]
  refine rtake_at 3 9 (v := ?_) rfl rfl (by kernel_rfl) (by kernel_rfl) (by kernel_rfl) (fun _ _ _ h => h) (Or.inl ⟨by rfl, ?_⟩) hHeld ?_
  rotate_left
  · (intro w hSw; (try dsimp only at hSw); go_simp; try with_reducible rfl)
  try simp only [List.setIfInBounds_toArray, List.set_cons_zero, List.set_cons_succ]
  refine rtake_at 4 10 (v := ?_) rfl rfl (by kernel_rfl) (by kernel_rfl) (by kernel_rfl) (fun _ _ _ h => h) (Or.inl ⟨by rfl, ?_⟩) hHeld ?_
  rotate_left
  · (intro w hSw; (try dsimp only at hSw); go_simp; try with_reducible rfl)
  try simp only [List.setIfInBounds_toArray, List.set_cons_zero, List.set_cons_succ]
  refine ronly_at 5 11 (by kernel_rfl) rfl rfl (by rfl) (fun K hK => ?_)
  go_simp
  refine (rsubd_any g bb V l1 d o1 (by omega) HRV.out).mono ?_
  rintro e W2 ⟨⟨u1, u2, u3⟩, l2, o2, rfl, hg, hr, hm2, st2⟩
  have HX2 := Lib.hid (grown_block hg HXV.out hxg)
  have HY2 := Lib.hid (grown_block hg HYV.out hyg)
  have HGE := Lib.hid (grownBy_trans HGV.out hg)
  have HT2 := Lib.hid st2
  have hl2 := st2.len
  have HRE := Lib.hid hr
  clear hg hr st2 hm2
  simp only [triV]
  go_wp2_with fail
  refine hK.out _ _ (⟨heap_cell HY2.out 0, heap_cell HY2.out 1, heap_cell HY2.out 2⟩) (fun hHeld2 => ?_)
  clear hK K hHeld
  have hHeld := hHeld2
  clear hHeld2
  try simp only [Act.put, List.setIfInBounds_toArray, List.set_cons_zero, List.set_cons_succ]
  refine rtake_at 6 12 (v := ?_) rfl rfl (by kernel_rfl) (by kernel_rfl) (by kernel_rfl) (fun _ _ _ h => h) (Or.inl ⟨by rfl, ?_⟩) hHeld ?_
  rotate_left
  · (intro w hSw; (try dsimp only at hSw); go_simp; try with_reducible rfl)
  try simp only [List.setIfInBounds_toArray, List.set_cons_zero, List.set_cons_succ]
  have h1c : (#[.string v1, .string v2, .string v3, .string u1, .string u2, .string u3] : Array Value).all (·.oneCell') = true := by simp [Value.oneCell']
  have HG3 : Hid (W2.grownBy (W2.setRow x #[.string v1, .string v2, .string v3, .string u1, .string u2, .string u3]) (some x)) := grown_row HX2.out
  have HY : Hid ((W2.setRow x #[.string v1, .string v2, .string v3, .string u1, .string u2, .string u3]).heap[x]? = some (.cells #[.string v1, .string v2, .string v3, .string u1, .string u2, .string u3] 62 (0, 0))) := setRow_heap W2 x _ _ 62 _ HX2.out
  have HY3 : Hid ((W2.setRow x #[.string v1, .string v2, .string v3, .string u1, .string u2, .string u3]).heap[y]? = some (.cells #[.string v1, .string v2, .string v3] 68 (0, 0))) := grown_block HG3.out HY2.out hyx
  refine ronly_none 7 (by kernel_rfl) rfl rfl (by rfl) (fun K hK => ?_)
  refine wp_store_row 62 _ _ rfl x #[.string v1, .string v2, .string v3, .string u1, .string u2, .string u3] (by rfl) (by rfl) 62 _ HX2.out (by rfl) (by rfl) h1c ?_
  generalize (W2.setRow x #[.string v1, .string v2, .string v3, .string u1, .string u2, .string u3]) = w3 at *
  refine hK.out _ _ ⟨heap_cell HY3.out 0, heap_cell HY3.out 1, heap_cell HY3.out 2⟩ (fun hHeld2 => ?_)
  clear hK K hHeld hHeld2
  try simp only [Act.put, List.setIfInBounds_toArray, List.set_cons_zero, List.set_cons_succ]
  refine wpAnyH_done (by kernel_rfl) ?_ _
  try refine NoPanic.normal ?_
  have q0 := heap_cell HY.out 0
  have q1 := heap_cell HY.out 1
  have q2 := heap_cell HY.out 2
  have q3 := heap_cell HY.out 3
  have q4 := heap_cell HY.out 4
  have q5 := heap_cell HY.out 5
  simp at q0 q1 q2 q3 q4 q5
  go_wp2_with fail
  exact bodyPost_ret (v := .agg #[.string v1, .string v2, .string v3, .string u1, .string u2, .string u3]) (by simp [results, Tryz.results41, go_sem, q0, q1, q2, q3, q4, q5]) rfl ⟨((v1, v2, v3), (u1, u2, u3)), l2, o2, rfl, grown_own HGE.out HG3.out hxs, HRE.out.other HG3.out hxg hxb, trivial, HT1.out.pairf HT2.out uq_tri⟩
set_option maxRecDepth 100000 in
set_option maxHeartbeats 1000000 in
theorem raskd_any (g bb : Nat) (W : World) (l : List UInt8) (d : Nat) (odd : Bool) (hl : l.length ≤ 1000000000) (h : RAt W g bb l d odd) :
    Calls Tryz.prog 79 #[.pointer (some ⟨g, 0, none⟩)] W (RDf g bb sixE sixok sixV l d odd W) := by
  have hgl := h.lt
  have hbl := h.bbl
  have HX0 := Lib.hid (heap_alloc_new W (.cells #[.string { data := #[] }, .string { data := #[] }, .string { data := #[] }, .string { data := #[] }, .string { data := #[] }, .string { data := #[] }] 136))
  have HG0 : Hid (W.grownBy (W.alloc (.cells #[.string { data := #[] }, .string { data := #[] }, .string { data := #[] }, .string { data := #[] }, .string { data := #[] }, .string { data := #[] }] 136)) (some g)) := World.grownBy_alloc W _ _
  have HC := Lib.hid (rptd_any g bb _ l d odd hl (h.alloc (.cells #[.string { data := #[] }, .string { data := #[] }, .string { data := #[] }, .string { data := #[] }, .string { data := #[] }, .string { data := #[] }] 136)))
  clear h
  go_enter Tryz.func79, Tryz.ntmps79
  go_wp2_with fail
  refine HC.out.mono ?_
  clear HC
  generalize (W.alloc (.cells #[.string { data := #[] }, .string { data := #[] }, .string { data := #[] }, .string { data := #[] }, .string { data := #[] }, .string { data := #[] }] 136)) = W0 at *
  obtain ⟨x, hx⟩ : ∃ x, x = W.heap.size := ⟨_, rfl⟩
  rw [← hx] at HX0
  rw [← hx]
  have hxg : x ≠ g := by omega
  have hxb : x ≠ bb := by omega
  have hxs : W.heap.size ≤ x := by omega
  clear hx
  rintro e W1 ⟨⟨v1, v2, v3⟩, l1, o1, rfl, hg, hr, hm1, st1⟩
  have HX1 := Lib.hid (grown_block hg HX0.out hxg)
  have HG1 := Lib.hid (grownBy_trans HG0.out hg)
  have HT1 := Lib.hid st1
  have hl1 := st1.len
  clear st1 hm1
  obtain ⟨V, hV⟩ : ∃ V, V = (W1.alloc (.cells #[.string v1, .string v2, .string v3] 68)).drew := ⟨_, rfl⟩
  have HXV : Hid (V.heap[x]? = some (.cells #[.string { data := #[] }, .string { data := #[] }, .string { data := #[] }, .string { data := #[] }, .string { data := #[] }, .string { data := #[] }] 136 (0, 0))) := by
    show V.heap[x]? = _
    rw [hV]; exact (((Below.refl W1.heap.size W1).alloc (Nat.le_refl _) (.cells #[.string v1, .string v2, .string v3] 68)).drew.block x (heap_lt HX1.out)).trans HX1.out
  have HYV : Hid (V.heap[W1.heap.size]? = some (.cells #[.string v1, .string v2, .string v3] 68 (0, 0))) := by
    show V.heap[W1.heap.size]? = _
    rw [hV]; exact heap_alloc_new W1 (.cells #[.string v1, .string v2, .string v3] 68)
  have HRV : Hid (RAt V g bb l1 d o1) := by
    show RAt _ _ _ _ _ _
    rw [hV]; exact (hr.alloc _).drew
  have HGV : Hid (W.grownBy V (some g)) := by
    show W.grownBy _ _
    rw [hV]; exact grownBy_trans (grownBy_trans HG1.out (World.grownBy_alloc W1 _ _)) (grown_drew _ g)
  obtain ⟨y, hy⟩ : ∃ y, y = W1.heap.size := ⟨_, rfl⟩
  rw [← hy] at HYV
  have hyx : y ≠ x := by
    have := heap_lt HX1.out
    omega
  have hyg : y ≠ g := by
    have := hr.lt
    omega
  have HHy := Lib.hid hy
  simp only [triV]
  have hS0 : V.cell? ⟨y, 0, none⟩ = some (.string v1) ∧ V.cell? ⟨y, 1, none⟩ = some (.string v2) ∧ V.cell? ⟨y, 2, none⟩ = some (.string v3) := ⟨heap_cell HYV.out 0, heap_cell HYV.out 1, heap_cell HYV.out 2⟩
  clear hg hr hy
  go_wp2_with fail
  try refine wp_region_noPanic ?_
  refine wp_region_held_drew (S := fun w' => w'.cell? ⟨W1.heap.size, 0, none⟩ = some (.string v1) ∧ w'.cell? ⟨W1.heap.size, 1, none⟩ = some (.string v2) ∧ w'.cell? ⟨W1.heap.size, 2, none⟩ = some (.string v3)) (by kernel_rfl) (by rw [← hV, ← HHy.out]; exact hS0) (fun hHeld => ?_)
  rw [← hV, ← HHy.out] at hHeld ⊢
  clear hV hS0
  refine rtake_at 0 6 (v := ?_) rfl rfl (by kernel_rfl) (by kernel_rfl) (by kernel_rfl) (fun _ _ _ h => h) (Or.inl ⟨by rfl, ?_⟩) hHeld ?_
  rotate_left
  · (intro w hSw; (try dsimp only at hSw); go_simp; try with_reducible rfl)
  try simp only [List.setIfInBounds_toArray, List.set_cons_zero, List.set_cons_succ]
  refine rtake_at 1 7 (v := ?_) rfl rfl (by kernel_rfl) (by kernel_rfl) (by kernel_rfl) (fun _ _ _ h => h) (Or.inl ⟨by rfl, ?_⟩) hHeld ?_
  rotate_left
  · (intro w hSw; (try dsimp only at hSw); go_simp; try with_reducible rfl)
  try simp only [List.setIfInBounds_toArray, List.set_cons_zero, List.set_cons_succ]
  refine ronly_at 2 8 (by kernel_rfl) rfl rfl (by rfl) (fun K hK => ?_)
  go_simp
  refine (rsubd_any g bb V l1 d o1 (by omega) HRV.out).mono ?_
  rintro e W2 ⟨⟨u1, u2, u3⟩, l2, o2, rfl, hg, hr, hm2, st2⟩
  have HX2 := Lib.hid (grown_block hg HXV.out hxg)
  have HY2 := Lib.hid (grown_block hg HYV.out hyg)
  have HGE := Lib.hid (grownBy_trans HGV.out hg)
  have HT2 := Lib.hid st2
  have hl2 := st2.len
  have HRE := Lib.hid hr
  clear hg hr st2 hm2
  simp only [triV]
  go_wp2_with fail
  refine hK.out _ _ (⟨heap_cell HY2.out 0, heap_cell HY2.out 1, heap_cell HY2.out 2⟩) (fun hHeld2 => ?_)
  clear hK K hHeld
  have hHeld := hHeld2
  clear hHeld2
  try simp only [Act.put, List.setIfInBounds_toArray, List.set_cons_zero, List.set_cons_succ]
  refine rtake_at 3 9 (v := ?_) rfl rfl (by kernel_rfl) (by kernel_rfl) (by kernel_rfl) (fun _ _ _ h => h) (Or.inl ⟨by rfl, ?_⟩) hHeld ?_
  rotate_left
  · (intro w hSw; (try dsimp only at hSw); go_simp; try with_reducible rfl)
  try simp only [List.setIfInBounds_toArray, List.set_cons_zero, List.set_cons_succ]
  have h1c : (#[.string v1, .string v2, .string v3, .string u1, .string u2, .string u3] : Array Value).all (·.oneCell') = true := by simp [Value.oneCell']
  have HG3 : Hid (W2.grownBy (W2.setRow x #[.string v1, .string v2, .string v3, .string u1, .string u2, .string u3]) (some x)) := grown_row HX2.out
  have HY : Hid ((W2.setRow x #[.string v1, .string v2, .string v3, .string u1, .string u2, .string u3]).heap[x]? = some (.cells #[.string v1, .string v2, .string v3, .string u1, .string u2, .string u3] 136 (0, 0))) := setRow_heap W2 x _ _ 136 _ HX2.out
  have HY3 : Hid ((W2.setRow x #[.string v1, .string v2, .string v3, .string u1, .string u2, .string u3]).heap[y]? = some (.cells #[.string v1, .string v2, .string v3] 68 (0, 0))) := grown_block HG3.out HY2.out hyx
  refine ronly_none 4 (by kernel_rfl) rfl rfl (by rfl) (fun K hK => ?_)
  refine wp_store_row 136 _ _ rfl x #[.string v1, .string v2, .string v3, .string u1, .string u2, .string u3] (by rfl) (by rfl) 136 _ HX2.out (by rfl) (by rfl) h1c ?_
  generalize (W2.setRow x #[.string v1, .string v2, .string v3, .string u1, .string u2, .string u3]) = w3 at *
  refine hK.out _ _ ⟨heap_cell HY3.out 0, heap_cell HY3.out 1, heap_cell HY3.out 2⟩ (fun hHeld2 => ?_)
  clear hK K hHeld hHeld2
  try simp only [Act.put, List.setIfInBounds_toArray, List.set_cons_zero, List.set_cons_succ]
  refine wpAnyH_done (by kernel_rfl) ?_ _
  try refine NoPanic.normal ?_
  have q0 := heap_cell HY.out 0
  have q1 := heap_cell HY.out 1
  have q2 := heap_cell HY.out 2
  have q3 := heap_cell HY.out 3
  have q4 := heap_cell HY.out 4
  have q5 := heap_cell HY.out 5
  simp at q0 q1 q2 q3 q4 q5
  go_wp2_with fail
  exact bodyPost_ret (v := .agg #[.string v1, .string v2, .string v3, .string u1, .string u2, .string u3]) (by simp [results, Tryz.results79, go_sem, q0, q1, q2, q3, q4, q5]) rfl ⟨((v1, v2, v3), (u1, u2, u3)), l2, o2, rfl, grown_own HGE.out HG3.out hxs, HRE.out.other HG3.out hxg hxb, trivial, HT1.out.pairf HT2.out uq_tri⟩
set_option maxRecDepth 100000 in
set_option maxHeartbeats 1000000 in
theorem rwrtd_any (g bb : Nat) (W : World) (l : List UInt8) (d : Nat) (odd : Bool) (hl : l.length ≤ 1000000000) (h : RAt W g bb l d odd) :
    Calls Tryz.prog 75 #[.pointer (some ⟨g, 0, none⟩)] W (RDf g bb wrtE wrtok wrtV l d odd W) := by
  have hgl := h.lt
  have hbl := h.bbl
  have HX0 := Lib.hid (heap_alloc_new W (.cells #[.bool false, .string { data := #[] }, .string { data := #[] }, .string { data := #[] }, .string { data := #[] }, .string { data := #[] }, .string { data := #[] }] 65))
  have HG0 : Hid (W.grownBy (W.alloc (.cells #[.bool false, .string { data := #[] }, .string { data := #[] }, .string { data := #[] }, .string { data := #[] }, .string { data := #[] }, .string { data := #[] }] 65)) (some g)) := World.grownBy_alloc W _ _
  have HC := Lib.hid (rtru_any g bb _ l d odd hl (h.alloc (.cells #[.bool false, .string { data := #[] }, .string { data := #[] }, .string { data := #[] }, .string { data := #[] }, .string { data := #[] }, .string { data := #[] }] 65)))
  clear h
  go_enter Tryz.func75, Tryz.ntmps75
  go_wp2_with fail
  refine HC.out.mono ?_
  clear HC
  generalize (W.alloc (.cells #[.bool false, .string { data := #[] }, .string { data := #[] }, .string { data := #[] }, .string { data := #[] }, .string { data := #[] }, .string { data := #[] }] 65)) = W0 at *
  obtain ⟨x, hx⟩ : ∃ x, x = W.heap.size := ⟨_, rfl⟩
  rw [← hx] at HX0
  rw [← hx]
  have hxg : x ≠ g := by omega
  have hxb : x ≠ bb := by omega
  have hxs : W.heap.size ≤ x := by omega
  clear hx
  rintro e W1 ⟨v1, l1, o1, rfl, hg, hr, hm1, st1⟩
  have HX1 := Lib.hid (grown_block hg HX0.out hxg)
  have HG1 := Lib.hid (grownBy_trans HG0.out hg)
  have HT1 := Lib.hid st1
  have hl1 := st1.len
  clear st1 hm1
  have HC := Lib.hid (rtupd_any g bb _ l1 d o1 (by omega) hr)
  clear hg hr
  simp only [boolV]
  go_wp2_with fail
  refine HC.out.mono ?_
  clear HC
  rintro e W2 ⟨⟨⟨u1, u2, u3⟩, u4, u5, u6⟩, l2, o2, rfl, hg, hr, hm2, st2⟩
  have HX2 := Lib.hid (grown_block hg HX1.out hxg)
  have HG2 := Lib.hid (grownBy_trans HG1.out hg)
  have HT2 := Lib.hid st2
  have hl2 := st2.len
  clear st2 hm2
  have HRE := Lib.hid hr
  have HGE := HG2
  clear hg hr
  simp only [sixV]
  have h1c : (#[.bool v1, .string u1, .string u2, .string u3, .string u4, .string u5, .string u6] : Array Value).all (·.oneCell') = true := by simp [Value.oneCell']
  go_wp2_with (refine wpList_store_arr W2 rfl rfl 65 _ _ rfl x 65 _ #[.bool v1, .string u1, .string u2, .string u3, .string u4, .string u5, .string u6] (by rfl) (by rfl) HX2.out (by rfl) (by rfl) h1c ?_; intro w3 hrow3 hg3 hsz3; have HY := Lib.hid hrow3; have HG3 := Lib.hid hg3; clear hrow3 hg3 hsz3)
  have q0 := heap_cell HY.out 0
  have q1 := heap_cell HY.out 1
  have q2 := heap_cell HY.out 2
  have q3 := heap_cell HY.out 3
  have q4 := heap_cell HY.out 4
  have q5 := heap_cell HY.out 5
  have q6 := heap_cell HY.out 6
  simp at q0 q1 q2 q3 q4 q5 q6
  go_wp2_with fail
  exact bodyPost_ret (v := .agg #[.bool v1, .string u1, .string u2, .string u3, .string u4, .string u5, .string u6]) (by simp [results, Tryz.results75, go_sem, q0, q1, q2, q3, q4, q5, q6]) rfl ⟨(v1, ((u1, u2, u3), u4, u5, u6)), l2, o2, rfl, grown_own HGE.out HG3.out hxs, HRE.out.other HG3.out hxg hxb, trivial, HT1.out.pairf HT2.out uq_bool⟩
set_option maxRecDepth 100000 in
set_option maxHeartbeats 1000000 in
theorem revtd_any (g bb : Nat) (W : World) (l : List UInt8) (d : Nat) (odd : Bool) (hl : l.length ≤ 1000000000) (h : RAt W g bb l d odd) :
    Calls Tryz.prog 45 #[.pointer (some ⟨g, 0, none⟩)] W (RDf g bb evtE evtok evtV l d odd W) := by
  have hgl := h.lt
  have hbl := h.bbl
  have HX0 := Lib.hid (heap_alloc_new W (.cells #[.int .u64 0, .bool false, .string { data := #[] }, .string { data := #[] }, .string { data := #[] }, .string { data := #[] }, .string { data := #[] }, .string { data := #[] }] 67))
  have HG0 : Hid (W.grownBy (W.alloc (.cells #[.int .u64 0, .bool false, .string { data := #[] }, .string { data := #[] }, .string { data := #[] }, .string { data := #[] }, .string { data := #[] }, .string { data := #[] }] 67)) (some g)) := World.grownBy_alloc W _ _
  have HC := Lib.hid (rnum_any g bb _ l d odd hl (h.alloc (.cells #[.int .u64 0, .bool false, .string { data := #[] }, .string { data := #[] }, .string { data := #[] }, .string { data := #[] }, .string { data := #[] }, .string { data := #[] }] 67)))
  clear h
  go_enter Tryz.func45, Tryz.ntmps45
  go_wp2_with fail
  refine HC.out.mono ?_
  clear HC
  generalize (W.alloc (.cells #[.int .u64 0, .bool false, .string { data := #[] }, .string { data := #[] }, .string { data := #[] }, .string { data := #[] }, .string { data := #[] }, .string { data := #[] }] 67)) = W0 at *
  obtain ⟨x, hx⟩ : ∃ x, x = W.heap.size := ⟨_, rfl⟩
  rw [← hx] at HX0
  rw [← hx]
  have hxg : x ≠ g := by omega
  have hxb : x ≠ bb := by omega
  have hxs : W.heap.size ≤ x := by omega
  clear hx
  rintro e W1 ⟨v1, l1, o1, rfl, hg, hr, hm1, st1⟩
  have HX1 := Lib.hid (grown_block hg HX0.out hxg)
  have HG1 := Lib.hid (grownBy_trans HG0.out hg)
  have HT1 := Lib.hid st1
  have hl1 := st1.len
  clear st1 hm1
  have HC := Lib.hid (rwrtd_any g bb _ l1 d o1 (by omega) hr)
  clear hg hr
  simp only [numV]
  go_wp2_with fail
  refine HC.out.mono ?_
  clear HC
  rintro e W2 ⟨⟨u0, ⟨u1, u2, u3⟩, u4, u5, u6⟩, l2, o2, rfl, hg, hr, hm2, st2⟩
  have HX2 := Lib.hid (grown_block hg HX1.out hxg)
  have HG2 := Lib.hid (grownBy_trans HG1.out hg)
  have HT2 := Lib.hid st2
  have hl2 := st2.len
  clear st2 hm2
  have HRE := Lib.hid hr
  have HGE := HG2
  clear hg hr
  simp only [wrtV]
  have h1c : (#[.int .u64 (v1 : Int), .bool u0, .string u1, .string u2, .string u3, .string u4, .string u5, .string u6] : Array Value).all (·.oneCell') = true := by simp [Value.oneCell']
  go_wp2_with (refine wpList_store_arr W2 rfl rfl 67 _ _ rfl x 67 _ #[.int .u64 (v1 : Int), .bool u0, .string u1, .string u2, .string u3, .string u4, .string u5, .string u6] (by rfl) (by rfl) HX2.out (by rfl) (by rfl) h1c ?_; intro w3 hrow3 hg3 hsz3; have HY := Lib.hid hrow3; have HG3 := Lib.hid hg3; clear hrow3 hg3 hsz3)
  have q0 := heap_cell HY.out 0
  have q1 := heap_cell HY.out 1
  have q2 := heap_cell HY.out 2
  have q3 := heap_cell HY.out 3
  have q4 := heap_cell HY.out 4
  have q5 := heap_cell HY.out 5
  have q6 := heap_cell HY.out 6
  have q7 := heap_cell HY.out 7
  simp at q0 q1 q2 q3 q4 q5 q6 q7
  go_wp2_with fail
  exact bodyPost_ret (v := .agg #[.int .u64 (v1 : Int), .bool u0, .string u1, .string u2, .string u3, .string u4, .string u5, .string u6]) (by simp [results, Tryz.results45, go_sem, q0, q1, q2, q3, q4, q5, q6, q7]) rfl ⟨(v1, (u0, (u1, u2, u3), u4, u5, u6)), l2, o2, rfl, grown_own HGE.out HG3.out hxs, HRE.out.other HG3.out hxg hxb, trivial, HT1.out.pairf HT2.out uq_num⟩
end Go.Proofs.YtacjbgmnoiimbabGreat
