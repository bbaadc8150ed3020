/- The document's sub, point, tuple: walked (printed by genWireR.py). -/
import Derived.Test.YtacjbgmnoiimbabGreatRfA
import Derived.Deep.RegionHeld3
namespace Go.Proofs.YtacjbgmnoiimbabGreat
set_option linter.unusedVariables false
set_option linter.unusedSimpArgs false
open Go.RowKit

section
variable {P : Program} {ops : Array Oper} {Q : Exit → Act → World → Prop} {md : Region.Mode} {S : World → Prop}
/-- an operation is taken first, and its slot is named -/
theorem take_at (i d : Nat) {oi : Oper} {v : Value} {fuel : Nat} {listed : Array Bool} {tmps : Array Value} {ds : List Deferred} {w : World} (hi : ops[i]? = some oi) (hd : oi.dst = some d)
    (hs : Region.noSelect ops = true) (hf : Region.free md ops listed i = true) (hr : (Region.ready md ops listed).contains i = true)
    (hQ : ∀ c a w, Q (.panic c) (a.put oi.dst v) w → Q (.panic c) a w) (hy : YieldsIf P ops S oi v ⟨tmps, ds⟩) (hS : S w)
    (h : wpAnyH P md ops Q S fuel (listed.setIfInBounds i true) ⟨tmps.setIfInBounds d v, ds⟩ w) : wpAnyH P md ops Q S (fuel + 1) listed ⟨tmps, ds⟩ w :=
  wpAnyH_take hi hs hf hr hQ hy hS (by rw [hd]; exact h)
/-- one operation alone may come up, and its slot is named -/
theorem only_at (i d : Nat) {o : Oper} {fuel : Nat} {listed : Array Bool} {a : Act} {w : World} (hr : Region.ready md ops listed = [i]) (ho : ops[i]? = some o) (hd : o.dst = some d) (hw : Region.wanted o (yielded ops a.tmps) = true)
    (h : ∀ K' : Act → World → Prop, Shut (∀ a w, S w → (S w → wpAnyH P md ops Q S fuel (listed.setIfInBounds i true) a w) → K' a w) → Oper.wp P { o with dst := some d } a w K' Q) : wpAnyH P md ops Q S (fuel + 1) listed a w := by
  refine wpAnyH_ready hr (by simp) (AllReadyH.cons ho (fun K' hK => ?_) AllReadyH.nil)
  rw [if_pos hw]
  have e : ({ o with dst := some d } : Oper) = o := by cases o; simp_all
  have := h K' hK
  rwa [e] at this
end
section
variable {P : Program} {ops : Array Oper} {Q : Exit → Act → World → Prop} {md : Region.Mode} {S : World → Prop}
/-- either of two operations may come up -/
theorem two_at (i j di dj : Nat) {oi oj : Oper} {fuel : Nat} {listed : Array Bool} {a : Act} {w : World} (hr : Region.ready md ops listed = [i, j]) (hoi : ops[i]? = some oi) (hdi : oi.dst = some di) (hwi : Region.wanted oi (yielded ops a.tmps) = true)
    (hoj : ops[j]? = some oj) (hdj : oj.dst = some dj) (hwj : Region.wanted oj (yielded ops a.tmps) = true)
    (h1 : ∀ K' : Act → World → Prop, Shut (∀ a w, S w → (S w → wpAnyH P md ops Q S fuel (listed.setIfInBounds i true) a w) → K' a w) → Oper.wp P { oi with dst := some di } a w K' Q)
    (h2 : ∀ K' : Act → World → Prop, Shut (∀ a w, S w → (S w → wpAnyH P md ops Q S fuel (listed.setIfInBounds j true) a w) → K' a w) → Oper.wp P { oj with dst := some dj } a w K' Q) : wpAnyH P md ops Q S (fuel + 1) listed a w := by
  refine wpAnyH_ready hr (by simp) (AllReadyH.cons hoi (fun K' hK => ?_) (AllReadyH.cons hoj (fun K' hK => ?_) AllReadyH.nil))
  · rw [if_pos hwi]
    have e : ({ oi with dst := some di } : Oper) = oi := by cases oi; simp_all
    have := h1 K' hK
    rwa [e] at this
  · rw [if_pos hwj]
    have e : ({ oj with dst := some dj } : Oper) = oj := by cases oj; simp_all
    have := h2 K' hK
    rwa [e] at this
end
theorem three_strs (w : World) (x y z : ByteArray) : IsStrs (w.alloc (.cells #[.string x, .string y, .string z] 9)) (some ⟨w.heap.size, 0, none⟩) [x, y, z] := fun _ => ⟨w.heap.size, 0, rfl, by simp, fun k hk => by
  rw [Nat.zero_add, heap_cell (heap_alloc_new w _)]
  match k, hk with
  | 0, _ => rfl
  | 1, _ => rfl
  | 2, _ => rfl⟩
theorem body3 (a b c : ByteArray) : bodyE txt [a, b, c] = triE (a, b, c) := by
  show txt a ++ (txt b ++ (txt c ++ [])) = _
  rw [List.append_nil]; rfl
set_option maxRecDepth 100000 in
theorem rsub_any (ba : Option Addr) (cap : Nat) (l : List UInt8) (a b c : ByteArray) (W : World) (hl : l.length + (triE (a, b, c)).length ≤ 1000000000) (h : IsBytes W ba l) :
    Calls Tryz.prog 56 #[.slice ba l.length cap, .agg #[.string a, .string b, .string c]] W (RF l (triE (a, b, c)) W) := by
  have hb0 := (Below.refl W.heap.size W).alloc (Nat.le_refl _) (.cells #[.string a, .string b, .string c] 60)
  have hx := heap_alloc_new W (.cells #[.string a, .string b, .string c] 60)
  have p0 := heap_cell hx 0
  have p1 := heap_cell hx 1
  have p2 := heap_cell hx 2
  simp at p0 p1 p2
  have HB1 := Lib.hid (hb0.alloc hb0.size (.cells #[.string a, .string b, .string c] 9))
  have HC := Lib.hid (rtexts_any ba cap l (some ⟨W.heap.size + 1, 0, none⟩) 3 [a, b, c] ((W.alloc (.cells #[.string a, .string b, .string c] 60)).alloc (.cells #[.string a, .string b, .string c] 9)) (by rw [body3]; exact hl) (by show 0 < 3; omega) (by show 3 ≤ 1000000; omega) (h.below HB1.out) (by
    have := three_strs (W.alloc (.cells #[.string a, .string b, .string c] 60)) a b c
    rw [alloc_size] at this
    exact this))
  clear h hb0 hx
  go_enter Tryz.func56, Tryz.ntmps56
  go_wp2_with fail
  refine HC.out.mono ?_
  clear HC
  rintro e W1 ⟨v', rfl, h1, h2⟩
  rw [body3] at h1
  have HE : Hid (RF l (triE (a, b, c)) W (.returned v') W1) := ⟨v', rfl, row_lower h1 HB1.out.size, HB1.out.trans (h2.mono HB1.out.size)⟩
  clear h1 h2
  go_wp2_with fail
  go_ret
  exact HE.out
set_option maxRecDepth 100000 in
theorem rpoint_any (ba : Option Addr) (cap : Nat) (l : List UInt8) (a b c : ByteArray) (W : World) (hl : l.length + (triE (a, b, c)).length ≤ 1000000000) (h : IsBytes W ba l) :
    Calls Tryz.prog 58 #[.slice ba l.length cap, .agg #[.string a, .string b, .string c]] W (RF l (triE (a, b, c)) W) := by
  have hb0 := (Below.refl W.heap.size W).alloc (Nat.le_refl _) (.cells #[.string a, .string b, .string c] 68)
  have hx := heap_alloc_new W (.cells #[.string a, .string b, .string c] 68)
  have p0 := heap_cell hx 0
  have p1 := heap_cell hx 1
  have p2 := heap_cell hx 2
  simp at p0 p1 p2
  have HB1 := Lib.hid (hb0.alloc hb0.size (.cells #[.string a, .string b, .string c] 9))
  have HC := Lib.hid (rtexts_any ba cap l (some ⟨W.heap.size + 1, 0, none⟩) 3 [a, b, c] ((W.alloc (.cells #[.string a, .string b, .string c] 68)).alloc (.cells #[.string a, .string b, .string c] 9)) (by rw [body3]; exact hl) (by show 0 < 3; omega) (by show 3 ≤ 1000000; omega) (h.below HB1.out) (by
    have := three_strs (W.alloc (.cells #[.string a, .string b, .string c] 68)) a b c
    rw [alloc_size] at this
    exact this))
  clear h hb0 hx
  go_enter Tryz.func58, Tryz.ntmps58
  go_wp2_with fail
  refine HC.out.mono ?_
  clear HC
  rintro e W1 ⟨v', rfl, h1, h2⟩
  rw [body3] at h1
  have HE : Hid (RF l (triE (a, b, c)) W (.returned v') W1) := ⟨v', rfl, row_lower h1 HB1.out.size, HB1.out.trans (h2.mono HB1.out.size)⟩
  clear h1 h2
  go_wp2_with fail
  go_ret
  exact HE.out
set_option maxRecDepth 100000 in
set_option maxHeartbeats 8000000 in
theorem rtuple_any (ba : Option Addr) (cap : Nat) (l : List UInt8) (a b c dd e f : ByteArray) (W : World) (hl : l.length + (sixE ((a, b, c), (dd, e, f))).length ≤ 1000000000) (h : IsBytes W ba l) :
    Calls Tryz.prog 55 #[.slice ba l.length cap, .agg #[.string a, .string b, .string c, .string dd, .string e, .string f]] W (RF l (sixE ((a, b, c), (dd, e, f))) W) := by
  have hL := hl
  unfold sixE at hL
  rw [List.length_append] at hL
  have HBx := Lib.hid ((Below.refl W.heap.size W).alloc (Nat.le_refl _) (.cells #[.string a, .string b, .string c, .string dd, .string e, .string f] 62))
  have hx := heap_alloc_new W (.cells #[.string a, .string b, .string c, .string dd, .string e, .string f] 62)
  have hxl := heap_lt hx
  obtain ⟨W0, hW0⟩ : ∃ W0, W0 = (W.alloc (.cells #[.string a, .string b, .string c, .string dd, .string e, .string f] 62)).drew := ⟨_, rfl⟩
  have hx0 : W0.heap[W.heap.size]? = some (.cells #[.string a, .string b, .string c, .string dd, .string e, .string f] 62 (0, 0)) := by rw [hW0]; exact hx
  have hxl0 := heap_lt hx0
  have HB0 : Hid (Below W.heap.size W W0) := by
    show Below _ _ _
    rw [hW0]; exact HBx.out.drew
  have HBy := Lib.hid (h.below HB0.out)
  have hl0 : ∀ w', Below W0.heap.size W0 w' → w'.cell? ⟨W.heap.size, 0, none⟩ = some (.string a) := fun w' hw => heap_cell ((hw.block _ hxl0).trans hx0) 0
  have hl1 : ∀ w', Below W0.heap.size W0 w' → w'.cell? ⟨W.heap.size, 1, none⟩ = some (.string b) := fun w' hw => heap_cell ((hw.block _ hxl0).trans hx0) 1
  have hl2 : ∀ w', Below W0.heap.size W0 w' → w'.cell? ⟨W.heap.size, 2, none⟩ = some (.string c) := fun w' hw => heap_cell ((hw.block _ hxl0).trans hx0) 2
  have hl3 : ∀ w', Below W0.heap.size W0 w' → w'.cell? ⟨W.heap.size, 3, none⟩ = some (.string dd) := fun w' hw => heap_cell ((hw.block _ hxl0).trans hx0) 3
  have hl4 : ∀ w', Below W0.heap.size W0 w' → w'.cell? ⟨W.heap.size, 4, none⟩ = some (.string e) := fun w' hw => heap_cell ((hw.block _ hxl0).trans hx0) 4
  have hl5 : ∀ w', Below W0.heap.size W0 w' → w'.cell? ⟨W.heap.size, 5, none⟩ = some (.string f) := fun w' hw => heap_cell ((hw.block _ hxl0).trans hx0) 5
  have hS0 : Below W0.heap.size W0 W0 := Below.refl _ _
  clear h hx HBx
  go_enter Tryz.func55, Tryz.ntmps55
  go_wp2_with fail
  try refine wp_region_noPanic ?_
  refine wp_region_held_drew (S := fun w' => Below W0.heap.size W0 w') (by kernel_rfl) (by rw [← hW0]; exact hS0) (fun hHeld => ?_)
  rw [← hW0] at hHeld ⊢
  clear hW0 hS0
  refine take_at 0 5 (v := ?_) rfl rfl (by kernel_rfl) (by kernel_rfl) (by kernel_rfl) (fun _ _ _ h => h) (Or.inl ⟨by rfl, ?_⟩) hHeld ?_
  rotate_left
  · (intro w hSw; (try dsimp only at hSw); go_simp; try with_reducible rfl)
  try simp only [List.setIfInBounds_toArray, List.set_cons_zero, List.set_cons_succ]
  refine take_at 1 6 (v := ?_) rfl rfl (by kernel_rfl) (by kernel_rfl) (by kernel_rfl) (fun _ _ _ h => h) (Or.inl ⟨by rfl, ?_⟩) hHeld ?_
  rotate_left
  · (intro w hSw; (try dsimp only at hSw); go_simp; try with_reducible rfl)
  try simp only [List.setIfInBounds_toArray, List.set_cons_zero, List.set_cons_succ]
  refine take_at 2 7 (v := ?_) rfl rfl (by kernel_rfl) (by kernel_rfl) (by kernel_rfl) (fun _ _ _ h => h) (Or.inl ⟨by rfl, ?_⟩) hHeld ?_
  rotate_left
  · (intro w hSw; (try dsimp only at hSw); go_simp; try with_reducible rfl)
  try simp only [List.setIfInBounds_toArray, List.set_cons_zero, List.set_cons_succ]
  refine take_at 3 8 (v := ?_) rfl rfl (by kernel_rfl) (by kernel_rfl) (by kernel_rfl) (fun _ _ _ h => h) (Or.inl ⟨by rfl, ?_⟩) hHeld ?_
  rotate_left
  · (intro w hSw; (try dsimp only at hSw); go_simp; try with_reducible rfl)
  try simp only [List.setIfInBounds_toArray, List.set_cons_zero, List.set_cons_succ]
  refine take_at 4 9 (v := ?_) rfl rfl (by kernel_rfl) (by kernel_rfl) (by kernel_rfl) (fun _ _ _ h => h) (Or.inl ⟨by rfl, ?_⟩) hHeld ?_
  rotate_left
  · (intro w hSw; (try dsimp only at hSw); go_simp; try with_reducible rfl)
  try simp only [List.setIfInBounds_toArray, List.set_cons_zero, List.set_cons_succ]
  refine take_at 5 10 (v := ?_) rfl rfl (by kernel_rfl) (by kernel_rfl) (by kernel_rfl) (fun _ _ _ h => h) (Or.inl ⟨by rfl, ?_⟩) hHeld ?_
  rotate_left
  · (intro w hSw; (try dsimp only at hSw); go_simp; try with_reducible rfl)
  try simp only [List.setIfInBounds_toArray, List.set_cons_zero, List.set_cons_succ]
  refine take_at 6 11 (v := ?_) rfl rfl (by kernel_rfl) (by kernel_rfl) (by kernel_rfl) (fun _ _ _ h => h) (Or.inl ⟨by rfl, ?_⟩) hHeld ?_
  rotate_left
  · (intro w hSw; (try dsimp only at hSw); go_simp; try with_reducible rfl)
  try simp only [List.setIfInBounds_toArray, List.set_cons_zero, List.set_cons_succ]
  refine take_at 7 12 (v := ?_) rfl rfl (by kernel_rfl) (by kernel_rfl) (by kernel_rfl) (fun _ _ _ h => h) (Or.inl ⟨by rfl, ?_⟩) hHeld ?_
  rotate_left
  · (intro w hSw; (try dsimp only at hSw); go_simp; try with_reducible rfl)
  try simp only [List.setIfInBounds_toArray, List.set_cons_zero, List.set_cons_succ]
  refine take_at 8 13 (v := ?_) rfl rfl (by kernel_rfl) (by kernel_rfl) (by kernel_rfl) (fun _ _ _ h => h) (Or.inl ⟨by rfl, ?_⟩) hHeld ?_
  rotate_left
  · (intro w hSw; (try dsimp only at hSw); go_simp; try with_reducible rfl)
  try simp only [List.setIfInBounds_toArray, List.set_cons_zero, List.set_cons_succ]
  refine take_at 11 16 (v := ?_) rfl rfl (by kernel_rfl) (by kernel_rfl) (by kernel_rfl) (fun _ _ _ h => h) (Or.inl ⟨by rfl, ?_⟩) hHeld ?_
  rotate_left
  · (intro w hSw; (try dsimp only at hSw); go_simp; try with_reducible rfl)
  try simp only [List.setIfInBounds_toArray, List.set_cons_zero, List.set_cons_succ]
  refine take_at 12 17 (v := ?_) rfl rfl (by kernel_rfl) (by kernel_rfl) (by kernel_rfl) (fun _ _ _ h => h) (Or.inl ⟨by rfl, ?_⟩) hHeld ?_
  rotate_left
  · (intro w hSw; (try dsimp only at hSw); go_simp; try with_reducible rfl)
  try simp only [List.setIfInBounds_toArray, List.set_cons_zero, List.set_cons_succ]
  refine only_at 9 14 (by kernel_rfl) rfl rfl (by rfl) (fun K hK => ?_)
  go_simp
  refine hK.out _ _ (hHeld.alloc hHeld.size _) (fun hHeld2 => ?_)
  clear hK K hHeld
  have hHeld := hHeld2
  clear hHeld2
  try simp only [Act.put, List.setIfInBounds_toArray, List.set_cons_zero, List.set_cons_succ]
  have hB1 := hHeld
  have hstr := three_strs W0 a b c
  refine only_at 10 15 (by kernel_rfl) rfl rfl (by rfl) (fun K hK => ?_)
  go_simp
  refine (rtexts_any ba cap l (some ⟨W0.heap.size, 0, none⟩) 3 [a, b, c] _ (by rw [body3]; omega) (by show 0 < 3; omega) (by show 3 ≤ 1000000; omega) (HBy.out.below hB1) hstr).mono ?_
  rintro ee W1 ⟨v1, rfl, h1, hb1⟩
  rw [body3] at h1
  obtain ⟨lc, hlc⟩ : ∃ lc, lc = l ++ triE (a, b, c) := ⟨_, rfl⟩
  rw [← hlc] at h1
  have hlcl : lc.length = l.length + (triE (a, b, c)).length := by rw [hlc, List.length_append]
  have HLl := Lib.hid hlcl
  have HLc := Lib.hid hlc
  clear hlc hlcl
  obtain ⟨a1, n1, c1, rfl⟩ := row_slice h1
  have hn1 := row_len' h1
  subst hn1
  have hS1 : Below W0.heap.size W0 W1 := hB1.trans (hb1.mono hB1.size)
  have HR1 := Lib.hid (row_bytes' h1)
  clear h1 hb1 hstr
  go_wp2_with fail
  refine hK.out _ _ (hS1) (fun hHeld2 => ?_)
  clear hK K hHeld
  have hHeld := hHeld2
  clear hHeld2
  try simp only [Act.put, List.setIfInBounds_toArray, List.set_cons_zero, List.set_cons_succ]
  refine only_at 13 18 (by kernel_rfl) rfl rfl (by rfl) (fun K hK => ?_)
  go_simp
  refine (rsub_any a1 c1 lc dd e f W1 (by rw [HLl.out]; omega) HR1.out).mono ?_
  rintro ee W2 ⟨v2, rfl, h2, hb2⟩
  have hS2 : Below W0.heap.size W0 W2 := hHeld.trans (hb2.mono hHeld.size)
  have HE : Hid (RF l (sixE ((a, b, c), (dd, e, f))) W (.returned v2) W2) := ⟨v2, rfl, by
    have e0 : l ++ sixE ((a, b, c), (dd, e, f)) = lc ++ triE (dd, e, f) := by rw [HLc.out]; unfold sixE; rw [List.append_assoc]
    rw [e0]; exact row_lower h2 (Nat.le_trans HB0.out.size hHeld.size), HB0.out.trans (hS2.mono HB0.out.size)⟩
  clear h2 hb2
  go_wp2_with fail
  refine hK.out _ _ (hS2) (fun hHeld2 => ?_)
  clear hK K hHeld
  have hHeld := hHeld2
  clear hHeld2
  try simp only [Act.put, List.setIfInBounds_toArray, List.set_cons_zero, List.set_cons_succ]
  refine take_at 14 4 (v := ?_) rfl rfl (by kernel_rfl) (by kernel_rfl) (by kernel_rfl) (fun _ _ _ h => h) (Or.inl ⟨by rfl, ?_⟩) hHeld ?_
  rotate_left
  · (intro w hSw; (try dsimp only at hSw); go_simp; try with_reducible rfl)
  try simp only [List.setIfInBounds_toArray, List.set_cons_zero, List.set_cons_succ]
  refine wpAnyH_done (by kernel_rfl) ?_ _
  try refine NoPanic.normal ?_
  go_wp2_with fail
  go_ret
  exact HE.out
end Go.Proofs.YtacjbgmnoiimbabGreat
