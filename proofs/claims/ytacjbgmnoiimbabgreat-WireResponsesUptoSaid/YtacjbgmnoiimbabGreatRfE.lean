/- The document's nodes: walked (printed by genWireRt2.py). -/
import Derived.Test.YtacjbgmnoiimbabGreatRfD
namespace Go.Proofs.YtacjbgmnoiimbabGreat
set_option linter.unusedVariables false
set_option linter.unusedSimpArgs false
open Go.RowKit

theorem neE_eq (x : NE) : neE x = intE x.k ++ (duoE (x.t, x.i) ++ (txt x.r ++ (listE triE x.ss ++ listE encN x.ps))) := encN_eq _ _ _ _ _
/-- nodes can be encoded from W on -/
def NOne (W : World) (xs : List NE) : Prop := ∀ x ∈ xs, ∀ (ba : Option Addr) (bc : Nat) (lb : List UInt8) (w : World), Below W.heap.size W w → IsBytes w ba lb → lb.length + (neE x).length ≤ 1000000000 →
  Calls Tryz.prog 59 #[.slice ba lb.length bc, .agg #[.int .i64 x.k, .string x.t, .string x.i, .string x.r, .slice x.sa x.ss.length x.sc, .slice x.a x.ps.length x.c]] w (RF lb (neE x) w)
set_option maxRecDepth 100000 in
set_option maxHeartbeats 8000000 in
theorem rnode_step' (k : Int) (t i r : ByteArray) (sa : Option Addr) (sc : Nat) (ss : List Tri) (a : Option Addr) (c : Nat) (ps : List PN) (xs : List NE) (ba : Option Addr) (bc : Nat) (l : List UInt8) (W : World) (hk : iok k) (hss : IsEls triC 3 W sa ss) (hx : IsEls neC 6 W a xs) (hxs : xs.length = ps.length) (hone : NOne W xs) (hl : l.length + (intE k ++ (triE (t, i, r) ++ (uv ss.length ++ (bodyE triE ss ++ (uv ps.length ++ bodyE neE xs))))).length ≤ 1000000000) (hns : ss.length ≤ 1000000000) (hn : ps.length ≤ 1000000000) (h : IsBytes W ba l) :
    Calls Tryz.prog 59 #[.slice ba l.length bc, .agg #[.int .i64 k, .string t, .string i, .string r, .slice sa ss.length sc, .slice a ps.length c]] W (RF l (intE k ++ (triE (t, i, r) ++ (uv ss.length ++ (bodyE triE ss ++ (uv ps.length ++ bodyE neE xs))))) W) := by
  have hL := hl
  simp only [List.length_append] at hL
  have HK := Lib.hid hk
  have HSs := Lib.hid hss
  have HEl := Lib.hid hx
  have HOne := Lib.hid hone
  have HNx := Lib.hid hxs
  have HBx := (Below.refl W.heap.size W).alloc (Nat.le_refl _) (.cells #[.int .i64 k, .string t, .string i, .string r, .slice sa ss.length sc, .slice a ps.length c] 34)
  have hx0 := heap_alloc_new W (.cells #[.int .i64 k, .string t, .string i, .string r, .slice sa ss.length sc, .slice a ps.length c] 34)
  obtain ⟨V, hV⟩ : ∃ V, V = (W.alloc (.cells #[.int .i64 k, .string t, .string i, .string r, .slice sa ss.length sc, .slice a ps.length c] 34)).drew := ⟨_, rfl⟩
  have HXV : Hid (V.heap[W.heap.size]? = some (.cells #[.int .i64 k, .string t, .string i, .string r, .slice sa ss.length sc, .slice a ps.length c] 34 (0, 0))) := (by rw [hV]; exact hx0 : V.heap[W.heap.size]? = some (.cells #[.int .i64 k, .string t, .string i, .string r, .slice sa ss.length sc, .slice a ps.length c] 34 (0, 0)))
  have HBelV : Hid (Below W.heap.size W V) := (by rw [hV]; exact HBx.drew : Below W.heap.size W V)
  have HBy := Lib.hid (h.below HBelV.out)
  clear h hx hone hx0 HBx hk hxs hss
  go_enter Tryz.func59, Tryz.ntmps59
  go_upto_region 1 with (fail)
  obtain ⟨x, hx⟩ : ∃ x, x = W.heap.size := ⟨_, rfl⟩
  rw [← hx] at HXV
  rw [← hx]
  have HXx := Lib.hid hx
  clear hx
  have hS0 : V.cell? ⟨x, 0, none⟩ = some (.int .i64 k) ∧ V.cell? ⟨x, 1, none⟩ = some (.string t) ∧ V.cell? ⟨x, 2, none⟩ = some (.string i) ∧ V.cell? ⟨x, 3, none⟩ = some (.string r) ∧ V.cell? ⟨x, 4, none⟩ = some (.slice sa ss.length sc) := ⟨heap_cell HXV.out 0, heap_cell HXV.out 1, heap_cell HXV.out 2, heap_cell HXV.out 3, heap_cell HXV.out 4⟩
  go_cut [0] (fun v wc => ∃ (oa : Option Addr) (oc : Nat) (lc : List UInt8), v = .slice oa lc.length oc ∧ lc.length ≤ l.length + ((intE k).length + ((triE (t, i, r)).length + (uv ss.length).length)) ∧ Hid (lc = l ++ (intE k ++ (triE (t, i, r) ++ uv ss.length))) ∧ Own5 W.heap.size wc (.slice oa lc.length oc) lc ∧ Below W.heap.size W wc ∧ wc.heap[x]? = some (.cells #[.int .i64 k, .string t, .string i, .string r, .slice sa ss.length sc, .slice a ps.length c] 34 (0, 0)))
  case first =>
    try refine wp_region_noPanic ?_
    refine wp_region_held_drew (S := fun w' => w'.cell? ⟨x, 0, none⟩ = some (.int .i64 k) ∧ w'.cell? ⟨x, 1, none⟩ = some (.string t) ∧ w'.cell? ⟨x, 2, none⟩ = some (.string i) ∧ w'.cell? ⟨x, 3, none⟩ = some (.string r) ∧ w'.cell? ⟨x, 4, none⟩ = some (.slice sa ss.length sc)) (by kernel_rfl) (by rw [← hV]; exact hS0) (fun hHeld => ?_)
    rw [← hV] at hHeld ⊢
    clear hV hS0
    refine take_at 0 9 (v := ?_) rfl rfl (by kernel_rfl) (by kernel_rfl) (by kernel_rfl) (fun _ _ _ h => h) (Or.inl ⟨by rfl, ?_⟩) hHeld ?_
    rotate_left
    · (intro w hSw; (try dsimp only at hSw); go_simp; try with_reducible rfl)
    try simp only [List.setIfInBounds_toArray, List.set_cons_zero, List.set_cons_succ]
    refine take_at 1 10 (v := ?_) rfl rfl (by kernel_rfl) (by kernel_rfl) (by kernel_rfl) (fun _ _ _ h => h) (Or.inl ⟨by rfl, ?_⟩) hHeld ?_
    rotate_left
    · (intro w hSw; (try dsimp only at hSw); go_simp; try with_reducible rfl)
    try simp only [List.setIfInBounds_toArray, List.set_cons_zero, List.set_cons_succ]
    refine take_at 2 11 (v := ?_) rfl rfl (by kernel_rfl) (by kernel_rfl) (by kernel_rfl) (fun _ _ _ h => h) (Or.inl ⟨by rfl, ?_⟩) hHeld ?_
    rotate_left
    · (intro w hSw; (try dsimp only at hSw); go_simp; try with_reducible rfl)
    try simp only [List.setIfInBounds_toArray, List.set_cons_zero, List.set_cons_succ]
    refine take_at 4 13 (v := ?_) rfl rfl (by kernel_rfl) (by kernel_rfl) (by kernel_rfl) (fun _ _ _ h => h) (Or.inl ⟨by rfl, ?_⟩) hHeld ?_
    rotate_left
    · (intro w hSw; (try dsimp only at hSw); go_simp; try with_reducible rfl)
    try simp only [List.setIfInBounds_toArray, List.set_cons_zero, List.set_cons_succ]
    refine take_at 5 14 (v := ?_) rfl rfl (by kernel_rfl) (by kernel_rfl) (by kernel_rfl) (fun _ _ _ h => h) (Or.inl ⟨by rfl, ?_⟩) hHeld ?_
    rotate_left
    · (intro w hSw; (try dsimp only at hSw); go_simp; try with_reducible rfl)
    try simp only [List.setIfInBounds_toArray, List.set_cons_zero, List.set_cons_succ]
    refine take_at 6 15 (v := ?_) rfl rfl (by kernel_rfl) (by kernel_rfl) (by kernel_rfl) (fun _ _ _ h => h) (Or.inl ⟨by rfl, ?_⟩) hHeld ?_
    rotate_left
    · (intro w hSw; (try dsimp only at hSw); go_simp; try with_reducible rfl)
    try simp only [List.setIfInBounds_toArray, List.set_cons_zero, List.set_cons_succ]
    refine take_at 7 16 (v := ?_) rfl rfl (by kernel_rfl) (by kernel_rfl) (by kernel_rfl) (fun _ _ _ h => h) (Or.inl ⟨by rfl, ?_⟩) hHeld ?_
    rotate_left
    · (intro w hSw; (try dsimp only at hSw); go_simp; try with_reducible rfl)
    try simp only [List.setIfInBounds_toArray, List.set_cons_zero, List.set_cons_succ]
    refine take_at 8 17 (v := ?_) rfl rfl (by kernel_rfl) (by kernel_rfl) (by kernel_rfl) (fun _ _ _ h => h) (Or.inl ⟨by rfl, ?_⟩) hHeld ?_
    rotate_left
    · (intro w hSw; (try dsimp only at hSw); go_simp; try with_reducible rfl)
    try simp only [List.setIfInBounds_toArray, List.set_cons_zero, List.set_cons_succ]
    refine take_at 9 18 (v := ?_) rfl rfl (by kernel_rfl) (by kernel_rfl) (by kernel_rfl) (fun _ _ _ h => h) (Or.inl ⟨by rfl, ?_⟩) hHeld ?_
    rotate_left
    · (intro w hSw; (try dsimp only at hSw); go_simp; try with_reducible rfl)
    try simp only [List.setIfInBounds_toArray, List.set_cons_zero, List.set_cons_succ]
    refine take_at 10 19 (v := ?_) rfl rfl (by kernel_rfl) (by kernel_rfl) (by kernel_rfl) (fun _ _ _ h => h) (Or.inl ⟨by rfl, ?_⟩) hHeld ?_
    rotate_left
    · (intro w hSw; (try dsimp only at hSw); go_simp; try with_reducible rfl)
    try simp only [List.setIfInBounds_toArray, List.set_cons_zero, List.set_cons_succ]
    refine take_at 11 20 (v := ?_) rfl rfl (by kernel_rfl) (by kernel_rfl) (by kernel_rfl) (fun _ _ _ h => h) (Or.inl ⟨by rfl, ?_⟩) hHeld ?_
    rotate_left
    · (intro w hSw; (try dsimp only at hSw); go_simp; try with_reducible rfl)
    try simp only [List.setIfInBounds_toArray, List.set_cons_zero, List.set_cons_succ]
    refine take_at 14 23 (v := ?_) rfl rfl (by kernel_rfl) (by kernel_rfl) (by kernel_rfl) (fun _ _ _ h => h) (Or.inl ⟨by rfl, ?_⟩) hHeld ?_
    rotate_left
    · (intro w hSw; (try dsimp only at hSw); go_simp; try with_reducible rfl)
    try simp only [List.setIfInBounds_toArray, List.set_cons_zero, List.set_cons_succ]
    refine take_at 15 24 (v := ?_) rfl rfl (by kernel_rfl) (by kernel_rfl) (by kernel_rfl) (fun _ _ _ h => h) (Or.inl ⟨by rfl, ?_⟩) hHeld ?_
    rotate_left
    · (intro w hSw; (try dsimp only at hSw); go_simp; try with_reducible rfl)
    try simp only [List.setIfInBounds_toArray, List.set_cons_zero, List.set_cons_succ]
    refine take_at 16 25 (v := ?_) rfl rfl (by kernel_rfl) (by kernel_rfl) (by kernel_rfl) (fun _ _ _ h => h) (Or.inl ⟨by rfl, ?_⟩) hHeld ?_
    rotate_left
    · (intro w hSw; (try dsimp only at hSw); go_simp; try with_reducible rfl)
    try simp only [List.setIfInBounds_toArray, List.set_cons_zero, List.set_cons_succ]
    refine two_at 3 12 12 21 (by kernel_rfl) rfl rfl (by rfl) rfl rfl (by rfl) (fun K hK => ?_) (fun K hK => ?_)
    · go_simp
      refine (rwhole_any ba bc l k V (by omega) HK.out HBy.out).mono ?_
      rintro ee W1 ⟨v1, rfl, h1, hb1⟩
      obtain ⟨lc1, hlc⟩ : ∃ lc, lc = l ++ intE k := ⟨_, rfl⟩
      rw [← hlc] at h1
      have hn1 : lc1.length ≤ l.length + (intE k).length := by rw [hlc, List.length_append]; exact Nat.le_refl _
      have HLc1 := Lib.hid hlc
      clear hlc
      obtain ⟨a1, m1, c1, rfl⟩ := row_slice h1
      have hm1 := row_len' h1
      subst hm1
      have HBel1 := Lib.hid (HBelV.out.trans (hb1.mono HBelV.out.size))
      have HO1 : Hid (Own5 W.heap.size W1 (.slice a1 lc1.length c1) lc1) := row_lower h1 HBelV.out.size
      have HXb1 := Lib.hid ((hb1.block _ (heap_lt HXV.out)).trans HXV.out)
      clear h1 hb1
      go_wp2_with fail
      refine hK.out _ _ (⟨heap_cell HXb1.out 0, heap_cell HXb1.out 1, heap_cell HXb1.out 2, heap_cell HXb1.out 3, heap_cell HXb1.out 4⟩) (fun hHeld2 => ?_)
      clear hK K hHeld
      have hHeld := hHeld2
      clear hHeld2
      try simp only [Act.put, List.setIfInBounds_toArray, List.set_cons_zero, List.set_cons_succ]
      refine only_at 12 21 (by kernel_rfl) rfl rfl (by rfl) (fun K hK => ?_)
      go_simp
      have hk2_0 := cell_alloc_of (.cells #[.string t, .string i, .string r] 9) (heap_cell HXb1.out 0)
      have hk2_1 := cell_alloc_of (.cells #[.string t, .string i, .string r] 9) (heap_cell HXb1.out 1)
      have hk2_2 := cell_alloc_of (.cells #[.string t, .string i, .string r] 9) (heap_cell HXb1.out 2)
      have hk2_3 := cell_alloc_of (.cells #[.string t, .string i, .string r] 9) (heap_cell HXb1.out 3)
      have hk2_4 := cell_alloc_of (.cells #[.string t, .string i, .string r] 9) (heap_cell HXb1.out 4)
      refine hK.out _ _ (⟨hk2_0, hk2_1, hk2_2, hk2_3, hk2_4⟩) (fun hHeld2 => ?_)
      clear hK K hHeld
      have hHeld := hHeld2
      clear hHeld2
      try simp only [Act.put, List.setIfInBounds_toArray, List.set_cons_zero, List.set_cons_succ]
      clear hk2_0 hk2_1 hk2_2 hk2_3 hk2_4
      obtain ⟨W2, hW2⟩ : ∃ w9, w9 = (W1.alloc (.cells #[.string t, .string i, .string r] 9)) := ⟨_, rfl⟩
      have hbl2 : Below W1.heap.size W1 W2 := by rw [hW2]; exact (Below.refl _ _).alloc (Nat.le_refl _) _
      have hlt2 : W1.heap.size < W2.heap.size := by rw [hW2, alloc_size]; omega
      have HTa2n : Hid (IsStrs W2 (some ⟨W1.heap.size, 0, none⟩) [t, i, r]) := (by rw [hW2]; exact strs_new W1 [t, i, r] : IsStrs W2 (some ⟨W1.heap.size, 0, none⟩) [t, i, r])
      have HBel2 := Lib.hid (HBel1.out.trans (hbl2.mono HBel1.out.size))
      have HO2 : Hid (Own5 W.heap.size W2 (.slice a1 lc1.length c1) lc1) := Below.row hbl2 HO1.out
      have HXb2 := Lib.hid ((hbl2.block _ (heap_lt HXb1.out)).trans HXb1.out)
      rw [← hW2] at hHeld ⊢
      clear hW2 hbl2
      refine only_at 13 22 (by kernel_rfl) rfl rfl (by rfl) (fun K hK => ?_)
      go_simp
      refine (rtexts_any a1 c1 lc1 (some ⟨W1.heap.size, 0, none⟩) 3 [t, i, r] W2 (by rw [body3]; omega) (by show 0 < 3; omega) (by show 3 ≤ 1000000; omega) (row_bytes' HO2.out) HTa2n.out).mono ?_
      rintro ee W3 ⟨v3, rfl, h3, hb3⟩
      rw [body3] at h3
      obtain ⟨lc3, hlc⟩ : ∃ lc, lc = lc1 ++ triE (t, i, r) := ⟨_, rfl⟩
      rw [← hlc] at h3
      have hn3 : lc3.length ≤ lc1.length + (triE (t, i, r)).length := by rw [hlc, List.length_append]; exact Nat.le_refl _
      have HLc3 := Lib.hid hlc
      clear hlc
      obtain ⟨a3, m3, c3, rfl⟩ := row_slice h3
      have hm3 := row_len' h3
      subst hm3
      have HBel3 := Lib.hid (HBel2.out.trans (hb3.mono HBel2.out.size))
      have HO3 : Hid (Own5 W.heap.size W3 (.slice a3 lc3.length c3) lc3) := row_lower h3 HBel2.out.size
      have HXb3 := Lib.hid ((hb3.block _ (heap_lt HXb2.out)).trans HXb2.out)
      clear h3 hb3
      go_wp2_with fail
      refine hK.out _ _ (⟨heap_cell HXb3.out 0, heap_cell HXb3.out 1, heap_cell HXb3.out 2, heap_cell HXb3.out 3, heap_cell HXb3.out 4⟩) (fun hHeld2 => ?_)
      clear hK K hHeld
      have hHeld := hHeld2
      clear hHeld2
      try simp only [Act.put, List.setIfInBounds_toArray, List.set_cons_zero, List.set_cons_succ]
      refine only_at 17 26 (by kernel_rfl) rfl rfl (by rfl) (fun K hK => ?_)
      go_simp
      refine (rmany_any a3 c3 lc3 ss.length W3 (by omega) hns (row_bytes' HO3.out)).mono ?_
      rintro ee W4 ⟨v4, rfl, h4, hb4⟩
      obtain ⟨lc4, hlc⟩ : ∃ lc, lc = lc3 ++ uv ss.length := ⟨_, rfl⟩
      rw [← hlc] at h4
      have hn4 : lc4.length ≤ lc3.length + (uv ss.length).length := by rw [hlc, List.length_append]; exact Nat.le_refl _
      have HLc4 := Lib.hid hlc
      clear hlc
      obtain ⟨a4, m4, c4, rfl⟩ := row_slice h4
      have hm4 := row_len' h4
      subst hm4
      have HBel4 := Lib.hid (HBel3.out.trans (hb4.mono HBel3.out.size))
      have HO4 : Hid (Own5 W.heap.size W4 (.slice a4 lc4.length c4) lc4) := row_lower h4 HBel3.out.size
      have HXb4 := Lib.hid ((hb4.block _ (heap_lt HXb3.out)).trans HXb3.out)
      clear h4 hb4
      go_wp2_with fail
      refine hK.out _ _ (⟨heap_cell HXb4.out 0, heap_cell HXb4.out 1, heap_cell HXb4.out 2, heap_cell HXb4.out 3, heap_cell HXb4.out 4⟩) (fun hHeld2 => ?_)
      clear hK K hHeld
      have hHeld := hHeld2
      clear hHeld2
      try simp only [Act.put, List.setIfInBounds_toArray, List.set_cons_zero, List.set_cons_succ]
      refine take_at 18 0 (v := ?_) rfl rfl (by kernel_rfl) (by kernel_rfl) (by kernel_rfl) (fun _ _ _ h => h) (Or.inl ⟨by rfl, ?_⟩) hHeld ?_
      rotate_left
      · (intro w hSw; (try dsimp only at hSw); go_simp; try with_reducible rfl)
      try simp only [List.setIfInBounds_toArray, List.set_cons_zero, List.set_cons_succ]
      refine wpAnyH_done (by kernel_rfl) ?_ _
      try refine NoPanic.normal ?_
      go_wp2_with fail
      go_meet
      case rel =>
        refine ⟨a4, c4, lc4, rfl, by omega, ?_, HO4.out, HBel4.out, HXb4.out⟩
        show _ = _
        rw [HLc4.out, HLc3.out, HLc1.out]
        simp only [List.append_assoc]
    · go_simp
      have hk1_0 := cell_alloc_of (.cells #[.string t, .string i, .string r] 9) (heap_cell HXV.out 0)
      have hk1_1 := cell_alloc_of (.cells #[.string t, .string i, .string r] 9) (heap_cell HXV.out 1)
      have hk1_2 := cell_alloc_of (.cells #[.string t, .string i, .string r] 9) (heap_cell HXV.out 2)
      have hk1_3 := cell_alloc_of (.cells #[.string t, .string i, .string r] 9) (heap_cell HXV.out 3)
      have hk1_4 := cell_alloc_of (.cells #[.string t, .string i, .string r] 9) (heap_cell HXV.out 4)
      refine hK.out _ _ (⟨hk1_0, hk1_1, hk1_2, hk1_3, hk1_4⟩) (fun hHeld2 => ?_)
      clear hK K hHeld
      have hHeld := hHeld2
      clear hHeld2
      try simp only [Act.put, List.setIfInBounds_toArray, List.set_cons_zero, List.set_cons_succ]
      clear hk1_0 hk1_1 hk1_2 hk1_3 hk1_4
      obtain ⟨W1, hW1⟩ : ∃ w9, w9 = (V.alloc (.cells #[.string t, .string i, .string r] 9)) := ⟨_, rfl⟩
      have hbl1 : Below V.heap.size V W1 := by rw [hW1]; exact (Below.refl _ _).alloc (Nat.le_refl _) _
      have hlt1 : V.heap.size < W1.heap.size := by rw [hW1, alloc_size]; omega
      have HTa1n : Hid (IsStrs W1 (some ⟨V.heap.size, 0, none⟩) [t, i, r]) := (by rw [hW1]; exact strs_new V [t, i, r] : IsStrs W1 (some ⟨V.heap.size, 0, none⟩) [t, i, r])
      have HBel1 := Lib.hid (HBelV.out.trans (hbl1.mono HBelV.out.size))
      have HR1 := Lib.hid (HBy.out.below hbl1)
      have HXb1 := Lib.hid ((hbl1.block _ (heap_lt HXV.out)).trans HXV.out)
      rw [← hW1] at hHeld ⊢
      clear hW1 hbl1
      refine only_at 3 12 (by kernel_rfl) rfl rfl (by rfl) (fun K hK => ?_)
      go_simp
      refine (rwhole_any ba bc l k W1 (by omega) HK.out HR1.out).mono ?_
      rintro ee W2 ⟨v2, rfl, h2, hb2⟩
      obtain ⟨lc2, hlc⟩ : ∃ lc, lc = l ++ intE k := ⟨_, rfl⟩
      rw [← hlc] at h2
      have hn2 : lc2.length ≤ l.length + (intE k).length := by rw [hlc, List.length_append]; exact Nat.le_refl _
      have HLc2 := Lib.hid hlc
      clear hlc
      obtain ⟨a2, m2, c2, rfl⟩ := row_slice h2
      have hm2 := row_len' h2
      subst hm2
      have HBel2 := Lib.hid (HBel1.out.trans (hb2.mono HBel1.out.size))
      have HO2 : Hid (Own5 W.heap.size W2 (.slice a2 lc2.length c2) lc2) := row_lower h2 HBel1.out.size
      have HXb2 := Lib.hid ((hb2.block _ (heap_lt HXb1.out)).trans HXb1.out)
      have HTa2 := Lib.hid (HTa1n.out.below hb2)
      clear h2 hb2
      go_wp2_with fail
      refine hK.out _ _ (⟨heap_cell HXb2.out 0, heap_cell HXb2.out 1, heap_cell HXb2.out 2, heap_cell HXb2.out 3, heap_cell HXb2.out 4⟩) (fun hHeld2 => ?_)
      clear hK K hHeld
      have hHeld := hHeld2
      clear hHeld2
      try simp only [Act.put, List.setIfInBounds_toArray, List.set_cons_zero, List.set_cons_succ]
      refine only_at 13 22 (by kernel_rfl) rfl rfl (by rfl) (fun K hK => ?_)
      go_simp
      refine (rtexts_any a2 c2 lc2 (some ⟨V.heap.size, 0, none⟩) 3 [t, i, r] W2 (by rw [body3]; omega) (by show 0 < 3; omega) (by show 3 ≤ 1000000; omega) (row_bytes' HO2.out) HTa2.out).mono ?_
      rintro ee W3 ⟨v3, rfl, h3, hb3⟩
      rw [body3] at h3
      obtain ⟨lc3, hlc⟩ : ∃ lc, lc = lc2 ++ triE (t, i, r) := ⟨_, rfl⟩
      rw [← hlc] at h3
      have hn3 : lc3.length ≤ lc2.length + (triE (t, i, r)).length := by rw [hlc, List.length_append]; exact Nat.le_refl _
      have HLc3 := Lib.hid hlc
      clear hlc
      obtain ⟨a3, m3, c3, rfl⟩ := row_slice h3
      have hm3 := row_len' h3
      subst hm3
      have HBel3 := Lib.hid (HBel2.out.trans (hb3.mono HBel2.out.size))
      have HO3 : Hid (Own5 W.heap.size W3 (.slice a3 lc3.length c3) lc3) := row_lower h3 HBel2.out.size
      have HXb3 := Lib.hid ((hb3.block _ (heap_lt HXb2.out)).trans HXb2.out)
      clear h3 hb3
      go_wp2_with fail
      refine hK.out _ _ (⟨heap_cell HXb3.out 0, heap_cell HXb3.out 1, heap_cell HXb3.out 2, heap_cell HXb3.out 3, heap_cell HXb3.out 4⟩) (fun hHeld2 => ?_)
      clear hK K hHeld
      have hHeld := hHeld2
      clear hHeld2
      try simp only [Act.put, List.setIfInBounds_toArray, List.set_cons_zero, List.set_cons_succ]
      refine only_at 17 26 (by kernel_rfl) rfl rfl (by rfl) (fun K hK => ?_)
      go_simp
      refine (rmany_any a3 c3 lc3 ss.length W3 (by omega) hns (row_bytes' HO3.out)).mono ?_
      rintro ee W4 ⟨v4, rfl, h4, hb4⟩
      obtain ⟨lc4, hlc⟩ : ∃ lc, lc = lc3 ++ uv ss.length := ⟨_, rfl⟩
      rw [← hlc] at h4
      have hn4 : lc4.length ≤ lc3.length + (uv ss.length).length := by rw [hlc, List.length_append]; exact Nat.le_refl _
      have HLc4 := Lib.hid hlc
      clear hlc
      obtain ⟨a4, m4, c4, rfl⟩ := row_slice h4
      have hm4 := row_len' h4
      subst hm4
      have HBel4 := Lib.hid (HBel3.out.trans (hb4.mono HBel3.out.size))
      have HO4 : Hid (Own5 W.heap.size W4 (.slice a4 lc4.length c4) lc4) := row_lower h4 HBel3.out.size
      have HXb4 := Lib.hid ((hb4.block _ (heap_lt HXb3.out)).trans HXb3.out)
      clear h4 hb4
      go_wp2_with fail
      refine hK.out _ _ (⟨heap_cell HXb4.out 0, heap_cell HXb4.out 1, heap_cell HXb4.out 2, heap_cell HXb4.out 3, heap_cell HXb4.out 4⟩) (fun hHeld2 => ?_)
      clear hK K hHeld
      have hHeld := hHeld2
      clear hHeld2
      try simp only [Act.put, List.setIfInBounds_toArray, List.set_cons_zero, List.set_cons_succ]
      refine take_at 18 0 (v := ?_) rfl rfl (by kernel_rfl) (by kernel_rfl) (by kernel_rfl) (fun _ _ _ h => h) (Or.inl ⟨by rfl, ?_⟩) hHeld ?_
      rotate_left
      · (intro w hSw; (try dsimp only at hSw); go_simp; try with_reducible rfl)
      try simp only [List.setIfInBounds_toArray, List.set_cons_zero, List.set_cons_succ]
      refine wpAnyH_done (by kernel_rfl) ?_ _
      try refine NoPanic.normal ?_
      go_wp2_with fail
      go_meet
      case rel =>
        refine ⟨a4, c4, lc4, rfl, by omega, ?_, HO4.out, HBel4.out, HXb4.out⟩
        show _ = _
        rw [HLc4.out, HLc3.out, HLc2.out]
        simp only [List.append_assoc]
  case rest =>
    obtain ⟨oa, oc, lc, rfl, hlc, hlceq, hown, hbel, hbox⟩ := hcut
    have HLC := hlceq
    have HO0 := Lib.hid hown
    have HB0 := Lib.hid hbel
    have HX0 := Lib.hid hbox
    clear hV hS0 HXV HBelV HBy hown hbel hbox hlceq
    have qq := heap_cell HX0.out 4
    simp at qq
    go_wp2_with fail
    go_loopw [0, 30] (fun bv iv wr => ∃ (j : Nat) (oa : Option Addr) (oc : Nat) (lj : List UInt8), bv = .slice oa lj.length oc ∧ iv = .int .i64 j ∧ j ≤ ss.length ∧ Hid (lj = lc ++ bodyE triE (ss.take j) ∧ Own5 W.heap.size wr (.slice oa lj.length oc) lj ∧ Below W.heap.size W wr ∧ wr.heap[x]? = some (.cells #[.int .i64 k, .string t, .string i, .string r, .slice sa ss.length sc, .slice a ps.length c] 34 (0, 0)))) (fun _ iv _ => ss.length - (intOf iv).toNat)
    case atStart => exact ⟨0, oa, oc, lc, rfl, rfl, Nat.zero_le _, by rw [List.take_zero]; simp [bodyE], HO0.out, HB0.out, HX0.out⟩
    case round =>
      clear HO0 HB0 HX0 qq
      obtain ⟨ja, oja, cja, lja, rfl, rfl, hja, hst⟩ := hrel
      obtain ⟨hlj, hown, hbel, hbox⟩ := hst.out
      have hble := body_le triE ss ja
      have hlja : lja.length ≤ lc.length + (bodyE triE (ss.take ja)).length := by rw [hlj, List.length_append]; exact Nat.le_refl _
      by_cases hjl : ja < ss.length
      · have dj : decide ((ja : Int) < (ss.length : Int)) = true := decide_eq_true (by omega)
        have dj2 : decide (ja < ss.length) = true := decide_eq_true (by omega)
        have hij : (ja : Int) < (ss.length : Int) := by omega
        obtain ⟨b, off, rfl, hb, hc⟩ := (HSs.out.below hbel) (by omega)
        have c0 := hc ja hjl 0 (by omega)
        have c1 := hc ja hjl 1 (by omega)
        have c2 := hc ja hjl 2 (by omega)
        have hbt := body_take triE ss ja hjl
        have hble2 := body_le triE ss (ja + 1)
        rw [hbt, List.length_append] at hble2
        have hmem := getD_mem hjl
        have HBt := Lib.hid hbt
        have HLj := Lib.hid hlj
        have HOj := Lib.hid hown
        have HBj := Lib.hid hbel
        have HXj := Lib.hid hbox
        clear hst hc hbt hlj hown hbel hbox
        generalize ss.getD ja default = y at *
        obtain ⟨ya, yb, yc⟩ := y
        simp [triC] at c0 c1 c2
        have hB1 := (Below.refl wr.heap.size wr).alloc (Nat.le_refl _) (.cells #[.string ya, .string yb, .string yc] 60)
        have HBa := Lib.hid (HBj.out.trans (hB1.mono HBj.out.size))
        have HXa := Lib.hid ((hB1.block _ (heap_lt HXj.out)).trans HXj.out)
        have HRa := Lib.hid ((row_bytes' HOj.out).below hB1)
        clear hB1
        have HC := Lib.hid (rsub_any oja cja lja ya yb yc _ (by omega) HRa.out)
        go_wp2_with fail
        refine HC.out.mono ?_
        clear HC
        rintro ee W101 ⟨v101, rfl, h101, hb101⟩
        obtain ⟨lc101, hlc⟩ : ∃ lc, lc = lja ++ triE (ya, yb, yc) := ⟨_, rfl⟩
        rw [← hlc] at h101
        have hn101 : lc101.length ≤ lja.length + (triE (ya, yb, yc)).length := by rw [hlc, List.length_append]; exact Nat.le_refl _
        have HLc101 := Lib.hid hlc
        clear hlc
        obtain ⟨a101, m101, c101, rfl⟩ := row_slice h101
        have hm101 := row_len' h101
        subst hm101
        have HBel101 := Lib.hid (HBa.out.trans (hb101.mono HBa.out.size))
        have HO101 : Hid (Own5 W.heap.size W101 (.slice a101 lc101.length c101) lc101) := row_lower h101 HBa.out.size
        have HXb101 := Lib.hid ((hb101.block _ (heap_lt HXa.out)).trans HXa.out)
        clear h101 hb101
        have HRN : Hid (lc101 = lc ++ bodyE triE (ss.take (ja + 1)) ∧ Own5 W.heap.size W101 (.slice a101 lc101.length c101) lc101 ∧ Below W.heap.size W W101 ∧ W101.heap[x]? = some (.cells #[.int .i64 k, .string t, .string i, .string r, .slice (some ⟨b, off, none⟩) ss.length sc, .slice a ps.length c] 34 (0, 0))) := ⟨by
          rw [HLc101.out, HLj.out, HBt.out]
          simp only [List.append_assoc], HO101.out, HBel101.out, HXb101.out⟩
        clear hjl hble hble2
        go_wp2_with fail
        go_roundw
        case rel => exact ⟨ja + 1, a101, c101, lc101, rfl, by go_num, by omega, HRN⟩
        case measure => first | (simp [intOf]; done) | (simp [intOf]; omega)
      · have hje : ja = ss.length := by omega
        have dj : decide ((ja : Int) < (ss.length : Int)) = false := decide_eq_false (by omega)
        have dj2 : decide (ja < ss.length) = false := decide_eq_false (by omega)
        have HLea : Hid (lja = lc ++ bodyE triE ss) := (by rw [hlj, hje, List.take_length] : lja = lc ++ bodyE triE ss)
        have hlea : lja.length ≤ lc.length + (bodyE triE ss).length := Nat.le_trans hlja (Nat.add_le_add_left hble _)
        have HOea := Lib.hid hown
        have HBea := Lib.hid hbel
        have HXea := Lib.hid hbox
        clear hst hlj hown hbel hbox hje hjl hble hlja
        have qq5 := heap_cell HXea.out 5
        simp at qq5
        have HC := Lib.hid (rmany_any oja cja lja ps.length wr (by omega) hn (row_bytes' HOea.out))
        go_wp2_with fail
        refine HC.out.mono ?_
        clear HC qq5
        rintro ee W101 ⟨v101, rfl, h101, hb101⟩
        obtain ⟨lc101, hlc⟩ : ∃ lc, lc = lja ++ uv ps.length := ⟨_, rfl⟩
        rw [← hlc] at h101
        have hn101 : lc101.length ≤ lja.length + (uv ps.length).length := by rw [hlc, List.length_append]; exact Nat.le_refl _
        have HLc101 := Lib.hid hlc
        clear hlc
        obtain ⟨a101, m101, c101, rfl⟩ := row_slice h101
        have hm101 := row_len' h101
        subst hm101
        have HBel101 := Lib.hid (HBea.out.trans (hb101.mono HBea.out.size))
        have HO101 : Hid (Own5 W.heap.size W101 (.slice a101 lc101.length c101) lc101) := row_lower h101 HBea.out.size
        have HXb101 := Lib.hid ((hb101.block _ (heap_lt HXea.out)).trans HXea.out)
        clear h101 hb101
        have hnx2 := HNx.out
        have qq := heap_cell HXb101.out 5
        simp at qq
        go_wp2_with fail
        go_loopw [0, 46] (fun bv iv wr => ∃ (j : Nat) (oa : Option Addr) (oc : Nat) (lj : List UInt8), bv = .slice oa lj.length oc ∧ iv = .int .i64 j ∧ j ≤ ps.length ∧ Hid (lj = lc101 ++ bodyE neE (xs.take j) ∧ Own5 W.heap.size wr (.slice oa lj.length oc) lj ∧ Below W.heap.size W wr ∧ wr.heap[x]? = some (.cells #[.int .i64 k, .string t, .string i, .string r, .slice sa ss.length sc, .slice a ps.length c] 34 (0, 0)))) (fun _ iv _ => ps.length - (intOf iv).toNat)
        case atStart => exact ⟨0, a101, c101, lc101, rfl, rfl, Nat.zero_le _, by rw [List.take_zero]; simp [bodyE], HO101.out, HBel101.out, HXb101.out⟩
        case round =>
          clear HO101 HBel101 HXb101 qq
          obtain ⟨jb, ojb, cjb, ljb, rfl, rfl, hjb, hst⟩ := hrel
          obtain ⟨hlj, hown, hbel, hbox⟩ := hst.out
          have hble := body_le neE xs jb
          have hljb : ljb.length ≤ lc101.length + (bodyE neE (xs.take jb)).length := by rw [hlj, List.length_append]; exact Nat.le_refl _
          by_cases hjl : jb < xs.length
          · have dj : decide ((jb : Int) < (ps.length : Int)) = true := decide_eq_true (by omega)
            have dj2 : decide (jb < ps.length) = true := decide_eq_true (by omega)
            have hij : (jb : Int) < (ps.length : Int) := by omega
            obtain ⟨b, off, rfl, hb, hc⟩ := (HEl.out.below hbel) (by omega)
            have c0 := hc jb hjl 0 (by omega)
            have c1 := hc jb hjl 1 (by omega)
            have c2 := hc jb hjl 2 (by omega)
            have c3 := hc jb hjl 3 (by omega)
            have c4 := hc jb hjl 4 (by omega)
            have c5 := hc jb hjl 5 (by omega)
            have hbt := body_take neE xs jb hjl
            have hble2 := body_le neE xs (jb + 1)
            rw [hbt, List.length_append] at hble2
            have hmem := getD_mem hjl
            have HBt := Lib.hid hbt
            have HLj := Lib.hid hlj
            have HOj := Lib.hid hown
            have HBj := Lib.hid hbel
            have HXj := Lib.hid hbox
            have hnx := HNx.out
            clear hst hc hbt hlj hown hbel hbox hnx
            generalize xs.getD jb default = y at *
            obtain ⟨yk, yt, yi, yr, ysa, ysc, yss, ya, yc, yps⟩ := y
            simp [neC] at c0 c1 c2 c3 c4 c5
            have hB1 := (Below.refl wr.heap.size wr).alloc (Nat.le_refl _) (.cells #[.int .i64 yk, .string yt, .string yi, .string yr, .slice ysa yss.length ysc, .slice ya yps.length yc] 34)
            have HBa := Lib.hid (HBj.out.trans (hB1.mono HBj.out.size))
            have HXa := Lib.hid ((hB1.block _ (heap_lt HXj.out)).trans HXj.out)
            have HRa := Lib.hid ((row_bytes' HOj.out).below hB1)
            clear hB1
            have HC := Lib.hid (HOne.out _ hmem ojb cjb ljb _ HBa.out HRa.out (by omega))
            go_wp2_with fail
            refine HC.out.mono ?_
            clear HC
            rintro ee W102 ⟨v102, rfl, h102, hb102⟩
            obtain ⟨lc102, hlc⟩ : ∃ lc, lc = ljb ++ neE ⟨yk, yt, yi, yr, ysa, ysc, yss, ya, yc, yps⟩ := ⟨_, rfl⟩
            rw [← hlc] at h102
            have hn102 : lc102.length ≤ ljb.length + (neE ⟨yk, yt, yi, yr, ysa, ysc, yss, ya, yc, yps⟩).length := by rw [hlc, List.length_append]; exact Nat.le_refl _
            have HLc102 := Lib.hid hlc
            clear hlc
            obtain ⟨a102, m102, c102, rfl⟩ := row_slice h102
            have hm102 := row_len' h102
            subst hm102
            have HBel102 := Lib.hid (HBa.out.trans (hb102.mono HBa.out.size))
            have HO102 : Hid (Own5 W.heap.size W102 (.slice a102 lc102.length c102) lc102) := row_lower h102 HBa.out.size
            have HXb102 := Lib.hid ((hb102.block _ (heap_lt HXa.out)).trans HXa.out)
            clear h102 hb102
            have HRN : Hid (lc102 = lc101 ++ bodyE neE (xs.take (jb + 1)) ∧ Own5 W.heap.size W102 (.slice a102 lc102.length c102) lc102 ∧ Below W.heap.size W W102 ∧ W102.heap[x]? = some (.cells #[.int .i64 k, .string t, .string i, .string r, .slice sa ss.length sc, .slice (some ⟨b, off, none⟩) ps.length c] 34 (0, 0))) := ⟨by
              rw [HLc102.out, HLj.out, HBt.out]
              simp only [List.append_assoc], HO102.out, HBel102.out, HXb102.out⟩
            clear hjl hble hble2
            go_wp2_with fail
            go_roundw
            case rel => exact ⟨jb + 1, a102, c102, lc102, rfl, by go_num, by omega, HRN⟩
            case measure => first | (simp [intOf]; done) | (simp [intOf]; omega)
          · have hje : jb = xs.length := by omega
            have dj : decide ((jb : Int) < (ps.length : Int)) = false := decide_eq_false (by omega)
            have dj2 : decide (jb < ps.length) = false := decide_eq_false (by omega)
            have HLeb : Hid (ljb = lc101 ++ bodyE neE xs) := (by rw [hlj, hje, List.take_length] : ljb = lc101 ++ bodyE neE xs)
            have hleb : ljb.length ≤ lc101.length + (bodyE neE xs).length := Nat.le_trans hljb (Nat.add_le_add_left hble _)
            have HOeb := Lib.hid hown
            have HBeb := Lib.hid hbel
            have HXeb := Lib.hid hbox
            clear hst hlj hown hbel hbox hje hjl hble hljb
            have HE : Hid (RF l (intE k ++ (triE (t, i, r) ++ (uv ss.length ++ (bodyE triE ss ++ (uv ps.length ++ bodyE neE xs))))) W (.returned (.slice ojb ljb.length cjb)) wr) := ⟨_, rfl, by
              have e1 : l ++ (intE k ++ (triE (t, i, r) ++ (uv ss.length ++ (bodyE triE ss ++ (uv ps.length ++ bodyE neE xs))))) = ljb := by
                rw [HLeb.out, HLc101.out, HLea.out, HLC.out]
                simp only [List.append_assoc]
              rw [e1]; exact HOeb.out, HBeb.out⟩
            clear HOeb HBeb HXeb
            go_wp2_with fail
            go_ret
            exact HE.out
/-- a node in memory can be encoded -/
theorem rnode_enc : ∀ (n : Nat) (S : Nat → Prop) (W : World) (x : NE) (ba : Option Addr) (bc : Nat) (l : List UInt8), nemem n S W x → okN x.plain → l.length + (neE x).length ≤ 1000000000 → IsBytes W ba l →
    Calls Tryz.prog 59 #[.slice ba l.length bc, .agg #[.int .i64 x.k, .string x.t, .string x.i, .string x.r, .slice x.sa x.ss.length x.sc, .slice x.a x.ps.length x.c]] W (RF l (neE x) W) := by
  intro n
  induction n with
  | zero =>
    intro S W x ba bc l hm hok hl hb
    have hnil : x.ps = [] := List.eq_nil_of_length_eq_zero hm.2.2.2.2
    have hok' := (okN_eq _ _ _ _ _).1 hok
    have e : neE x = intE x.k ++ (triE (x.t, x.i, x.r) ++ (uv x.ss.length ++ (bodyE triE x.ss ++ (uv x.ps.length ++ bodyE neE [])))) := by
      rw [neE_eq, hnil]
      simp only [duoE, triE, listE, bodyE, List.append_assoc]; rfl
    rw [e] at hl ⊢
    have hsl : x.ss.length ≤ 1000000000 := by
      have e1 := list_ge (en := triE) triE_pos x.ss
      unfold listE at e1
      rw [List.length_append] at e1
      simp only [List.length_append] at hl
      omega
    exact rnode_step' x.k x.t x.i x.r x.sa x.sc x.ss x.a x.c x.ps [] ba bc l W hok'.1 hm.2.2.1 (fun h => absurd h (Nat.lt_irrefl 0)) (by rw [hnil]; rfl) (fun y hy => by cases hy) hl hsl (by rw [hnil]; exact Nat.zero_le _) hb
  | succ n ih =>
    intro S W x ba bc l hm hok hl hb
    obtain ⟨m1, m2, m3, m4, xs, h1, h2, h3, h4⟩ := hm
    have hok' := (okN_eq _ _ _ _ _).1 hok
    have hlen : xs.length = x.ps.length := by rw [← h1, List.length_map]
    have e : neE x = intE x.k ++ (triE (x.t, x.i, x.r) ++ (uv x.ss.length ++ (bodyE triE x.ss ++ (uv x.ps.length ++ bodyE neE xs)))) := by
      rw [neE_eq, ← neE_list h1]
      simp only [duoE, triE, listE, List.append_assoc, hlen]
    have hge := list_ge (en := neE) (fun y => encN_pos _) xs
    have e1 := list_ge (en := triE) triE_pos x.ss
    unfold listE at e1 hge
    rw [List.length_append] at e1 hge
    rw [e] at hl ⊢
    rw [hlen] at hge
    have hl2 := hl
    simp only [List.length_append] at hl2
    refine rnode_step' x.k x.t x.i x.r x.sa x.sc x.ss x.a x.c x.ps xs ba bc l W hok'.1 m3 h2 hlen (fun y hy ba2 bc2 lb w hbw hbb hlb => ?_) hl (by omega) (by omega) hb
    have hoky : okN y.plain := (okNs_iff.1 hok'.2.2.2.2.2) _ (by rw [← h1]; exact List.mem_map_of_mem hy)
    exact ih S w y ba2 bc2 lb ((nemem_ok n).stays (h4 y hy) (Stays.below hbw)) hoky hlb hbb
end Go.Proofs.YtacjbgmnoiimbabGreat
