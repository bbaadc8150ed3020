/- The document's request: walked (printed by genWireRu.py). -/
import Derived.Test.YtacjbgmnoiimbabGreatRfE
import Derived.Test.YtacjbgmnoiimbabGreatRdQ
namespace Go.Proofs.YtacjbgmnoiimbabGreat
set_option linter.unusedVariables false
set_option linter.unusedSimpArgs false
open Go.RowKit

theorem body4 (a b c d : ByteArray) : bodyE txt [a, b, c, d] = txt a ++ triE (b, c, d) := by
  show txt a ++ (txt b ++ (txt c ++ (txt d ++ []))) = _
  rw [List.append_nil]; rfl
set_option maxRecDepth 100000 in
set_option maxHeartbeats 16000000 in
theorem rreq_any (cl : ByteArray) (id : Nat) (kd hw : Int) (tk : ByteArray) (n : Nat) (ty f1 f2 f3 : ByteArray) (wa : Option Addr) (wq : Nat) (ws : List Wrt) (pa : Option Addr) (pc : Nat) (ps : List Wrt) (aa : Option Addr) (ac : Nat) (ks : List Six) (ga : Option Addr) (gc : Nat) (gs : List ArgT) (W : World) (hid : id < 18446744073709551616) (hkd : iok kd) (hhw : iok hw) (hn : n < 18446744073709551616) (hws : IsEls wrtC 7 W wa ws) (hps : IsEls wrtC 7 W pa ps) (hks : IsEls sixC 6 W aa ks) (hgs : IsEls argC 4 W ga gs) (hgk : ∀ x ∈ gs, iok x.2.1 ∧ iok x.2.2.1) (hl : ([113, 49] ++ reqE (cl, id, kd, hw, tk, n, ty, (f1, f2, f3), ws, ps, ks, gs)).length ≤ 100000000) :
    Calls Tryz.prog 82 #[.agg #[.string cl, .int .u64 (id : Int), .int .i64 kd, .int .i64 hw, .string tk, .int .u64 (n : Int), .string ty, .string f1, .string f2, .string f3, .slice wa ws.length wq, .slice pa ps.length pc, .slice aa ks.length ac, .slice ga gs.length gc]] W (RF [] ([113, 49] ++ reqE (cl, id, kd, hw, tk, n, ty, (f1, f2, f3), ws, ps, ks, gs)) W) := by
  have hL := hl
  simp only [reqE, List.length_append] at hL
  have h2l : ([113, 49] : List UInt8).length = 2 := rfl
  rw [h2l] at hL
  have hlw := list_ge (en := wrtE) wrtE_pos ws
  have hlp := list_ge (en := wrtE) wrtE_pos ps
  have hlk := list_ge (en := sixE) sixE_pos ks
  have hlg := list_ge (en := argE) argE_pos gs
  have hbw : (listE wrtE ws).length = (uv ws.length).length + (bodyE wrtE ws).length := by unfold listE; rw [List.length_append]
  have hbp : (listE wrtE ps).length = (uv ps.length).length + (bodyE wrtE ps).length := by unfold listE; rw [List.length_append]
  have hbk : (listE sixE ks).length = (uv ks.length).length + (bodyE sixE ks).length := by unfold listE; rw [List.length_append]
  have hbg : (listE argE gs).length = (uv gs.length).length + (bodyE argE gs).length := by unfold listE; rw [List.length_append]
  have HKd := Lib.hid hkd
  have HHw := Lib.hid hhw
  have HWs := Lib.hid hws
  have HPs := Lib.hid hps
  have HKs := Lib.hid hks
  have HGs := Lib.hid hgs
  have HGk := Lib.hid hgk
  have HBx := (Below.refl W.heap.size W).alloc (Nat.le_refl _) (.cells #[.string cl, .int .u64 (id : Int), .int .i64 kd, .int .i64 hw, .string tk, .int .u64 (n : Int), .string ty, .string f1, .string f2, .string f3, .slice wa ws.length wq, .slice pa ps.length pc, .slice aa ks.length ac, .slice ga gs.length gc] 54)
  have hx0 := heap_alloc_new W (.cells #[.string cl, .int .u64 (id : Int), .int .i64 kd, .int .i64 hw, .string tk, .int .u64 (n : Int), .string ty, .string f1, .string f2, .string f3, .slice wa ws.length wq, .slice pa ps.length pc, .slice aa ks.length ac, .slice ga gs.length gc] 54)
  obtain ⟨V, hV⟩ : ∃ V, V = (W.alloc (.cells #[.string cl, .int .u64 (id : Int), .int .i64 kd, .int .i64 hw, .string tk, .int .u64 (n : Int), .string ty, .string f1, .string f2, .string f3, .slice wa ws.length wq, .slice pa ps.length pc, .slice aa ks.length ac, .slice ga gs.length gc] 54)).drew := ⟨_, rfl⟩
  have HXV : Hid (V.heap[W.heap.size]? = some (.cells #[.string cl, .int .u64 (id : Int), .int .i64 kd, .int .i64 hw, .string tk, .int .u64 (n : Int), .string ty, .string f1, .string f2, .string f3, .slice wa ws.length wq, .slice pa ps.length pc, .slice aa ks.length ac, .slice ga gs.length gc] 54 (0, 0))) := (by rw [hV]; exact hx0 : V.heap[W.heap.size]? = some (.cells #[.string cl, .int .u64 (id : Int), .int .i64 kd, .int .i64 hw, .string tk, .int .u64 (n : Int), .string ty, .string f1, .string f2, .string f3, .slice wa ws.length wq, .slice pa ps.length pc, .slice aa ks.length ac, .slice ga gs.length gc] 54 (0, 0)))
  have HBelV : Hid (Below W.heap.size W V) := (by rw [hV]; exact HBx.drew : Below W.heap.size W V)
  clear hws hps hks hgs hgk hx0 HBx hkd hhw hl
  go_enter Tryz.func82, Tryz.ntmps82
  go_upto_region 1 with (fail)
  obtain ⟨x, hx⟩ : ∃ x, x = W.heap.size := ⟨_, rfl⟩
  rw [← hx] at HXV
  rw [← hx]
  have HXx := Lib.hid hx
  clear hx
  have hS0 : V.cell? ⟨x, 0, none⟩ = some (.string cl) ∧ V.cell? ⟨x, 1, none⟩ = some (.int .u64 (id : Int)) := ⟨heap_cell HXV.out 0, heap_cell HXV.out 1⟩
  go_cut [3] (fun v wc0 => ∃ (oa : Option Addr) (oc : Nat) (lc : List UInt8), v = .slice oa lc.length oc ∧ lc.length ≤ 2 + ((txt cl).length + (uv id).length) ∧ Hid (lc = [113, 49] ++ (txt cl ++ uv id)) ∧ Own5 W.heap.size wc0 (.slice oa lc.length oc) lc ∧ Below W.heap.size W wc0 ∧ wc0.heap[x]? = some (.cells #[.string cl, .int .u64 (id : Int), .int .i64 kd, .int .i64 hw, .string tk, .int .u64 (n : Int), .string ty, .string f1, .string f2, .string f3, .slice wa ws.length wq, .slice pa ps.length pc, .slice aa ks.length ac, .slice ga gs.length gc] 54 (0, 0)))
  case first =>
    try refine wp_region_noPanic ?_
    refine wp_region_held_drew (S := fun w' => w'.cell? ⟨x, 0, none⟩ = some (.string cl) ∧ w'.cell? ⟨x, 1, none⟩ = some (.int .u64 (id : Int))) (by kernel_rfl) (by rw [← hV]; exact hS0) (fun hHeld => ?_)
    rw [← hV] at hHeld ⊢
    clear hV hS0
    refine take_at 2 14 (v := ?_) rfl rfl (by kernel_rfl) (by kernel_rfl) (by kernel_rfl) (fun _ _ _ h => h) (Or.inl ⟨by rfl, ?_⟩) hHeld ?_
    rotate_left
    · (intro w hSw; (try dsimp only at hSw); go_simp; try with_reducible rfl)
    try simp only [List.setIfInBounds_toArray, List.set_cons_zero, List.set_cons_succ]
    refine take_at 3 15 (v := ?_) rfl rfl (by kernel_rfl) (by kernel_rfl) (by kernel_rfl) (fun _ _ _ h => h) (Or.inl ⟨by rfl, ?_⟩) hHeld ?_
    rotate_left
    · (intro w hSw; (try dsimp only at hSw); go_simp; try with_reducible rfl)
    try simp only [List.setIfInBounds_toArray, List.set_cons_zero, List.set_cons_succ]
    refine take_at 6 18 (v := ?_) rfl rfl (by kernel_rfl) (by kernel_rfl) (by kernel_rfl) (fun _ _ _ h => h) (Or.inl ⟨by rfl, ?_⟩) hHeld ?_
    rotate_left
    · (intro w hSw; (try dsimp only at hSw); go_simp; try with_reducible rfl)
    try simp only [List.setIfInBounds_toArray, List.set_cons_zero, List.set_cons_succ]
    refine take_at 7 19 (v := ?_) rfl rfl (by kernel_rfl) (by kernel_rfl) (by kernel_rfl) (fun _ _ _ h => h) (Or.inl ⟨by rfl, ?_⟩) hHeld ?_
    rotate_left
    · (intro w hSw; (try dsimp only at hSw); go_simp; try with_reducible rfl)
    try simp only [List.setIfInBounds_toArray, List.set_cons_zero, List.set_cons_succ]
    refine two_at 0 4 12 16 (by kernel_rfl) rfl rfl (by rfl) rfl rfl (by rfl) (fun K hK => ?_) (fun K hK => ?_)
    · go_simp
      have hk1_0 := cell_alloc_of (.cells #[.int .u8 113, .int .u8 49] 5) (heap_cell HXV.out 0)
      have hk1_1 := cell_alloc_of (.cells #[.int .u8 113, .int .u8 49] 5) (heap_cell HXV.out 1)
      refine hK.out _ _ (⟨hk1_0, hk1_1⟩) (fun hHeld2 => ?_)
      clear hK K hHeld
      have hHeld := hHeld2
      clear hHeld2
      try simp only [Act.put, List.setIfInBounds_toArray, List.set_cons_zero, List.set_cons_succ]
      have hW1l : W.heap.size ≤ V.heap.size := HBelV.out.size
      have hxb1l := heap_lt HXV.out
      clear hk1_0 hk1_1
      obtain ⟨W1, hW1⟩ : ∃ w9, w9 = (V.alloc (.cells #[.int .u8 113, .int .u8 49] 5)) := ⟨_, rfl⟩
      have hbl1 : Below V.heap.size V W1 := by rw [hW1]; exact (Below.refl _ _).alloc (Nat.le_refl _) _
      have hlt1 : V.heap.size < W1.heap.size := by rw [hW1, alloc_size]; omega
      have HLit1n : Hid (W1.heap[V.heap.size]? = some (.cells #[.int .u8 113, .int .u8 49] 5 (0, 0))) := (by rw [hW1]; exact heap_alloc_new V _ : W1.heap[V.heap.size]? = some (.cells #[.int .u8 113, .int .u8 49] 5 (0, 0)))
      have HBel1 := Lib.hid (HBelV.out.trans (hbl1.mono HBelV.out.size))
      have HXb1 := Lib.hid ((hbl1.block _ (heap_lt HXV.out)).trans HXV.out)
      rw [← hW1] at hHeld ⊢
      clear hW1 hbl1
      refine two_at 1 4 13 16 (by kernel_rfl) rfl rfl (by rfl) rfl rfl (by rfl) (fun K hK => ?_) (fun K hK => ?_)
      · go_simp
        obtain ⟨W2, hrun, hgr2, hlit2⟩ := conv_mark W1 39 5 V.heap.size #[.int .u8 113, .int .u8 49] 2 2 Tryz.underlying39 Tryz.underlying5 HLit1n.out
        have HXb2 := Lib.hid (grown_block hgr2 HXb1.out (Nat.ne_of_lt hxb1l))
        have HBel2 := Lib.hid (below_on HBel1.out hgr2 HBel1.out.size hW1l)
        have HR2 : Hid (IsBytes W2 (some ⟨V.heap.size, 0, none⟩) [113, 49]) := lit_bytes hlit2
        clear hlit2 hgr2
        go_simp
        clear hrun
        refine hK.out _ _ (⟨heap_cell HXb2.out 0, heap_cell HXb2.out 1⟩) (fun hHeld2 => ?_)
        clear hK K hHeld
        have hHeld := hHeld2
        clear hHeld2
        try simp only [Act.put, List.setIfInBounds_toArray, List.set_cons_zero, List.set_cons_succ]
        refine only_at 4 16 (by kernel_rfl) rfl rfl (by rfl) (fun K hK => ?_)
        go_simp
        have hk3_0 := cell_alloc_of (.cells #[.string cl] 9) (heap_cell HXb2.out 0)
        have hk3_1 := cell_alloc_of (.cells #[.string cl] 9) (heap_cell HXb2.out 1)
        refine hK.out _ _ (⟨hk3_0, hk3_1⟩) (fun hHeld2 => ?_)
        clear hK K hHeld
        have hHeld := hHeld2
        clear hHeld2
        try simp only [Act.put, List.setIfInBounds_toArray, List.set_cons_zero, List.set_cons_succ]
        clear hk3_0 hk3_1
        obtain ⟨W3, hW3⟩ : ∃ w9, w9 = (W2.alloc (.cells #[.string cl] 9)) := ⟨_, rfl⟩
        have hbl3 : Below W2.heap.size W2 W3 := by rw [hW3]; exact (Below.refl _ _).alloc (Nat.le_refl _) _
        have hlt3 : W2.heap.size < W3.heap.size := by rw [hW3, alloc_size]; omega
        have HTa3n : Hid (IsStrs W3 (some ⟨W2.heap.size, 0, none⟩) [cl]) := (by rw [hW3]; exact strs_new W2 [cl] : IsStrs W3 (some ⟨W2.heap.size, 0, none⟩) [cl])
        have HBel3 := Lib.hid (HBel2.out.trans (hbl3.mono HBel2.out.size))
        have HR3 := Lib.hid (HR2.out.below hbl3)
        have HXb3 := Lib.hid ((hbl3.block _ (heap_lt HXb2.out)).trans HXb2.out)
        rw [← hW3] at hHeld ⊢
        clear hW3 hbl3
        refine only_at 5 17 (by kernel_rfl) rfl rfl (by rfl) (fun K hK => ?_)
        go_simp
        refine (rtexts_any (some ⟨V.heap.size, 0, none⟩) 2 ([113, 49] : List UInt8) (some ⟨W2.heap.size, 0, none⟩) 1 [cl] W3 (by rw [body1]; omega) (by show 0 < 1; omega) (by show 1 ≤ 1000000; omega) HR3.out HTa3n.out).mono ?_
        rintro ee W4 ⟨v4, rfl, h4, hb4⟩
        rw [body1] at h4
        obtain ⟨lc4, hlc⟩ : ∃ lc9, lc9 = ([113, 49] : List UInt8) ++ txt cl := ⟨_, rfl⟩
        rw [← hlc] at h4
        have hn4 : lc4.length ≤ ([113, 49] : List UInt8).length + (txt cl).length := by rw [hlc, List.length_append]; exact Nat.le_refl _
        have HLc4 := Lib.hid hlc
        clear hlc
        obtain ⟨a4, m4, c4, rfl⟩ := row_slice h4
        have hm4 := row_len' h4
        subst hm4
        have HBel4 := Lib.hid (HBel3.out.trans (hb4.mono HBel3.out.size))
        have HO4 : Hid (Own5 W.heap.size W4 (.slice a4 lc4.length c4) lc4) := row_lower h4 HBel3.out.size
        have HXb4 := Lib.hid ((hb4.block _ (heap_lt HXb3.out)).trans HXb3.out)
        clear h4 hb4
        go_wp2_with fail
        refine hK.out _ _ (⟨heap_cell HXb4.out 0, heap_cell HXb4.out 1⟩) (fun hHeld2 => ?_)
        clear hK K hHeld
        have hHeld := hHeld2
        clear hHeld2
        try simp only [Act.put, List.setIfInBounds_toArray, List.set_cons_zero, List.set_cons_succ]
        refine only_at 8 20 (by kernel_rfl) rfl rfl (by rfl) (fun K hK => ?_)
        go_simp
        refine (refput_any a4 c4 lc4 id W4 (by show (lc4).length ≤ 1000000000; first | (show 2 ≤ 1000000000; omega) | omega) hid (row_bytes' HO4.out)).mono ?_
        rintro ee W5 ⟨v5, rfl, h5, hb5⟩
        obtain ⟨lc5, hlc⟩ : ∃ lc9, lc9 = lc4 ++ uv id := ⟨_, rfl⟩
        rw [← hlc] at h5
        have hn5 : lc5.length ≤ lc4.length + (uv id).length := by rw [hlc, List.length_append]; exact Nat.le_refl _
        have HLc5 := Lib.hid hlc
        clear hlc
        obtain ⟨a5, m5, c5, rfl⟩ := row_slice h5
        have hm5 := row_len' h5
        subst hm5
        have HBel5 := Lib.hid (HBel4.out.trans (hb5.mono HBel4.out.size))
        have HO5 : Hid (Own5 W.heap.size W5 (.slice a5 lc5.length c5) lc5) := row_lower h5 HBel4.out.size
        have HXb5 := Lib.hid ((hb5.block _ (heap_lt HXb4.out)).trans HXb4.out)
        clear h5 hb5
        go_wp2_with fail
        refine hK.out _ _ (⟨heap_cell HXb5.out 0, heap_cell HXb5.out 1⟩) (fun hHeld2 => ?_)
        clear hK K hHeld
        have hHeld := hHeld2
        clear hHeld2
        try simp only [Act.put, List.setIfInBounds_toArray, List.set_cons_zero, List.set_cons_succ]
        refine take_at 9 3 (v := ?_) rfl rfl (by kernel_rfl) (by kernel_rfl) (by kernel_rfl) (fun _ _ _ h => h) (Or.inl ⟨by rfl, ?_⟩) hHeld ?_
        rotate_left
        · (intro w hSw; (try dsimp only at hSw); go_simp; try with_reducible rfl)
        try simp only [List.setIfInBounds_toArray, List.set_cons_zero, List.set_cons_succ]
        refine wpAnyH_done (by kernel_rfl) ?_ _
        try refine NoPanic.normal ?_
        go_wp2_with fail
        go_meet
        case rel =>
          refine ⟨a5, c5, lc5, rfl, ?_, ?_, HO5.out, HBel5.out, HXb5.out⟩
          · have h2l : ([113, 49] : List UInt8).length = 2 := rfl
            omega
          · show _ = _
            rw [HLc5.out, HLc4.out]
            simp only [List.append_assoc]
      · go_simp
        have hk2_0 := cell_alloc_of (.cells #[.string cl] 9) (heap_cell HXb1.out 0)
        have hk2_1 := cell_alloc_of (.cells #[.string cl] 9) (heap_cell HXb1.out 1)
        refine hK.out _ _ (⟨hk2_0, hk2_1⟩) (fun hHeld2 => ?_)
        clear hK K hHeld
        have hHeld := hHeld2
        clear hHeld2
        try simp only [Act.put, List.setIfInBounds_toArray, List.set_cons_zero, List.set_cons_succ]
        clear hk2_0 hk2_1
        obtain ⟨W2, hW2⟩ : ∃ w9, w9 = (W1.alloc (.cells #[.string cl] 9)) := ⟨_, rfl⟩
        have hbl2 : Below W1.heap.size W1 W2 := by rw [hW2]; exact (Below.refl _ _).alloc (Nat.le_refl _) _
        have hlt2 : W1.heap.size < W2.heap.size := by rw [hW2, alloc_size]; omega
        have HTa2n : Hid (IsStrs W2 (some ⟨W1.heap.size, 0, none⟩) [cl]) := (by rw [hW2]; exact strs_new W1 [cl] : IsStrs W2 (some ⟨W1.heap.size, 0, none⟩) [cl])
        have HBel2 := Lib.hid (HBel1.out.trans (hbl2.mono HBel1.out.size))
        have HXb2 := Lib.hid ((hbl2.block _ (heap_lt HXb1.out)).trans HXb1.out)
        have HLit2 := Lib.hid ((hbl2.block _ (heap_lt HLit1n.out)).trans HLit1n.out)
        rw [← hW2] at hHeld ⊢
        clear hW2 hbl2
        refine only_at 1 13 (by kernel_rfl) rfl rfl (by rfl) (fun K hK => ?_)
        go_simp
        obtain ⟨W3, hrun, hgr3, hlit3⟩ := conv_mark W2 39 5 V.heap.size #[.int .u8 113, .int .u8 49] 2 2 Tryz.underlying39 Tryz.underlying5 HLit2.out
        have HXb3 := Lib.hid (grown_block hgr3 HXb2.out (Nat.ne_of_lt hxb1l))
        have HBel3 := Lib.hid (below_on HBel2.out hgr3 HBel2.out.size hW1l)
        have HR3 : Hid (IsBytes W3 (some ⟨V.heap.size, 0, none⟩) [113, 49]) := lit_bytes hlit3
        have HTa3 := Lib.hid (strs_grown HTa2n.out hgr3 (by omega))
        clear hlit3 hgr3
        go_simp
        clear hrun
        refine hK.out _ _ (⟨heap_cell HXb3.out 0, heap_cell HXb3.out 1⟩) (fun hHeld2 => ?_)
        clear hK K hHeld
        have hHeld := hHeld2
        clear hHeld2
        try simp only [Act.put, List.setIfInBounds_toArray, List.set_cons_zero, List.set_cons_succ]
        refine only_at 5 17 (by kernel_rfl) rfl rfl (by rfl) (fun K hK => ?_)
        go_simp
        refine (rtexts_any (some ⟨V.heap.size, 0, none⟩) 2 ([113, 49] : List UInt8) (some ⟨W1.heap.size, 0, none⟩) 1 [cl] W3 (by rw [body1]; omega) (by show 0 < 1; omega) (by show 1 ≤ 1000000; omega) HR3.out HTa3.out).mono ?_
        rintro ee W4 ⟨v4, rfl, h4, hb4⟩
        rw [body1] at h4
        obtain ⟨lc4, hlc⟩ : ∃ lc9, lc9 = ([113, 49] : List UInt8) ++ txt cl := ⟨_, rfl⟩
        rw [← hlc] at h4
        have hn4 : lc4.length ≤ ([113, 49] : List UInt8).length + (txt cl).length := by rw [hlc, List.length_append]; exact Nat.le_refl _
        have HLc4 := Lib.hid hlc
        clear hlc
        obtain ⟨a4, m4, c4, rfl⟩ := row_slice h4
        have hm4 := row_len' h4
        subst hm4
        have HBel4 := Lib.hid (HBel3.out.trans (hb4.mono HBel3.out.size))
        have HO4 : Hid (Own5 W.heap.size W4 (.slice a4 lc4.length c4) lc4) := row_lower h4 HBel3.out.size
        have HXb4 := Lib.hid ((hb4.block _ (heap_lt HXb3.out)).trans HXb3.out)
        clear h4 hb4
        go_wp2_with fail
        refine hK.out _ _ (⟨heap_cell HXb4.out 0, heap_cell HXb4.out 1⟩) (fun hHeld2 => ?_)
        clear hK K hHeld
        have hHeld := hHeld2
        clear hHeld2
        try simp only [Act.put, List.setIfInBounds_toArray, List.set_cons_zero, List.set_cons_succ]
        refine only_at 8 20 (by kernel_rfl) rfl rfl (by rfl) (fun K hK => ?_)
        go_simp
        refine (refput_any a4 c4 lc4 id W4 (by show (lc4).length ≤ 1000000000; first | (show 2 ≤ 1000000000; omega) | omega) hid (row_bytes' HO4.out)).mono ?_
        rintro ee W5 ⟨v5, rfl, h5, hb5⟩
        obtain ⟨lc5, hlc⟩ : ∃ lc9, lc9 = lc4 ++ uv id := ⟨_, rfl⟩
        rw [← hlc] at h5
        have hn5 : lc5.length ≤ lc4.length + (uv id).length := by rw [hlc, List.length_append]; exact Nat.le_refl _
        have HLc5 := Lib.hid hlc
        clear hlc
        obtain ⟨a5, m5, c5, rfl⟩ := row_slice h5
        have hm5 := row_len' h5
        subst hm5
        have HBel5 := Lib.hid (HBel4.out.trans (hb5.mono HBel4.out.size))
        have HO5 : Hid (Own5 W.heap.size W5 (.slice a5 lc5.length c5) lc5) := row_lower h5 HBel4.out.size
        have HXb5 := Lib.hid ((hb5.block _ (heap_lt HXb4.out)).trans HXb4.out)
        clear h5 hb5
        go_wp2_with fail
        refine hK.out _ _ (⟨heap_cell HXb5.out 0, heap_cell HXb5.out 1⟩) (fun hHeld2 => ?_)
        clear hK K hHeld
        have hHeld := hHeld2
        clear hHeld2
        try simp only [Act.put, List.setIfInBounds_toArray, List.set_cons_zero, List.set_cons_succ]
        refine take_at 9 3 (v := ?_) rfl rfl (by kernel_rfl) (by kernel_rfl) (by kernel_rfl) (fun _ _ _ h => h) (Or.inl ⟨by rfl, ?_⟩) hHeld ?_
        rotate_left
        · (intro w hSw; (try dsimp only at hSw); go_simp; try with_reducible rfl)
        try simp only [List.setIfInBounds_toArray, List.set_cons_zero, List.set_cons_succ]
        refine wpAnyH_done (by kernel_rfl) ?_ _
        try refine NoPanic.normal ?_
        go_wp2_with fail
        go_meet
        case rel =>
          refine ⟨a5, c5, lc5, rfl, ?_, ?_, HO5.out, HBel5.out, HXb5.out⟩
          · have h2l : ([113, 49] : List UInt8).length = 2 := rfl
            omega
          · show _ = _
            rw [HLc5.out, HLc4.out]
            simp only [List.append_assoc]
    · go_simp
      have hk1_0 := cell_alloc_of (.cells #[.string cl] 9) (heap_cell HXV.out 0)
      have hk1_1 := cell_alloc_of (.cells #[.string cl] 9) (heap_cell HXV.out 1)
      refine hK.out _ _ (⟨hk1_0, hk1_1⟩) (fun hHeld2 => ?_)
      clear hK K hHeld
      have hHeld := hHeld2
      clear hHeld2
      try simp only [Act.put, List.setIfInBounds_toArray, List.set_cons_zero, List.set_cons_succ]
      clear hk1_0 hk1_1
      obtain ⟨W1, hW1⟩ : ∃ w9, w9 = (V.alloc (.cells #[.string cl] 9)) := ⟨_, rfl⟩
      have hbl1 : Below V.heap.size V W1 := by rw [hW1]; exact (Below.refl _ _).alloc (Nat.le_refl _) _
      have hlt1 : V.heap.size < W1.heap.size := by rw [hW1, alloc_size]; omega
      have HTa1n : Hid (IsStrs W1 (some ⟨V.heap.size, 0, none⟩) [cl]) := (by rw [hW1]; exact strs_new V [cl] : IsStrs W1 (some ⟨V.heap.size, 0, none⟩) [cl])
      have HBel1 := Lib.hid (HBelV.out.trans (hbl1.mono HBelV.out.size))
      have HXb1 := Lib.hid ((hbl1.block _ (heap_lt HXV.out)).trans HXV.out)
      rw [← hW1] at hHeld ⊢
      clear hW1 hbl1
      refine only_at 0 12 (by kernel_rfl) rfl rfl (by rfl) (fun K hK => ?_)
      go_simp
      have hk2_0 := cell_alloc_of (.cells #[.int .u8 113, .int .u8 49] 5) (heap_cell HXb1.out 0)
      have hk2_1 := cell_alloc_of (.cells #[.int .u8 113, .int .u8 49] 5) (heap_cell HXb1.out 1)
      refine hK.out _ _ (⟨hk2_0, hk2_1⟩) (fun hHeld2 => ?_)
      clear hK K hHeld
      have hHeld := hHeld2
      clear hHeld2
      try simp only [Act.put, List.setIfInBounds_toArray, List.set_cons_zero, List.set_cons_succ]
      have hW2l : W.heap.size ≤ W1.heap.size := HBel1.out.size
      have hxb2l := heap_lt HXb1.out
      clear hk2_0 hk2_1
      obtain ⟨W2, hW2⟩ : ∃ w9, w9 = (W1.alloc (.cells #[.int .u8 113, .int .u8 49] 5)) := ⟨_, rfl⟩
      have hbl2 : Below W1.heap.size W1 W2 := by rw [hW2]; exact (Below.refl _ _).alloc (Nat.le_refl _) _
      have hlt2 : W1.heap.size < W2.heap.size := by rw [hW2, alloc_size]; omega
      have HLit2n : Hid (W2.heap[W1.heap.size]? = some (.cells #[.int .u8 113, .int .u8 49] 5 (0, 0))) := (by rw [hW2]; exact heap_alloc_new W1 _ : W2.heap[W1.heap.size]? = some (.cells #[.int .u8 113, .int .u8 49] 5 (0, 0)))
      have HBel2 := Lib.hid (HBel1.out.trans (hbl2.mono HBel1.out.size))
      have HXb2 := Lib.hid ((hbl2.block _ (heap_lt HXb1.out)).trans HXb1.out)
      have HTa2 := Lib.hid (HTa1n.out.below hbl2)
      rw [← hW2] at hHeld ⊢
      clear hW2 hbl2
      refine only_at 1 13 (by kernel_rfl) rfl rfl (by rfl) (fun K hK => ?_)
      go_simp
      obtain ⟨W3, hrun, hgr3, hlit3⟩ := conv_mark W2 39 5 W1.heap.size #[.int .u8 113, .int .u8 49] 2 2 Tryz.underlying39 Tryz.underlying5 HLit2n.out
      have HXb3 := Lib.hid (grown_block hgr3 HXb2.out (Nat.ne_of_lt hxb2l))
      have HBel3 := Lib.hid (below_on HBel2.out hgr3 HBel2.out.size hW2l)
      have HR3 : Hid (IsBytes W3 (some ⟨W1.heap.size, 0, none⟩) [113, 49]) := lit_bytes hlit3
      have HTa3 := Lib.hid (strs_grown HTa2.out hgr3 (by omega))
      clear hlit3 hgr3
      go_simp
      clear hrun
      refine hK.out _ _ (⟨heap_cell HXb3.out 0, heap_cell HXb3.out 1⟩) (fun hHeld2 => ?_)
      clear hK K hHeld
      have hHeld := hHeld2
      clear hHeld2
      try simp only [Act.put, List.setIfInBounds_toArray, List.set_cons_zero, List.set_cons_succ]
      refine only_at 5 17 (by kernel_rfl) rfl rfl (by rfl) (fun K hK => ?_)
      go_simp
      refine (rtexts_any (some ⟨W1.heap.size, 0, none⟩) 2 ([113, 49] : List UInt8) (some ⟨V.heap.size, 0, none⟩) 1 [cl] W3 (by rw [body1]; omega) (by show 0 < 1; omega) (by show 1 ≤ 1000000; omega) HR3.out HTa3.out).mono ?_
      rintro ee W4 ⟨v4, rfl, h4, hb4⟩
      rw [body1] at h4
      obtain ⟨lc4, hlc⟩ : ∃ lc9, lc9 = ([113, 49] : List UInt8) ++ txt cl := ⟨_, rfl⟩
      rw [← hlc] at h4
      have hn4 : lc4.length ≤ ([113, 49] : List UInt8).length + (txt cl).length := by rw [hlc, List.length_append]; exact Nat.le_refl _
      have HLc4 := Lib.hid hlc
      clear hlc
      obtain ⟨a4, m4, c4, rfl⟩ := row_slice h4
      have hm4 := row_len' h4
      subst hm4
      have HBel4 := Lib.hid (HBel3.out.trans (hb4.mono HBel3.out.size))
      have HO4 : Hid (Own5 W.heap.size W4 (.slice a4 lc4.length c4) lc4) := row_lower h4 HBel3.out.size
      have HXb4 := Lib.hid ((hb4.block _ (heap_lt HXb3.out)).trans HXb3.out)
      clear h4 hb4
      go_wp2_with fail
      refine hK.out _ _ (⟨heap_cell HXb4.out 0, heap_cell HXb4.out 1⟩) (fun hHeld2 => ?_)
      clear hK K hHeld
      have hHeld := hHeld2
      clear hHeld2
      try simp only [Act.put, List.setIfInBounds_toArray, List.set_cons_zero, List.set_cons_succ]
      refine only_at 8 20 (by kernel_rfl) rfl rfl (by rfl) (fun K hK => ?_)
      go_simp
      refine (refput_any a4 c4 lc4 id W4 (by show (lc4).length ≤ 1000000000; first | (show 2 ≤ 1000000000; omega) | omega) hid (row_bytes' HO4.out)).mono ?_
      rintro ee W5 ⟨v5, rfl, h5, hb5⟩
      obtain ⟨lc5, hlc⟩ : ∃ lc9, lc9 = lc4 ++ uv id := ⟨_, rfl⟩
      rw [← hlc] at h5
      have hn5 : lc5.length ≤ lc4.length + (uv id).length := by rw [hlc, List.length_append]; exact Nat.le_refl _
      have HLc5 := Lib.hid hlc
      clear hlc
      obtain ⟨a5, m5, c5, rfl⟩ := row_slice h5
      have hm5 := row_len' h5
      subst hm5
      have HBel5 := Lib.hid (HBel4.out.trans (hb5.mono HBel4.out.size))
      have HO5 : Hid (Own5 W.heap.size W5 (.slice a5 lc5.length c5) lc5) := row_lower h5 HBel4.out.size
      have HXb5 := Lib.hid ((hb5.block _ (heap_lt HXb4.out)).trans HXb4.out)
      clear h5 hb5
      go_wp2_with fail
      refine hK.out _ _ (⟨heap_cell HXb5.out 0, heap_cell HXb5.out 1⟩) (fun hHeld2 => ?_)
      clear hK K hHeld
      have hHeld := hHeld2
      clear hHeld2
      try simp only [Act.put, List.setIfInBounds_toArray, List.set_cons_zero, List.set_cons_succ]
      refine take_at 9 3 (v := ?_) rfl rfl (by kernel_rfl) (by kernel_rfl) (by kernel_rfl) (fun _ _ _ h => h) (Or.inl ⟨by rfl, ?_⟩) hHeld ?_
      rotate_left
      · (intro w hSw; (try dsimp only at hSw); go_simp; try with_reducible rfl)
      try simp only [List.setIfInBounds_toArray, List.set_cons_zero, List.set_cons_succ]
      refine wpAnyH_done (by kernel_rfl) ?_ _
      try refine NoPanic.normal ?_
      go_wp2_with fail
      go_meet
      case rel =>
        refine ⟨a5, c5, lc5, rfl, ?_, ?_, HO5.out, HBel5.out, HXb5.out⟩
        · have h2l : ([113, 49] : List UInt8).length = 2 := rfl
          omega
        · show _ = _
          rw [HLc5.out, HLc4.out]
          simp only [List.append_assoc]
  case rest =>
    obtain ⟨oa, oc, lc, rfl, hlc, hlceq, hown, hbel, hbox⟩ := hcut
    have HLC := hlceq
    have HO0 := Lib.hid hown
    have HB0 := Lib.hid hbel
    have HX0 := Lib.hid hbox
    clear hV hS0 HXV HBelV hown hbel hbox hlceq
    obtain ⟨W201, hV201⟩ : ∃ V9, V9 = wc.drew := ⟨_, rfl⟩
    have HBel201 : Hid (Below W.heap.size W W201) := (by rw [hV201]; exact HB0.out.drew : Below W.heap.size W W201)
    have HO201 : Hid (Own5 W.heap.size W201 (.slice oa lc.length oc) lc) := (by rw [hV201]; exact HO0.out : Own5 W.heap.size W201 (.slice oa lc.length oc) lc)
    have HXb201 : Hid (W201.heap[x]? = some (.cells #[.string cl, .int .u64 (id : Int), .int .i64 kd, .int .i64 hw, .string tk, .int .u64 (n : Int), .string ty, .string f1, .string f2, .string f3, .slice wa ws.length wq, .slice pa ps.length pc, .slice aa ks.length ac, .slice ga gs.length gc] 54 (0, 0))) := (by rw [hV201]; exact HX0.out : W201.heap[x]? = some (.cells #[.string cl, .int .u64 (id : Int), .int .i64 kd, .int .i64 hw, .string tk, .int .u64 (n : Int), .string ty, .string f1, .string f2, .string f3, .slice wa ws.length wq, .slice pa ps.length pc, .slice aa ks.length ac, .slice ga gs.length gc] 54 (0, 0)))
    have hS0 : W201.cell? ⟨x, 2, none⟩ = some (.int .i64 kd) ∧ W201.cell? ⟨x, 3, none⟩ = some (.int .i64 hw) := ⟨heap_cell HXb201.out 2, heap_cell HXb201.out 3⟩
    go_wp2_with fail
    try refine wp_region_noPanic ?_
    refine wp_region_held_drew (S := fun w' => w'.cell? ⟨x, 2, none⟩ = some (.int .i64 kd) ∧ w'.cell? ⟨x, 3, none⟩ = some (.int .i64 hw)) (by kernel_rfl) (by rw [← hV201]; exact hS0) (fun hHeld => ?_)
    rw [← hV201] at hHeld ⊢
    clear hV201 hS0
    refine take_at 0 21 (v := ?_) rfl rfl (by kernel_rfl) (by kernel_rfl) (by kernel_rfl) (fun _ _ _ h => h) (Or.inl ⟨by rfl, ?_⟩) hHeld ?_
    rotate_left
    · (intro w hSw; (try dsimp only at hSw); go_simp; try with_reducible rfl)
    try simp only [List.setIfInBounds_toArray, List.set_cons_zero, List.set_cons_succ]
    refine take_at 1 22 (v := ?_) rfl rfl (by kernel_rfl) (by kernel_rfl) (by kernel_rfl) (fun _ _ _ h => h) (Or.inl ⟨by rfl, ?_⟩) hHeld ?_
    rotate_left
    · (intro w hSw; (try dsimp only at hSw); go_simp; try with_reducible rfl)
    try simp only [List.setIfInBounds_toArray, List.set_cons_zero, List.set_cons_succ]
    refine take_at 2 23 (v := ?_) rfl rfl (by kernel_rfl) (by kernel_rfl) (by kernel_rfl) (fun _ _ _ h => h) (Or.inl ⟨by rfl, ?_⟩) hHeld ?_
    rotate_left
    · (intro w hSw; (try dsimp only at hSw); go_simp; try with_reducible rfl)
    try simp only [List.setIfInBounds_toArray, List.set_cons_zero, List.set_cons_succ]
    refine take_at 4 25 (v := ?_) rfl rfl (by kernel_rfl) (by kernel_rfl) (by kernel_rfl) (fun _ _ _ h => h) (Or.inl ⟨by rfl, ?_⟩) hHeld ?_
    rotate_left
    · (intro w hSw; (try dsimp only at hSw); go_simp; try with_reducible rfl)
    try simp only [List.setIfInBounds_toArray, List.set_cons_zero, List.set_cons_succ]
    refine take_at 5 26 (v := ?_) rfl rfl (by kernel_rfl) (by kernel_rfl) (by kernel_rfl) (fun _ _ _ h => h) (Or.inl ⟨by rfl, ?_⟩) hHeld ?_
    rotate_left
    · (intro w hSw; (try dsimp only at hSw); go_simp; try with_reducible rfl)
    try simp only [List.setIfInBounds_toArray, List.set_cons_zero, List.set_cons_succ]
    refine only_at 3 24 (by kernel_rfl) rfl rfl (by rfl) (fun K hK => ?_)
    go_simp
    refine (rwhole_any oa oc lc kd W201 (by omega) HKd.out (row_bytes' HO201.out)).mono ?_
    rintro ee W202 ⟨v202, rfl, h202, hb202⟩
    obtain ⟨lc202, hlc⟩ : ∃ lc9, lc9 = lc ++ intE kd := ⟨_, rfl⟩
    rw [← hlc] at h202
    have hn202 : lc202.length ≤ lc.length + (intE kd).length := by rw [hlc, List.length_append]; exact Nat.le_refl _
    have HLc202 := Lib.hid hlc
    clear hlc
    obtain ⟨a202, m202, c202, rfl⟩ := row_slice h202
    have hm202 := row_len' h202
    subst hm202
    have HBel202 := Lib.hid (HBel201.out.trans (hb202.mono HBel201.out.size))
    have HO202 : Hid (Own5 W.heap.size W202 (.slice a202 lc202.length c202) lc202) := row_lower h202 HBel201.out.size
    have HXb202 := Lib.hid ((hb202.block _ (heap_lt HXb201.out)).trans HXb201.out)
    clear h202 hb202
    go_wp2_with fail
    refine hK.out _ _ (⟨heap_cell HXb202.out 2, heap_cell HXb202.out 3⟩) (fun hHeld2 => ?_)
    clear hK K hHeld
    have hHeld := hHeld2
    clear hHeld2
    try simp only [Act.put, List.setIfInBounds_toArray, List.set_cons_zero, List.set_cons_succ]
    refine only_at 6 27 (by kernel_rfl) rfl rfl (by rfl) (fun K hK => ?_)
    go_simp
    refine (rwhole_any a202 c202 lc202 hw W202 (by omega) HHw.out (row_bytes' HO202.out)).mono ?_
    rintro ee W203 ⟨v203, rfl, h203, hb203⟩
    obtain ⟨lc203, hlc⟩ : ∃ lc9, lc9 = lc202 ++ intE hw := ⟨_, rfl⟩
    rw [← hlc] at h203
    have hn203 : lc203.length ≤ lc202.length + (intE hw).length := by rw [hlc, List.length_append]; exact Nat.le_refl _
    have HLc203 := Lib.hid hlc
    clear hlc
    obtain ⟨a203, m203, c203, rfl⟩ := row_slice h203
    have hm203 := row_len' h203
    subst hm203
    have HBel203 := Lib.hid (HBel202.out.trans (hb203.mono HBel202.out.size))
    have HO203 : Hid (Own5 W.heap.size W203 (.slice a203 lc203.length c203) lc203) := row_lower h203 HBel202.out.size
    have HXb203 := Lib.hid ((hb203.block _ (heap_lt HXb202.out)).trans HXb202.out)
    clear h203 hb203
    go_wp2_with fail
    refine hK.out _ _ (⟨heap_cell HXb203.out 2, heap_cell HXb203.out 3⟩) (fun hHeld2 => ?_)
    clear hK K hHeld
    have hHeld := hHeld2
    clear hHeld2
    try simp only [Act.put, List.setIfInBounds_toArray, List.set_cons_zero, List.set_cons_succ]
    refine take_at 7 3 (v := ?_) rfl rfl (by kernel_rfl) (by kernel_rfl) (by kernel_rfl) (fun _ _ _ h => h) (Or.inl ⟨by rfl, ?_⟩) hHeld ?_
    rotate_left
    · (intro w hSw; (try dsimp only at hSw); go_simp; try with_reducible rfl)
    try simp only [List.setIfInBounds_toArray, List.set_cons_zero, List.set_cons_succ]
    refine wpAnyH_done (by kernel_rfl) ?_ _
    try refine NoPanic.normal ?_
    obtain ⟨W204, hV204⟩ : ∃ V9, V9 = W203.drew := ⟨_, rfl⟩
    have HBel204 : Hid (Below W.heap.size W W204) := (by rw [hV204]; exact HBel203.out.drew : Below W.heap.size W W204)
    have HO204 : Hid (Own5 W.heap.size W204 (.slice a203 lc203.length c203) lc203) := (by rw [hV204]; exact HO203.out : Own5 W.heap.size W204 (.slice a203 lc203.length c203) lc203)
    have HXb204 : Hid (W204.heap[x]? = some (.cells #[.string cl, .int .u64 (id : Int), .int .i64 kd, .int .i64 hw, .string tk, .int .u64 (n : Int), .string ty, .string f1, .string f2, .string f3, .slice wa ws.length wq, .slice pa ps.length pc, .slice aa ks.length ac, .slice ga gs.length gc] 54 (0, 0))) := (by rw [hV204]; exact HXb203.out : W204.heap[x]? = some (.cells #[.string cl, .int .u64 (id : Int), .int .i64 kd, .int .i64 hw, .string tk, .int .u64 (n : Int), .string ty, .string f1, .string f2, .string f3, .slice wa ws.length wq, .slice pa ps.length pc, .slice aa ks.length ac, .slice ga gs.length gc] 54 (0, 0)))
    have hS0 : W204.cell? ⟨x, 4, none⟩ = some (.string tk) ∧ W204.cell? ⟨x, 5, none⟩ = some (.int .u64 (n : Int)) := ⟨heap_cell HXb204.out 4, heap_cell HXb204.out 5⟩
    go_wp2_with fail
    try refine wp_region_noPanic ?_
    refine wp_region_held_drew (S := fun w' => w'.cell? ⟨x, 4, none⟩ = some (.string tk) ∧ w'.cell? ⟨x, 5, none⟩ = some (.int .u64 (n : Int))) (by kernel_rfl) (by rw [← hV204]; exact hS0) (fun hHeld => ?_)
    rw [← hV204] at hHeld ⊢
    clear hV204 hS0
    refine take_at 0 28 (v := ?_) rfl rfl (by kernel_rfl) (by kernel_rfl) (by kernel_rfl) (fun _ _ _ h => h) (Or.inl ⟨by rfl, ?_⟩) hHeld ?_
    rotate_left
    · (intro w hSw; (try dsimp only at hSw); go_simp; try with_reducible rfl)
    try simp only [List.setIfInBounds_toArray, List.set_cons_zero, List.set_cons_succ]
    refine take_at 1 29 (v := ?_) rfl rfl (by kernel_rfl) (by kernel_rfl) (by kernel_rfl) (fun _ _ _ h => h) (Or.inl ⟨by rfl, ?_⟩) hHeld ?_
    rotate_left
    · (intro w hSw; (try dsimp only at hSw); go_simp; try with_reducible rfl)
    try simp only [List.setIfInBounds_toArray, List.set_cons_zero, List.set_cons_succ]
    refine take_at 2 30 (v := ?_) rfl rfl (by kernel_rfl) (by kernel_rfl) (by kernel_rfl) (fun _ _ _ h => h) (Or.inl ⟨by rfl, ?_⟩) hHeld ?_
    rotate_left
    · (intro w hSw; (try dsimp only at hSw); go_simp; try with_reducible rfl)
    try simp only [List.setIfInBounds_toArray, List.set_cons_zero, List.set_cons_succ]
    refine take_at 5 33 (v := ?_) rfl rfl (by kernel_rfl) (by kernel_rfl) (by kernel_rfl) (fun _ _ _ h => h) (Or.inl ⟨by rfl, ?_⟩) hHeld ?_
    rotate_left
    · (intro w hSw; (try dsimp only at hSw); go_simp; try with_reducible rfl)
    try simp only [List.setIfInBounds_toArray, List.set_cons_zero, List.set_cons_succ]
    refine take_at 6 34 (v := ?_) rfl rfl (by kernel_rfl) (by kernel_rfl) (by kernel_rfl) (fun _ _ _ h => h) (Or.inl ⟨by rfl, ?_⟩) hHeld ?_
    rotate_left
    · (intro w hSw; (try dsimp only at hSw); go_simp; try with_reducible rfl)
    try simp only [List.setIfInBounds_toArray, List.set_cons_zero, List.set_cons_succ]
    refine only_at 3 31 (by kernel_rfl) rfl rfl (by rfl) (fun K hK => ?_)
    go_simp
    have hk205_4 := cell_alloc_of (.cells #[.string tk] 9) (heap_cell HXb204.out 4)
    have hk205_5 := cell_alloc_of (.cells #[.string tk] 9) (heap_cell HXb204.out 5)
    refine hK.out _ _ (⟨hk205_4, hk205_5⟩) (fun hHeld2 => ?_)
    clear hK K hHeld
    have hHeld := hHeld2
    clear hHeld2
    try simp only [Act.put, List.setIfInBounds_toArray, List.set_cons_zero, List.set_cons_succ]
    clear hk205_4 hk205_5
    obtain ⟨W205, hW205⟩ : ∃ w9, w9 = (W204.alloc (.cells #[.string tk] 9)) := ⟨_, rfl⟩
    have hbl205 : Below W204.heap.size W204 W205 := by rw [hW205]; exact (Below.refl _ _).alloc (Nat.le_refl _) _
    have hlt205 : W204.heap.size < W205.heap.size := by rw [hW205, alloc_size]; omega
    have HTa205n : Hid (IsStrs W205 (some ⟨W204.heap.size, 0, none⟩) [tk]) := (by rw [hW205]; exact strs_new W204 [tk] : IsStrs W205 (some ⟨W204.heap.size, 0, none⟩) [tk])
    have HBel205 := Lib.hid (HBel204.out.trans (hbl205.mono HBel204.out.size))
    have HO205 : Hid (Own5 W.heap.size W205 (.slice a203 lc203.length c203) lc203) := Below.row hbl205 HO204.out
    have HXb205 := Lib.hid ((hbl205.block _ (heap_lt HXb204.out)).trans HXb204.out)
    rw [← hW205] at hHeld ⊢
    clear hW205 hbl205
    refine only_at 4 32 (by kernel_rfl) rfl rfl (by rfl) (fun K hK => ?_)
    go_simp
    refine (rtexts_any a203 c203 lc203 (some ⟨W204.heap.size, 0, none⟩) 1 [tk] W205 (by rw [body1]; omega) (by show 0 < 1; omega) (by show 1 ≤ 1000000; omega) (row_bytes' HO205.out) HTa205n.out).mono ?_
    rintro ee W206 ⟨v206, rfl, h206, hb206⟩
    rw [body1] at h206
    obtain ⟨lc206, hlc⟩ : ∃ lc9, lc9 = lc203 ++ txt tk := ⟨_, rfl⟩
    rw [← hlc] at h206
    have hn206 : lc206.length ≤ lc203.length + (txt tk).length := by rw [hlc, List.length_append]; exact Nat.le_refl _
    have HLc206 := Lib.hid hlc
    clear hlc
    obtain ⟨a206, m206, c206, rfl⟩ := row_slice h206
    have hm206 := row_len' h206
    subst hm206
    have HBel206 := Lib.hid (HBel205.out.trans (hb206.mono HBel205.out.size))
    have HO206 : Hid (Own5 W.heap.size W206 (.slice a206 lc206.length c206) lc206) := row_lower h206 HBel205.out.size
    have HXb206 := Lib.hid ((hb206.block _ (heap_lt HXb205.out)).trans HXb205.out)
    clear h206 hb206
    go_wp2_with fail
    refine hK.out _ _ (⟨heap_cell HXb206.out 4, heap_cell HXb206.out 5⟩) (fun hHeld2 => ?_)
    clear hK K hHeld
    have hHeld := hHeld2
    clear hHeld2
    try simp only [Act.put, List.setIfInBounds_toArray, List.set_cons_zero, List.set_cons_succ]
    refine only_at 7 35 (by kernel_rfl) rfl rfl (by rfl) (fun K hK => ?_)
    go_simp
    refine (refput_any a206 c206 lc206 n W206 (by omega) hn (row_bytes' HO206.out)).mono ?_
    rintro ee W207 ⟨v207, rfl, h207, hb207⟩
    obtain ⟨lc207, hlc⟩ : ∃ lc9, lc9 = lc206 ++ uv n := ⟨_, rfl⟩
    rw [← hlc] at h207
    have hn207 : lc207.length ≤ lc206.length + (uv n).length := by rw [hlc, List.length_append]; exact Nat.le_refl _
    have HLc207 := Lib.hid hlc
    clear hlc
    obtain ⟨a207, m207, c207, rfl⟩ := row_slice h207
    have hm207 := row_len' h207
    subst hm207
    have HBel207 := Lib.hid (HBel206.out.trans (hb207.mono HBel206.out.size))
    have HO207 : Hid (Own5 W.heap.size W207 (.slice a207 lc207.length c207) lc207) := row_lower h207 HBel206.out.size
    have HXb207 := Lib.hid ((hb207.block _ (heap_lt HXb206.out)).trans HXb206.out)
    clear h207 hb207
    go_wp2_with fail
    refine hK.out _ _ (⟨heap_cell HXb207.out 4, heap_cell HXb207.out 5⟩) (fun hHeld2 => ?_)
    clear hK K hHeld
    have hHeld := hHeld2
    clear hHeld2
    try simp only [Act.put, List.setIfInBounds_toArray, List.set_cons_zero, List.set_cons_succ]
    refine take_at 8 3 (v := ?_) rfl rfl (by kernel_rfl) (by kernel_rfl) (by kernel_rfl) (fun _ _ _ h => h) (Or.inl ⟨by rfl, ?_⟩) hHeld ?_
    rotate_left
    · (intro w hSw; (try dsimp only at hSw); go_simp; try with_reducible rfl)
    try simp only [List.setIfInBounds_toArray, List.set_cons_zero, List.set_cons_succ]
    refine wpAnyH_done (by kernel_rfl) ?_ _
    try refine NoPanic.normal ?_
    have hba := (Below.refl W207.heap.size W207).alloc (Nat.le_refl _) (.cells #[.string ty, .string f1, .string f2, .string f3] 9)
    have HTz : Hid (IsStrs (W207.alloc (.cells #[.string ty, .string f1, .string f2, .string f3] 9)) (some ⟨W207.heap.size, 0, none⟩) [ty, f1, f2, f3]) := strs_new W207 [ty, f1, f2, f3]
    have HBz := Lib.hid (HBel207.out.trans (hba.mono HBel207.out.size))
    have HXz := Lib.hid ((hba.block _ (heap_lt HXb207.out)).trans HXb207.out)
    have HRz := Lib.hid ((row_bytes' HO207.out).below hba)
    clear hba
    have hb4 : (txt ty ++ triE (f1, f2, f3)).length = (txt ty).length + (triE (f1, f2, f3)).length := List.length_append
    have qz6 := heap_cell HXb207.out 6
    have qz7 := heap_cell HXb207.out 7
    have qz8 := heap_cell HXb207.out 8
    have qz9 := heap_cell HXb207.out 9
    simp at qz6 qz7 qz8 qz9
    have HC := Lib.hid (rtexts_any a207 c207 lc207 (some ⟨W207.heap.size, 0, none⟩) 4 [ty, f1, f2, f3] _ (by rw [body4]; omega) (by show 0 < 4; omega) (by show 4 ≤ 1000000; omega) HRz.out HTz.out)
    go_wp2_with fail
    refine HC.out.mono ?_
    clear HC
    rintro ee W208 ⟨v208, rfl, h208, hb208⟩
    rw [body4] at h208
    obtain ⟨lc208, hlc⟩ : ∃ lc9, lc9 = lc207 ++ (txt ty ++ triE (f1, f2, f3)) := ⟨_, rfl⟩
    rw [← hlc] at h208
    have hn208 : lc208.length ≤ lc207.length + ((txt ty ++ triE (f1, f2, f3))).length := by rw [hlc, List.length_append]; exact Nat.le_refl _
    have HLc208 := Lib.hid hlc
    clear hlc
    obtain ⟨a208, m208, c208, rfl⟩ := row_slice h208
    have hm208 := row_len' h208
    subst hm208
    have HBel208 := Lib.hid (HBz.out.trans (hb208.mono HBz.out.size))
    have HO208 : Hid (Own5 W.heap.size W208 (.slice a208 lc208.length c208) lc208) := row_lower h208 HBz.out.size
    have HXb208 := Lib.hid ((hb208.block _ (heap_lt HXz.out)).trans HXz.out)
    clear h208 hb208
    clear qz6 qz7 qz8 qz9
    have qq10 := heap_cell HXb208.out 10
    simp at qq10
    have HC := Lib.hid (rmany_any a208 c208 lc208 ws.length W208 (by omega) (by omega) (row_bytes' HO208.out))
    go_wp2_with fail
    refine HC.out.mono ?_
    clear HC qq10
    rintro ee W209 ⟨v209, rfl, h209, hb209⟩
    obtain ⟨lc209, hlc⟩ : ∃ lc9, lc9 = lc208 ++ uv ws.length := ⟨_, rfl⟩
    rw [← hlc] at h209
    have hn209 : lc209.length ≤ lc208.length + (uv ws.length).length := by rw [hlc, List.length_append]; exact Nat.le_refl _
    have HLc209 := Lib.hid hlc
    clear hlc
    obtain ⟨a209, m209, c209, rfl⟩ := row_slice h209
    have hm209 := row_len' h209
    subst hm209
    have HBel209 := Lib.hid (HBel208.out.trans (hb209.mono HBel208.out.size))
    have HO209 : Hid (Own5 W.heap.size W209 (.slice a209 lc209.length c209) lc209) := row_lower h209 HBel208.out.size
    have HXb209 := Lib.hid ((hb209.block _ (heap_lt HXb208.out)).trans HXb208.out)
    clear h209 hb209
    have qq := heap_cell HXb209.out 10
    simp at qq
    go_wp2_with fail
    go_loopw [3, 58] (fun bv iv wr => ∃ (j : Nat) (oa : Option Addr) (oc : Nat) (lj : List UInt8), bv = .slice oa lj.length oc ∧ iv = .int .i64 j ∧ j ≤ ws.length ∧ Hid (lj = lc209 ++ bodyE wrtE (ws.take j) ∧ Own5 W.heap.size wr (.slice oa lj.length oc) lj ∧ Below W.heap.size W wr ∧ wr.heap[x]? = some (.cells #[.string cl, .int .u64 (id : Int), .int .i64 kd, .int .i64 hw, .string tk, .int .u64 (n : Int), .string ty, .string f1, .string f2, .string f3, .slice wa ws.length wq, .slice pa ps.length pc, .slice aa ks.length ac, .slice ga gs.length gc] 54 (0, 0)))) (fun _ iv _ => ws.length - (intOf iv).toNat)
    case atStart => exact ⟨0, a209, c209, lc209, rfl, rfl, Nat.zero_le _, by rw [List.take_zero]; simp [bodyE], HO209.out, HBel209.out, HXb209.out⟩
    case round =>
      clear HO209 HBel209 HXb209 qq
      obtain ⟨ja, oja, cja, lja, rfl, rfl, hja, hst⟩ := hrel
      obtain ⟨hlj, hown, hbel, hbox⟩ := hst.out
      have hble := body_le wrtE ws ja
      have hlja : lja.length ≤ lc209.length + (bodyE wrtE (ws.take ja)).length := by rw [hlj, List.length_append]; exact Nat.le_refl _
      by_cases hjl : ja < ws.length
      · have dj : decide ((ja : Int) < (ws.length : Int)) = true := decide_eq_true (by omega)
        have dj2 : decide (ja < ws.length) = true := decide_eq_true (by omega)
        have hij : (ja : Int) < (ws.length : Int) := by omega
        obtain ⟨b, off, rfl, hb, hc⟩ := (HWs.out.below hbel) (by omega)
        have c0 := hc ja hjl 0 (by omega)
        have c1 := hc ja hjl 1 (by omega)
        have c2 := hc ja hjl 2 (by omega)
        have c3 := hc ja hjl 3 (by omega)
        have c4 := hc ja hjl 4 (by omega)
        have c5 := hc ja hjl 5 (by omega)
        have c6 := hc ja hjl 6 (by omega)
        have hbt := body_take wrtE ws ja hjl
        have hble2 := body_le wrtE ws (ja + 1)
        rw [hbt, List.length_append] at hble2
        have hmem := getD_mem hjl
        have HBt := Lib.hid hbt
        have HLj := Lib.hid hlj
        have HOj := Lib.hid hown
        have HBj := Lib.hid hbel
        have HXj := Lib.hid hbox
        clear hst hc hbt hlj hown hbel hbox
        generalize ws.getD ja default = y at *
        obtain ⟨yz, ⟨ya, yb, yc⟩, yd, ye, yf⟩ := y
        simp [wrtC, sixC, triC] at c0 c1 c2 c3 c4 c5 c6
        have hwe : (wrtE (yz, (ya, yb, yc), yd, ye, yf)).length = (boolE yz).length + (sixE ((ya, yb, yc), yd, ye, yf)).length := by unfold wrtE; rw [List.length_append]
        have hba210 := (Below.refl wr.heap.size wr).alloc (Nat.le_refl _) (.cells #[.bool yz, .string ya, .string yb, .string yc, .string yd, .string ye, .string yf] 65)
        obtain ⟨W210, hV210⟩ : ∃ V9, V9 = (wr.alloc (.cells #[.bool yz, .string ya, .string yb, .string yc, .string yd, .string ye, .string yf] 65)).drew := ⟨_, rfl⟩
        have HBel210 : Hid (Below W.heap.size W W210) := (by rw [hV210]; exact (HBj.out.trans (hba210.mono HBj.out.size)).drew : Below W.heap.size W W210)
        have HO210 : Hid (Own5 W.heap.size W210 (.slice oja lja.length cja) lja) := (by rw [hV210]; exact Below.row hba210.drew HOj.out : Own5 W.heap.size W210 (.slice oja lja.length cja) lja)
        have HXb210 : Hid (W210.heap[x]? = some (.cells #[.string cl, .int .u64 (id : Int), .int .i64 kd, .int .i64 hw, .string tk, .int .u64 (n : Int), .string ty, .string f1, .string f2, .string f3, .slice (some ⟨b, off, none⟩) ws.length wq, .slice pa ps.length pc, .slice aa ks.length ac, .slice ga gs.length gc] 54 (0, 0))) := (by rw [hV210]; exact (hba210.block _ (heap_lt HXj.out)).trans HXj.out : W210.heap[x]? = some (.cells #[.string cl, .int .u64 (id : Int), .int .i64 kd, .int .i64 hw, .string tk, .int .u64 (n : Int), .string ty, .string f1, .string f2, .string f3, .slice (some ⟨b, off, none⟩) ws.length wq, .slice pa ps.length pc, .slice aa ks.length ac, .slice ga gs.length gc] 54 (0, 0)))
        have HXl210 : Hid (W210.heap[wr.heap.size]? = some (.cells #[.bool yz, .string ya, .string yb, .string yc, .string yd, .string ye, .string yf] 65 (0, 0))) := (by rw [hV210]; exact heap_alloc_new wr _ : W210.heap[wr.heap.size]? = some (.cells #[.bool yz, .string ya, .string yb, .string yc, .string yd, .string ye, .string yf] 65 (0, 0)))
        have hS0 : W210.cell? ⟨wr.heap.size, 0, none⟩ = some (.bool yz) ∧ W210.cell? ⟨wr.heap.size, 1, none⟩ = some (.string ya) ∧ W210.cell? ⟨wr.heap.size, 2, none⟩ = some (.string yb) ∧ W210.cell? ⟨wr.heap.size, 3, none⟩ = some (.string yc) ∧ W210.cell? ⟨wr.heap.size, 4, none⟩ = some (.string yd) ∧ W210.cell? ⟨wr.heap.size, 5, none⟩ = some (.string ye) ∧ W210.cell? ⟨wr.heap.size, 6, none⟩ = some (.string yf) := ⟨heap_cell HXl210.out 0, heap_cell HXl210.out 1, heap_cell HXl210.out 2, heap_cell HXl210.out 3, heap_cell HXl210.out 4, heap_cell HXl210.out 5, heap_cell HXl210.out 6⟩
        go_wp2_with fail
        try refine wp_region_noPanic ?_
        refine wp_region_held_drew (S := fun w' => w'.cell? ⟨wr.heap.size, 0, none⟩ = some (.bool yz) ∧ w'.cell? ⟨wr.heap.size, 1, none⟩ = some (.string ya) ∧ w'.cell? ⟨wr.heap.size, 2, none⟩ = some (.string yb) ∧ w'.cell? ⟨wr.heap.size, 3, none⟩ = some (.string yc) ∧ w'.cell? ⟨wr.heap.size, 4, none⟩ = some (.string yd) ∧ w'.cell? ⟨wr.heap.size, 5, none⟩ = some (.string ye) ∧ w'.cell? ⟨wr.heap.size, 6, none⟩ = some (.string yf)) (by kernel_rfl) (by rw [← hV210]; exact hS0) (fun hHeld => ?_)
        rw [← hV210] at hHeld ⊢
        clear hV210 hS0 hba210
        refine take_at 0 62 (v := ?_) rfl rfl (by kernel_rfl) (by kernel_rfl) (by kernel_rfl) (fun _ _ _ h => h) (Or.inl ⟨by rfl, ?_⟩) hHeld ?_
        rotate_left
        · (intro w hSw; (try dsimp only at hSw); go_simp; try with_reducible rfl)
        try simp only [List.setIfInBounds_toArray, List.set_cons_zero, List.set_cons_succ]
        refine take_at 1 63 (v := ?_) rfl rfl (by kernel_rfl) (by kernel_rfl) (by kernel_rfl) (fun _ _ _ h => h) (Or.inl ⟨by rfl, ?_⟩) hHeld ?_
        rotate_left
        · (intro w hSw; (try dsimp only at hSw); go_simp; try with_reducible rfl)
        try simp only [List.setIfInBounds_toArray, List.set_cons_zero, List.set_cons_succ]
        refine take_at 2 64 (v := ?_) rfl rfl (by kernel_rfl) (by kernel_rfl) (by kernel_rfl) (fun _ _ _ h => h) (Or.inl ⟨by rfl, ?_⟩) hHeld ?_
        rotate_left
        · (intro w hSw; (try dsimp only at hSw); go_simp; try with_reducible rfl)
        try simp only [List.setIfInBounds_toArray, List.set_cons_zero, List.set_cons_succ]
        refine take_at 4 66 (v := ?_) rfl rfl (by kernel_rfl) (by kernel_rfl) (by kernel_rfl) (fun _ _ _ h => h) (Or.inl ⟨by rfl, ?_⟩) hHeld ?_
        rotate_left
        · (intro w hSw; (try dsimp only at hSw); go_simp; try with_reducible rfl)
        try simp only [List.setIfInBounds_toArray, List.set_cons_zero, List.set_cons_succ]
        refine take_at 5 67 (v := ?_) rfl rfl (by kernel_rfl) (by kernel_rfl) (by kernel_rfl) (fun _ _ _ h => h) (Or.inl ⟨by rfl, ?_⟩) hHeld ?_
        rotate_left
        · (intro w hSw; (try dsimp only at hSw); go_simp; try with_reducible rfl)
        try simp only [List.setIfInBounds_toArray, List.set_cons_zero, List.set_cons_succ]
        refine only_at 3 65 (by kernel_rfl) rfl rfl (by rfl) (fun K hK => ?_)
        go_simp
        refine (rtruth2_any W.heap.size (.slice oja lja.length cja) lja yz W210 (by omega) HO210.out HBel210.out.size).mono ?_
        rintro ee W211 ⟨v211, rfl, h211, hg211⟩
        unfold Own5 at h211
        obtain ⟨lc211, hlc⟩ : ∃ lc9, lc9 = lja ++ boolE yz := ⟨_, rfl⟩
        rw [← hlc] at h211
        have hn211 : lc211.length ≤ lja.length + (boolE yz).length := by rw [hlc, List.length_append]; exact Nat.le_refl _
        have HLc211 := Lib.hid hlc
        clear hlc
        obtain ⟨a211, m211, c211, rfl⟩ := row_slice h211
        have hm211 := row_len' h211
        subst hm211
        have HBel211 := Lib.hid (Below.own HBel210.out HO210.out (Nat.le_refl _) HBel210.out.size hg211)
        have HO211 : Hid (Own5 W.heap.size W211 (.slice a211 lc211.length c211) lc211) := h211
        have HXb211 := Lib.hid (heap_kept HO210.out HXb210.out (by decide) hg211)
        have HXl211 := Lib.hid (heap_kept HO210.out HXl210.out (by decide) hg211)
        clear h211 hg211
        go_wp2_with fail
        refine hK.out _ _ (⟨heap_cell HXl211.out 0, heap_cell HXl211.out 1, heap_cell HXl211.out 2, heap_cell HXl211.out 3, heap_cell HXl211.out 4, heap_cell HXl211.out 5, heap_cell HXl211.out 6⟩) (fun hHeld2 => ?_)
        clear hK K hHeld
        have hHeld := hHeld2
        clear hHeld2
        try simp only [Act.put, List.setIfInBounds_toArray, List.set_cons_zero, List.set_cons_succ]
        refine only_at 6 68 (by kernel_rfl) rfl rfl (by rfl) (fun K hK => ?_)
        go_simp
        refine (rtuple_any a211 c211 lc211 ya yb yc yd ye yf W211 (by omega) (row_bytes' HO211.out)).mono ?_
        rintro ee W212 ⟨v212, rfl, h212, hb212⟩
        obtain ⟨lc212, hlc⟩ : ∃ lc9, lc9 = lc211 ++ sixE ((ya, yb, yc), yd, ye, yf) := ⟨_, rfl⟩
        rw [← hlc] at h212
        have hn212 : lc212.length ≤ lc211.length + (sixE ((ya, yb, yc), yd, ye, yf)).length := by rw [hlc, List.length_append]; exact Nat.le_refl _
        have HLc212 := Lib.hid hlc
        clear hlc
        obtain ⟨a212, m212, c212, rfl⟩ := row_slice h212
        have hm212 := row_len' h212
        subst hm212
        have HBel212 := Lib.hid (HBel211.out.trans (hb212.mono HBel211.out.size))
        have HO212 : Hid (Own5 W.heap.size W212 (.slice a212 lc212.length c212) lc212) := row_lower h212 HBel211.out.size
        have HXb212 := Lib.hid ((hb212.block _ (heap_lt HXb211.out)).trans HXb211.out)
        have HXl212 := Lib.hid ((hb212.block _ (heap_lt HXl211.out)).trans HXl211.out)
        clear h212 hb212
        go_wp2_with fail
        refine hK.out _ _ (⟨heap_cell HXl212.out 0, heap_cell HXl212.out 1, heap_cell HXl212.out 2, heap_cell HXl212.out 3, heap_cell HXl212.out 4, heap_cell HXl212.out 5, heap_cell HXl212.out 6⟩) (fun hHeld2 => ?_)
        clear hK K hHeld
        have hHeld := hHeld2
        clear hHeld2
        try simp only [Act.put, List.setIfInBounds_toArray, List.set_cons_zero, List.set_cons_succ]
        refine take_at 7 3 (v := ?_) rfl rfl (by kernel_rfl) (by kernel_rfl) (by kernel_rfl) (fun _ _ _ h => h) (Or.inl ⟨by rfl, ?_⟩) hHeld ?_
        rotate_left
        · (intro w hSw; (try dsimp only at hSw); go_simp; try with_reducible rfl)
        try simp only [List.setIfInBounds_toArray, List.set_cons_zero, List.set_cons_succ]
        refine wpAnyH_done (by kernel_rfl) ?_ _
        try refine NoPanic.normal ?_
        have HRN : Hid (lc212 = lc209 ++ bodyE wrtE (ws.take (ja + 1)) ∧ Own5 W.heap.size W212 (.slice a212 lc212.length c212) lc212 ∧ Below W.heap.size W W212 ∧ W212.heap[x]? = some (.cells #[.string cl, .int .u64 (id : Int), .int .i64 kd, .int .i64 hw, .string tk, .int .u64 (n : Int), .string ty, .string f1, .string f2, .string f3, .slice (some ⟨b, off, none⟩) ws.length wq, .slice pa ps.length pc, .slice aa ks.length ac, .slice ga gs.length gc] 54 (0, 0))) := ⟨by
          rw [HLc212.out, HLc211.out, HLj.out, HBt.out]
          simp only [wrtE, List.append_assoc], HO212.out, HBel212.out, HXb212.out⟩
        clear hjl hble hble2
        go_wp2_with fail
        go_roundw
        case rel => exact ⟨ja + 1, a212, c212, lc212, rfl, by go_num, by omega, HRN⟩
        case measure => first | (simp [intOf]; done) | (simp [intOf]; omega)
      · have hje : ja = ws.length := by omega
        have dj : decide ((ja : Int) < (ws.length : Int)) = false := decide_eq_false (by omega)
        have dj2 : decide (ja < ws.length) = false := decide_eq_false (by omega)
        have HLea : Hid (lja = lc209 ++ bodyE wrtE ws) := (by rw [hlj, hje, List.take_length] : lja = lc209 ++ bodyE wrtE ws)
        have hlea : lja.length ≤ lc209.length + (bodyE wrtE ws).length := Nat.le_trans hlja (Nat.add_le_add_left hble _)
        have HOea := Lib.hid hown
        have HBea := Lib.hid hbel
        have HXea := Lib.hid hbox
        clear hst hlj hown hbel hbox hje hjl hble hlja
        have qq11 := heap_cell HXea.out 11
        simp at qq11
        have HC := Lib.hid (rmany_any oja cja lja ps.length wr (by omega) (by omega) (row_bytes' HOea.out))
        go_wp2_with fail
        refine HC.out.mono ?_
        clear HC qq11
        rintro ee W210 ⟨v210, rfl, h210, hb210⟩
        obtain ⟨lc210, hlc⟩ : ∃ lc9, lc9 = lja ++ uv ps.length := ⟨_, rfl⟩
        rw [← hlc] at h210
        have hn210 : lc210.length ≤ lja.length + (uv ps.length).length := by rw [hlc, List.length_append]; exact Nat.le_refl _
        have HLc210 := Lib.hid hlc
        clear hlc
        obtain ⟨a210, m210, c210, rfl⟩ := row_slice h210
        have hm210 := row_len' h210
        subst hm210
        have HBel210 := Lib.hid (HBea.out.trans (hb210.mono HBea.out.size))
        have HO210 : Hid (Own5 W.heap.size W210 (.slice a210 lc210.length c210) lc210) := row_lower h210 HBea.out.size
        have HXb210 := Lib.hid ((hb210.block _ (heap_lt HXea.out)).trans HXea.out)
        clear h210 hb210
        have qq := heap_cell HXb210.out 11
        simp at qq
        go_wp2_with fail
        go_loopw [3, 78] (fun bv iv wr => ∃ (j : Nat) (oa : Option Addr) (oc : Nat) (lj : List UInt8), bv = .slice oa lj.length oc ∧ iv = .int .i64 j ∧ j ≤ ps.length ∧ Hid (lj = lc210 ++ bodyE wrtE (ps.take j) ∧ Own5 W.heap.size wr (.slice oa lj.length oc) lj ∧ Below W.heap.size W wr ∧ wr.heap[x]? = some (.cells #[.string cl, .int .u64 (id : Int), .int .i64 kd, .int .i64 hw, .string tk, .int .u64 (n : Int), .string ty, .string f1, .string f2, .string f3, .slice wa ws.length wq, .slice pa ps.length pc, .slice aa ks.length ac, .slice ga gs.length gc] 54 (0, 0)))) (fun _ iv _ => ps.length - (intOf iv).toNat)
        case atStart => exact ⟨0, a210, c210, lc210, rfl, rfl, Nat.zero_le _, by rw [List.take_zero]; simp [bodyE], HO210.out, HBel210.out, HXb210.out⟩
        case round =>
          clear HO210 HBel210 HXb210 qq
          obtain ⟨jb, ojb, cjb, ljb, rfl, rfl, hjb, hst⟩ := hrel
          obtain ⟨hlj, hown, hbel, hbox⟩ := hst.out
          have hble := body_le wrtE ps jb
          have hljb : ljb.length ≤ lc210.length + (bodyE wrtE (ps.take jb)).length := by rw [hlj, List.length_append]; exact Nat.le_refl _
          by_cases hjl : jb < ps.length
          · have dj : decide ((jb : Int) < (ps.length : Int)) = true := decide_eq_true (by omega)
            have dj2 : decide (jb < ps.length) = true := decide_eq_true (by omega)
            have hij : (jb : Int) < (ps.length : Int) := by omega
            obtain ⟨b, off, rfl, hb, hc⟩ := (HPs.out.below hbel) (by omega)
            have c0 := hc jb hjl 0 (by omega)
            have c1 := hc jb hjl 1 (by omega)
            have c2 := hc jb hjl 2 (by omega)
            have c3 := hc jb hjl 3 (by omega)
            have c4 := hc jb hjl 4 (by omega)
            have c5 := hc jb hjl 5 (by omega)
            have c6 := hc jb hjl 6 (by omega)
            have hbt := body_take wrtE ps jb hjl
            have hble2 := body_le wrtE ps (jb + 1)
            rw [hbt, List.length_append] at hble2
            have hmem := getD_mem hjl
            have HBt := Lib.hid hbt
            have HLj := Lib.hid hlj
            have HOj := Lib.hid hown
            have HBj := Lib.hid hbel
            have HXj := Lib.hid hbox
            clear hst hc hbt hlj hown hbel hbox
            generalize ps.getD jb default = y at *
            obtain ⟨yz, ⟨ya, yb, yc⟩, yd, ye, yf⟩ := y
            simp [wrtC, sixC, triC] at c0 c1 c2 c3 c4 c5 c6
            have hwe : (wrtE (yz, (ya, yb, yc), yd, ye, yf)).length = (boolE yz).length + (sixE ((ya, yb, yc), yd, ye, yf)).length := by unfold wrtE; rw [List.length_append]
            have hba211 := (Below.refl wr.heap.size wr).alloc (Nat.le_refl _) (.cells #[.bool yz, .string ya, .string yb, .string yc, .string yd, .string ye, .string yf] 132)
            obtain ⟨W211, hV211⟩ : ∃ V9, V9 = (wr.alloc (.cells #[.bool yz, .string ya, .string yb, .string yc, .string yd, .string ye, .string yf] 132)).drew := ⟨_, rfl⟩
            have HBel211 : Hid (Below W.heap.size W W211) := (by rw [hV211]; exact (HBj.out.trans (hba211.mono HBj.out.size)).drew : Below W.heap.size W W211)
            have HO211 : Hid (Own5 W.heap.size W211 (.slice ojb ljb.length cjb) ljb) := (by rw [hV211]; exact Below.row hba211.drew HOj.out : Own5 W.heap.size W211 (.slice ojb ljb.length cjb) ljb)
            have HXb211 : Hid (W211.heap[x]? = some (.cells #[.string cl, .int .u64 (id : Int), .int .i64 kd, .int .i64 hw, .string tk, .int .u64 (n : Int), .string ty, .string f1, .string f2, .string f3, .slice wa ws.length wq, .slice (some ⟨b, off, none⟩) ps.length pc, .slice aa ks.length ac, .slice ga gs.length gc] 54 (0, 0))) := (by rw [hV211]; exact (hba211.block _ (heap_lt HXj.out)).trans HXj.out : W211.heap[x]? = some (.cells #[.string cl, .int .u64 (id : Int), .int .i64 kd, .int .i64 hw, .string tk, .int .u64 (n : Int), .string ty, .string f1, .string f2, .string f3, .slice wa ws.length wq, .slice (some ⟨b, off, none⟩) ps.length pc, .slice aa ks.length ac, .slice ga gs.length gc] 54 (0, 0)))
            have HXl211 : Hid (W211.heap[wr.heap.size]? = some (.cells #[.bool yz, .string ya, .string yb, .string yc, .string yd, .string ye, .string yf] 132 (0, 0))) := (by rw [hV211]; exact heap_alloc_new wr _ : W211.heap[wr.heap.size]? = some (.cells #[.bool yz, .string ya, .string yb, .string yc, .string yd, .string ye, .string yf] 132 (0, 0)))
            have hS0 : W211.cell? ⟨wr.heap.size, 0, none⟩ = some (.bool yz) ∧ W211.cell? ⟨wr.heap.size, 1, none⟩ = some (.string ya) ∧ W211.cell? ⟨wr.heap.size, 2, none⟩ = some (.string yb) ∧ W211.cell? ⟨wr.heap.size, 3, none⟩ = some (.string yc) ∧ W211.cell? ⟨wr.heap.size, 4, none⟩ = some (.string yd) ∧ W211.cell? ⟨wr.heap.size, 5, none⟩ = some (.string ye) ∧ W211.cell? ⟨wr.heap.size, 6, none⟩ = some (.string yf) := ⟨heap_cell HXl211.out 0, heap_cell HXl211.out 1, heap_cell HXl211.out 2, heap_cell HXl211.out 3, heap_cell HXl211.out 4, heap_cell HXl211.out 5, heap_cell HXl211.out 6⟩
            go_wp2_with fail
            try refine wp_region_noPanic ?_
            refine wp_region_held_drew (S := fun w' => w'.cell? ⟨wr.heap.size, 0, none⟩ = some (.bool yz) ∧ w'.cell? ⟨wr.heap.size, 1, none⟩ = some (.string ya) ∧ w'.cell? ⟨wr.heap.size, 2, none⟩ = some (.string yb) ∧ w'.cell? ⟨wr.heap.size, 3, none⟩ = some (.string yc) ∧ w'.cell? ⟨wr.heap.size, 4, none⟩ = some (.string yd) ∧ w'.cell? ⟨wr.heap.size, 5, none⟩ = some (.string ye) ∧ w'.cell? ⟨wr.heap.size, 6, none⟩ = some (.string yf)) (by kernel_rfl) (by rw [← hV211]; exact hS0) (fun hHeld => ?_)
            rw [← hV211] at hHeld ⊢
            clear hV211 hS0 hba211
            refine take_at 0 82 (v := ?_) rfl rfl (by kernel_rfl) (by kernel_rfl) (by kernel_rfl) (fun _ _ _ h => h) (Or.inl ⟨by rfl, ?_⟩) hHeld ?_
            rotate_left
            · (intro w hSw; (try dsimp only at hSw); go_simp; try with_reducible rfl)
            try simp only [List.setIfInBounds_toArray, List.set_cons_zero, List.set_cons_succ]
            refine take_at 1 83 (v := ?_) rfl rfl (by kernel_rfl) (by kernel_rfl) (by kernel_rfl) (fun _ _ _ h => h) (Or.inl ⟨by rfl, ?_⟩) hHeld ?_
            rotate_left
            · (intro w hSw; (try dsimp only at hSw); go_simp; try with_reducible rfl)
            try simp only [List.setIfInBounds_toArray, List.set_cons_zero, List.set_cons_succ]
            refine take_at 2 84 (v := ?_) rfl rfl (by kernel_rfl) (by kernel_rfl) (by kernel_rfl) (fun _ _ _ h => h) (Or.inl ⟨by rfl, ?_⟩) hHeld ?_
            rotate_left
            · (intro w hSw; (try dsimp only at hSw); go_simp; try with_reducible rfl)
            try simp only [List.setIfInBounds_toArray, List.set_cons_zero, List.set_cons_succ]
            refine take_at 4 86 (v := ?_) rfl rfl (by kernel_rfl) (by kernel_rfl) (by kernel_rfl) (fun _ _ _ h => h) (Or.inl ⟨by rfl, ?_⟩) hHeld ?_
            rotate_left
            · (intro w hSw; (try dsimp only at hSw); go_simp; try with_reducible rfl)
            try simp only [List.setIfInBounds_toArray, List.set_cons_zero, List.set_cons_succ]
            refine take_at 5 87 (v := ?_) rfl rfl (by kernel_rfl) (by kernel_rfl) (by kernel_rfl) (fun _ _ _ h => h) (Or.inl ⟨by rfl, ?_⟩) hHeld ?_
            rotate_left
            · (intro w hSw; (try dsimp only at hSw); go_simp; try with_reducible rfl)
            try simp only [List.setIfInBounds_toArray, List.set_cons_zero, List.set_cons_succ]
            refine only_at 3 85 (by kernel_rfl) rfl rfl (by rfl) (fun K hK => ?_)
            go_simp
            refine (rtruth2_any W.heap.size (.slice ojb ljb.length cjb) ljb yz W211 (by omega) HO211.out HBel211.out.size).mono ?_
            rintro ee W212 ⟨v212, rfl, h212, hg212⟩
            unfold Own5 at h212
            obtain ⟨lc212, hlc⟩ : ∃ lc9, lc9 = ljb ++ boolE yz := ⟨_, rfl⟩
            rw [← hlc] at h212
            have hn212 : lc212.length ≤ ljb.length + (boolE yz).length := by rw [hlc, List.length_append]; exact Nat.le_refl _
            have HLc212 := Lib.hid hlc
            clear hlc
            obtain ⟨a212, m212, c212, rfl⟩ := row_slice h212
            have hm212 := row_len' h212
            subst hm212
            have HBel212 := Lib.hid (Below.own HBel211.out HO211.out (Nat.le_refl _) HBel211.out.size hg212)
            have HO212 : Hid (Own5 W.heap.size W212 (.slice a212 lc212.length c212) lc212) := h212
            have HXb212 := Lib.hid (heap_kept HO211.out HXb211.out (by decide) hg212)
            have HXl212 := Lib.hid (heap_kept HO211.out HXl211.out (by decide) hg212)
            clear h212 hg212
            go_wp2_with fail
            refine hK.out _ _ (⟨heap_cell HXl212.out 0, heap_cell HXl212.out 1, heap_cell HXl212.out 2, heap_cell HXl212.out 3, heap_cell HXl212.out 4, heap_cell HXl212.out 5, heap_cell HXl212.out 6⟩) (fun hHeld2 => ?_)
            clear hK K hHeld
            have hHeld := hHeld2
            clear hHeld2
            try simp only [Act.put, List.setIfInBounds_toArray, List.set_cons_zero, List.set_cons_succ]
            refine only_at 6 88 (by kernel_rfl) rfl rfl (by rfl) (fun K hK => ?_)
            go_simp
            refine (rtuple_any a212 c212 lc212 ya yb yc yd ye yf W212 (by omega) (row_bytes' HO212.out)).mono ?_
            rintro ee W213 ⟨v213, rfl, h213, hb213⟩
            obtain ⟨lc213, hlc⟩ : ∃ lc9, lc9 = lc212 ++ sixE ((ya, yb, yc), yd, ye, yf) := ⟨_, rfl⟩
            rw [← hlc] at h213
            have hn213 : lc213.length ≤ lc212.length + (sixE ((ya, yb, yc), yd, ye, yf)).length := by rw [hlc, List.length_append]; exact Nat.le_refl _
            have HLc213 := Lib.hid hlc
            clear hlc
            obtain ⟨a213, m213, c213, rfl⟩ := row_slice h213
            have hm213 := row_len' h213
            subst hm213
            have HBel213 := Lib.hid (HBel212.out.trans (hb213.mono HBel212.out.size))
            have HO213 : Hid (Own5 W.heap.size W213 (.slice a213 lc213.length c213) lc213) := row_lower h213 HBel212.out.size
            have HXb213 := Lib.hid ((hb213.block _ (heap_lt HXb212.out)).trans HXb212.out)
            have HXl213 := Lib.hid ((hb213.block _ (heap_lt HXl212.out)).trans HXl212.out)
            clear h213 hb213
            go_wp2_with fail
            refine hK.out _ _ (⟨heap_cell HXl213.out 0, heap_cell HXl213.out 1, heap_cell HXl213.out 2, heap_cell HXl213.out 3, heap_cell HXl213.out 4, heap_cell HXl213.out 5, heap_cell HXl213.out 6⟩) (fun hHeld2 => ?_)
            clear hK K hHeld
            have hHeld := hHeld2
            clear hHeld2
            try simp only [Act.put, List.setIfInBounds_toArray, List.set_cons_zero, List.set_cons_succ]
            refine take_at 7 3 (v := ?_) rfl rfl (by kernel_rfl) (by kernel_rfl) (by kernel_rfl) (fun _ _ _ h => h) (Or.inl ⟨by rfl, ?_⟩) hHeld ?_
            rotate_left
            · (intro w hSw; (try dsimp only at hSw); go_simp; try with_reducible rfl)
            try simp only [List.setIfInBounds_toArray, List.set_cons_zero, List.set_cons_succ]
            refine wpAnyH_done (by kernel_rfl) ?_ _
            try refine NoPanic.normal ?_
            have HRN : Hid (lc213 = lc210 ++ bodyE wrtE (ps.take (jb + 1)) ∧ Own5 W.heap.size W213 (.slice a213 lc213.length c213) lc213 ∧ Below W.heap.size W W213 ∧ W213.heap[x]? = some (.cells #[.string cl, .int .u64 (id : Int), .int .i64 kd, .int .i64 hw, .string tk, .int .u64 (n : Int), .string ty, .string f1, .string f2, .string f3, .slice wa ws.length wq, .slice (some ⟨b, off, none⟩) ps.length pc, .slice aa ks.length ac, .slice ga gs.length gc] 54 (0, 0))) := ⟨by
              rw [HLc213.out, HLc212.out, HLj.out, HBt.out]
              simp only [wrtE, List.append_assoc], HO213.out, HBel213.out, HXb213.out⟩
            clear hjl hble hble2
            go_wp2_with fail
            go_roundw
            case rel => exact ⟨jb + 1, a213, c213, lc213, rfl, by go_num, by omega, HRN⟩
            case measure => first | (simp [intOf]; done) | (simp [intOf]; omega)
          · have hje : jb = ps.length := by omega
            have dj : decide ((jb : Int) < (ps.length : Int)) = false := decide_eq_false (by omega)
            have dj2 : decide (jb < ps.length) = false := decide_eq_false (by omega)
            have HLeb : Hid (ljb = lc210 ++ bodyE wrtE ps) := (by rw [hlj, hje, List.take_length] : ljb = lc210 ++ bodyE wrtE ps)
            have hleb : ljb.length ≤ lc210.length + (bodyE wrtE ps).length := Nat.le_trans hljb (Nat.add_le_add_left hble _)
            have HOeb := Lib.hid hown
            have HBeb := Lib.hid hbel
            have HXeb := Lib.hid hbox
            clear hst hlj hown hbel hbox hje hjl hble hljb
            have qq12 := heap_cell HXeb.out 12
            simp at qq12
            have HC := Lib.hid (rmany_any ojb cjb ljb ks.length wr (by omega) (by omega) (row_bytes' HOeb.out))
            go_wp2_with fail
            refine HC.out.mono ?_
            clear HC qq12
            rintro ee W211 ⟨v211, rfl, h211, hb211⟩
            obtain ⟨lc211, hlc⟩ : ∃ lc9, lc9 = ljb ++ uv ks.length := ⟨_, rfl⟩
            rw [← hlc] at h211
            have hn211 : lc211.length ≤ ljb.length + (uv ks.length).length := by rw [hlc, List.length_append]; exact Nat.le_refl _
            have HLc211 := Lib.hid hlc
            clear hlc
            obtain ⟨a211, m211, c211, rfl⟩ := row_slice h211
            have hm211 := row_len' h211
            subst hm211
            have HBel211 := Lib.hid (HBeb.out.trans (hb211.mono HBeb.out.size))
            have HO211 : Hid (Own5 W.heap.size W211 (.slice a211 lc211.length c211) lc211) := row_lower h211 HBeb.out.size
            have HXb211 := Lib.hid ((hb211.block _ (heap_lt HXeb.out)).trans HXeb.out)
            clear h211 hb211
            have qq := heap_cell HXb211.out 12
            simp at qq
            go_wp2_with fail
            go_loopw [3, 98] (fun bv iv wr => ∃ (j : Nat) (oa : Option Addr) (oc : Nat) (lj : List UInt8), bv = .slice oa lj.length oc ∧ iv = .int .i64 j ∧ j ≤ ks.length ∧ Hid (lj = lc211 ++ bodyE sixE (ks.take j) ∧ Own5 W.heap.size wr (.slice oa lj.length oc) lj ∧ Below W.heap.size W wr ∧ wr.heap[x]? = some (.cells #[.string cl, .int .u64 (id : Int), .int .i64 kd, .int .i64 hw, .string tk, .int .u64 (n : Int), .string ty, .string f1, .string f2, .string f3, .slice wa ws.length wq, .slice pa ps.length pc, .slice aa ks.length ac, .slice ga gs.length gc] 54 (0, 0)))) (fun _ iv _ => ks.length - (intOf iv).toNat)
            case atStart => exact ⟨0, a211, c211, lc211, rfl, rfl, Nat.zero_le _, by rw [List.take_zero]; simp [bodyE], HO211.out, HBel211.out, HXb211.out⟩
            case round =>
              clear HO211 HBel211 HXb211 qq
              obtain ⟨jc, ojc, cjc, ljc, rfl, rfl, hjc, hst⟩ := hrel
              obtain ⟨hlj, hown, hbel, hbox⟩ := hst.out
              have hble := body_le sixE ks jc
              have hljc : ljc.length ≤ lc211.length + (bodyE sixE (ks.take jc)).length := by rw [hlj, List.length_append]; exact Nat.le_refl _
              by_cases hjl : jc < ks.length
              · have dj : decide ((jc : Int) < (ks.length : Int)) = true := decide_eq_true (by omega)
                have dj2 : decide (jc < ks.length) = true := decide_eq_true (by omega)
                have hij : (jc : Int) < (ks.length : Int) := by omega
                obtain ⟨b, off, rfl, hb, hc⟩ := (HKs.out.below hbel) (by omega)
                have c0 := hc jc hjl 0 (by omega)
                have c1 := hc jc hjl 1 (by omega)
                have c2 := hc jc hjl 2 (by omega)
                have c3 := hc jc hjl 3 (by omega)
                have c4 := hc jc hjl 4 (by omega)
                have c5 := hc jc hjl 5 (by omega)
                have hbt := body_take sixE ks jc hjl
                have hble2 := body_le sixE ks (jc + 1)
                rw [hbt, List.length_append] at hble2
                have hmem := getD_mem hjl
                have HBt := Lib.hid hbt
                have HLj := Lib.hid hlj
                have HOj := Lib.hid hown
                have HBj := Lib.hid hbel
                have HXj := Lib.hid hbox
                clear hst hc hbt hlj hown hbel hbox
                generalize ks.getD jc default = y at *
                obtain ⟨⟨ya, yb, yc⟩, yd, ye, yf⟩ := y
                simp [sixC, triC] at c0 c1 c2 c3 c4 c5
                have hwe : (sixE ((ya, yb, yc), yd, ye, yf)).length = (triE (ya, yb, yc)).length + (triE (yd, ye, yf)).length := by unfold sixE; rw [List.length_append]
                have hba212 := (Below.refl wr.heap.size wr).alloc (Nat.le_refl _) (.cells #[.string ya, .string yb, .string yc, .string yd, .string ye, .string yf] 136)
                obtain ⟨W212, hV212⟩ : ∃ V9, V9 = (wr.alloc (.cells #[.string ya, .string yb, .string yc, .string yd, .string ye, .string yf] 136)).drew := ⟨_, rfl⟩
                have HBel212 : Hid (Below W.heap.size W W212) := (by rw [hV212]; exact (HBj.out.trans (hba212.mono HBj.out.size)).drew : Below W.heap.size W W212)
                have HO212 : Hid (Own5 W.heap.size W212 (.slice ojc ljc.length cjc) ljc) := (by rw [hV212]; exact Below.row hba212.drew HOj.out : Own5 W.heap.size W212 (.slice ojc ljc.length cjc) ljc)
                have HXb212 : Hid (W212.heap[x]? = some (.cells #[.string cl, .int .u64 (id : Int), .int .i64 kd, .int .i64 hw, .string tk, .int .u64 (n : Int), .string ty, .string f1, .string f2, .string f3, .slice wa ws.length wq, .slice pa ps.length pc, .slice (some ⟨b, off, none⟩) ks.length ac, .slice ga gs.length gc] 54 (0, 0))) := (by rw [hV212]; exact (hba212.block _ (heap_lt HXj.out)).trans HXj.out : W212.heap[x]? = some (.cells #[.string cl, .int .u64 (id : Int), .int .i64 kd, .int .i64 hw, .string tk, .int .u64 (n : Int), .string ty, .string f1, .string f2, .string f3, .slice wa ws.length wq, .slice pa ps.length pc, .slice (some ⟨b, off, none⟩) ks.length ac, .slice ga gs.length gc] 54 (0, 0)))
                have HXl212 : Hid (W212.heap[wr.heap.size]? = some (.cells #[.string ya, .string yb, .string yc, .string yd, .string ye, .string yf] 136 (0, 0))) := (by rw [hV212]; exact heap_alloc_new wr _ : W212.heap[wr.heap.size]? = some (.cells #[.string ya, .string yb, .string yc, .string yd, .string ye, .string yf] 136 (0, 0)))
                have hS0 : W212.cell? ⟨wr.heap.size, 0, none⟩ = some (.string ya) ∧ W212.cell? ⟨wr.heap.size, 1, none⟩ = some (.string yb) ∧ W212.cell? ⟨wr.heap.size, 2, none⟩ = some (.string yc) ∧ W212.cell? ⟨wr.heap.size, 3, none⟩ = some (.string yd) ∧ W212.cell? ⟨wr.heap.size, 4, none⟩ = some (.string ye) ∧ W212.cell? ⟨wr.heap.size, 5, none⟩ = some (.string yf) := ⟨heap_cell HXl212.out 0, heap_cell HXl212.out 1, heap_cell HXl212.out 2, heap_cell HXl212.out 3, heap_cell HXl212.out 4, heap_cell HXl212.out 5⟩
                go_wp2_with fail
                try refine wp_region_noPanic ?_
                refine wp_region_held_drew (S := fun w' => w'.cell? ⟨wr.heap.size, 0, none⟩ = some (.string ya) ∧ w'.cell? ⟨wr.heap.size, 1, none⟩ = some (.string yb) ∧ w'.cell? ⟨wr.heap.size, 2, none⟩ = some (.string yc) ∧ w'.cell? ⟨wr.heap.size, 3, none⟩ = some (.string yd) ∧ w'.cell? ⟨wr.heap.size, 4, none⟩ = some (.string ye) ∧ w'.cell? ⟨wr.heap.size, 5, none⟩ = some (.string yf)) (by kernel_rfl) (by rw [← hV212]; exact hS0) (fun hHeld => ?_)
                rw [← hV212] at hHeld ⊢
                clear hV212 hS0 hba212
                refine take_at 0 102 (v := ?_) rfl rfl (by kernel_rfl) (by kernel_rfl) (by kernel_rfl) (fun _ _ _ h => h) (Or.inl ⟨by rfl, ?_⟩) hHeld ?_
                rotate_left
                · (intro w hSw; (try dsimp only at hSw); go_simp; try with_reducible rfl)
                try simp only [List.setIfInBounds_toArray, List.set_cons_zero, List.set_cons_succ]
                refine take_at 1 103 (v := ?_) rfl rfl (by kernel_rfl) (by kernel_rfl) (by kernel_rfl) (fun _ _ _ h => h) (Or.inl ⟨by rfl, ?_⟩) hHeld ?_
                rotate_left
                · (intro w hSw; (try dsimp only at hSw); go_simp; try with_reducible rfl)
                try simp only [List.setIfInBounds_toArray, List.set_cons_zero, List.set_cons_succ]
                refine take_at 2 104 (v := ?_) rfl rfl (by kernel_rfl) (by kernel_rfl) (by kernel_rfl) (fun _ _ _ h => h) (Or.inl ⟨by rfl, ?_⟩) hHeld ?_
                rotate_left
                · (intro w hSw; (try dsimp only at hSw); go_simp; try with_reducible rfl)
                try simp only [List.setIfInBounds_toArray, List.set_cons_zero, List.set_cons_succ]
                refine take_at 4 106 (v := ?_) rfl rfl (by kernel_rfl) (by kernel_rfl) (by kernel_rfl) (fun _ _ _ h => h) (Or.inl ⟨by rfl, ?_⟩) hHeld ?_
                rotate_left
                · (intro w hSw; (try dsimp only at hSw); go_simp; try with_reducible rfl)
                try simp only [List.setIfInBounds_toArray, List.set_cons_zero, List.set_cons_succ]
                refine take_at 5 107 (v := ?_) rfl rfl (by kernel_rfl) (by kernel_rfl) (by kernel_rfl) (fun _ _ _ h => h) (Or.inl ⟨by rfl, ?_⟩) hHeld ?_
                rotate_left
                · (intro w hSw; (try dsimp only at hSw); go_simp; try with_reducible rfl)
                try simp only [List.setIfInBounds_toArray, List.set_cons_zero, List.set_cons_succ]
                refine only_at 3 105 (by kernel_rfl) rfl rfl (by rfl) (fun K hK => ?_)
                go_simp
                refine (rpoint_any ojc cjc ljc ya yb yc W212 (by omega) (row_bytes' HO212.out)).mono ?_
                rintro ee W213 ⟨v213, rfl, h213, hb213⟩
                obtain ⟨lc213, hlc⟩ : ∃ lc9, lc9 = ljc ++ triE (ya, yb, yc) := ⟨_, rfl⟩
                rw [← hlc] at h213
                have hn213 : lc213.length ≤ ljc.length + (triE (ya, yb, yc)).length := by rw [hlc, List.length_append]; exact Nat.le_refl _
                have HLc213 := Lib.hid hlc
                clear hlc
                obtain ⟨a213, m213, c213, rfl⟩ := row_slice h213
                have hm213 := row_len' h213
                subst hm213
                have HBel213 := Lib.hid (HBel212.out.trans (hb213.mono HBel212.out.size))
                have HO213 : Hid (Own5 W.heap.size W213 (.slice a213 lc213.length c213) lc213) := row_lower h213 HBel212.out.size
                have HXb213 := Lib.hid ((hb213.block _ (heap_lt HXb212.out)).trans HXb212.out)
                have HXl213 := Lib.hid ((hb213.block _ (heap_lt HXl212.out)).trans HXl212.out)
                clear h213 hb213
                go_wp2_with fail
                refine hK.out _ _ (⟨heap_cell HXl213.out 0, heap_cell HXl213.out 1, heap_cell HXl213.out 2, heap_cell HXl213.out 3, heap_cell HXl213.out 4, heap_cell HXl213.out 5⟩) (fun hHeld2 => ?_)
                clear hK K hHeld
                have hHeld := hHeld2
                clear hHeld2
                try simp only [Act.put, List.setIfInBounds_toArray, List.set_cons_zero, List.set_cons_succ]
                refine only_at 6 108 (by kernel_rfl) rfl rfl (by rfl) (fun K hK => ?_)
                go_simp
                refine (rsub_any a213 c213 lc213 yd ye yf W213 (by omega) (row_bytes' HO213.out)).mono ?_
                rintro ee W214 ⟨v214, rfl, h214, hb214⟩
                obtain ⟨lc214, hlc⟩ : ∃ lc9, lc9 = lc213 ++ triE (yd, ye, yf) := ⟨_, rfl⟩
                rw [← hlc] at h214
                have hn214 : lc214.length ≤ lc213.length + (triE (yd, ye, yf)).length := by rw [hlc, List.length_append]; exact Nat.le_refl _
                have HLc214 := Lib.hid hlc
                clear hlc
                obtain ⟨a214, m214, c214, rfl⟩ := row_slice h214
                have hm214 := row_len' h214
                subst hm214
                have HBel214 := Lib.hid (HBel213.out.trans (hb214.mono HBel213.out.size))
                have HO214 : Hid (Own5 W.heap.size W214 (.slice a214 lc214.length c214) lc214) := row_lower h214 HBel213.out.size
                have HXb214 := Lib.hid ((hb214.block _ (heap_lt HXb213.out)).trans HXb213.out)
                have HXl214 := Lib.hid ((hb214.block _ (heap_lt HXl213.out)).trans HXl213.out)
                clear h214 hb214
                go_wp2_with fail
                refine hK.out _ _ (⟨heap_cell HXl214.out 0, heap_cell HXl214.out 1, heap_cell HXl214.out 2, heap_cell HXl214.out 3, heap_cell HXl214.out 4, heap_cell HXl214.out 5⟩) (fun hHeld2 => ?_)
                clear hK K hHeld
                have hHeld := hHeld2
                clear hHeld2
                try simp only [Act.put, List.setIfInBounds_toArray, List.set_cons_zero, List.set_cons_succ]
                refine take_at 7 3 (v := ?_) rfl rfl (by kernel_rfl) (by kernel_rfl) (by kernel_rfl) (fun _ _ _ h => h) (Or.inl ⟨by rfl, ?_⟩) hHeld ?_
                rotate_left
                · (intro w hSw; (try dsimp only at hSw); go_simp; try with_reducible rfl)
                try simp only [List.setIfInBounds_toArray, List.set_cons_zero, List.set_cons_succ]
                refine wpAnyH_done (by kernel_rfl) ?_ _
                try refine NoPanic.normal ?_
                have HRN : Hid (lc214 = lc211 ++ bodyE sixE (ks.take (jc + 1)) ∧ Own5 W.heap.size W214 (.slice a214 lc214.length c214) lc214 ∧ Below W.heap.size W W214 ∧ W214.heap[x]? = some (.cells #[.string cl, .int .u64 (id : Int), .int .i64 kd, .int .i64 hw, .string tk, .int .u64 (n : Int), .string ty, .string f1, .string f2, .string f3, .slice wa ws.length wq, .slice pa ps.length pc, .slice (some ⟨b, off, none⟩) ks.length ac, .slice ga gs.length gc] 54 (0, 0))) := ⟨by
                  rw [HLc214.out, HLc213.out, HLj.out, HBt.out]
                  simp only [sixE, List.append_assoc], HO214.out, HBel214.out, HXb214.out⟩
                clear hjl hble hble2
                go_wp2_with fail
                go_roundw
                case rel => exact ⟨jc + 1, a214, c214, lc214, rfl, by go_num, by omega, HRN⟩
                case measure => first | (simp [intOf]; done) | (simp [intOf]; omega)
              · have hje : jc = ks.length := by omega
                have dj : decide ((jc : Int) < (ks.length : Int)) = false := decide_eq_false (by omega)
                have dj2 : decide (jc < ks.length) = false := decide_eq_false (by omega)
                have HLec : Hid (ljc = lc211 ++ bodyE sixE ks) := (by rw [hlj, hje, List.take_length] : ljc = lc211 ++ bodyE sixE ks)
                have hlec : ljc.length ≤ lc211.length + (bodyE sixE ks).length := Nat.le_trans hljc (Nat.add_le_add_left hble _)
                have HOec := Lib.hid hown
                have HBec := Lib.hid hbel
                have HXec := Lib.hid hbox
                clear hst hlj hown hbel hbox hje hjl hble hljc
                have qq13 := heap_cell HXec.out 13
                simp at qq13
                have HC := Lib.hid (rmany_any ojc cjc ljc gs.length wr (by omega) (by omega) (row_bytes' HOec.out))
                go_wp2_with fail
                refine HC.out.mono ?_
                clear HC qq13
                rintro ee W212 ⟨v212, rfl, h212, hb212⟩
                obtain ⟨lc212, hlc⟩ : ∃ lc9, lc9 = ljc ++ uv gs.length := ⟨_, rfl⟩
                rw [← hlc] at h212
                have hn212 : lc212.length ≤ ljc.length + (uv gs.length).length := by rw [hlc, List.length_append]; exact Nat.le_refl _
                have HLc212 := Lib.hid hlc
                clear hlc
                obtain ⟨a212, m212, c212, rfl⟩ := row_slice h212
                have hm212 := row_len' h212
                subst hm212
                have HBel212 := Lib.hid (HBec.out.trans (hb212.mono HBec.out.size))
                have HO212 : Hid (Own5 W.heap.size W212 (.slice a212 lc212.length c212) lc212) := row_lower h212 HBec.out.size
                have HXb212 := Lib.hid ((hb212.block _ (heap_lt HXec.out)).trans HXec.out)
                clear h212 hb212
                have qq := heap_cell HXb212.out 13
                simp at qq
                go_wp2_with fail
                go_loopw [3, 118] (fun bv iv wr => ∃ (j : Nat) (oa : Option Addr) (oc : Nat) (lj : List UInt8), bv = .slice oa lj.length oc ∧ iv = .int .i64 j ∧ j ≤ gs.length ∧ Hid (lj = lc212 ++ bodyE argE (gs.take j) ∧ Own5 W.heap.size wr (.slice oa lj.length oc) lj ∧ Below W.heap.size W wr ∧ wr.heap[x]? = some (.cells #[.string cl, .int .u64 (id : Int), .int .i64 kd, .int .i64 hw, .string tk, .int .u64 (n : Int), .string ty, .string f1, .string f2, .string f3, .slice wa ws.length wq, .slice pa ps.length pc, .slice aa ks.length ac, .slice ga gs.length gc] 54 (0, 0)))) (fun _ iv _ => gs.length - (intOf iv).toNat)
                case atStart => exact ⟨0, a212, c212, lc212, rfl, rfl, Nat.zero_le _, by rw [List.take_zero]; simp [bodyE], HO212.out, HBel212.out, HXb212.out⟩
                case round =>
                  clear HO212 HBel212 HXb212 qq
                  obtain ⟨jd, ojd, cjd, ljd, rfl, rfl, hjd, hst⟩ := hrel
                  obtain ⟨hlj, hown, hbel, hbox⟩ := hst.out
                  have hble := body_le argE gs jd
                  have hljd : ljd.length ≤ lc212.length + (bodyE argE (gs.take jd)).length := by rw [hlj, List.length_append]; exact Nat.le_refl _
                  by_cases hjl : jd < gs.length
                  · have dj : decide ((jd : Int) < (gs.length : Int)) = true := decide_eq_true (by omega)
                    have dj2 : decide (jd < gs.length) = true := decide_eq_true (by omega)
                    have hij : (jd : Int) < (gs.length : Int) := by omega
                    obtain ⟨b, off, rfl, hb, hc⟩ := (HGs.out.below hbel) (by omega)
                    have c0 := hc jd hjl 0 (by omega)
                    have c1 := hc jd hjl 1 (by omega)
                    have c2 := hc jd hjl 2 (by omega)
                    have c3 := hc jd hjl 3 (by omega)
                    have hbt := body_take argE gs jd hjl
                    have hble2 := body_le argE gs (jd + 1)
                    rw [hbt, List.length_append] at hble2
                    have hmem := getD_mem hjl
                    have HBt := Lib.hid hbt
                    have HLj := Lib.hid hlj
                    have HOj := Lib.hid hown
                    have HBj := Lib.hid hbel
                    have HXj := Lib.hid hbox
                    have hgy := HGk.out _ hmem
                    clear hst hc hbt hlj hown hbel hbox
                    generalize gs.getD jd default = y at *
                    obtain ⟨ya, ym, yn, yb⟩ := y
                    simp [argC] at c0 c1 c2 c3
                    have hwe : (argE (ya, ym, yn, yb)).length = (txt ya).length + ((intE ym).length + ((intE yn).length + (txt yb).length)) := by unfold argE; simp only [List.length_append]
                    have hba213 := (Below.refl wr.heap.size wr).alloc (Nat.le_refl _) (.cells #[.string ya, .int .i64 ym, .int .i64 yn, .string yb] 142)
                    obtain ⟨W213, hV213⟩ : ∃ V9, V9 = (wr.alloc (.cells #[.string ya, .int .i64 ym, .int .i64 yn, .string yb] 142)).drew := ⟨_, rfl⟩
                    have HBel213 : Hid (Below W.heap.size W W213) := (by rw [hV213]; exact (HBj.out.trans (hba213.mono HBj.out.size)).drew : Below W.heap.size W W213)
                    have HO213 : Hid (Own5 W.heap.size W213 (.slice ojd ljd.length cjd) ljd) := (by rw [hV213]; exact Below.row hba213.drew HOj.out : Own5 W.heap.size W213 (.slice ojd ljd.length cjd) ljd)
                    have HXb213 : Hid (W213.heap[x]? = some (.cells #[.string cl, .int .u64 (id : Int), .int .i64 kd, .int .i64 hw, .string tk, .int .u64 (n : Int), .string ty, .string f1, .string f2, .string f3, .slice wa ws.length wq, .slice pa ps.length pc, .slice aa ks.length ac, .slice (some ⟨b, off, none⟩) gs.length gc] 54 (0, 0))) := (by rw [hV213]; exact (hba213.block _ (heap_lt HXj.out)).trans HXj.out : W213.heap[x]? = some (.cells #[.string cl, .int .u64 (id : Int), .int .i64 kd, .int .i64 hw, .string tk, .int .u64 (n : Int), .string ty, .string f1, .string f2, .string f3, .slice wa ws.length wq, .slice pa ps.length pc, .slice aa ks.length ac, .slice (some ⟨b, off, none⟩) gs.length gc] 54 (0, 0)))
                    have HXl213 : Hid (W213.heap[wr.heap.size]? = some (.cells #[.string ya, .int .i64 ym, .int .i64 yn, .string yb] 142 (0, 0))) := (by rw [hV213]; exact heap_alloc_new wr _ : W213.heap[wr.heap.size]? = some (.cells #[.string ya, .int .i64 ym, .int .i64 yn, .string yb] 142 (0, 0)))
                    have hS0 : W213.cell? ⟨wr.heap.size, 0, none⟩ = some (.string ya) ∧ W213.cell? ⟨wr.heap.size, 1, none⟩ = some (.int .i64 ym) ∧ W213.cell? ⟨wr.heap.size, 2, none⟩ = some (.int .i64 yn) ∧ W213.cell? ⟨wr.heap.size, 3, none⟩ = some (.string yb) := ⟨heap_cell HXl213.out 0, heap_cell HXl213.out 1, heap_cell HXl213.out 2, heap_cell HXl213.out 3⟩
                    go_wp2_with fail
                    try refine wp_region_noPanic ?_
                    refine wp_region_held_drew (S := fun w' => w'.cell? ⟨wr.heap.size, 0, none⟩ = some (.string ya) ∧ w'.cell? ⟨wr.heap.size, 1, none⟩ = some (.int .i64 ym) ∧ w'.cell? ⟨wr.heap.size, 2, none⟩ = some (.int .i64 yn) ∧ w'.cell? ⟨wr.heap.size, 3, none⟩ = some (.string yb)) (by kernel_rfl) (by rw [← hV213]; exact hS0) (fun hHeld => ?_)
                    rw [← hV213] at hHeld ⊢
                    clear hV213 hS0 hba213
                    refine take_at 0 122 (v := ?_) rfl rfl (by kernel_rfl) (by kernel_rfl) (by kernel_rfl) (fun _ _ _ h => h) (Or.inl ⟨by rfl, ?_⟩) hHeld ?_
                    rotate_left
                    · (intro w hSw; (try dsimp only at hSw); go_simp; try with_reducible rfl)
                    try simp only [List.setIfInBounds_toArray, List.set_cons_zero, List.set_cons_succ]
                    refine take_at 1 123 (v := ?_) rfl rfl (by kernel_rfl) (by kernel_rfl) (by kernel_rfl) (fun _ _ _ h => h) (Or.inl ⟨by rfl, ?_⟩) hHeld ?_
                    rotate_left
                    · (intro w hSw; (try dsimp only at hSw); go_simp; try with_reducible rfl)
                    try simp only [List.setIfInBounds_toArray, List.set_cons_zero, List.set_cons_succ]
                    refine take_at 2 124 (v := ?_) rfl rfl (by kernel_rfl) (by kernel_rfl) (by kernel_rfl) (fun _ _ _ h => h) (Or.inl ⟨by rfl, ?_⟩) hHeld ?_
                    rotate_left
                    · (intro w hSw; (try dsimp only at hSw); go_simp; try with_reducible rfl)
                    try simp only [List.setIfInBounds_toArray, List.set_cons_zero, List.set_cons_succ]
                    refine take_at 5 127 (v := ?_) rfl rfl (by kernel_rfl) (by kernel_rfl) (by kernel_rfl) (fun _ _ _ h => h) (Or.inl ⟨by rfl, ?_⟩) hHeld ?_
                    rotate_left
                    · (intro w hSw; (try dsimp only at hSw); go_simp; try with_reducible rfl)
                    try simp only [List.setIfInBounds_toArray, List.set_cons_zero, List.set_cons_succ]
                    refine take_at 6 128 (v := ?_) rfl rfl (by kernel_rfl) (by kernel_rfl) (by kernel_rfl) (fun _ _ _ h => h) (Or.inl ⟨by rfl, ?_⟩) hHeld ?_
                    rotate_left
                    · (intro w hSw; (try dsimp only at hSw); go_simp; try with_reducible rfl)
                    try simp only [List.setIfInBounds_toArray, List.set_cons_zero, List.set_cons_succ]
                    refine take_at 7 129 (v := ?_) rfl rfl (by kernel_rfl) (by kernel_rfl) (by kernel_rfl) (fun _ _ _ h => h) (Or.inl ⟨by rfl, ?_⟩) hHeld ?_
                    rotate_left
                    · (intro w hSw; (try dsimp only at hSw); go_simp; try with_reducible rfl)
                    try simp only [List.setIfInBounds_toArray, List.set_cons_zero, List.set_cons_succ]
                    refine take_at 9 131 (v := ?_) rfl rfl (by kernel_rfl) (by kernel_rfl) (by kernel_rfl) (fun _ _ _ h => h) (Or.inl ⟨by rfl, ?_⟩) hHeld ?_
                    rotate_left
                    · (intro w hSw; (try dsimp only at hSw); go_simp; try with_reducible rfl)
                    try simp only [List.setIfInBounds_toArray, List.set_cons_zero, List.set_cons_succ]
                    refine take_at 10 132 (v := ?_) rfl rfl (by kernel_rfl) (by kernel_rfl) (by kernel_rfl) (fun _ _ _ h => h) (Or.inl ⟨by rfl, ?_⟩) hHeld ?_
                    rotate_left
                    · (intro w hSw; (try dsimp only at hSw); go_simp; try with_reducible rfl)
                    try simp only [List.setIfInBounds_toArray, List.set_cons_zero, List.set_cons_succ]
                    refine take_at 11 133 (v := ?_) rfl rfl (by kernel_rfl) (by kernel_rfl) (by kernel_rfl) (fun _ _ _ h => h) (Or.inl ⟨by rfl, ?_⟩) hHeld ?_
                    rotate_left
                    · (intro w hSw; (try dsimp only at hSw); go_simp; try with_reducible rfl)
                    try simp only [List.setIfInBounds_toArray, List.set_cons_zero, List.set_cons_succ]
                    refine take_at 13 135 (v := ?_) rfl rfl (by kernel_rfl) (by kernel_rfl) (by kernel_rfl) (fun _ _ _ h => h) (Or.inl ⟨by rfl, ?_⟩) hHeld ?_
                    rotate_left
                    · (intro w hSw; (try dsimp only at hSw); go_simp; try with_reducible rfl)
                    try simp only [List.setIfInBounds_toArray, List.set_cons_zero, List.set_cons_succ]
                    refine take_at 14 136 (v := ?_) rfl rfl (by kernel_rfl) (by kernel_rfl) (by kernel_rfl) (fun _ _ _ h => h) (Or.inl ⟨by rfl, ?_⟩) hHeld ?_
                    rotate_left
                    · (intro w hSw; (try dsimp only at hSw); go_simp; try with_reducible rfl)
                    try simp only [List.setIfInBounds_toArray, List.set_cons_zero, List.set_cons_succ]
                    refine take_at 15 137 (v := ?_) rfl rfl (by kernel_rfl) (by kernel_rfl) (by kernel_rfl) (fun _ _ _ h => h) (Or.inl ⟨by rfl, ?_⟩) hHeld ?_
                    rotate_left
                    · (intro w hSw; (try dsimp only at hSw); go_simp; try with_reducible rfl)
                    try simp only [List.setIfInBounds_toArray, List.set_cons_zero, List.set_cons_succ]
                    refine two_at 3 16 125 138 (by kernel_rfl) rfl rfl (by rfl) rfl rfl (by rfl) (fun K hK => ?_) (fun K hK => ?_)
                    · go_simp
                      have hk214_0 := cell_alloc_of (.cells #[.string ya] 9) (heap_cell HXl213.out 0)
                      have hk214_1 := cell_alloc_of (.cells #[.string ya] 9) (heap_cell HXl213.out 1)
                      have hk214_2 := cell_alloc_of (.cells #[.string ya] 9) (heap_cell HXl213.out 2)
                      have hk214_3 := cell_alloc_of (.cells #[.string ya] 9) (heap_cell HXl213.out 3)
                      refine hK.out _ _ (⟨hk214_0, hk214_1, hk214_2, hk214_3⟩) (fun hHeld2 => ?_)
                      clear hK K hHeld
                      have hHeld := hHeld2
                      clear hHeld2
                      try simp only [Act.put, List.setIfInBounds_toArray, List.set_cons_zero, List.set_cons_succ]
                      clear hk214_0 hk214_1 hk214_2 hk214_3
                      obtain ⟨W214, hW214⟩ : ∃ w9, w9 = (W213.alloc (.cells #[.string ya] 9)) := ⟨_, rfl⟩
                      have hbl214 : Below W213.heap.size W213 W214 := by rw [hW214]; exact (Below.refl _ _).alloc (Nat.le_refl _) _
                      have hlt214 : W213.heap.size < W214.heap.size := by rw [hW214, alloc_size]; omega
                      have HTa214n : Hid (IsStrs W214 (some ⟨W213.heap.size, 0, none⟩) [ya]) := (by rw [hW214]; exact strs_new W213 [ya] : IsStrs W214 (some ⟨W213.heap.size, 0, none⟩) [ya])
                      have HBel214 := Lib.hid (HBel213.out.trans (hbl214.mono HBel213.out.size))
                      have HO214 : Hid (Own5 W.heap.size W214 (.slice ojd ljd.length cjd) ljd) := Below.row hbl214 HO213.out
                      have HXb214 := Lib.hid ((hbl214.block _ (heap_lt HXb213.out)).trans HXb213.out)
                      have HXl214 := Lib.hid ((hbl214.block _ (heap_lt HXl213.out)).trans HXl213.out)
                      rw [← hW214] at hHeld ⊢
                      clear hW214 hbl214
                      refine two_at 4 16 126 138 (by kernel_rfl) rfl rfl (by rfl) rfl rfl (by rfl) (fun K hK => ?_) (fun K hK => ?_)
                      · go_simp
                        refine (rtexts_any ojd cjd ljd (some ⟨W213.heap.size, 0, none⟩) 1 [ya] W214 (by rw [body1]; omega) (by show 0 < 1; omega) (by show 1 ≤ 1000000; omega) (row_bytes' HO214.out) HTa214n.out).mono ?_
                        rintro ee W215 ⟨v215, rfl, h215, hb215⟩
                        rw [body1] at h215
                        obtain ⟨lc215, hlc⟩ : ∃ lc9, lc9 = ljd ++ txt ya := ⟨_, rfl⟩
                        rw [← hlc] at h215
                        have hn215 : lc215.length ≤ ljd.length + (txt ya).length := by rw [hlc, List.length_append]; exact Nat.le_refl _
                        have HLc215 := Lib.hid hlc
                        clear hlc
                        obtain ⟨a215, m215, c215, rfl⟩ := row_slice h215
                        have hm215 := row_len' h215
                        subst hm215
                        have HBel215 := Lib.hid (HBel214.out.trans (hb215.mono HBel214.out.size))
                        have HO215 : Hid (Own5 W.heap.size W215 (.slice a215 lc215.length c215) lc215) := row_lower h215 HBel214.out.size
                        have HXb215 := Lib.hid ((hb215.block _ (heap_lt HXb214.out)).trans HXb214.out)
                        have HXl215 := Lib.hid ((hb215.block _ (heap_lt HXl214.out)).trans HXl214.out)
                        clear h215 hb215
                        go_wp2_with fail
                        refine hK.out _ _ (⟨heap_cell HXl215.out 0, heap_cell HXl215.out 1, heap_cell HXl215.out 2, heap_cell HXl215.out 3⟩) (fun hHeld2 => ?_)
                        clear hK K hHeld
                        have hHeld := hHeld2
                        clear hHeld2
                        try simp only [Act.put, List.setIfInBounds_toArray, List.set_cons_zero, List.set_cons_succ]
                        refine two_at 8 16 130 138 (by kernel_rfl) rfl rfl (by rfl) rfl rfl (by rfl) (fun K hK => ?_) (fun K hK => ?_)
                        · go_simp
                          refine (rwhole_any a215 c215 lc215 ym W215 (by omega) hgy.1 (row_bytes' HO215.out)).mono ?_
                          rintro ee W216 ⟨v216, rfl, h216, hb216⟩
                          obtain ⟨lc216, hlc⟩ : ∃ lc9, lc9 = lc215 ++ intE ym := ⟨_, rfl⟩
                          rw [← hlc] at h216
                          have hn216 : lc216.length ≤ lc215.length + (intE ym).length := by rw [hlc, List.length_append]; exact Nat.le_refl _
                          have HLc216 := Lib.hid hlc
                          clear hlc
                          obtain ⟨a216, m216, c216, rfl⟩ := row_slice h216
                          have hm216 := row_len' h216
                          subst hm216
                          have HBel216 := Lib.hid (HBel215.out.trans (hb216.mono HBel215.out.size))
                          have HO216 : Hid (Own5 W.heap.size W216 (.slice a216 lc216.length c216) lc216) := row_lower h216 HBel215.out.size
                          have HXb216 := Lib.hid ((hb216.block _ (heap_lt HXb215.out)).trans HXb215.out)
                          have HXl216 := Lib.hid ((hb216.block _ (heap_lt HXl215.out)).trans HXl215.out)
                          clear h216 hb216
                          go_wp2_with fail
                          refine hK.out _ _ (⟨heap_cell HXl216.out 0, heap_cell HXl216.out 1, heap_cell HXl216.out 2, heap_cell HXl216.out 3⟩) (fun hHeld2 => ?_)
                          clear hK K hHeld
                          have hHeld := hHeld2
                          clear hHeld2
                          try simp only [Act.put, List.setIfInBounds_toArray, List.set_cons_zero, List.set_cons_succ]
                          refine two_at 12 16 134 138 (by kernel_rfl) rfl rfl (by rfl) rfl rfl (by rfl) (fun K hK => ?_) (fun K hK => ?_)
                          · go_simp
                            refine (rwhole_any a216 c216 lc216 yn W216 (by omega) hgy.2 (row_bytes' HO216.out)).mono ?_
                            rintro ee W217 ⟨v217, rfl, h217, hb217⟩
                            obtain ⟨lc217, hlc⟩ : ∃ lc9, lc9 = lc216 ++ intE yn := ⟨_, rfl⟩
                            rw [← hlc] at h217
                            have hn217 : lc217.length ≤ lc216.length + (intE yn).length := by rw [hlc, List.length_append]; exact Nat.le_refl _
                            have HLc217 := Lib.hid hlc
                            clear hlc
                            obtain ⟨a217, m217, c217, rfl⟩ := row_slice h217
                            have hm217 := row_len' h217
                            subst hm217
                            have HBel217 := Lib.hid (HBel216.out.trans (hb217.mono HBel216.out.size))
                            have HO217 : Hid (Own5 W.heap.size W217 (.slice a217 lc217.length c217) lc217) := row_lower h217 HBel216.out.size
                            have HXb217 := Lib.hid ((hb217.block _ (heap_lt HXb216.out)).trans HXb216.out)
                            have HXl217 := Lib.hid ((hb217.block _ (heap_lt HXl216.out)).trans HXl216.out)
                            clear h217 hb217
                            go_wp2_with fail
                            refine hK.out _ _ (⟨heap_cell HXl217.out 0, heap_cell HXl217.out 1, heap_cell HXl217.out 2, heap_cell HXl217.out 3⟩) (fun hHeld2 => ?_)
                            clear hK K hHeld
                            have hHeld := hHeld2
                            clear hHeld2
                            try simp only [Act.put, List.setIfInBounds_toArray, List.set_cons_zero, List.set_cons_succ]
                            refine only_at 16 138 (by kernel_rfl) rfl rfl (by rfl) (fun K hK => ?_)
                            go_simp
                            have hk218_0 := cell_alloc_of (.cells #[.string yb] 9) (heap_cell HXl217.out 0)
                            have hk218_1 := cell_alloc_of (.cells #[.string yb] 9) (heap_cell HXl217.out 1)
                            have hk218_2 := cell_alloc_of (.cells #[.string yb] 9) (heap_cell HXl217.out 2)
                            have hk218_3 := cell_alloc_of (.cells #[.string yb] 9) (heap_cell HXl217.out 3)
                            refine hK.out _ _ (⟨hk218_0, hk218_1, hk218_2, hk218_3⟩) (fun hHeld2 => ?_)
                            clear hK K hHeld
                            have hHeld := hHeld2
                            clear hHeld2
                            try simp only [Act.put, List.setIfInBounds_toArray, List.set_cons_zero, List.set_cons_succ]
                            clear hk218_0 hk218_1 hk218_2 hk218_3
                            obtain ⟨W218, hW218⟩ : ∃ w9, w9 = (W217.alloc (.cells #[.string yb] 9)) := ⟨_, rfl⟩
                            have hbl218 : Below W217.heap.size W217 W218 := by rw [hW218]; exact (Below.refl _ _).alloc (Nat.le_refl _) _
                            have hlt218 : W217.heap.size < W218.heap.size := by rw [hW218, alloc_size]; omega
                            have HTb218n : Hid (IsStrs W218 (some ⟨W217.heap.size, 0, none⟩) [yb]) := (by rw [hW218]; exact strs_new W217 [yb] : IsStrs W218 (some ⟨W217.heap.size, 0, none⟩) [yb])
                            have HBel218 := Lib.hid (HBel217.out.trans (hbl218.mono HBel217.out.size))
                            have HO218 : Hid (Own5 W.heap.size W218 (.slice a217 lc217.length c217) lc217) := Below.row hbl218 HO217.out
                            have HXb218 := Lib.hid ((hbl218.block _ (heap_lt HXb217.out)).trans HXb217.out)
                            have HXl218 := Lib.hid ((hbl218.block _ (heap_lt HXl217.out)).trans HXl217.out)
                            rw [← hW218] at hHeld ⊢
                            clear hW218 hbl218
                            refine only_at 17 139 (by kernel_rfl) rfl rfl (by rfl) (fun K hK => ?_)
                            go_simp
                            refine (rtexts_any a217 c217 lc217 (some ⟨W217.heap.size, 0, none⟩) 1 [yb] W218 (by rw [body1]; omega) (by show 0 < 1; omega) (by show 1 ≤ 1000000; omega) (row_bytes' HO218.out) HTb218n.out).mono ?_
                            rintro ee W219 ⟨v219, rfl, h219, hb219⟩
                            rw [body1] at h219
                            obtain ⟨lc219, hlc⟩ : ∃ lc9, lc9 = lc217 ++ txt yb := ⟨_, rfl⟩
                            rw [← hlc] at h219
                            have hn219 : lc219.length ≤ lc217.length + (txt yb).length := by rw [hlc, List.length_append]; exact Nat.le_refl _
                            have HLc219 := Lib.hid hlc
                            clear hlc
                            obtain ⟨a219, m219, c219, rfl⟩ := row_slice h219
                            have hm219 := row_len' h219
                            subst hm219
                            have HBel219 := Lib.hid (HBel218.out.trans (hb219.mono HBel218.out.size))
                            have HO219 : Hid (Own5 W.heap.size W219 (.slice a219 lc219.length c219) lc219) := row_lower h219 HBel218.out.size
                            have HXb219 := Lib.hid ((hb219.block _ (heap_lt HXb218.out)).trans HXb218.out)
                            have HXl219 := Lib.hid ((hb219.block _ (heap_lt HXl218.out)).trans HXl218.out)
                            clear h219 hb219
                            go_wp2_with fail
                            refine hK.out _ _ (⟨heap_cell HXl219.out 0, heap_cell HXl219.out 1, heap_cell HXl219.out 2, heap_cell HXl219.out 3⟩) (fun hHeld2 => ?_)
                            clear hK K hHeld
                            have hHeld := hHeld2
                            clear hHeld2
                            try simp only [Act.put, List.setIfInBounds_toArray, List.set_cons_zero, List.set_cons_succ]
                            refine take_at 18 3 (v := ?_) rfl rfl (by kernel_rfl) (by kernel_rfl) (by kernel_rfl) (fun _ _ _ h => h) (Or.inl ⟨by rfl, ?_⟩) hHeld ?_
                            rotate_left
                            · (intro w hSw; (try dsimp only at hSw); go_simp; try with_reducible rfl)
                            try simp only [List.setIfInBounds_toArray, List.set_cons_zero, List.set_cons_succ]
                            refine wpAnyH_done (by kernel_rfl) ?_ _
                            try refine NoPanic.normal ?_
                            have HRN : Hid (lc219 = lc212 ++ bodyE argE (gs.take (jd + 1)) ∧ Own5 W.heap.size W219 (.slice a219 lc219.length c219) lc219 ∧ Below W.heap.size W W219 ∧ W219.heap[x]? = some (.cells #[.string cl, .int .u64 (id : Int), .int .i64 kd, .int .i64 hw, .string tk, .int .u64 (n : Int), .string ty, .string f1, .string f2, .string f3, .slice wa ws.length wq, .slice pa ps.length pc, .slice aa ks.length ac, .slice (some ⟨b, off, none⟩) gs.length gc] 54 (0, 0))) := ⟨by
                              rw [HLc219.out, HLc217.out, HLc216.out, HLc215.out, HLj.out, HBt.out]
                              simp only [argE, List.append_assoc], HO219.out, HBel219.out, HXb219.out⟩
                            clear hjl hble hble2
                            go_wp2_with fail
                            go_roundw
                            case rel => exact ⟨jd + 1, a219, c219, lc219, rfl, by go_num, by omega, HRN⟩
                            case measure => first | (simp [intOf]; done) | (simp [intOf]; omega)
                          · go_simp
                            have hk217_0 := cell_alloc_of (.cells #[.string yb] 9) (heap_cell HXl216.out 0)
                            have hk217_1 := cell_alloc_of (.cells #[.string yb] 9) (heap_cell HXl216.out 1)
                            have hk217_2 := cell_alloc_of (.cells #[.string yb] 9) (heap_cell HXl216.out 2)
                            have hk217_3 := cell_alloc_of (.cells #[.string yb] 9) (heap_cell HXl216.out 3)
                            refine hK.out _ _ (⟨hk217_0, hk217_1, hk217_2, hk217_3⟩) (fun hHeld2 => ?_)
                            clear hK K hHeld
                            have hHeld := hHeld2
                            clear hHeld2
                            try simp only [Act.put, List.setIfInBounds_toArray, List.set_cons_zero, List.set_cons_succ]
                            clear hk217_0 hk217_1 hk217_2 hk217_3
                            obtain ⟨W217, hW217⟩ : ∃ w9, w9 = (W216.alloc (.cells #[.string yb] 9)) := ⟨_, rfl⟩
                            have hbl217 : Below W216.heap.size W216 W217 := by rw [hW217]; exact (Below.refl _ _).alloc (Nat.le_refl _) _
                            have hlt217 : W216.heap.size < W217.heap.size := by rw [hW217, alloc_size]; omega
                            have HTb217n : Hid (IsStrs W217 (some ⟨W216.heap.size, 0, none⟩) [yb]) := (by rw [hW217]; exact strs_new W216 [yb] : IsStrs W217 (some ⟨W216.heap.size, 0, none⟩) [yb])
                            have HBel217 := Lib.hid (HBel216.out.trans (hbl217.mono HBel216.out.size))
                            have HO217 : Hid (Own5 W.heap.size W217 (.slice a216 lc216.length c216) lc216) := Below.row hbl217 HO216.out
                            have HXb217 := Lib.hid ((hbl217.block _ (heap_lt HXb216.out)).trans HXb216.out)
                            have HXl217 := Lib.hid ((hbl217.block _ (heap_lt HXl216.out)).trans HXl216.out)
                            rw [← hW217] at hHeld ⊢
                            clear hW217 hbl217
                            refine only_at 12 134 (by kernel_rfl) rfl rfl (by rfl) (fun K hK => ?_)
                            go_simp
                            refine (rwhole_any a216 c216 lc216 yn W217 (by omega) hgy.2 (row_bytes' HO217.out)).mono ?_
                            rintro ee W218 ⟨v218, rfl, h218, hb218⟩
                            obtain ⟨lc218, hlc⟩ : ∃ lc9, lc9 = lc216 ++ intE yn := ⟨_, rfl⟩
                            rw [← hlc] at h218
                            have hn218 : lc218.length ≤ lc216.length + (intE yn).length := by rw [hlc, List.length_append]; exact Nat.le_refl _
                            have HLc218 := Lib.hid hlc
                            clear hlc
                            obtain ⟨a218, m218, c218, rfl⟩ := row_slice h218
                            have hm218 := row_len' h218
                            subst hm218
                            have HBel218 := Lib.hid (HBel217.out.trans (hb218.mono HBel217.out.size))
                            have HO218 : Hid (Own5 W.heap.size W218 (.slice a218 lc218.length c218) lc218) := row_lower h218 HBel217.out.size
                            have HXb218 := Lib.hid ((hb218.block _ (heap_lt HXb217.out)).trans HXb217.out)
                            have HXl218 := Lib.hid ((hb218.block _ (heap_lt HXl217.out)).trans HXl217.out)
                            have HTb218 := Lib.hid (HTb217n.out.below hb218)
                            clear h218 hb218
                            go_wp2_with fail
                            refine hK.out _ _ (⟨heap_cell HXl218.out 0, heap_cell HXl218.out 1, heap_cell HXl218.out 2, heap_cell HXl218.out 3⟩) (fun hHeld2 => ?_)
                            clear hK K hHeld
                            have hHeld := hHeld2
                            clear hHeld2
                            try simp only [Act.put, List.setIfInBounds_toArray, List.set_cons_zero, List.set_cons_succ]
                            refine only_at 17 139 (by kernel_rfl) rfl rfl (by rfl) (fun K hK => ?_)
                            go_simp
                            refine (rtexts_any a218 c218 lc218 (some ⟨W216.heap.size, 0, none⟩) 1 [yb] W218 (by rw [body1]; omega) (by show 0 < 1; omega) (by show 1 ≤ 1000000; omega) (row_bytes' HO218.out) HTb218.out).mono ?_
                            rintro ee W219 ⟨v219, rfl, h219, hb219⟩
                            rw [body1] at h219
                            obtain ⟨lc219, hlc⟩ : ∃ lc9, lc9 = lc218 ++ txt yb := ⟨_, rfl⟩
                            rw [← hlc] at h219
                            have hn219 : lc219.length ≤ lc218.length + (txt yb).length := by rw [hlc, List.length_append]; exact Nat.le_refl _
                            have HLc219 := Lib.hid hlc
                            clear hlc
                            obtain ⟨a219, m219, c219, rfl⟩ := row_slice h219
                            have hm219 := row_len' h219
                            subst hm219
                            have HBel219 := Lib.hid (HBel218.out.trans (hb219.mono HBel218.out.size))
                            have HO219 : Hid (Own5 W.heap.size W219 (.slice a219 lc219.length c219) lc219) := row_lower h219 HBel218.out.size
                            have HXb219 := Lib.hid ((hb219.block _ (heap_lt HXb218.out)).trans HXb218.out)
                            have HXl219 := Lib.hid ((hb219.block _ (heap_lt HXl218.out)).trans HXl218.out)
                            clear h219 hb219
                            go_wp2_with fail
                            refine hK.out _ _ (⟨heap_cell HXl219.out 0, heap_cell HXl219.out 1, heap_cell HXl219.out 2, heap_cell HXl219.out 3⟩) (fun hHeld2 => ?_)
                            clear hK K hHeld
                            have hHeld := hHeld2
                            clear hHeld2
                            try simp only [Act.put, List.setIfInBounds_toArray, List.set_cons_zero, List.set_cons_succ]
                            refine take_at 18 3 (v := ?_) rfl rfl (by kernel_rfl) (by kernel_rfl) (by kernel_rfl) (fun _ _ _ h => h) (Or.inl ⟨by rfl, ?_⟩) hHeld ?_
                            rotate_left
                            · (intro w hSw; (try dsimp only at hSw); go_simp; try with_reducible rfl)
                            try simp only [List.setIfInBounds_toArray, List.set_cons_zero, List.set_cons_succ]
                            refine wpAnyH_done (by kernel_rfl) ?_ _
                            try refine NoPanic.normal ?_
                            have HRN : Hid (lc219 = lc212 ++ bodyE argE (gs.take (jd + 1)) ∧ Own5 W.heap.size W219 (.slice a219 lc219.length c219) lc219 ∧ Below W.heap.size W W219 ∧ W219.heap[x]? = some (.cells #[.string cl, .int .u64 (id : Int), .int .i64 kd, .int .i64 hw, .string tk, .int .u64 (n : Int), .string ty, .string f1, .string f2, .string f3, .slice wa ws.length wq, .slice pa ps.length pc, .slice aa ks.length ac, .slice (some ⟨b, off, none⟩) gs.length gc] 54 (0, 0))) := ⟨by
                              rw [HLc219.out, HLc218.out, HLc216.out, HLc215.out, HLj.out, HBt.out]
                              simp only [argE, List.append_assoc], HO219.out, HBel219.out, HXb219.out⟩
                            clear hjl hble hble2
                            go_wp2_with fail
                            go_roundw
                            case rel => exact ⟨jd + 1, a219, c219, lc219, rfl, by go_num, by omega, HRN⟩
                            case measure => first | (simp [intOf]; done) | (simp [intOf]; omega)
                        · go_simp
                          have hk216_0 := cell_alloc_of (.cells #[.string yb] 9) (heap_cell HXl215.out 0)
                          have hk216_1 := cell_alloc_of (.cells #[.string yb] 9) (heap_cell HXl215.out 1)
                          have hk216_2 := cell_alloc_of (.cells #[.string yb] 9) (heap_cell HXl215.out 2)
                          have hk216_3 := cell_alloc_of (.cells #[.string yb] 9) (heap_cell HXl215.out 3)
                          refine hK.out _ _ (⟨hk216_0, hk216_1, hk216_2, hk216_3⟩) (fun hHeld2 => ?_)
                          clear hK K hHeld
                          have hHeld := hHeld2
                          clear hHeld2
                          try simp only [Act.put, List.setIfInBounds_toArray, List.set_cons_zero, List.set_cons_succ]
                          clear hk216_0 hk216_1 hk216_2 hk216_3
                          obtain ⟨W216, hW216⟩ : ∃ w9, w9 = (W215.alloc (.cells #[.string yb] 9)) := ⟨_, rfl⟩
                          have hbl216 : Below W215.heap.size W215 W216 := by rw [hW216]; exact (Below.refl _ _).alloc (Nat.le_refl _) _
                          have hlt216 : W215.heap.size < W216.heap.size := by rw [hW216, alloc_size]; omega
                          have HTb216n : Hid (IsStrs W216 (some ⟨W215.heap.size, 0, none⟩) [yb]) := (by rw [hW216]; exact strs_new W215 [yb] : IsStrs W216 (some ⟨W215.heap.size, 0, none⟩) [yb])
                          have HBel216 := Lib.hid (HBel215.out.trans (hbl216.mono HBel215.out.size))
                          have HO216 : Hid (Own5 W.heap.size W216 (.slice a215 lc215.length c215) lc215) := Below.row hbl216 HO215.out
                          have HXb216 := Lib.hid ((hbl216.block _ (heap_lt HXb215.out)).trans HXb215.out)
                          have HXl216 := Lib.hid ((hbl216.block _ (heap_lt HXl215.out)).trans HXl215.out)
                          rw [← hW216] at hHeld ⊢
                          clear hW216 hbl216
                          refine only_at 8 130 (by kernel_rfl) rfl rfl (by rfl) (fun K hK => ?_)
                          go_simp
                          refine (rwhole_any a215 c215 lc215 ym W216 (by omega) hgy.1 (row_bytes' HO216.out)).mono ?_
                          rintro ee W217 ⟨v217, rfl, h217, hb217⟩
                          obtain ⟨lc217, hlc⟩ : ∃ lc9, lc9 = lc215 ++ intE ym := ⟨_, rfl⟩
                          rw [← hlc] at h217
                          have hn217 : lc217.length ≤ lc215.length + (intE ym).length := by rw [hlc, List.length_append]; exact Nat.le_refl _
                          have HLc217 := Lib.hid hlc
                          clear hlc
                          obtain ⟨a217, m217, c217, rfl⟩ := row_slice h217
                          have hm217 := row_len' h217
                          subst hm217
                          have HBel217 := Lib.hid (HBel216.out.trans (hb217.mono HBel216.out.size))
                          have HO217 : Hid (Own5 W.heap.size W217 (.slice a217 lc217.length c217) lc217) := row_lower h217 HBel216.out.size
                          have HXb217 := Lib.hid ((hb217.block _ (heap_lt HXb216.out)).trans HXb216.out)
                          have HXl217 := Lib.hid ((hb217.block _ (heap_lt HXl216.out)).trans HXl216.out)
                          have HTb217 := Lib.hid (HTb216n.out.below hb217)
                          clear h217 hb217
                          go_wp2_with fail
                          refine hK.out _ _ (⟨heap_cell HXl217.out 0, heap_cell HXl217.out 1, heap_cell HXl217.out 2, heap_cell HXl217.out 3⟩) (fun hHeld2 => ?_)
                          clear hK K hHeld
                          have hHeld := hHeld2
                          clear hHeld2
                          try simp only [Act.put, List.setIfInBounds_toArray, List.set_cons_zero, List.set_cons_succ]
                          refine only_at 12 134 (by kernel_rfl) rfl rfl (by rfl) (fun K hK => ?_)
                          go_simp
                          refine (rwhole_any a217 c217 lc217 yn W217 (by omega) hgy.2 (row_bytes' HO217.out)).mono ?_
                          rintro ee W218 ⟨v218, rfl, h218, hb218⟩
                          obtain ⟨lc218, hlc⟩ : ∃ lc9, lc9 = lc217 ++ intE yn := ⟨_, rfl⟩
                          rw [← hlc] at h218
                          have hn218 : lc218.length ≤ lc217.length + (intE yn).length := by rw [hlc, List.length_append]; exact Nat.le_refl _
                          have HLc218 := Lib.hid hlc
                          clear hlc
                          obtain ⟨a218, m218, c218, rfl⟩ := row_slice h218
                          have hm218 := row_len' h218
                          subst hm218
                          have HBel218 := Lib.hid (HBel217.out.trans (hb218.mono HBel217.out.size))
                          have HO218 : Hid (Own5 W.heap.size W218 (.slice a218 lc218.length c218) lc218) := row_lower h218 HBel217.out.size
                          have HXb218 := Lib.hid ((hb218.block _ (heap_lt HXb217.out)).trans HXb217.out)
                          have HXl218 := Lib.hid ((hb218.block _ (heap_lt HXl217.out)).trans HXl217.out)
                          have HTb218 := Lib.hid (HTb217.out.below hb218)
                          clear h218 hb218
                          go_wp2_with fail
                          refine hK.out _ _ (⟨heap_cell HXl218.out 0, heap_cell HXl218.out 1, heap_cell HXl218.out 2, heap_cell HXl218.out 3⟩) (fun hHeld2 => ?_)
                          clear hK K hHeld
                          have hHeld := hHeld2
                          clear hHeld2
                          try simp only [Act.put, List.setIfInBounds_toArray, List.set_cons_zero, List.set_cons_succ]
                          refine only_at 17 139 (by kernel_rfl) rfl rfl (by rfl) (fun K hK => ?_)
                          go_simp
                          refine (rtexts_any a218 c218 lc218 (some ⟨W215.heap.size, 0, none⟩) 1 [yb] W218 (by rw [body1]; omega) (by show 0 < 1; omega) (by show 1 ≤ 1000000; omega) (row_bytes' HO218.out) HTb218.out).mono ?_
                          rintro ee W219 ⟨v219, rfl, h219, hb219⟩
                          rw [body1] at h219
                          obtain ⟨lc219, hlc⟩ : ∃ lc9, lc9 = lc218 ++ txt yb := ⟨_, rfl⟩
                          rw [← hlc] at h219
                          have hn219 : lc219.length ≤ lc218.length + (txt yb).length := by rw [hlc, List.length_append]; exact Nat.le_refl _
                          have HLc219 := Lib.hid hlc
                          clear hlc
                          obtain ⟨a219, m219, c219, rfl⟩ := row_slice h219
                          have hm219 := row_len' h219
                          subst hm219
                          have HBel219 := Lib.hid (HBel218.out.trans (hb219.mono HBel218.out.size))
                          have HO219 : Hid (Own5 W.heap.size W219 (.slice a219 lc219.length c219) lc219) := row_lower h219 HBel218.out.size
                          have HXb219 := Lib.hid ((hb219.block _ (heap_lt HXb218.out)).trans HXb218.out)
                          have HXl219 := Lib.hid ((hb219.block _ (heap_lt HXl218.out)).trans HXl218.out)
                          clear h219 hb219
                          go_wp2_with fail
                          refine hK.out _ _ (⟨heap_cell HXl219.out 0, heap_cell HXl219.out 1, heap_cell HXl219.out 2, heap_cell HXl219.out 3⟩) (fun hHeld2 => ?_)
                          clear hK K hHeld
                          have hHeld := hHeld2
                          clear hHeld2
                          try simp only [Act.put, List.setIfInBounds_toArray, List.set_cons_zero, List.set_cons_succ]
                          refine take_at 18 3 (v := ?_) rfl rfl (by kernel_rfl) (by kernel_rfl) (by kernel_rfl) (fun _ _ _ h => h) (Or.inl ⟨by rfl, ?_⟩) hHeld ?_
                          rotate_left
                          · (intro w hSw; (try dsimp only at hSw); go_simp; try with_reducible rfl)
                          try simp only [List.setIfInBounds_toArray, List.set_cons_zero, List.set_cons_succ]
                          refine wpAnyH_done (by kernel_rfl) ?_ _
                          try refine NoPanic.normal ?_
                          have HRN : Hid (lc219 = lc212 ++ bodyE argE (gs.take (jd + 1)) ∧ Own5 W.heap.size W219 (.slice a219 lc219.length c219) lc219 ∧ Below W.heap.size W W219 ∧ W219.heap[x]? = some (.cells #[.string cl, .int .u64 (id : Int), .int .i64 kd, .int .i64 hw, .string tk, .int .u64 (n : Int), .string ty, .string f1, .string f2, .string f3, .slice wa ws.length wq, .slice pa ps.length pc, .slice aa ks.length ac, .slice (some ⟨b, off, none⟩) gs.length gc] 54 (0, 0))) := ⟨by
                            rw [HLc219.out, HLc218.out, HLc217.out, HLc215.out, HLj.out, HBt.out]
                            simp only [argE, List.append_assoc], HO219.out, HBel219.out, HXb219.out⟩
                          clear hjl hble hble2
                          go_wp2_with fail
                          go_roundw
                          case rel => exact ⟨jd + 1, a219, c219, lc219, rfl, by go_num, by omega, HRN⟩
                          case measure => first | (simp [intOf]; done) | (simp [intOf]; omega)
                      · go_simp
                        have hk215_0 := cell_alloc_of (.cells #[.string yb] 9) (heap_cell HXl214.out 0)
                        have hk215_1 := cell_alloc_of (.cells #[.string yb] 9) (heap_cell HXl214.out 1)
                        have hk215_2 := cell_alloc_of (.cells #[.string yb] 9) (heap_cell HXl214.out 2)
                        have hk215_3 := cell_alloc_of (.cells #[.string yb] 9) (heap_cell HXl214.out 3)
                        refine hK.out _ _ (⟨hk215_0, hk215_1, hk215_2, hk215_3⟩) (fun hHeld2 => ?_)
                        clear hK K hHeld
                        have hHeld := hHeld2
                        clear hHeld2
                        try simp only [Act.put, List.setIfInBounds_toArray, List.set_cons_zero, List.set_cons_succ]
                        clear hk215_0 hk215_1 hk215_2 hk215_3
                        obtain ⟨W215, hW215⟩ : ∃ w9, w9 = (W214.alloc (.cells #[.string yb] 9)) := ⟨_, rfl⟩
                        have hbl215 : Below W214.heap.size W214 W215 := by rw [hW215]; exact (Below.refl _ _).alloc (Nat.le_refl _) _
                        have hlt215 : W214.heap.size < W215.heap.size := by rw [hW215, alloc_size]; omega
                        have HTb215n : Hid (IsStrs W215 (some ⟨W214.heap.size, 0, none⟩) [yb]) := (by rw [hW215]; exact strs_new W214 [yb] : IsStrs W215 (some ⟨W214.heap.size, 0, none⟩) [yb])
                        have HBel215 := Lib.hid (HBel214.out.trans (hbl215.mono HBel214.out.size))
                        have HO215 : Hid (Own5 W.heap.size W215 (.slice ojd ljd.length cjd) ljd) := Below.row hbl215 HO214.out
                        have HXb215 := Lib.hid ((hbl215.block _ (heap_lt HXb214.out)).trans HXb214.out)
                        have HXl215 := Lib.hid ((hbl215.block _ (heap_lt HXl214.out)).trans HXl214.out)
                        have HTa215 := Lib.hid (HTa214n.out.below hbl215)
                        rw [← hW215] at hHeld ⊢
                        clear hW215 hbl215
                        refine only_at 4 126 (by kernel_rfl) rfl rfl (by rfl) (fun K hK => ?_)
                        go_simp
                        refine (rtexts_any ojd cjd ljd (some ⟨W213.heap.size, 0, none⟩) 1 [ya] W215 (by rw [body1]; omega) (by show 0 < 1; omega) (by show 1 ≤ 1000000; omega) (row_bytes' HO215.out) HTa215.out).mono ?_
                        rintro ee W216 ⟨v216, rfl, h216, hb216⟩
                        rw [body1] at h216
                        obtain ⟨lc216, hlc⟩ : ∃ lc9, lc9 = ljd ++ txt ya := ⟨_, rfl⟩
                        rw [← hlc] at h216
                        have hn216 : lc216.length ≤ ljd.length + (txt ya).length := by rw [hlc, List.length_append]; exact Nat.le_refl _
                        have HLc216 := Lib.hid hlc
                        clear hlc
                        obtain ⟨a216, m216, c216, rfl⟩ := row_slice h216
                        have hm216 := row_len' h216
                        subst hm216
                        have HBel216 := Lib.hid (HBel215.out.trans (hb216.mono HBel215.out.size))
                        have HO216 : Hid (Own5 W.heap.size W216 (.slice a216 lc216.length c216) lc216) := row_lower h216 HBel215.out.size
                        have HXb216 := Lib.hid ((hb216.block _ (heap_lt HXb215.out)).trans HXb215.out)
                        have HXl216 := Lib.hid ((hb216.block _ (heap_lt HXl215.out)).trans HXl215.out)
                        have HTb216 := Lib.hid (HTb215n.out.below hb216)
                        clear h216 hb216
                        go_wp2_with fail
                        refine hK.out _ _ (⟨heap_cell HXl216.out 0, heap_cell HXl216.out 1, heap_cell HXl216.out 2, heap_cell HXl216.out 3⟩) (fun hHeld2 => ?_)
                        clear hK K hHeld
                        have hHeld := hHeld2
                        clear hHeld2
                        try simp only [Act.put, List.setIfInBounds_toArray, List.set_cons_zero, List.set_cons_succ]
                        refine only_at 8 130 (by kernel_rfl) rfl rfl (by rfl) (fun K hK => ?_)
                        go_simp
                        refine (rwhole_any a216 c216 lc216 ym W216 (by omega) hgy.1 (row_bytes' HO216.out)).mono ?_
                        rintro ee W217 ⟨v217, rfl, h217, hb217⟩
                        obtain ⟨lc217, hlc⟩ : ∃ lc9, lc9 = lc216 ++ intE ym := ⟨_, rfl⟩
                        rw [← hlc] at h217
                        have hn217 : lc217.length ≤ lc216.length + (intE ym).length := by rw [hlc, List.length_append]; exact Nat.le_refl _
                        have HLc217 := Lib.hid hlc
                        clear hlc
                        obtain ⟨a217, m217, c217, rfl⟩ := row_slice h217
                        have hm217 := row_len' h217
                        subst hm217
                        have HBel217 := Lib.hid (HBel216.out.trans (hb217.mono HBel216.out.size))
                        have HO217 : Hid (Own5 W.heap.size W217 (.slice a217 lc217.length c217) lc217) := row_lower h217 HBel216.out.size
                        have HXb217 := Lib.hid ((hb217.block _ (heap_lt HXb216.out)).trans HXb216.out)
                        have HXl217 := Lib.hid ((hb217.block _ (heap_lt HXl216.out)).trans HXl216.out)
                        have HTb217 := Lib.hid (HTb216.out.below hb217)
                        clear h217 hb217
                        go_wp2_with fail
                        refine hK.out _ _ (⟨heap_cell HXl217.out 0, heap_cell HXl217.out 1, heap_cell HXl217.out 2, heap_cell HXl217.out 3⟩) (fun hHeld2 => ?_)
                        clear hK K hHeld
                        have hHeld := hHeld2
                        clear hHeld2
                        try simp only [Act.put, List.setIfInBounds_toArray, List.set_cons_zero, List.set_cons_succ]
                        refine only_at 12 134 (by kernel_rfl) rfl rfl (by rfl) (fun K hK => ?_)
                        go_simp
                        refine (rwhole_any a217 c217 lc217 yn W217 (by omega) hgy.2 (row_bytes' HO217.out)).mono ?_
                        rintro ee W218 ⟨v218, rfl, h218, hb218⟩
                        obtain ⟨lc218, hlc⟩ : ∃ lc9, lc9 = lc217 ++ intE yn := ⟨_, rfl⟩
                        rw [← hlc] at h218
                        have hn218 : lc218.length ≤ lc217.length + (intE yn).length := by rw [hlc, List.length_append]; exact Nat.le_refl _
                        have HLc218 := Lib.hid hlc
                        clear hlc
                        obtain ⟨a218, m218, c218, rfl⟩ := row_slice h218
                        have hm218 := row_len' h218
                        subst hm218
                        have HBel218 := Lib.hid (HBel217.out.trans (hb218.mono HBel217.out.size))
                        have HO218 : Hid (Own5 W.heap.size W218 (.slice a218 lc218.length c218) lc218) := row_lower h218 HBel217.out.size
                        have HXb218 := Lib.hid ((hb218.block _ (heap_lt HXb217.out)).trans HXb217.out)
                        have HXl218 := Lib.hid ((hb218.block _ (heap_lt HXl217.out)).trans HXl217.out)
                        have HTb218 := Lib.hid (HTb217.out.below hb218)
                        clear h218 hb218
                        go_wp2_with fail
                        refine hK.out _ _ (⟨heap_cell HXl218.out 0, heap_cell HXl218.out 1, heap_cell HXl218.out 2, heap_cell HXl218.out 3⟩) (fun hHeld2 => ?_)
                        clear hK K hHeld
                        have hHeld := hHeld2
                        clear hHeld2
                        try simp only [Act.put, List.setIfInBounds_toArray, List.set_cons_zero, List.set_cons_succ]
                        refine only_at 17 139 (by kernel_rfl) rfl rfl (by rfl) (fun K hK => ?_)
                        go_simp
                        refine (rtexts_any a218 c218 lc218 (some ⟨W214.heap.size, 0, none⟩) 1 [yb] W218 (by rw [body1]; omega) (by show 0 < 1; omega) (by show 1 ≤ 1000000; omega) (row_bytes' HO218.out) HTb218.out).mono ?_
                        rintro ee W219 ⟨v219, rfl, h219, hb219⟩
                        rw [body1] at h219
                        obtain ⟨lc219, hlc⟩ : ∃ lc9, lc9 = lc218 ++ txt yb := ⟨_, rfl⟩
                        rw [← hlc] at h219
                        have hn219 : lc219.length ≤ lc218.length + (txt yb).length := by rw [hlc, List.length_append]; exact Nat.le_refl _
                        have HLc219 := Lib.hid hlc
                        clear hlc
                        obtain ⟨a219, m219, c219, rfl⟩ := row_slice h219
                        have hm219 := row_len' h219
                        subst hm219
                        have HBel219 := Lib.hid (HBel218.out.trans (hb219.mono HBel218.out.size))
                        have HO219 : Hid (Own5 W.heap.size W219 (.slice a219 lc219.length c219) lc219) := row_lower h219 HBel218.out.size
                        have HXb219 := Lib.hid ((hb219.block _ (heap_lt HXb218.out)).trans HXb218.out)
                        have HXl219 := Lib.hid ((hb219.block _ (heap_lt HXl218.out)).trans HXl218.out)
                        clear h219 hb219
                        go_wp2_with fail
                        refine hK.out _ _ (⟨heap_cell HXl219.out 0, heap_cell HXl219.out 1, heap_cell HXl219.out 2, heap_cell HXl219.out 3⟩) (fun hHeld2 => ?_)
                        clear hK K hHeld
                        have hHeld := hHeld2
                        clear hHeld2
                        try simp only [Act.put, List.setIfInBounds_toArray, List.set_cons_zero, List.set_cons_succ]
                        refine take_at 18 3 (v := ?_) rfl rfl (by kernel_rfl) (by kernel_rfl) (by kernel_rfl) (fun _ _ _ h => h) (Or.inl ⟨by rfl, ?_⟩) hHeld ?_
                        rotate_left
                        · (intro w hSw; (try dsimp only at hSw); go_simp; try with_reducible rfl)
                        try simp only [List.setIfInBounds_toArray, List.set_cons_zero, List.set_cons_succ]
                        refine wpAnyH_done (by kernel_rfl) ?_ _
                        try refine NoPanic.normal ?_
                        have HRN : Hid (lc219 = lc212 ++ bodyE argE (gs.take (jd + 1)) ∧ Own5 W.heap.size W219 (.slice a219 lc219.length c219) lc219 ∧ Below W.heap.size W W219 ∧ W219.heap[x]? = some (.cells #[.string cl, .int .u64 (id : Int), .int .i64 kd, .int .i64 hw, .string tk, .int .u64 (n : Int), .string ty, .string f1, .string f2, .string f3, .slice wa ws.length wq, .slice pa ps.length pc, .slice aa ks.length ac, .slice (some ⟨b, off, none⟩) gs.length gc] 54 (0, 0))) := ⟨by
                          rw [HLc219.out, HLc218.out, HLc217.out, HLc216.out, HLj.out, HBt.out]
                          simp only [argE, List.append_assoc], HO219.out, HBel219.out, HXb219.out⟩
                        clear hjl hble hble2
                        go_wp2_with fail
                        go_roundw
                        case rel => exact ⟨jd + 1, a219, c219, lc219, rfl, by go_num, by omega, HRN⟩
                        case measure => first | (simp [intOf]; done) | (simp [intOf]; omega)
                    · go_simp
                      have hk214_0 := cell_alloc_of (.cells #[.string yb] 9) (heap_cell HXl213.out 0)
                      have hk214_1 := cell_alloc_of (.cells #[.string yb] 9) (heap_cell HXl213.out 1)
                      have hk214_2 := cell_alloc_of (.cells #[.string yb] 9) (heap_cell HXl213.out 2)
                      have hk214_3 := cell_alloc_of (.cells #[.string yb] 9) (heap_cell HXl213.out 3)
                      refine hK.out _ _ (⟨hk214_0, hk214_1, hk214_2, hk214_3⟩) (fun hHeld2 => ?_)
                      clear hK K hHeld
                      have hHeld := hHeld2
                      clear hHeld2
                      try simp only [Act.put, List.setIfInBounds_toArray, List.set_cons_zero, List.set_cons_succ]
                      clear hk214_0 hk214_1 hk214_2 hk214_3
                      obtain ⟨W214, hW214⟩ : ∃ w9, w9 = (W213.alloc (.cells #[.string yb] 9)) := ⟨_, rfl⟩
                      have hbl214 : Below W213.heap.size W213 W214 := by rw [hW214]; exact (Below.refl _ _).alloc (Nat.le_refl _) _
                      have hlt214 : W213.heap.size < W214.heap.size := by rw [hW214, alloc_size]; omega
                      have HTb214n : Hid (IsStrs W214 (some ⟨W213.heap.size, 0, none⟩) [yb]) := (by rw [hW214]; exact strs_new W213 [yb] : IsStrs W214 (some ⟨W213.heap.size, 0, none⟩) [yb])
                      have HBel214 := Lib.hid (HBel213.out.trans (hbl214.mono HBel213.out.size))
                      have HO214 : Hid (Own5 W.heap.size W214 (.slice ojd ljd.length cjd) ljd) := Below.row hbl214 HO213.out
                      have HXb214 := Lib.hid ((hbl214.block _ (heap_lt HXb213.out)).trans HXb213.out)
                      have HXl214 := Lib.hid ((hbl214.block _ (heap_lt HXl213.out)).trans HXl213.out)
                      rw [← hW214] at hHeld ⊢
                      clear hW214 hbl214
                      refine only_at 3 125 (by kernel_rfl) rfl rfl (by rfl) (fun K hK => ?_)
                      go_simp
                      have hk215_0 := cell_alloc_of (.cells #[.string ya] 9) (heap_cell HXl214.out 0)
                      have hk215_1 := cell_alloc_of (.cells #[.string ya] 9) (heap_cell HXl214.out 1)
                      have hk215_2 := cell_alloc_of (.cells #[.string ya] 9) (heap_cell HXl214.out 2)
                      have hk215_3 := cell_alloc_of (.cells #[.string ya] 9) (heap_cell HXl214.out 3)
                      refine hK.out _ _ (⟨hk215_0, hk215_1, hk215_2, hk215_3⟩) (fun hHeld2 => ?_)
                      clear hK K hHeld
                      have hHeld := hHeld2
                      clear hHeld2
                      try simp only [Act.put, List.setIfInBounds_toArray, List.set_cons_zero, List.set_cons_succ]
                      clear hk215_0 hk215_1 hk215_2 hk215_3
                      obtain ⟨W215, hW215⟩ : ∃ w9, w9 = (W214.alloc (.cells #[.string ya] 9)) := ⟨_, rfl⟩
                      have hbl215 : Below W214.heap.size W214 W215 := by rw [hW215]; exact (Below.refl _ _).alloc (Nat.le_refl _) _
                      have hlt215 : W214.heap.size < W215.heap.size := by rw [hW215, alloc_size]; omega
                      have HTa215n : Hid (IsStrs W215 (some ⟨W214.heap.size, 0, none⟩) [ya]) := (by rw [hW215]; exact strs_new W214 [ya] : IsStrs W215 (some ⟨W214.heap.size, 0, none⟩) [ya])
                      have HBel215 := Lib.hid (HBel214.out.trans (hbl215.mono HBel214.out.size))
                      have HO215 : Hid (Own5 W.heap.size W215 (.slice ojd ljd.length cjd) ljd) := Below.row hbl215 HO214.out
                      have HXb215 := Lib.hid ((hbl215.block _ (heap_lt HXb214.out)).trans HXb214.out)
                      have HXl215 := Lib.hid ((hbl215.block _ (heap_lt HXl214.out)).trans HXl214.out)
                      have HTb215 := Lib.hid (HTb214n.out.below hbl215)
                      rw [← hW215] at hHeld ⊢
                      clear hW215 hbl215
                      refine only_at 4 126 (by kernel_rfl) rfl rfl (by rfl) (fun K hK => ?_)
                      go_simp
                      refine (rtexts_any ojd cjd ljd (some ⟨W214.heap.size, 0, none⟩) 1 [ya] W215 (by rw [body1]; omega) (by show 0 < 1; omega) (by show 1 ≤ 1000000; omega) (row_bytes' HO215.out) HTa215n.out).mono ?_
                      rintro ee W216 ⟨v216, rfl, h216, hb216⟩
                      rw [body1] at h216
                      obtain ⟨lc216, hlc⟩ : ∃ lc9, lc9 = ljd ++ txt ya := ⟨_, rfl⟩
                      rw [← hlc] at h216
                      have hn216 : lc216.length ≤ ljd.length + (txt ya).length := by rw [hlc, List.length_append]; exact Nat.le_refl _
                      have HLc216 := Lib.hid hlc
                      clear hlc
                      obtain ⟨a216, m216, c216, rfl⟩ := row_slice h216
                      have hm216 := row_len' h216
                      subst hm216
                      have HBel216 := Lib.hid (HBel215.out.trans (hb216.mono HBel215.out.size))
                      have HO216 : Hid (Own5 W.heap.size W216 (.slice a216 lc216.length c216) lc216) := row_lower h216 HBel215.out.size
                      have HXb216 := Lib.hid ((hb216.block _ (heap_lt HXb215.out)).trans HXb215.out)
                      have HXl216 := Lib.hid ((hb216.block _ (heap_lt HXl215.out)).trans HXl215.out)
                      have HTb216 := Lib.hid (HTb215.out.below hb216)
                      clear h216 hb216
                      go_wp2_with fail
                      refine hK.out _ _ (⟨heap_cell HXl216.out 0, heap_cell HXl216.out 1, heap_cell HXl216.out 2, heap_cell HXl216.out 3⟩) (fun hHeld2 => ?_)
                      clear hK K hHeld
                      have hHeld := hHeld2
                      clear hHeld2
                      try simp only [Act.put, List.setIfInBounds_toArray, List.set_cons_zero, List.set_cons_succ]
                      refine only_at 8 130 (by kernel_rfl) rfl rfl (by rfl) (fun K hK => ?_)
                      go_simp
                      refine (rwhole_any a216 c216 lc216 ym W216 (by omega) hgy.1 (row_bytes' HO216.out)).mono ?_
                      rintro ee W217 ⟨v217, rfl, h217, hb217⟩
                      obtain ⟨lc217, hlc⟩ : ∃ lc9, lc9 = lc216 ++ intE ym := ⟨_, rfl⟩
                      rw [← hlc] at h217
                      have hn217 : lc217.length ≤ lc216.length + (intE ym).length := by rw [hlc, List.length_append]; exact Nat.le_refl _
                      have HLc217 := Lib.hid hlc
                      clear hlc
                      obtain ⟨a217, m217, c217, rfl⟩ := row_slice h217
                      have hm217 := row_len' h217
                      subst hm217
                      have HBel217 := Lib.hid (HBel216.out.trans (hb217.mono HBel216.out.size))
                      have HO217 : Hid (Own5 W.heap.size W217 (.slice a217 lc217.length c217) lc217) := row_lower h217 HBel216.out.size
                      have HXb217 := Lib.hid ((hb217.block _ (heap_lt HXb216.out)).trans HXb216.out)
                      have HXl217 := Lib.hid ((hb217.block _ (heap_lt HXl216.out)).trans HXl216.out)
                      have HTb217 := Lib.hid (HTb216.out.below hb217)
                      clear h217 hb217
                      go_wp2_with fail
                      refine hK.out _ _ (⟨heap_cell HXl217.out 0, heap_cell HXl217.out 1, heap_cell HXl217.out 2, heap_cell HXl217.out 3⟩) (fun hHeld2 => ?_)
                      clear hK K hHeld
                      have hHeld := hHeld2
                      clear hHeld2
                      try simp only [Act.put, List.setIfInBounds_toArray, List.set_cons_zero, List.set_cons_succ]
                      refine only_at 12 134 (by kernel_rfl) rfl rfl (by rfl) (fun K hK => ?_)
                      go_simp
                      refine (rwhole_any a217 c217 lc217 yn W217 (by omega) hgy.2 (row_bytes' HO217.out)).mono ?_
                      rintro ee W218 ⟨v218, rfl, h218, hb218⟩
                      obtain ⟨lc218, hlc⟩ : ∃ lc9, lc9 = lc217 ++ intE yn := ⟨_, rfl⟩
                      rw [← hlc] at h218
                      have hn218 : lc218.length ≤ lc217.length + (intE yn).length := by rw [hlc, List.length_append]; exact Nat.le_refl _
                      have HLc218 := Lib.hid hlc
                      clear hlc
                      obtain ⟨a218, m218, c218, rfl⟩ := row_slice h218
                      have hm218 := row_len' h218
                      subst hm218
                      have HBel218 := Lib.hid (HBel217.out.trans (hb218.mono HBel217.out.size))
                      have HO218 : Hid (Own5 W.heap.size W218 (.slice a218 lc218.length c218) lc218) := row_lower h218 HBel217.out.size
                      have HXb218 := Lib.hid ((hb218.block _ (heap_lt HXb217.out)).trans HXb217.out)
                      have HXl218 := Lib.hid ((hb218.block _ (heap_lt HXl217.out)).trans HXl217.out)
                      have HTb218 := Lib.hid (HTb217.out.below hb218)
                      clear h218 hb218
                      go_wp2_with fail
                      refine hK.out _ _ (⟨heap_cell HXl218.out 0, heap_cell HXl218.out 1, heap_cell HXl218.out 2, heap_cell HXl218.out 3⟩) (fun hHeld2 => ?_)
                      clear hK K hHeld
                      have hHeld := hHeld2
                      clear hHeld2
                      try simp only [Act.put, List.setIfInBounds_toArray, List.set_cons_zero, List.set_cons_succ]
                      refine only_at 17 139 (by kernel_rfl) rfl rfl (by rfl) (fun K hK => ?_)
                      go_simp
                      refine (rtexts_any a218 c218 lc218 (some ⟨W213.heap.size, 0, none⟩) 1 [yb] W218 (by rw [body1]; omega) (by show 0 < 1; omega) (by show 1 ≤ 1000000; omega) (row_bytes' HO218.out) HTb218.out).mono ?_
                      rintro ee W219 ⟨v219, rfl, h219, hb219⟩
                      rw [body1] at h219
                      obtain ⟨lc219, hlc⟩ : ∃ lc9, lc9 = lc218 ++ txt yb := ⟨_, rfl⟩
                      rw [← hlc] at h219
                      have hn219 : lc219.length ≤ lc218.length + (txt yb).length := by rw [hlc, List.length_append]; exact Nat.le_refl _
                      have HLc219 := Lib.hid hlc
                      clear hlc
                      obtain ⟨a219, m219, c219, rfl⟩ := row_slice h219
                      have hm219 := row_len' h219
                      subst hm219
                      have HBel219 := Lib.hid (HBel218.out.trans (hb219.mono HBel218.out.size))
                      have HO219 : Hid (Own5 W.heap.size W219 (.slice a219 lc219.length c219) lc219) := row_lower h219 HBel218.out.size
                      have HXb219 := Lib.hid ((hb219.block _ (heap_lt HXb218.out)).trans HXb218.out)
                      have HXl219 := Lib.hid ((hb219.block _ (heap_lt HXl218.out)).trans HXl218.out)
                      clear h219 hb219
                      go_wp2_with fail
                      refine hK.out _ _ (⟨heap_cell HXl219.out 0, heap_cell HXl219.out 1, heap_cell HXl219.out 2, heap_cell HXl219.out 3⟩) (fun hHeld2 => ?_)
                      clear hK K hHeld
                      have hHeld := hHeld2
                      clear hHeld2
                      try simp only [Act.put, List.setIfInBounds_toArray, List.set_cons_zero, List.set_cons_succ]
                      refine take_at 18 3 (v := ?_) rfl rfl (by kernel_rfl) (by kernel_rfl) (by kernel_rfl) (fun _ _ _ h => h) (Or.inl ⟨by rfl, ?_⟩) hHeld ?_
                      rotate_left
                      · (intro w hSw; (try dsimp only at hSw); go_simp; try with_reducible rfl)
                      try simp only [List.setIfInBounds_toArray, List.set_cons_zero, List.set_cons_succ]
                      refine wpAnyH_done (by kernel_rfl) ?_ _
                      try refine NoPanic.normal ?_
                      have HRN : Hid (lc219 = lc212 ++ bodyE argE (gs.take (jd + 1)) ∧ Own5 W.heap.size W219 (.slice a219 lc219.length c219) lc219 ∧ Below W.heap.size W W219 ∧ W219.heap[x]? = some (.cells #[.string cl, .int .u64 (id : Int), .int .i64 kd, .int .i64 hw, .string tk, .int .u64 (n : Int), .string ty, .string f1, .string f2, .string f3, .slice wa ws.length wq, .slice pa ps.length pc, .slice aa ks.length ac, .slice (some ⟨b, off, none⟩) gs.length gc] 54 (0, 0))) := ⟨by
                        rw [HLc219.out, HLc218.out, HLc217.out, HLc216.out, HLj.out, HBt.out]
                        simp only [argE, List.append_assoc], HO219.out, HBel219.out, HXb219.out⟩
                      clear hjl hble hble2
                      go_wp2_with fail
                      go_roundw
                      case rel => exact ⟨jd + 1, a219, c219, lc219, rfl, by go_num, by omega, HRN⟩
                      case measure => first | (simp [intOf]; done) | (simp [intOf]; omega)
                  · have hje : jd = gs.length := by omega
                    have dj : decide ((jd : Int) < (gs.length : Int)) = false := decide_eq_false (by omega)
                    have dj2 : decide (jd < gs.length) = false := decide_eq_false (by omega)
                    have HLed : Hid (ljd = lc212 ++ bodyE argE gs) := (by rw [hlj, hje, List.take_length] : ljd = lc212 ++ bodyE argE gs)
                    have hled : ljd.length ≤ lc212.length + (bodyE argE gs).length := Nat.le_trans hljd (Nat.add_le_add_left hble _)
                    have HOed := Lib.hid hown
                    have HBed := Lib.hid hbel
                    have HXed := Lib.hid hbox
                    clear hst hlj hown hbel hbox hje hjl hble hljd
                    have HE : Hid (RF [] ([113, 49] ++ reqE (cl, id, kd, hw, tk, n, ty, (f1, f2, f3), ws, ps, ks, gs)) W (.returned (.slice ojd ljd.length cjd)) wr) := ⟨_, rfl, by
                      have e1 : [] ++ ([113, 49] ++ reqE (cl, id, kd, hw, tk, n, ty, (f1, f2, f3), ws, ps, ks, gs)) = ljd := by
                        rw [HLed.out, HLc212.out, HLec.out, HLc211.out, HLeb.out, HLc210.out, HLea.out, HLc209.out, HLc208.out, HLc207.out, HLc206.out, HLc203.out, HLc202.out, HLC.out]
                        simp only [reqE, listE, triE, List.append_assoc, List.nil_append]
                      rw [e1]; exact HOed.out, HBed.out⟩
                    clear HOed HBed HXed
                    go_wp2_with fail
                    go_ret
                    exact HE.out
end Go.Proofs.YtacjbgmnoiimbabGreat
