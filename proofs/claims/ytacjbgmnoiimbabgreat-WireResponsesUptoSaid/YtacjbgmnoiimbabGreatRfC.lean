/- The document's rules: walked (printed by genWireRs.py). -/
import Derived.Test.YtacjbgmnoiimbabGreatRfB
import Derived.Test.YtacjbgmnoiimbabGreatRdE
namespace Go.Proofs.YtacjbgmnoiimbabGreat
set_option linter.unusedVariables false
set_option linter.unusedSimpArgs false
open Go.RowKit

theorem strs_new (w : World) (l : List ByteArray) : IsStrs (w.alloc (.cells (l.map Value.string).toArray 9)) (some ⟨w.heap.size, 0, none⟩) l := fun _ => ⟨w.heap.size, 0, rfl, by simp, fun k hk => by
  rw [Nat.zero_add, heap_cell (heap_alloc_new w _), List.getElem?_toArray, List.getElem?_map, List.getElem?_eq_getElem hk]
  simp [List.getD, hk]⟩
theorem body1 (a : ByteArray) : bodyE txt [a] = txt a := by
  show txt a ++ [] = _
  rw [List.append_nil]
theorem body2 (a b : ByteArray) : bodyE txt [a, b] = duoE (a, b) := by
  show txt a ++ (txt b ++ []) = _
  rw [List.append_nil]; rfl
theorem reE_eq (x : RE) : reE x = intE x.k ++ (txt x.A ++ (txt x.B ++ listE encR x.ps)) := encR_eq _ _ _ _
/-- rules can be encoded from W on -/
def ROne (W : World) (xs : List RE) : Prop := ∀ x ∈ xs, ∀ (ba : Option Addr) (bc : Nat) (lb : List UInt8) (w : World), Below W.heap.size W w → IsBytes w ba lb → lb.length + (reE x).length ≤ 1000000000 →
  Calls Tryz.prog 57 #[.slice ba lb.length bc, .agg #[.int .i64 x.k, .string x.A, .string x.B, .slice x.a x.ps.length x.c]] w (RF lb (reE x) w)
set_option maxRecDepth 100000 in
set_option maxHeartbeats 8000000 in
theorem rrule_step' (k : Int) (A B : ByteArray) (a : Option Addr) (c : Nat) (ps : List PR) (xs : List RE) (ba : Option Addr) (bc : Nat) (l : List UInt8) (W : World) (hk : iok k) (hx : IsEls reC 4 W a xs) (hxs : xs.length = ps.length) (hone : ROne W xs) (hl : l.length + (intE k ++ (txt A ++ (txt B ++ (uv ps.length ++ bodyE reE xs)))).length ≤ 1000000000) (hn : ps.length ≤ 1000000000) (h : IsBytes W ba l) :
    Calls Tryz.prog 57 #[.slice ba l.length bc, .agg #[.int .i64 k, .string A, .string B, .slice a ps.length c]] W (RF l (intE k ++ (txt A ++ (txt B ++ (uv ps.length ++ bodyE reE xs)))) W) := by
  have hL := hl
  simp only [List.length_append] at hL
  have hduo : (duoE (A, B)).length = (txt A).length + (txt B).length := by unfold duoE; rw [List.length_append]
  have HK := Lib.hid hk
  have HEl := Lib.hid hx
  have HOne := Lib.hid hone
  have HNx := Lib.hid hxs
  have HBx := (Below.refl W.heap.size W).alloc (Nat.le_refl _) (.cells #[.int .i64 k, .string A, .string B, .slice a ps.length c] 71)
  have hx0 := heap_alloc_new W (.cells #[.int .i64 k, .string A, .string B, .slice a ps.length c] 71)
  obtain ⟨V, hV⟩ : ∃ V, V = (W.alloc (.cells #[.int .i64 k, .string A, .string B, .slice a ps.length c] 71)).drew := ⟨_, rfl⟩
  have HXV : Hid (V.heap[W.heap.size]? = some (.cells #[.int .i64 k, .string A, .string B, .slice a ps.length c] 71 (0, 0))) := (by rw [hV]; exact hx0 : V.heap[W.heap.size]? = some (.cells #[.int .i64 k, .string A, .string B, .slice a ps.length c] 71 (0, 0)))
  have HBV0 : Hid (Below W.heap.size W V) := (by rw [hV]; exact HBx.drew : Below W.heap.size W V)
  have HBV := HBV0.out.size
  have HBy := Lib.hid (h.below HBV0.out)
  have hxl := heap_lt HXV.out
  have hl0 : ∀ w', Below V.heap.size V w' → w'.cell? ⟨W.heap.size, 0, none⟩ = some (.int .i64 k) := fun w' hw => heap_cell ((hw.block _ hxl).trans HXV.out) 0
  have hl1 : ∀ w', Below V.heap.size V w' → w'.cell? ⟨W.heap.size, 1, none⟩ = some (.string A) := fun w' hw => heap_cell ((hw.block _ hxl).trans HXV.out) 1
  have hl2 : ∀ w', Below V.heap.size V w' → w'.cell? ⟨W.heap.size, 2, none⟩ = some (.string B) := fun w' hw => heap_cell ((hw.block _ hxl).trans HXV.out) 2
  have hl3 : ∀ w', Below V.heap.size V w' → w'.cell? ⟨W.heap.size, 3, none⟩ = some (.slice a ps.length c) := fun w' hw => heap_cell ((hw.block _ hxl).trans HXV.out) 3
  have hS0 : Below V.heap.size V V := Below.refl _ _
  clear h hx hone hx0 HBx hk hxs
  go_enter Tryz.func57, Tryz.ntmps57
  go_upto_region 1 with (fail)
  obtain ⟨x, hx⟩ : ∃ x, x = W.heap.size := ⟨_, rfl⟩
  rw [← hx] at HXV hxl hl0 hl1 hl2 hl3
  rw [← hx]
  have HXx := Lib.hid hx
  clear hx
  go_cut [0] (fun v wc => ∃ (oa : Option Addr) (oc : Nat) (lc : List UInt8), v = .slice oa lc.length oc ∧ lc.length ≤ l.length + ((intE k).length + ((txt A).length + ((txt B).length + (uv ps.length).length))) ∧ Hid (lc = l ++ (intE k ++ (txt A ++ (txt B ++ uv ps.length)))) ∧ Own5 W.heap.size wc (.slice oa lc.length oc) lc ∧ Below W.heap.size W wc ∧ wc.heap[x]? = some (.cells #[.int .i64 k, .string A, .string B, .slice a ps.length c] 71 (0, 0)))
  case first =>
    try refine wp_region_noPanic ?_
    refine wp_region_held_drew (S := fun w' => Below V.heap.size V w') (by kernel_rfl) (by rw [← hV]; exact hS0) (fun hHeld => ?_)
    rw [← hV] at hHeld ⊢
    clear hV hS0
    refine take_at 0 7 (v := ?_) rfl rfl (by kernel_rfl) (by kernel_rfl) (by kernel_rfl) (fun _ _ _ h => h) (Or.inl ⟨by rfl, ?_⟩) hHeld ?_
    rotate_left
    · (intro w hSw; (try dsimp only at hSw); go_simp; try with_reducible rfl)
    try simp only [List.setIfInBounds_toArray, List.set_cons_zero, List.set_cons_succ]
    refine take_at 1 8 (v := ?_) rfl rfl (by kernel_rfl) (by kernel_rfl) (by kernel_rfl) (fun _ _ _ h => h) (Or.inl ⟨by rfl, ?_⟩) hHeld ?_
    rotate_left
    · (intro w hSw; (try dsimp only at hSw); go_simp; try with_reducible rfl)
    try simp only [List.setIfInBounds_toArray, List.set_cons_zero, List.set_cons_succ]
    refine take_at 2 9 (v := ?_) rfl rfl (by kernel_rfl) (by kernel_rfl) (by kernel_rfl) (fun _ _ _ h => h) (Or.inl ⟨by rfl, ?_⟩) hHeld ?_
    rotate_left
    · (intro w hSw; (try dsimp only at hSw); go_simp; try with_reducible rfl)
    try simp only [List.setIfInBounds_toArray, List.set_cons_zero, List.set_cons_succ]
    refine take_at 4 11 (v := ?_) rfl rfl (by kernel_rfl) (by kernel_rfl) (by kernel_rfl) (fun _ _ _ h => h) (Or.inl ⟨by rfl, ?_⟩) hHeld ?_
    rotate_left
    · (intro w hSw; (try dsimp only at hSw); go_simp; try with_reducible rfl)
    try simp only [List.setIfInBounds_toArray, List.set_cons_zero, List.set_cons_succ]
    refine take_at 5 12 (v := ?_) rfl rfl (by kernel_rfl) (by kernel_rfl) (by kernel_rfl) (fun _ _ _ h => h) (Or.inl ⟨by rfl, ?_⟩) hHeld ?_
    rotate_left
    · (intro w hSw; (try dsimp only at hSw); go_simp; try with_reducible rfl)
    try simp only [List.setIfInBounds_toArray, List.set_cons_zero, List.set_cons_succ]
    refine take_at 6 13 (v := ?_) rfl rfl (by kernel_rfl) (by kernel_rfl) (by kernel_rfl) (fun _ _ _ h => h) (Or.inl ⟨by rfl, ?_⟩) hHeld ?_
    rotate_left
    · (intro w hSw; (try dsimp only at hSw); go_simp; try with_reducible rfl)
    try simp only [List.setIfInBounds_toArray, List.set_cons_zero, List.set_cons_succ]
    refine take_at 7 14 (v := ?_) rfl rfl (by kernel_rfl) (by kernel_rfl) (by kernel_rfl) (fun _ _ _ h => h) (Or.inl ⟨by rfl, ?_⟩) hHeld ?_
    rotate_left
    · (intro w hSw; (try dsimp only at hSw); go_simp; try with_reducible rfl)
    try simp only [List.setIfInBounds_toArray, List.set_cons_zero, List.set_cons_succ]
    refine take_at 10 17 (v := ?_) rfl rfl (by kernel_rfl) (by kernel_rfl) (by kernel_rfl) (fun _ _ _ h => h) (Or.inl ⟨by rfl, ?_⟩) hHeld ?_
    rotate_left
    · (intro w hSw; (try dsimp only at hSw); go_simp; try with_reducible rfl)
    try simp only [List.setIfInBounds_toArray, List.set_cons_zero, List.set_cons_succ]
    refine take_at 11 18 (v := ?_) rfl rfl (by kernel_rfl) (by kernel_rfl) (by kernel_rfl) (fun _ _ _ h => h) (Or.inl ⟨by rfl, ?_⟩) hHeld ?_
    rotate_left
    · (intro w hSw; (try dsimp only at hSw); go_simp; try with_reducible rfl)
    try simp only [List.setIfInBounds_toArray, List.set_cons_zero, List.set_cons_succ]
    refine take_at 12 19 (v := ?_) rfl rfl (by kernel_rfl) (by kernel_rfl) (by kernel_rfl) (fun _ _ _ h => h) (Or.inl ⟨by rfl, ?_⟩) hHeld ?_
    rotate_left
    · (intro w hSw; (try dsimp only at hSw); go_simp; try with_reducible rfl)
    try simp only [List.setIfInBounds_toArray, List.set_cons_zero, List.set_cons_succ]
    refine two_at 3 8 10 15 (by kernel_rfl) rfl rfl (by rfl) rfl rfl (by rfl) (fun K hK => ?_) (fun K hK => ?_)
    · go_simp
      refine (rwhole_any ba bc l k _ (by omega) HK.out HBy.out).mono ?_
      rintro ee W1 ⟨v1, rfl, h1, hb1⟩
      obtain ⟨lc1, hlc⟩ : ∃ lc, lc = l ++ intE k := ⟨_, rfl⟩
      rw [← hlc] at h1
      have hn1 : lc1.length ≤ l.length + (intE k).length := by rw [hlc, List.length_append]; exact Nat.le_refl _
      have HLc1 := Lib.hid hlc
      clear hlc
      obtain ⟨a1, m1, c1, rfl⟩ := row_slice h1
      have hm1 := row_len' h1
      subst hm1
      have hS1 : Below V.heap.size V W1 := hHeld.trans (hb1.mono hHeld.size)
      have HO1 := Lib.hid (row_lower h1 (Nat.le_trans HBV hHeld.size))
      have HR1 := Lib.hid (row_bytes' h1)
      clear h1 hb1
      go_wp2_with fail
      refine hK.out _ _ (hS1) (fun hHeld2 => ?_)
      clear hK K hHeld
      have hHeld := hHeld2
      clear hHeld2
      try simp only [Act.put, List.setIfInBounds_toArray, List.set_cons_zero, List.set_cons_succ]
      refine only_at 8 15 (by kernel_rfl) rfl rfl (by rfl) (fun K hK => ?_)
      go_simp
      refine hK.out _ _ (hHeld.alloc hHeld.size _) (fun hHeld2 => ?_)
      clear hK K hHeld
      have hHeld := hHeld2
      clear hHeld2
      try simp only [Act.put, List.setIfInBounds_toArray, List.set_cons_zero, List.set_cons_succ]
      obtain ⟨W2, hW2⟩ : ∃ w9, w9 = (W1.alloc (.cells #[.string A, .string B] 9)) := ⟨_, rfl⟩
      have hbl2 : Below W1.heap.size W1 W2 := by rw [hW2]; exact (Below.refl _ _).alloc (Nat.le_refl _) _
      have HT2 : Hid (IsStrs W2 (some ⟨W1.heap.size, 0, none⟩) [A, B]) := (by rw [hW2]; exact strs_new W1 [A, B] : IsStrs W2 (some ⟨W1.heap.size, 0, none⟩) [A, B])
      have HR2 := Lib.hid (HR1.out.below hbl2)
      have HO2 := Lib.hid (Below.row hbl2 HO1.out)
      rw [← hW2] at hHeld ⊢
      clear hW2 hbl2
      refine only_at 9 16 (by kernel_rfl) rfl rfl (by rfl) (fun K hK => ?_)
      go_simp
      refine (rtexts_any a1 c1 lc1 (some ⟨W1.heap.size, 0, none⟩) 2 [A, B] _ (by rw [body2]; omega) (by show 0 < 2; omega) (by show 2 ≤ 1000000; omega) HR2.out HT2.out).mono ?_
      rintro ee W3 ⟨v3, rfl, h3, hb3⟩
      rw [body2] at h3
      obtain ⟨lc3, hlc⟩ : ∃ lc, lc = lc1 ++ duoE (A, B) := ⟨_, rfl⟩
      rw [← hlc] at h3
      have hn3 : lc3.length ≤ lc1.length + (duoE (A, B)).length := by rw [hlc, List.length_append]; exact Nat.le_refl _
      have HLc3 := Lib.hid hlc
      clear hlc
      obtain ⟨a3, m3, c3, rfl⟩ := row_slice h3
      have hm3 := row_len' h3
      subst hm3
      have hS3 : Below V.heap.size V W3 := hHeld.trans (hb3.mono hHeld.size)
      have HO3 := Lib.hid (row_lower h3 (Nat.le_trans HBV hHeld.size))
      have HR3 := Lib.hid (row_bytes' h3)
      clear h3 hb3
      go_wp2_with fail
      refine hK.out _ _ (hS3) (fun hHeld2 => ?_)
      clear hK K hHeld
      have hHeld := hHeld2
      clear hHeld2
      try simp only [Act.put, List.setIfInBounds_toArray, List.set_cons_zero, List.set_cons_succ]
      refine only_at 13 20 (by kernel_rfl) rfl rfl (by rfl) (fun K hK => ?_)
      go_simp
      refine (rmany_any a3 c3 lc3 ps.length _ (by omega) hn HR3.out).mono ?_
      rintro ee W4 ⟨v4, rfl, h4, hb4⟩
      obtain ⟨lc4, hlc⟩ : ∃ lc, lc = lc3 ++ uv ps.length := ⟨_, rfl⟩
      rw [← hlc] at h4
      have hn4 : lc4.length ≤ lc3.length + (uv ps.length).length := by rw [hlc, List.length_append]; exact Nat.le_refl _
      have HLc4 := Lib.hid hlc
      clear hlc
      obtain ⟨a4, m4, c4, rfl⟩ := row_slice h4
      have hm4 := row_len' h4
      subst hm4
      have hS4 : Below V.heap.size V W4 := hHeld.trans (hb4.mono hHeld.size)
      have HO4 := Lib.hid (row_lower h4 (Nat.le_trans HBV hHeld.size))
      have HR4 := Lib.hid (row_bytes' h4)
      clear h4 hb4
      go_wp2_with fail
      refine hK.out _ _ (hS4) (fun hHeld2 => ?_)
      clear hK K hHeld
      have hHeld := hHeld2
      clear hHeld2
      try simp only [Act.put, List.setIfInBounds_toArray, List.set_cons_zero, List.set_cons_succ]
      refine take_at 14 0 (v := ?_) rfl rfl (by kernel_rfl) (by kernel_rfl) (by kernel_rfl) (fun _ _ _ h => h) (Or.inl ⟨by rfl, ?_⟩) hHeld ?_
      rotate_left
      · (intro w hSw; (try dsimp only at hSw); go_simp; try with_reducible rfl)
      try simp only [List.setIfInBounds_toArray, List.set_cons_zero, List.set_cons_succ]
      refine wpAnyH_done (by kernel_rfl) ?_ _
      try refine NoPanic.normal ?_
      go_wp2_with fail
      go_meet
      case rel =>
        refine ⟨a4, c4, lc4, rfl, by omega, ?_, HO4.out, HBV0.out.trans (hHeld.mono HBV), (hHeld.block x hxl).trans HXV.out⟩
        show _ = _
        rw [HLc4.out, HLc3.out, HLc1.out]
        simp only [duoE, List.append_assoc]
    · go_simp
      refine hK.out _ _ (hHeld.alloc hHeld.size _) (fun hHeld2 => ?_)
      clear hK K hHeld
      have hHeld := hHeld2
      clear hHeld2
      try simp only [Act.put, List.setIfInBounds_toArray, List.set_cons_zero, List.set_cons_succ]
      obtain ⟨W1, hW1⟩ : ∃ w9, w9 = (V.alloc (.cells #[.string A, .string B] 9)) := ⟨_, rfl⟩
      have hbl1 : Below V.heap.size V W1 := by rw [hW1]; exact (Below.refl _ _).alloc (Nat.le_refl _) _
      have HT1 : Hid (IsStrs W1 (some ⟨V.heap.size, 0, none⟩) [A, B]) := (by rw [hW1]; exact strs_new V [A, B] : IsStrs W1 (some ⟨V.heap.size, 0, none⟩) [A, B])
      have HR1 := Lib.hid (HBy.out.below hbl1)
      rw [← hW1] at hHeld ⊢
      clear hW1 hbl1
      refine only_at 3 10 (by kernel_rfl) rfl rfl (by rfl) (fun K hK => ?_)
      go_simp
      refine (rwhole_any ba bc l k _ (by omega) HK.out HR1.out).mono ?_
      rintro ee W2 ⟨v2, rfl, h2, hb2⟩
      obtain ⟨lc2, hlc⟩ : ∃ lc, lc = l ++ intE k := ⟨_, rfl⟩
      rw [← hlc] at h2
      have hn2 : lc2.length ≤ l.length + (intE k).length := by rw [hlc, List.length_append]; exact Nat.le_refl _
      have HLc2 := Lib.hid hlc
      clear hlc
      obtain ⟨a2, m2, c2, rfl⟩ := row_slice h2
      have hm2 := row_len' h2
      subst hm2
      have hS2 : Below V.heap.size V W2 := hHeld.trans (hb2.mono hHeld.size)
      have HO2 := Lib.hid (row_lower h2 (Nat.le_trans HBV hHeld.size))
      have HR2 := Lib.hid (row_bytes' h2)
      have TXa_2 := Lib.hid (HT1.out.below hb2)
      clear h2 hb2
      go_wp2_with fail
      refine hK.out _ _ (hS2) (fun hHeld2 => ?_)
      clear hK K hHeld
      have hHeld := hHeld2
      clear hHeld2
      try simp only [Act.put, List.setIfInBounds_toArray, List.set_cons_zero, List.set_cons_succ]
      refine only_at 9 16 (by kernel_rfl) rfl rfl (by rfl) (fun K hK => ?_)
      go_simp
      refine (rtexts_any a2 c2 lc2 (some ⟨V.heap.size, 0, none⟩) 2 [A, B] _ (by rw [body2]; omega) (by show 0 < 2; omega) (by show 2 ≤ 1000000; omega) HR2.out TXa_2.out).mono ?_
      rintro ee W3 ⟨v3, rfl, h3, hb3⟩
      rw [body2] at h3
      obtain ⟨lc3, hlc⟩ : ∃ lc, lc = lc2 ++ duoE (A, B) := ⟨_, rfl⟩
      rw [← hlc] at h3
      have hn3 : lc3.length ≤ lc2.length + (duoE (A, B)).length := by rw [hlc, List.length_append]; exact Nat.le_refl _
      have HLc3 := Lib.hid hlc
      clear hlc
      obtain ⟨a3, m3, c3, rfl⟩ := row_slice h3
      have hm3 := row_len' h3
      subst hm3
      have hS3 : Below V.heap.size V W3 := hHeld.trans (hb3.mono hHeld.size)
      have HO3 := Lib.hid (row_lower h3 (Nat.le_trans HBV hHeld.size))
      have HR3 := Lib.hid (row_bytes' h3)
      clear h3 hb3
      go_wp2_with fail
      refine hK.out _ _ (hS3) (fun hHeld2 => ?_)
      clear hK K hHeld
      have hHeld := hHeld2
      clear hHeld2
      try simp only [Act.put, List.setIfInBounds_toArray, List.set_cons_zero, List.set_cons_succ]
      refine only_at 13 20 (by kernel_rfl) rfl rfl (by rfl) (fun K hK => ?_)
      go_simp
      refine (rmany_any a3 c3 lc3 ps.length _ (by omega) hn HR3.out).mono ?_
      rintro ee W4 ⟨v4, rfl, h4, hb4⟩
      obtain ⟨lc4, hlc⟩ : ∃ lc, lc = lc3 ++ uv ps.length := ⟨_, rfl⟩
      rw [← hlc] at h4
      have hn4 : lc4.length ≤ lc3.length + (uv ps.length).length := by rw [hlc, List.length_append]; exact Nat.le_refl _
      have HLc4 := Lib.hid hlc
      clear hlc
      obtain ⟨a4, m4, c4, rfl⟩ := row_slice h4
      have hm4 := row_len' h4
      subst hm4
      have hS4 : Below V.heap.size V W4 := hHeld.trans (hb4.mono hHeld.size)
      have HO4 := Lib.hid (row_lower h4 (Nat.le_trans HBV hHeld.size))
      have HR4 := Lib.hid (row_bytes' h4)
      clear h4 hb4
      go_wp2_with fail
      refine hK.out _ _ (hS4) (fun hHeld2 => ?_)
      clear hK K hHeld
      have hHeld := hHeld2
      clear hHeld2
      try simp only [Act.put, List.setIfInBounds_toArray, List.set_cons_zero, List.set_cons_succ]
      refine take_at 14 0 (v := ?_) rfl rfl (by kernel_rfl) (by kernel_rfl) (by kernel_rfl) (fun _ _ _ h => h) (Or.inl ⟨by rfl, ?_⟩) hHeld ?_
      rotate_left
      · (intro w hSw; (try dsimp only at hSw); go_simp; try with_reducible rfl)
      try simp only [List.setIfInBounds_toArray, List.set_cons_zero, List.set_cons_succ]
      refine wpAnyH_done (by kernel_rfl) ?_ _
      try refine NoPanic.normal ?_
      go_wp2_with fail
      go_meet
      case rel =>
        refine ⟨a4, c4, lc4, rfl, by omega, ?_, HO4.out, HBV0.out.trans (hHeld.mono HBV), (hHeld.block x hxl).trans HXV.out⟩
        show _ = _
        rw [HLc4.out, HLc3.out, HLc2.out]
        simp only [duoE, List.append_assoc]
  case rest =>
    obtain ⟨oa, oc, lc, rfl, hlc, hlceq, hown, hbel, hbox⟩ := hcut
    have HLC := hlceq
    have HOwn := Lib.hid hown
    have HBel := Lib.hid hbel
    have HBox := Lib.hid hbox
    clear hV hS0 HXV HBV0 HBV HBy hxl hl0 hl1 hl2 hl3 hown hbel hbox hlceq
    have q3 := heap_cell HBox.out 3
    simp at q3
    go_wp2_with fail
    go_loopw [0, 24] (fun bv iv wr => ∃ (j : Nat) (oa : Option Addr) (oc : Nat) (lj : List UInt8), bv = .slice oa lj.length oc ∧ iv = .int .i64 j ∧ j ≤ ps.length ∧ Hid (lj = lc ++ bodyE reE (xs.take j) ∧ Own5 W.heap.size wr (.slice oa lj.length oc) lj ∧ Below W.heap.size W wr)) (fun _ iv _ => ps.length - (intOf iv).toNat)
    case atStart => exact ⟨0, oa, oc, lc, rfl, rfl, Nat.zero_le _, by rw [List.take_zero]; simp [bodyE], HOwn.out, HBel.out⟩
    case round =>
      clear HOwn HBel HBox q3
      obtain ⟨j, oj, cj, lj, rfl, rfl, hj, hst⟩ := hrel
      obtain ⟨hlj, hown, hbel⟩ := hst.out
      have hnx := HNx.out
      have hble := body_le reE xs j
      have hljl : lj.length ≤ lc.length + (bodyE reE (xs.take j)).length := by rw [hlj, List.length_append]; exact Nat.le_refl _
      by_cases hjl : j < xs.length
      · have dj : decide ((j : Int) < (ps.length : Int)) = true := decide_eq_true (by omega)
        have hij : (j : Int) < (ps.length : Int) := by omega
        obtain ⟨b, off, rfl, hb, hc⟩ := (HEl.out.below hbel) (by omega)
        have c0 := hc j hjl 0 (by omega)
        have c1 := hc j hjl 1 (by omega)
        have c2 := hc j hjl 2 (by omega)
        have c3 := hc j hjl 3 (by omega)
        have hbt := body_take reE xs j hjl
        have hble2 := body_le reE xs (j + 1)
        rw [hbt, List.length_append] at hble2
        have hmem := getD_mem hjl
        have HBt := Lib.hid hbt
        have HLj := Lib.hid hlj
        have HBelj := Lib.hid hbel
        clear hst hc hbt hlj hnx
        generalize xs.getD j default = y at *
        obtain ⟨yk, yA, yB, ya, yc, yps⟩ := y
        simp [reC] at c0 c1 c2 c3
        have hB1 := (Below.refl wr.heap.size wr).alloc (Nat.le_refl _) (.cells #[.int .i64 yk, .string yA, .string yB, .slice ya yps.length yc] 71)
        have HB1 := Lib.hid (hbel.trans (hB1.mono hbel.size))
        have HC := Lib.hid (HOne.out _ hmem oj cj lj _ HB1.out ((row_bytes' hown).below hB1) (by omega))
        clear hmem hown hbel hB1
        go_wp2_with fail
        refine HC.out.mono ?_
        clear HC
        rintro e w1 ⟨v', rfl, hr, hb1⟩
        obtain ⟨lk, hlk⟩ : ∃ lk, lk = lj ++ reE ⟨yk, yA, yB, ya, yc, yps⟩ := ⟨_, rfl⟩
        rw [← hlk] at hr
        obtain ⟨a1, n1, c1', rfl⟩ := row_slice hr
        have hn1 := row_len' hr
        subst hn1
        have HRN : Hid (lk = lc ++ bodyE reE (xs.take (j + 1)) ∧ Own5 W.heap.size w1 (.slice a1 lk.length c1') lk ∧ Below W.heap.size W w1) := ⟨by rw [hlk, HLj.out, HBt.out, List.append_assoc], row_lower hr HB1.out.size, HB1.out.trans (hb1.mono HB1.out.size)⟩
        clear hr hb1 hlk
        go_wp2_with fail
        go_roundw
        case rel => exact ⟨j + 1, a1, c1', lk, rfl, by go_num, by omega, HRN⟩
        case measure => first | (simp [intOf]; done) | (simp [intOf]; omega)
      · have hje : j = xs.length := by omega
        have dj : decide ((j : Int) < (ps.length : Int)) = false := decide_eq_false (by omega)
        have HE : Hid (RF l (intE k ++ (txt A ++ (txt B ++ (uv ps.length ++ bodyE reE xs)))) W (.returned (.slice oj lj.length cj)) wr) := ⟨_, rfl, by
          have e1 : l ++ (intE k ++ (txt A ++ (txt B ++ (uv ps.length ++ bodyE reE xs)))) = lj := by
            rw [hlj, hje, List.take_length, HLC.out]
            simp only [List.append_assoc]
          rw [e1]; exact hown, hbel⟩
        clear hst hown hbel hlj hje
        go_wp2_with fail
        go_ret
        exact HE.out
/-- a rule in memory can be encoded -/
theorem rrule_enc : ∀ (n : Nat) (S : Nat → Prop) (W : World) (x : RE) (ba : Option Addr) (bc : Nat) (l : List UInt8), RMem S n W x.a x.ps → okR x.plain → l.length + (reE x).length ≤ 1000000000 → IsBytes W ba l →
    Calls Tryz.prog 57 #[.slice ba l.length bc, .agg #[.int .i64 x.k, .string x.A, .string x.B, .slice x.a x.ps.length x.c]] W (RF l (reE x) W) := by
  intro n
  induction n with
  | zero =>
    intro S W x ba bc l hm hok hl hb
    have hnil : x.ps = [] := List.eq_nil_of_length_eq_zero hm
    have hok' := (okR_eq _ _ _ _).1 hok
    have e : reE x = intE x.k ++ (txt x.A ++ (txt x.B ++ (uv x.ps.length ++ bodyE reE []))) := by rw [reE_eq, hnil]; rfl
    rw [e] at hl ⊢
    have := rrule_step' x.k x.A x.B x.a x.c x.ps [] ba bc l W hok'.1 (fun h => absurd h (Nat.lt_irrefl 0)) (by rw [hnil]; rfl) (fun y hy => by cases hy) hl (by rw [hnil]; exact Nat.zero_le _) hb
    exact this
  | succ n ih =>
    intro S W x ba bc l hm hok hl hb
    obtain ⟨xs, h1, h2, h3, h4⟩ := hm
    have hok' := (okR_eq _ _ _ _).1 hok
    have hlen : xs.length = x.ps.length := by rw [← h1, List.length_map]
    have e : reE x = intE x.k ++ (txt x.A ++ (txt x.B ++ (uv x.ps.length ++ bodyE reE xs))) := by
      rw [reE_eq, ← reE_list h1]
      unfold listE
      rw [hlen]
    have hge := list_ge (en := reE) (fun y => encR_pos _) xs
    rw [e] at hl ⊢
    have hn : x.ps.length ≤ 1000000000 := by
      simp only [List.length_append] at hl
      unfold listE at hge
      rw [List.length_append, hlen] at hge
      omega
    refine rrule_step' x.k x.A x.B x.a x.c x.ps xs ba bc l W hok'.1 h2 hlen (fun y hy ba2 bc2 lb w hbw hbb hlb => ?_) hl hn hb
    have hoky : okR y.plain := (okRs_iff.1 hok'.2.2.2.2) _ (by rw [← h1]; exact List.mem_map_of_mem hy)
    exact ih S w y ba2 bc2 lb ((h4 y hy).2.stays (Stays.below hbw)) hoky hlb hbb
end Go.Proofs.YtacjbgmnoiimbabGreat
