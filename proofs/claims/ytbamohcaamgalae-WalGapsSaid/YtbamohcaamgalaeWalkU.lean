/- What the document fixes: walked. -/
import Derived.Test.YtbamohcaamgalaeWalkT
namespace Go.Proofs.Ytbamohcaamgalae
set_option linter.unusedVariables false
set_option linter.unusedSimpArgs false
open Go.RowKit

def fixE : Ent := ⟨{ data := #[97] }, 1, false⟩
theorem fix_right : Right 1 [fixE] := by
  refine ⟨by decide, by decide, by decide, fun i hi => ?_⟩
  have : i = 0 := by simp at hi; omega
  subst this
  rintro (h | h)
  · exact h rfl
  · revert h; decide
theorem fix_ok (i : Nat) : EntOk ([fixE].getD i default) ∧ ([fixE].getD i default).key.size ≤ 200 := by
  match i with
  | 0 => exact ⟨⟨by decide, by decide⟩, by decide⟩
  | i + 1 => exact ⟨⟨by simp; decide, by simp; decide⟩, by simp; decide⟩
theorem rep_seal (rev : Nat) (es : List Ent) (hr : rev < 18446744073709551616) (h : Right rev es) (hl : (recordB rev es).length < 4294967296) : rep (seal_ (recordB rev es)) none = ([(rev, es)], (seal_ (recordB rev es)).length) := by
  have h1 := nextE_seal (recordB rev es) [] hl
  have h2 := payload_seal (recordB rev es) [] hl
  have h3 := num_seal (recordB rev es) [] hl
  rw [List.append_nil] at h1 h2 h3
  have hs := length_seal (recordB rev es)
  rw [rep_step h1 (by rw [h2]; exact decodes_record rev es hr h) (.inl rfl), h3, ← hs, List.drop_length, rep_stop1 (by rw [nextE_nil]; decide), Nat.add_zero]
theorem rep_nil : rep [] none = ([], 0) := rep_stop1 (by rw [nextE_nil]; decide)
theorem fix_ents (w : World) : IsEnts (w.alloc (.cells #[.string { data := #[97] }, .int .u64 1, .bool false] 48)) (some ⟨w.heap.size, 0, none⟩) [fixE] := by
  intro _
  refine ⟨w.heap.size, 0, rfl, by simp, fun k hk => ?_⟩
  have : k = 0 := by simp at hk; omega
  subst this
  have h := heap_alloc_new w (.cells #[.string { data := #[97] }, .int .u64 1, .bool false] 48)
  exact ⟨heap_cell h 0, heap_cell h 1, heap_cell h 2⟩
theorem not_right0 : ¬ Right 0 [] := fun h => by have := h.1; cases this
set_option maxRecDepth 100000 in
set_option maxHeartbeats 4000000 in
theorem fixed_any (w : World) : Calls Try.prog 7 #[] w fun e w' => e = .returned (.bool true) ∧ Below w.heap.size w w' := by
  have hA := (Below.refl w.heap.size w).alloc (Nat.le_refl _) (.cells #[.string { data := #[97] }, .int .u64 1, .bool false] 48)
  have hA2 := hA.alloc hA.size (.cells #[.int .u64 1, .slice (some ⟨w.heap.size, 0, none⟩) 1 1] 25)
  have hE1 := fix_ents w
  have hE2 := hE1.below ((Below.refl _ _).alloc (Nat.le_refl _) (.cells #[.int .u64 1, .slice (some ⟨w.heap.size, 0, none⟩) 1 1] 25))
  have hc1 : ((w.alloc (.cells #[.string { data := #[97] }, .int .u64 1, .bool false] 48)).alloc (.cells #[.int .u64 1, .slice (some ⟨w.heap.size, 0, none⟩) 1 1] 25)).heap[w.heap.size + 1]? = some (.cells #[.int .u64 1, .slice (some ⟨w.heap.size, 0, none⟩) 1 1] 25 (0, 0)) := by
    have := heap_alloc_new (w.alloc (.cells #[.string { data := #[97] }, .int .u64 1, .bool false] 48)) (.cells #[.int .u64 1, .slice (some ⟨w.heap.size, 0, none⟩) 1 1] 25)
    simpa using this
  have HEnc := Lib.hid (encode_any 1 (some ⟨w.heap.size, 0, none⟩) 1 [fixE] _ (by decide) (by decide) (fun i => (fix_ok i).2) (fun i => (fix_ok i).1) hE2)
  unfold comV at HEnc
  have HE2 := Lib.hid hE2
  have hRl : (recordB 1 [fixE]).length ≤ 1000 := by
    have := recK_len 1 [fixE] (by decide) (by decide) (fun i => (fix_ok i).2) [fixE].length (Nat.le_refl _)
    rw [recK_all] at this
    have hh : [fixE].length = 1 := rfl
    rw [hh] at this
    omega
  have hRep := rep_seal 1 [fixE] (by decide) fix_right (by omega)
  have hSl := length_seal (recordB 1 [fixE])
  clear hE1 hE2 hA
  go_enter Try.func7, Try.ntmps7
  go_wp2_with fail
  refine HEnc.out.mono ?_
  clear HEnc
  rintro e w1 ⟨hb1, hy, _⟩
  obtain ⟨v1, rfl, hrow1⟩ := hy fix_right
  have hB1 := hA2.trans (hb1.mono hA2.size)
  have hc2 := (hb1.block (w.heap.size + 1) (heap_lt hc1)).trans hc1
  have HE1 := Lib.hid (HE2.out.below hb1)
  rw [← hSl] at hrow1
  obtain ⟨SL, hSL⟩ : ∃ SL, seal_ (recordB 1 [fixE]) = SL := ⟨_, rfl⟩
  rw [hSL] at hrow1 hRep hSl
  have hSLl : SL.length ≤ 2000 := by omega
  obtain ⟨a1, m1, c1, rfl⟩ := row_slice hrow1
  have hm1 := row_len' hrow1
  subst hm1
  have HRep1 := Lib.hid (replay_any a1 c1 SL w1 (by omega) (row_cap1 hrow1) (row_bytes' hrow1))
  have HRp := Lib.hid hRep
  clear hy hb1 hrow1 hA2 hc1 hSL hSl hRl hRep
  go_wp2_with fail
  refine HRep1.out.mono ?_
  clear HRep1
  rintro e w2 ⟨hb2, v2, cs, rfl, hps, _, hrow2, hce2⟩
  rw [HRp.out] at hps ⊢
  have hB2 := hB1.trans (hb2.mono hB1.size)
  have hc3 := (hb2.block (w.heap.size + 1) (heap_lt hc2)).trans hc2
  have HE3 := Lib.hid (HE1.out.below hb2)
  have hcl : cs.length = 1 := by have := congrArg List.length hps; simpa [pairs] using this
  obtain ⟨cm, rfl⟩ : ∃ cm, cs = [cm] := by
    match cs, hcl with
    | [cm], _ => exact ⟨cm, rfl⟩
  have hcm : cm.rev = 1 ∧ cm.es = [fixE] := by
    simp only [pairs, List.map_cons, List.map_nil, List.cons.injEq, Prod.mk.injEq, and_true] at hps
    exact hps
  have hent2 := (hce2 cm (by simp)).1
  clear hps hb2 hce2 hcl hc2
  obtain ⟨a2, m2, c2, rfl⟩ := row_slice hrow2
  have hm2 := row_len' hrow2
  subst hm2
  have HEnc2 := Lib.hid (encode_any 0 none 0 [] w2 (by decide) (by decide) (fun i => by simp; decide) (fun i => ⟨by simp; decide, by simp; decide⟩) (fun h => by cases h))
  unfold comV at HEnc2
  simp only [List.length_cons, List.length_nil] at HEnc2
  go_wp2_with fail
  refine HEnc2.out.mono ?_
  clear HEnc2
  rintro e w3 ⟨hb3, _, hn⟩
  have := hn not_right0
  subst this
  have hB3 := hB2.trans (hb3.mono hB2.size)
  have hc4 := (hb3.block (w.heap.size + 1) (heap_lt hc3)).trans hc3
  have HE4 := Lib.hid (HE3.out.below hb3)
  have hrow3 := Below.row hb3 hrow2
  have hent3 := Below.row hb3 hent2
  clear hn hb3 hrow2 hent2 hc3
  have HRep2 := Lib.hid (replay_any none 0 [] w3 (by decide) (Nat.le_refl _) (fun h => by cases h))
  simp only [List.length_nil] at HRep2
  go_wp2_with fail
  refine HRep2.out.mono ?_
  clear HRep2
  rintro e w4 ⟨hb4, v4, cs4, rfl, hps4, _, hrow4, _⟩
  rw [rep_nil] at hps4 ⊢
  have hB4 := hB3.trans (hb4.mono hB3.size)
  have hc5 := (hb4.block (w.heap.size + 1) (heap_lt hc4)).trans hc4
  have HE5 := Lib.hid (HE4.out.below hb4)
  have hrw5 := Below.row hb4 hrow3
  have hent5 := Below.row hb4 hent3
  have hc40 : cs4.length = 0 := by have := congrArg List.length hps4; simpa [pairs] using this
  obtain ⟨a4, m4, c4, rfl⟩ := row_slice hrow4
  have hm4 := row_len' hrow4
  rw [hc40] at hm4
  subst hm4
  clear hps4 hb4 hrow3 hent3 hc4 hrow4 hc40
  obtain ⟨crev, ca, ccap, ces⟩ := cm
  simp only at hcm
  obtain ⟨rfl, rfl⟩ := hcm
  obtain ⟨b, off, hab, hbl, hcell⟩ := row_vals hrw5 (by rw [length_comsV]; simp)
  subst hab
  have x0 := hcell 0 (by rw [length_comsV]; simp)
  have x1 := hcell 1 (by rw [length_comsV]; simp)
  have y0 := heap_cell hc5 0
  have y1 := heap_cell hc5 1
  rw [Nat.add_zero] at x0
  have x0' : w4.cell? ⟨b, off, none⟩ = some (.int .u64 1) := x0
  have x1' : w4.cell? ⟨b, off + 1, none⟩ = some (.slice ca 1 ccap) := x1
  have y0' : w4.cell? ⟨w.heap.size + 1, 0, none⟩ = some (.int .u64 1) := y0
  have y1' : w4.cell? ⟨w.heap.size + 1, 1, none⟩ = some (.slice (some ⟨w.heap.size, 0, none⟩) 1 1) := y1
  have hwl : w.heap.size + 1 < w4.heap.size := heap_lt hc5
  have HCall := Lib.hid (fun W (hW : Below w4.heap.size w4 W) => same_any 1 1 ca (some ⟨w.heap.size, 0, none⟩) ccap 1 [fixE] [fixE] W (by decide) (by decide) ((row_ents hent5).below hW) (HE5.out.below hW))
  unfold comV at HCall
  simp only [List.length_cons, List.length_nil, Nat.zero_add] at HCall
  have hnn : ((SL.length : Int) == (SL.length : Int)) = true := by simp
  have hBd := hB4.drew
  clear hcell x0 x1 y0 y1 hc5 hrw5 hent5
  go_wp2_with fail
  have hS0 : w4.drew.cell? ⟨b, off, none⟩ = some (.int .u64 1) ∧ w4.drew.cell? ⟨b, off + 1, none⟩ = some (.slice ca 1 ccap) ∧ w4.drew.cell? ⟨w.heap.size + 1, 0, none⟩ = some (.int .u64 1) ∧ w4.drew.cell? ⟨w.heap.size + 1, 1, none⟩ = some (.slice (some ⟨w.heap.size, 0, none⟩) 1 1) := ⟨x0', x1', y0', y1'⟩
  refine wp_region_held_drew (S := fun w' => w'.cell? ⟨b, off, none⟩ = some (.int .u64 1) ∧ w'.cell? ⟨b, off + 1, none⟩ = some (.slice ca 1 ccap) ∧ w'.cell? ⟨w.heap.size + 1, 0, none⟩ = some (.int .u64 1) ∧ w'.cell? ⟨w.heap.size + 1, 1, none⟩ = some (.slice (some ⟨w.heap.size, 0, none⟩) 1 1)) (by kernel_rfl) hS0 (fun hHeld => ?_)
  clear hS0
  have HR0 := Lib.hid (show Below w4.heap.size w4 w4.drew from (Below.refl _ _).drew)
  refine take_at 0 32 (v := ?_) rfl rfl (by kernel_rfl) (by kernel_rfl) (by kernel_rfl) (fun _ _ _ h => h) (Or.inl ⟨by rfl, ?_⟩) hHeld ?_
  rotate_left
  · (intro w hSw; (try dsimp only at hSw); go_simp; try with_reducible rfl)
  try simp only [List.setIfInBounds_toArray, List.set_cons_zero, List.set_cons_succ]
  refine take_at 1 33 (v := ?_) rfl rfl (by kernel_rfl) (by kernel_rfl) (by kernel_rfl) (fun _ _ _ h => h) (Or.inl ⟨by rfl, ?_⟩) hHeld ?_
  rotate_left
  · (intro w hSw; (try dsimp only at hSw); go_simp; try with_reducible rfl)
  try simp only [List.setIfInBounds_toArray, List.set_cons_zero, List.set_cons_succ]
  refine take_at 2 34 (v := ?_) rfl rfl (by kernel_rfl) (by kernel_rfl) (by kernel_rfl) (fun _ _ _ h => h) (Or.inl ⟨by rfl, ?_⟩) hHeld ?_
  rotate_left
  · (intro w hSw; (try dsimp only at hSw); go_simp; try with_reducible rfl)
  try simp only [List.setIfInBounds_toArray, List.set_cons_zero, List.set_cons_succ]
  refine take_at 3 35 (v := ?_) rfl rfl (by kernel_rfl) (by kernel_rfl) (by kernel_rfl) (fun _ _ _ h => h) (Or.inl ⟨by rfl, ?_⟩) hHeld ?_
  rotate_left
  · (intro w hSw; (try dsimp only at hSw); go_simp; try with_reducible rfl)
  try simp only [List.setIfInBounds_toArray, List.set_cons_zero, List.set_cons_succ]
  refine take_at 4 36 (v := ?_) rfl rfl (by kernel_rfl) (by kernel_rfl) (by kernel_rfl) (fun _ _ _ h => h) (Or.inl ⟨by rfl, ?_⟩) hHeld ?_
  rotate_left
  · (intro w hSw; (try dsimp only at hSw); go_simp; try with_reducible rfl)
  try simp only [List.setIfInBounds_toArray, List.set_cons_zero, List.set_cons_succ]
  refine take_at 5 37 (v := ?_) rfl rfl (by kernel_rfl) (by kernel_rfl) (by kernel_rfl) (fun _ _ _ h => h) (Or.inl ⟨by rfl, ?_⟩) hHeld ?_
  rotate_left
  · (intro w hSw; (try dsimp only at hSw); go_simp; try with_reducible rfl)
  try simp only [List.setIfInBounds_toArray, List.set_cons_zero, List.set_cons_succ]
  refine take_at 6 38 (v := ?_) rfl rfl (by kernel_rfl) (by kernel_rfl) (by kernel_rfl) (fun _ _ _ h => h) (Or.inl ⟨by rfl, ?_⟩) hHeld ?_
  rotate_left
  · (intro w hSw; (try dsimp only at hSw); go_simp; try with_reducible rfl)
  try simp only [List.setIfInBounds_toArray, List.set_cons_zero, List.set_cons_succ]
  refine take_at 7 39 (v := ?_) rfl rfl (by kernel_rfl) (by kernel_rfl) (by kernel_rfl) (fun _ _ _ h => h) (Or.inl ⟨by rfl, ?_⟩) hHeld ?_
  rotate_left
  · (intro w hSw; (try dsimp only at hSw); go_simp; try with_reducible rfl)
  try simp only [List.setIfInBounds_toArray, List.set_cons_zero, List.set_cons_succ]
  refine take_at 8 40 (v := ?_) rfl rfl (by kernel_rfl) (by kernel_rfl) (by kernel_rfl) (fun _ _ _ h => h) (Or.inl ⟨by rfl, ?_⟩) hHeld ?_
  rotate_left
  · (intro w hSw; (try dsimp only at hSw); go_simp; try with_reducible rfl)
  try simp only [List.setIfInBounds_toArray, List.set_cons_zero, List.set_cons_succ]
  refine take_at 9 41 (v := ?_) rfl rfl (by kernel_rfl) (by kernel_rfl) (by kernel_rfl) (fun _ _ _ h => h) (Or.inl ⟨by rfl, ?_⟩) hHeld ?_
  rotate_left
  · (intro w hSw; (try dsimp only at hSw); go_simp; try with_reducible rfl)
  try simp only [List.setIfInBounds_toArray, List.set_cons_zero, List.set_cons_succ]
  refine take_at 10 42 (v := ?_) rfl rfl (by kernel_rfl) (by kernel_rfl) (by kernel_rfl) (fun _ _ _ h => h) (Or.inl ⟨by rfl, ?_⟩) hHeld ?_
  rotate_left
  · (intro w hSw; (try dsimp only at hSw); go_simp; try with_reducible rfl)
  try simp only [List.setIfInBounds_toArray, List.set_cons_zero, List.set_cons_succ]
  refine take_at 11 43 (v := ?_) rfl rfl (by kernel_rfl) (by kernel_rfl) (by kernel_rfl) (fun _ _ _ h => h) (Or.inl ⟨by rfl, ?_⟩) hHeld ?_
  rotate_left
  · (intro w hSw; (try dsimp only at hSw); go_simp; try with_reducible rfl)
  try simp only [List.setIfInBounds_toArray, List.set_cons_zero, List.set_cons_succ]
  refine take_at 12 44 (v := ?_) rfl rfl (by kernel_rfl) (by kernel_rfl) (by kernel_rfl) (fun _ _ _ h => h) (Or.inl ⟨by rfl, ?_⟩) hHeld ?_
  rotate_left
  · (intro w hSw; (try dsimp only at hSw); go_simp; try with_reducible rfl)
  try simp only [List.setIfInBounds_toArray, List.set_cons_zero, List.set_cons_succ]
  refine take_at 13 45 (v := ?_) rfl rfl (by kernel_rfl) (by kernel_rfl) (by kernel_rfl) (fun _ _ _ h => h) (Or.inl ⟨by rfl, ?_⟩) hHeld ?_
  rotate_left
  · (intro w hSw; (try dsimp only at hSw); go_simp; try with_reducible rfl)
  try simp only [List.setIfInBounds_toArray, List.set_cons_zero, List.set_cons_succ]
  refine take_at 14 46 (v := ?_) rfl rfl (by kernel_rfl) (by kernel_rfl) (by kernel_rfl) (fun _ _ _ h => h) (Or.inl ⟨by rfl, ?_⟩) hHeld ?_
  rotate_left
  · (intro w hSw; (try dsimp only at hSw); go_simp; try with_reducible rfl)
  try simp only [List.setIfInBounds_toArray, List.set_cons_zero, List.set_cons_succ]
  refine take_at 15 47 (v := ?_) rfl rfl (by kernel_rfl) (by kernel_rfl) (by kernel_rfl) (fun _ _ _ h => h) (Or.inl ⟨by rfl, ?_⟩) hHeld ?_
  rotate_left
  · (intro w hSw; (try dsimp only at hSw); go_simp; try with_reducible rfl)
  try simp only [List.setIfInBounds_toArray, List.set_cons_zero, List.set_cons_succ]
  refine take_at 16 48 (v := ?_) rfl rfl (by kernel_rfl) (by kernel_rfl) (by kernel_rfl) (fun _ _ _ h => h) (Or.inl ⟨by rfl, ?_⟩) hHeld ?_
  rotate_left
  · (intro w hSw; (try dsimp only at hSw); go_simp; try with_reducible rfl)
  try simp only [List.setIfInBounds_toArray, List.set_cons_zero, List.set_cons_succ]
  refine take_at 17 49 (v := ?_) rfl rfl (by kernel_rfl) (by kernel_rfl) (by kernel_rfl) (fun _ _ _ h => h) (Or.inl ⟨by rfl, ?_⟩) hHeld ?_
  rotate_left
  · (intro w hSw; (try dsimp only at hSw); go_simp; try with_reducible rfl)
  try simp only [List.setIfInBounds_toArray, List.set_cons_zero, List.set_cons_succ]
  refine take_at 18 50 (v := ?_) rfl rfl (by kernel_rfl) (by kernel_rfl) (by kernel_rfl) (fun _ _ _ h => h) (Or.inl ⟨by rfl, ?_⟩) hHeld ?_
  rotate_left
  · (intro w hSw; (try dsimp only at hSw); go_simp; try with_reducible rfl)
  try simp only [List.setIfInBounds_toArray, List.set_cons_zero, List.set_cons_succ]
  refine take_at 19 51 (v := ?_) rfl rfl (by kernel_rfl) (by kernel_rfl) (by kernel_rfl) (fun _ _ _ h => h) (Or.inl ⟨by rfl, ?_⟩) hHeld ?_
  rotate_left
  · (intro w hSw; (try dsimp only at hSw); go_simp; try with_reducible rfl)
  try simp only [List.setIfInBounds_toArray, List.set_cons_zero, List.set_cons_succ]
  refine take_at 20 52 (v := ?_) rfl rfl (by kernel_rfl) (by kernel_rfl) (by kernel_rfl) (fun _ _ _ h => h) (Or.inl ⟨by rfl, ?_⟩) hHeld ?_
  rotate_left
  · (intro w hSw; (try dsimp only at hSw); go_simp; try with_reducible rfl)
  try simp only [List.setIfInBounds_toArray, List.set_cons_zero, List.set_cons_succ]
  refine take_at 21 53 (v := ?_) rfl rfl (by kernel_rfl) (by kernel_rfl) (by kernel_rfl) (fun _ _ _ h => h) (Or.inl ⟨by rfl, ?_⟩) hHeld ?_
  rotate_left
  · (intro w hSw; (try dsimp only at hSw); go_simp; try with_reducible rfl)
  try simp only [List.setIfInBounds_toArray, List.set_cons_zero, List.set_cons_succ]
  refine take_at 22 54 (v := ?_) rfl rfl (by kernel_rfl) (by kernel_rfl) (by kernel_rfl) (fun _ _ _ h => h) (Or.inl ⟨by rfl, ?_⟩) hHeld ?_
  rotate_left
  · (intro w hSw; (try dsimp only at hSw); go_simp; try with_reducible rfl)
  try simp only [List.setIfInBounds_toArray, List.set_cons_zero, List.set_cons_succ]
  refine take_at 23 55 (v := ?_) rfl rfl (by kernel_rfl) (by kernel_rfl) (by kernel_rfl) (fun _ _ _ h => h) (Or.inl ⟨by rfl, ?_⟩) hHeld ?_
  rotate_left
  · (intro w hSw; (try dsimp only at hSw); go_simp; try with_reducible rfl)
  try simp only [List.setIfInBounds_toArray, List.set_cons_zero, List.set_cons_succ]
  refine take_at 24 56 (v := ?_) rfl rfl (by kernel_rfl) (by kernel_rfl) (by kernel_rfl) (fun _ _ _ h => h) (Or.inl ⟨by rfl, ?_⟩) hHeld ?_
  rotate_left
  · (intro w hSw; (try dsimp only at hSw); go_simp; try with_reducible rfl)
  try simp only [List.setIfInBounds_toArray, List.set_cons_zero, List.set_cons_succ]
  refine take_at 25 57 (v := ?_) rfl rfl (by kernel_rfl) (by kernel_rfl) (by kernel_rfl) (fun _ _ _ h => h) (Or.inl ⟨by rfl, ?_⟩) hHeld ?_
  rotate_left
  · (intro w hSw; (try dsimp only at hSw); go_simp; try with_reducible rfl)
  try simp only [List.setIfInBounds_toArray, List.set_cons_zero, List.set_cons_succ]
  refine take_at 26 58 (v := ?_) rfl rfl (by kernel_rfl) (by kernel_rfl) (by kernel_rfl) (fun _ _ _ h => h) (Or.inl ⟨by rfl, ?_⟩) hHeld ?_
  rotate_left
  · (intro w hSw; (try dsimp only at hSw); go_simp; try with_reducible rfl)
  try simp only [List.setIfInBounds_toArray, List.set_cons_zero, List.set_cons_succ]
  refine take_at 27 59 (v := ?_) rfl rfl (by kernel_rfl) (by kernel_rfl) (by kernel_rfl) (fun _ _ _ h => h) (Or.inl ⟨by rfl, ?_⟩) hHeld ?_
  rotate_left
  · (intro w hSw; (try dsimp only at hSw); go_simp; try with_reducible rfl)
  try simp only [List.setIfInBounds_toArray, List.set_cons_zero, List.set_cons_succ]
  refine take_at 28 60 (v := ?_) rfl rfl (by kernel_rfl) (by kernel_rfl) (by kernel_rfl) (fun _ _ _ h => h) (Or.inl ⟨by rfl, ?_⟩) hHeld ?_
  rotate_left
  · (intro w hSw; (try dsimp only at hSw); go_simp; try with_reducible rfl)
  try simp only [List.setIfInBounds_toArray, List.set_cons_zero, List.set_cons_succ]
  refine take_at 29 61 (v := ?_) rfl rfl (by kernel_rfl) (by kernel_rfl) (by kernel_rfl) (fun _ _ _ h => h) (Or.inl ⟨by rfl, ?_⟩) hHeld ?_
  rotate_left
  · (intro w hSw; (try dsimp only at hSw); go_simp; try with_reducible rfl)
  try simp only [List.setIfInBounds_toArray, List.set_cons_zero, List.set_cons_succ]
  refine take_at 30 62 (v := ?_) rfl rfl (by kernel_rfl) (by kernel_rfl) (by kernel_rfl) (fun _ _ _ h => h) (Or.inl ⟨by rfl, ?_⟩) hHeld ?_
  rotate_left
  · (intro w hSw; (try dsimp only at hSw); go_simp; try with_reducible rfl)
  try simp only [List.setIfInBounds_toArray, List.set_cons_zero, List.set_cons_succ]
  refine only_at 31 63 (by kernel_rfl) rfl rfl (by rfl) (fun K hK => ?_)
  go_simp
  refine (HCall.out _ HR0.out).mono ?_
  rintro e W1 ⟨⟨r, rfl, hr⟩, hb1⟩
  have hr1 := hr.2 (by simp)
  subst hr1
  have hB1 := hBd.trans (hb1.mono hBd.size)
  have hS1 := (⟨(hb1.cell (p := ⟨b, off, none⟩) hbl).trans x0', (hb1.cell (p := ⟨b, off + 1, none⟩) hbl).trans x1', (hb1.cell (p := ⟨w.heap.size + 1, 0, none⟩) hwl).trans y0', (hb1.cell (p := ⟨w.heap.size + 1, 1, none⟩) hwl).trans y1'⟩ : W1.cell? ⟨b, off, none⟩ = some (.int .u64 1) ∧ W1.cell? ⟨b, off + 1, none⟩ = some (.slice ca 1 ccap) ∧ W1.cell? ⟨w.heap.size + 1, 0, none⟩ = some (.int .u64 1) ∧ W1.cell? ⟨w.heap.size + 1, 1, none⟩ = some (.slice (some ⟨w.heap.size, 0, none⟩) 1 1))
  clear hr hb1
  go_wp2_with fail
  refine hK.out _ _ hS1 (fun hHeld2 => ?_)
  clear hK K hHeld
  have hHeld := hHeld2
  clear hHeld2
  try simp only [Act.put, List.setIfInBounds_toArray, List.set_cons_zero, List.set_cons_succ]
  refine take_at 32 64 (v := ?_) rfl rfl (by kernel_rfl) (by kernel_rfl) (by kernel_rfl) (fun _ _ _ h => h) (Or.inl ⟨by rfl, ?_⟩) hHeld ?_
  rotate_left
  · (intro w hSw; (try dsimp only at hSw); go_simp; try with_reducible rfl)
  try simp only [List.setIfInBounds_toArray, List.set_cons_zero, List.set_cons_succ]
  refine take_at 33 0 (v := ?_) rfl rfl (by kernel_rfl) (by kernel_rfl) (by kernel_rfl) (fun _ _ _ h => h) (Or.inl ⟨by rfl, ?_⟩) hHeld ?_
  rotate_left
  · (intro w hSw; (try dsimp only at hSw); go_simp; try with_reducible rfl)
  try simp only [List.setIfInBounds_toArray, List.set_cons_zero, List.set_cons_succ]
  refine wpAnyH_done (by kernel_rfl) ?_ _
  go_wp2_with fail
  go_ret
  exact ⟨rfl, hB1⟩
end Go.Proofs.Ytbamohcaamgalae
