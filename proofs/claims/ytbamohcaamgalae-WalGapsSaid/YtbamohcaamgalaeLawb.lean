/- WalEncodes: the law walked. -/
import Derived.Test.YtbamohcaamgalaeLawa
namespace Go.Proofs.Ytbamohcaamgalae
set_option linter.unusedVariables false
set_option linter.unusedSimpArgs false
open Go.RowKit

theorem decode_at (a : Option Addr) (cap n : Nat) (l : List UInt8) (w : World) (hn : l.length = n) (hl : n ≤ 1000000) (hc : n ≤ cap) (h : IsBytes w a l) :
    Calls Try.prog 13 #[.slice a n cap] w (DecIs l w) := by
  subst hn; exact decode_any a cap l w hl hc h
theorem decV_record (rev : Nat) (es : List Ent) (hr : rev < 18446744073709551616) (h : Right rev es) : decV (recordB rev es) = (rev, es, 0) := by rw [decV, decOf_some (decodes_record rev es hr h)]
set_option maxRecDepth 100000 in
set_option maxHeartbeats 4000000 in
theorem lawEncodes (rev : Nat) (a : Option Addr) (cap : Nat) (es : List Ent) (w : World) (hr : rev < 18446744073709551616) (hl : es.length ≤ 9223372036854775807) (he : ∀ i, EntOk (es.getD i default)) (h : IsEnts w a es) :
    Calls Try.prog 3 #[comV rev a es.length cap] w fun e w' => e = .returned (.bool true) ∧ Below w.heap.size w w' := by
  unfold comV
  have hA := (Below.refl w.heap.size w).alloc (Nat.le_refl _) (.cells #[.int .u64 (rev : Int), .slice a es.length cap] 25)
  have hx0 := heap_alloc_new w (.cells #[.int .u64 (rev : Int), .slice a es.length cap] 25)
  have HF := Lib.hid (fixed_any (w.alloc (.cells #[.int .u64 (rev : Int), .slice a es.length cap] 25)))
  have H := Lib.hid h
  have HE := Lib.hid he
  have hgx : w.heap.size < (w.alloc (.cells #[.int .u64 (rev : Int), .slice a es.length cap] 25)).heap.size := by simp
  clear h he
  go_enter Try.func3, Try.ntmps3
  go_wp2_with fail
  refine HF.out.mono ?_
  clear HF
  rintro e w1 ⟨rfl, hb1⟩
  have hB1 := hA.trans (hb1.mono hA.size)
  have hx1 := (hb1.block w.heap.size hgx).trans hx0
  have HFew := Lib.hid (few_any rev a cap es w1 hl HE.out (H.out.below hB1))
  unfold comV at HFew
  have p0 := heap_cell hx1 0
  have p1 := heap_cell hx1 1
  simp at p0 p1
  clear hb1 hx0 hA hgx
  go_wp2_with fail
  refine HFew.out.mono ?_
  clear HFew
  rintro e w2 ⟨⟨r, rfl, hr2⟩, hb2⟩
  have hB2 := hB1.trans (hb2.mono hB1.size)
  have hx2 := (hb2.block w.heap.size (heap_lt hx1)).trans hx1
  have q0 := heap_cell hx2 0
  have q1 := heap_cell hx2 1
  simp at q0 q1
  clear p0 p1 hb2 hB1 hx1
  cases r with
  | false =>
    go_wp2_with fail
    go_ret
    exact ⟨rfl, hB2⟩
  | true =>
    obtain ⟨hln, hks⟩ := hr2 rfl
    clear hr2
    have HKs := Lib.hid hks
    have HEnc := Lib.hid (encode_any rev a cap es w2 hr hln hks HE.out (H.out.below hB2))
    unfold comV at HEnc
    clear hks
    go_wp2_with fail
    refine HEnc.out.mono ?_
    clear HEnc
    rintro e w3 ⟨hb3, hy3, hn3⟩
    have hB3 := hB2.trans (hb3.mono hB2.size)
    have hx3 := (hb3.block w.heap.size (heap_lt hx2)).trans hx2
    have s0 := heap_cell hx3 0
    have s1 := heap_cell hx3 1
    simp at s0 s1
    have HRR := Lib.hid (refright_any rev a cap es w3 hl hr HE.out (H.out.below hB3))
    unfold comV at HRR
    clear q0 q1 hb3 hB2 hx2
    by_cases hright : Right rev es
    · obtain ⟨v3, rfl, hrow3⟩ := hy3 hright
      have HRt := Lib.hid hright
      clear hy3 hn3 hright
      obtain ⟨a3, m3, c3, rfl⟩ := row_slice hrow3
      have hm3 := row_len' hrow3
      subst hm3
      go_wp2_with fail
      refine HRR.out.mono ?_
      clear HRR
      rintro e w4 ⟨⟨r, rfl, hr4⟩, hb4⟩
      have hr4t := hr4.2 HRt.out
      subst hr4t
      have hB4 := hB3.trans (hb4.mono hB3.size)
      have hx4 := (hb4.block w.heap.size (heap_lt hx3)).trans hx3
      have hrow4 := Below.row hb4 hrow3
      have u0 := heap_cell hx4 0
      have u1 := heap_cell hx4 1
      simp at u0 u1
      clear hr4 hb4 hrow3 s0 s1 hB3 hx3
      have hsl := length_seal (recordB rev es)
      have hrl := recK_len rev es hr hln HKs.out es.length (Nat.le_refl _)
      rw [recK_all] at hrl
      have hby4 : IsBytes w4 a3 (seal_ (recordB rev es)) := row_bytes' hrow4
      have HRec := Lib.hid (fun W (hW : Below w.heap.size w W) => record_any rev a cap es W hr hln HKs.out (H.out.below hW))
      unfold comV at HRec
      obtain ⟨W0, hW0⟩ : ∃ W0, W0 = w4.drew := ⟨_, rfl⟩
      have hB0 : Below w.heap.size w W0 := by rw [hW0]; exact hB4.drew
      have hx0 : W0.heap[w.heap.size]? = some (.cells #[.int .u64 (rev : Int), .slice a es.length cap] 25 (0, 0)) := by rw [hW0]; exact hx4
      have hby0 : IsBytes W0 a3 (seal_ (recordB rev es)) := by rw [hW0]; exact hby4
      have hwl := heap_lt hx0
      have hl0 : ∀ w', Below W0.heap.size W0 w' → w'.cell? ⟨w.heap.size, 0, none⟩ = some (.int .u64 (rev : Int)) := fun w' hw => heap_cell ((hw.block _ hwl).trans hx0) 0
      have hl1 : ∀ w', Below W0.heap.size W0 w' → w'.cell? ⟨w.heap.size, 1, none⟩ = some (.slice a es.length cap) := fun w' hw => heap_cell ((hw.block _ hwl).trans hx0) 1
      have hcv : ∀ w', Below W0.heap.size W0 w' → (convert 28 9 (.slice a3 (8 + (recordB rev es).length) c3)).run Try.prog w' = .ok (.string { data := (seal_ (recordB rev es)).toArray }) w' := fun w' hw => run_string_of_bytes (P := Try.prog) w' 28 9 5 a3 _ c3 (seal_ (recordB rev es)) hsl Try.underlying28 Try.underlying5 Try.underlying9 (hby0.below hw)
      have hS0 : Below W0.heap.size W0 w4.drew := by rw [hW0]; exact Below.refl _ _
      have HSL := Lib.hid hsl
      generalize hXX : ({ data := (seal_ (recordB rev es)).toArray } : ByteArray) = XX at *
      have HXX := Lib.hid hXX
      generalize hRL : (recordB rev es).length = RL at *
      have HRL := Lib.hid hRL
      have heq : (XX.toList == XX.toList) = true := by simp
      clear hXX hRL hsl hby4 hby0 hrow4
      go_wp2_with fail
      refine wp_region_held_drew (S := fun w' => Below W0.heap.size W0 w') (by kernel_rfl) hS0 (fun hHeld => ?_)
      clear hS0
      rw [← hW0] at hHeld ⊢
      clear hW0
      refine take_at 0 27 (v := ?_) rfl rfl (by kernel_rfl) (by kernel_rfl) (by kernel_rfl) (fun _ _ _ h => h) (Or.inl ⟨by rfl, ?_⟩) hHeld ?_
      rotate_left
      · (intro w hSw; (try dsimp only at hSw); go_simp; try with_reducible rfl)
      try simp only [List.setIfInBounds_toArray, List.set_cons_zero, List.set_cons_succ]
      refine take_at 1 28 (v := ?_) rfl rfl (by kernel_rfl) (by kernel_rfl) (by kernel_rfl) (fun _ _ _ h => h) (Or.inl ⟨by rfl, ?_⟩) hHeld ?_
      rotate_left
      · (intro w hSw; (try dsimp only at hSw); go_simp; try with_reducible rfl)
      try simp only [List.setIfInBounds_toArray, List.set_cons_zero, List.set_cons_succ]
      refine take_at 2 29 (v := ?_) rfl rfl (by kernel_rfl) (by kernel_rfl) (by kernel_rfl) (fun _ _ _ h => h) (Or.inl ⟨by rfl, ?_⟩) hHeld ?_
      rotate_left
      · (intro w hSw; (try dsimp only at hSw); go_simp; try with_reducible rfl)
      try simp only [List.setIfInBounds_toArray, List.set_cons_zero, List.set_cons_succ]
      refine take_at 3 30 (v := ?_) rfl rfl (by kernel_rfl) (by kernel_rfl) (by kernel_rfl) (fun _ _ _ h => h) (Or.inl ⟨by rfl, ?_⟩) hHeld ?_
      rotate_left
      · (intro w hSw; (try dsimp only at hSw); go_simp; try with_reducible rfl)
      try simp only [List.setIfInBounds_toArray, List.set_cons_zero, List.set_cons_succ]
      refine take_at 4 31 (v := ?_) rfl rfl (by kernel_rfl) (by kernel_rfl) (by kernel_rfl) (fun _ _ _ h => h) (Or.inl ⟨by rfl, ?_⟩) hHeld ?_
      rotate_left
      · (intro w hSw; (try dsimp only at hSw); go_simp; try with_reducible rfl)
      try simp only [List.setIfInBounds_toArray, List.set_cons_zero, List.set_cons_succ]
      refine take_at 5 32 (v := ?_) rfl rfl (by kernel_rfl) (by kernel_rfl) (by kernel_rfl) (fun _ _ _ h => h) (Or.inl ⟨by rfl, ?_⟩) hHeld ?_
      rotate_left
      · (intro w hSw; (try dsimp only at hSw); go_simp; try with_reducible rfl)
      try simp only [List.setIfInBounds_toArray, List.set_cons_zero, List.set_cons_succ]
      refine only_at 6 33 (by kernel_rfl) rfl rfl (by rfl) (fun K hK => ?_)
      go_simp
      refine (HRec.out _ hB0).mono ?_
      rintro e W1 ⟨v1, rfl, hown1, hb1⟩
      have hB1' := hB0.trans (hb1.mono hB0.size)
      have hS1 : Below W0.heap.size W0 W1 := hb1
      obtain ⟨b1, m1, k1, rfl⟩ := row_slice hown1
      have hm1 := row_len' hown1
      have HB1 := Lib.hid (row_bytes' hown1)
      subst hm1
      clear hown1 hb1
      go_wp2_with fail
      refine hK.out _ _ hS1 (fun hHeld2 => ?_)
      clear hK K hHeld
      have hHeld := hHeld2
      clear hHeld2
      try simp only [Act.put, List.setIfInBounds_toArray, List.set_cons_zero, List.set_cons_succ]
      refine only_at 7 34 (by kernel_rfl) rfl rfl (by rfl) (fun K hK => ?_)
      go_simp
      refine (refseal_any b1 k1 m1 (recordB rev es) W1 HRL.out (by omega) HB1.out).mono ?_
      rintro e W2 ⟨v2, rfl, hown2, hb2⟩
      have hB2' := hB1'.trans (hb2.mono hB1'.size)
      have hS2 : Below W0.heap.size W0 W2 := hS1.trans (hb2.mono hS1.size)
      obtain ⟨b2, m2, k2, rfl⟩ := row_slice hown2
      have hm2 := row_len' hown2
      subst hm2
      have hcv2 := run_string_of_bytes (P := Try.prog) W2 28 9 5 b2 (8 + m1) k2 (seal_ (recordB rev es)) HSL.out Try.underlying28 Try.underlying5 Try.underlying9 (row_bytes' hown2)
      rw [HXX.out] at hcv2
      have hx2' := (hS2.block _ hwl).trans hx0
      clear hown2 hb2
      go_wp2_with fail
      refine hK.out _ _ hS2 (fun hHeld2 => ?_)
      clear hK K hHeld
      have hHeld := hHeld2
      clear hHeld2
      try simp only [Act.put, List.setIfInBounds_toArray, List.set_cons_zero, List.set_cons_succ]
      refine only_at 8 35 (by kernel_rfl) rfl rfl (by rfl) (fun K hK => ?_)
      go_simp
      refine hK.out _ _ hS2 (fun hHeld2 => ?_)
      clear hK K hHeld
      have hHeld := hHeld2
      clear hHeld2
      try simp only [Act.put, List.setIfInBounds_toArray, List.set_cons_zero, List.set_cons_succ]
      refine take_at 9 36 (v := ?_) rfl rfl (by kernel_rfl) (by kernel_rfl) (by kernel_rfl) (fun _ _ _ h => h) (Or.inl ⟨by rfl, ?_⟩) hHeld ?_
      rotate_left
      · (intro w hSw; (try dsimp only at hSw); go_simp; try with_reducible rfl)
      try simp only [List.setIfInBounds_toArray, List.set_cons_zero, List.set_cons_succ]
      refine take_at 10 37 (v := ?_) rfl rfl (by kernel_rfl) (by kernel_rfl) (by kernel_rfl) (fun _ _ _ h => h) (Or.inl ⟨by rfl, ?_⟩) hHeld ?_
      rotate_left
      · (intro w hSw; (try dsimp only at hSw); go_simp; try with_reducible rfl)
      try simp only [List.setIfInBounds_toArray, List.set_cons_zero, List.set_cons_succ]
      refine wpAnyH_done (by kernel_rfl) ?_ _
      go_wp2_with fail
      refine (HRec.out _ hB2').mono ?_
      rintro e W3 ⟨v3, rfl, hown3, hb3⟩
      have hB3' := hB2'.trans (hb3.mono hB2'.size)
      have hx3' := (hb3.block w.heap.size (heap_lt hx2')).trans hx2'
      obtain ⟨b3, m3, k3, rfl⟩ := row_slice hown3
      have hm3 := row_len' hown3
      have hc3 := row_cap1 hown3
      rw [← hm3] at hc3
      have HDc := Lib.hid (decode_at b3 k3 m3 (recordB rev es) W3 (HRL.out.trans hm3.symm) (by omega) hc3 (row_bytes' hown3))
      clear hown3 hb3 hm3 hc3
      go_wp2_with fail
      refine HDc.out.mono ?_
      clear HDc
      intro e W4 hdec
      obtain ⟨hb4, _, _, a4, c4, rfl, hib4⟩ := decIs_view hdec
      rw [decV_record rev es hr HRt.out] at hib4 ⊢
      simp only at hib4 ⊢
      have hB4' := hB3'.trans (hb4.mono hB3'.size)
      have hx4' := (hb4.block w.heap.size (heap_lt hx3')).trans hx3'
      have z0 := heap_cell hx4' 0
      have z1 := heap_cell hx4' 1
      simp at z0 z1
      have hzl := heap_lt hx4'
      have hBA := hB4'.alloc hB4'.size (.cells #[.int .u64 (rev : Int), .slice a4 es.length c4] 25)
      have HS := Lib.hid (same_any rev rev a a4 cap c4 es es (W4.alloc (.cells #[.int .u64 (rev : Int), .slice a4 es.length c4] 25)) hl hl (H.out.below hBA) (hib4.below ((Below.refl _ _).alloc (Nat.le_refl _) _)))
      unfold comV at HS
      clear hdec hb4 hib4
      go_wp2_with fail
      refine HS.out.mono ?_
      clear HS
      rintro e W5 ⟨⟨r, rfl, hr5⟩, hb5⟩
      have hr5t := hr5.2 (by simp)
      subst hr5t
      have hB5' := hBA.trans (hb5.mono hBA.size)
      clear hr5 hb5
      go_wp2_with fail
      go_ret
      exact ⟨rfl, hB5'⟩
    · have := hn3 hright
      subst this
      have HRt := Lib.hid hright
      clear hy3 hn3 hright
      go_wp2_with fail
      refine HRR.out.mono ?_
      rintro e w4 ⟨⟨r, rfl, hr4⟩, hb4⟩
      have hr4f : r = false := by
        cases r with
        | false => rfl
        | true => exact absurd (hr4.1 rfl) HRt.out
      subst hr4f
      have hB4 := hB3.trans (hb4.mono hB3.size)
      clear hr4 hb4
      go_wp2_with fail
      go_ret
      exact ⟨rfl, hB4⟩
end Go.Proofs.Ytbamohcaamgalae
