/- A record written, as the document does: walked. -/
import Derived.Test.YtbamohcaamgalaeWalkP
namespace Go.Proofs.Ytbamohcaamgalae
set_option linter.unusedVariables false
set_option linter.unusedSimpArgs false
open Go.RowKit

set_option maxRecDepth 100000 in
set_option maxHeartbeats 2000000 in
theorem record_any (rev : Nat) (a : Option Addr) (cap : Nat) (es : List Ent) (w : World) (hr : rev < 18446744073709551616) (hl : es.length ≤ 400) (hk : ∀ i, (es.getD i default).key.size ≤ 200) (h : IsEnts w a es) :
    Calls Try.prog 12 #[comV rev a es.length cap] w fun e w' => ∃ v, e = .returned v ∧ w'.ownsRow w.heap.size 5 1 v (recordB rev es).length (bytesV (recordB rev es)) ∧ Below w.heap.size w w' := by
  obtain ⟨i5, hi5, hy0, hy1, hy2⟩ := info_parts Try.info5
  unfold comV
  have hB1 := (Below.refl w.heap.size w).alloc (Nat.le_refl _) (.cells #[.int .u64 (rev : Int), .slice a es.length cap] 25)
  have hbox1 := heap_alloc_new w (.cells #[.int .u64 (rev : Int), .slice a es.length cap] 25)
  have H1 := Lib.hid (h.below hB1)
  have HK := Lib.hid hk
  have HW := Lib.hid h
  have hLen := recK_len rev es hr hl hk
  have HLen := Lib.hid hLen
  clear h hk hLen
  go_enter Try.func12, Try.ntmps12
  go_wp2_with fail
  generalize (w.alloc (.cells #[.int .u64 (rev : Int), .slice a es.length cap] 25)) = w1 at *
  have hS0 : w1.drew.cell? ⟨w.heap.size, 0, none⟩ = some (.int .u64 (rev : Int)) ∧ w1.drew.cell? ⟨w.heap.size, 1, none⟩ = some (.slice a es.length cap) := ⟨heap_cell (w := w1.drew) hbox1 0, heap_cell (w := w1.drew) hbox1 1⟩
  have hwn : IntKind.u64.wrap (es.length : Int) = (es.length : Int) := IntWalk.u64_in _ (by omega)
  have hu1 := uv_len64 rev hr
  have hu2 := uv_len64 es.length (by omega)
  · go_cut [3] (fun v wc => wc.ownsRow w.heap.size 5 1 v (recK rev es 0).length (bytesV (recK rev es 0)) ∧ Below w.heap.size w wc ∧ wc.heap[w.heap.size]? = some (.cells #[.int .u64 (rev : Int), .slice a es.length cap] 25 (0, 0)) ∧ Hid (IsEnts wc a es))
    case first =>
      have hbox0 : w1.drew.heap[w.heap.size]? = some (.cells #[.int .u64 (rev : Int), .slice a es.length cap] 25 (0, 0)) := hbox1
      have hBd := hB1.drew
      have HEd : Hid (IsEnts w1.drew a es) := H1.out
      refine wp_region_noPanic ?_
      refine wp_region_held_drew (S := fun w' => w'.cell? ⟨w.heap.size, 0, none⟩ = some (.int .u64 (rev : Int)) ∧ w'.cell? ⟨w.heap.size, 1, none⟩ = some (.slice a es.length cap)) (by kernel_rfl) hS0 (fun hHeld => ?_)
      clear hS0 hbox1 hB1
      generalize w1.drew = W0 at *
      refine take_at 0 6 (v := ?_) rfl rfl (by kernel_rfl) (by kernel_rfl) (by kernel_rfl) (fun _ _ _ h => h) (Or.inl ⟨by rfl, ?_⟩) hHeld ?_
      rotate_left
      · (intro w hSw; (try dsimp only at hSw); go_simp; try with_reducible rfl)
      try simp only [List.setIfInBounds_toArray, List.set_cons_zero, List.set_cons_succ]
      refine take_at 1 7 (v := ?_) rfl rfl (by kernel_rfl) (by kernel_rfl) (by kernel_rfl) (fun _ _ _ h => h) (Or.inl ⟨by rfl, ?_⟩) hHeld ?_
      rotate_left
      · (intro w hSw; (try dsimp only at hSw); go_simp; try with_reducible rfl)
      try simp only [List.setIfInBounds_toArray, List.set_cons_zero, List.set_cons_succ]
      refine take_at 3 9 (v := ?_) rfl rfl (by kernel_rfl) (by kernel_rfl) (by kernel_rfl) (fun _ _ _ h => h) (Or.inl ⟨by rfl, ?_⟩) hHeld ?_
      rotate_left
      · (intro w hSw; (try dsimp only at hSw); go_simp; try with_reducible rfl)
      try simp only [List.setIfInBounds_toArray, List.set_cons_zero, List.set_cons_succ]
      refine take_at 4 10 (v := ?_) rfl rfl (by kernel_rfl) (by kernel_rfl) (by kernel_rfl) (fun _ _ _ h => h) (Or.inl ⟨by rfl, ?_⟩) hHeld ?_
      rotate_left
      · (intro w hSw; (try dsimp only at hSw); go_simp; try with_reducible rfl)
      try simp only [List.setIfInBounds_toArray, List.set_cons_zero, List.set_cons_succ]
      refine take_at 5 11 (v := ?_) rfl rfl (by kernel_rfl) (by kernel_rfl) (by kernel_rfl) (fun _ _ _ h => h) (Or.inl ⟨by rfl, ?_⟩) hHeld ?_
      rotate_left
      · (intro w hSw; (try dsimp only at hSw); go_simp; try with_reducible rfl)
      try simp only [List.setIfInBounds_toArray, List.set_cons_zero, List.set_cons_succ]
      refine take_at 6 12 (v := ?_) rfl rfl (by kernel_rfl) (by kernel_rfl) (by kernel_rfl) (fun _ _ _ h => h) (Or.inl ⟨by rfl, ?_⟩) hHeld ?_
      rotate_left
      · (intro w hSw; (try dsimp only at hSw); go_simp; try with_reducible rfl)
      try simp only [List.setIfInBounds_toArray, List.set_cons_zero, List.set_cons_succ]
      refine only_at 2 8 (by kernel_rfl) rfl rfl (by rfl) (fun K hK => ?_)
      go_simp
      refine (refput_at none 0 0 [] rev W0 rfl (by decide) (Nat.le_refl _) hr (fun h => by cases h)).mono ?_
      rintro e W1 ⟨v1, rfl, hown1, hb1⟩
      rw [List.nil_append] at hown1
      have hB1 := hBd.trans (hb1.mono hBd.size)
      have hbox1 := (hb1.block w.heap.size (heap_lt hbox0)).trans hbox0
      have HE1 := Lib.hid (HEd.out.below hb1)
      have hS1 : W1.cell? ⟨w.heap.size, 0, none⟩ = some (.int .u64 (rev : Int)) ∧ W1.cell? ⟨w.heap.size, 1, none⟩ = some (.slice a es.length cap) := ⟨heap_cell hbox1 0, heap_cell hbox1 1⟩
      obtain ⟨a1, m1, c1, rfl⟩ := row_slice hown1
      have hm1 := row_len' hown1
      have HB1 := Lib.hid (row_bytes' hown1)
      have hc1 := row_cap1 hown1
      rw [← hm1] at hc1 hu1
      have HM1 := Lib.hid hm1
      have hlow1 := hBd.size
      clear hown1 hm1 hb1
      go_wp2_with fail
      refine hK.out _ _ hS1 (fun hHeld2 => ?_)
      clear hK K hHeld
      have hHeld := hHeld2
      clear hHeld2
      try simp only [Act.put, List.setIfInBounds_toArray, List.set_cons_zero, List.set_cons_succ]
      refine only_at 7 13 (by kernel_rfl) rfl rfl (by rfl) (fun K hK => ?_)
      go_simp
      try rw [hwn]
      refine (refput_at a1 c1 m1 (uv rev) es.length W1 HM1.out.symm (by omega) hc1 (by omega) HB1.out).mono ?_
      rintro e W2 ⟨v2, rfl, hown2, hb2⟩
      have hB2 := hB1.trans (hb2.mono hB1.size)
      have hbox2 := (hb2.block w.heap.size (heap_lt hbox1)).trans hbox1
      have HE2 := Lib.hid (HE1.out.below hb2)
      have hS2 : W2.cell? ⟨w.heap.size, 0, none⟩ = some (.int .u64 (rev : Int)) ∧ W2.cell? ⟨w.heap.size, 1, none⟩ = some (.slice a es.length cap) := ⟨heap_cell hbox2 0, heap_cell hbox2 1⟩
      have HRow2 := Lib.hid (row_lower hown2 hB1.size)
      clear hown2 hb2
      go_wp2_with fail
      refine hK.out _ _ hS2 (fun hHeld2 => ?_)
      clear hK K hHeld
      have hHeld := hHeld2
      clear hHeld2
      try simp only [Act.put, List.setIfInBounds_toArray, List.set_cons_zero, List.set_cons_succ]
      refine take_at 8 3 (v := ?_) rfl rfl (by kernel_rfl) (by kernel_rfl) (by kernel_rfl) (fun _ _ _ h => h) (Or.inl ⟨by rfl, ?_⟩) hHeld ?_
      rotate_left
      · (intro w hSw; (try dsimp only at hSw); go_simp; try with_reducible rfl)
      try simp only [List.setIfInBounds_toArray, List.set_cons_zero, List.set_cons_succ]
      refine wpAnyH_done (by kernel_rfl) ?_ _
      refine NoPanic.normal ?_
      go_wp2_with fail
      go_meet
      case rel =>
        refine ⟨?_, hB2, hbox2, HE2⟩
        have e : recK rev es 0 = uv rev ++ uv es.length := by rw [recK]; simp [bodyB]
        rw [e]
        exact HRow2.out
    case rest =>
      obtain ⟨hrow, hB, hbx, HE⟩ := hcut
      clear hS0 hwn hu1 hu2 hB1 hbox1 H1
      have b1 := heap_cell hbx 1
      simp at b1
      go_wp2_with fail
      go_loopw [3, 17] (fun v i wr => ∃ k : Nat, k ≤ es.length ∧ i = .int .i64 k ∧ wr.ownsRow w.heap.size 5 1 v (recK rev es k).length (bytesV (recK rev es k)) ∧ Hid (Below w.heap.size w wr ∧ wr.heap[w.heap.size]? = some (.cells #[.int .u64 (rev : Int), .slice a es.length cap] 25 (0, 0)) ∧ IsEnts wr a es)) (fun _ i _ => es.length - (intOf i).toNat)
      case atStart => exact ⟨0, Nat.zero_le _, rfl, hrow, hB, hbx, HE.out⟩
      case round =>
        clear hrow hB hbx HE b1
        obtain ⟨k, hkl, rfl, hrow, hst⟩ := hrel
        obtain ⟨hB, hbx, hE⟩ := hst.out
        have HE := Lib.hid hE
        clear hst hE
        obtain ⟨av, mv, cv, rfl⟩ := row_slice hrow
        have hmv := row_len' hrow
        subst hmv
        by_cases hlt : k < es.length
        · obtain ⟨b, off, hab, hbb, hc⟩ := (HW.out.below hB) (by omega)
          subst hab
          obtain ⟨c0, c1, c2⟩ := hc k hlt
          have hdk : decide ((k : Int) < (es.length : Int)) = true := by simp; omega
          have hks := HK.out k
          have hlen := HLen.out k hkl
          have HSu := Lib.hid (recK_succ rev es k hlt)
          obtain ⟨x, hx⟩ : ∃ x, es.getD k default = x := ⟨_, rfl⟩
          rw [hx] at c0 c1 c2 hks HSu
          obtain ⟨xk, xr, xd⟩ := x
          simp only at c0 c1 c2 hks HSu
          clear hc hx
          have hal := heap_alloc_new wr (.cells #[.string xk, .int .u64 (xr : Int), .bool xd] 48)
          have hrow1 := hrow.alloc (.cells #[.string xk, .int .u64 (xr : Int), .bool xd] 48)
          have hB1 := hB.alloc hB.size (.cells #[.string xk, .int .u64 (xr : Int), .bool xd] 48)
          have hbx1 := (Below.heap_alloc _ (.cells #[.string xk, .int .u64 (xr : Int), .bool xd] 48) _ (heap_lt hbx)).trans hbx
          generalize hRK : recK rev es k = RK at *
          generalize hRK2 : recK rev es (k + 1) = RK2 at *
          have HRK2 := Lib.hid hRK2
          clear hRK hRK2
          obtain ⟨kd, hkd⟩ : ∃ kd : UInt8, flagB (⟨xk, xr, xd⟩ : Ent) = [kd] := ⟨_, rfl⟩
          have HKD := Lib.hid hkd
          clear hkd
          have HBx1 := Lib.hid hbx1
          have hx0 : (wr.alloc (.cells #[.string xk, .int .u64 (xr : Int), .bool xd] 48)).cell? ⟨wr.heap.size, 0, none⟩ = some (.string xk) := heap_cell hal 0
          have hx2 : (wr.alloc (.cells #[.string xk, .int .u64 (xr : Int), .bool xd] 48)).cell? ⟨wr.heap.size, 2, none⟩ = some (.bool xd) := heap_cell hal 2
          go_upto_if 22 with (fail)
          generalize (wr.alloc (.cells #[.string xk, .int .u64 (xr : Int), .bool xd] 48)) = W1 at *
          generalize wr.heap.size = gx at *
          cases xd with
          | true =>
            have HK1 : Hid (kd = 1) := by have h := HKD.out; have h2 : [(1 : UInt8)] = [kd] := h; cases h2; rfl
            have hbxA := (Below.heap_alloc _ (.cells #[.int .u8 1] 5) _ (heap_lt HBx1.out)).trans HBx1.out
            go_wp2_with (at_builtin; refine wpList_append_one W1 rfl _ _ 28 rfl w.heap.size 5 i5 _ 1 Try.underlying28 hi5 hy0 hy1 hy2 rfl (.slice av RK.length cv) RK.length (bytesV RK) (by rfl) hrow1 (.int .u8 1) 1 rfl rfl (by omega) (by omega) hB1.size ?_; intro v2 w2 hrow2 hg2 _; have hX2 := heap_kept hrow1 hal (by decide) hg2; have hbx2 := heap_kept hrow1 HBx1.out (by decide) hg2; have hB2 := Below.own hB1 hrow1 (Nat.le_refl _) hB1.size hg2; have hrow2' : w2.ownsRow w.heap.size 5 1 v2 (RK.length + 1) (bytesV (RK ++ [1])) := (by rw [bytesV_append]; exact hrow2); obtain ⟨a2, m2, c2', rfl⟩ := row_slice hrow2'; have hm2 := row_len' hrow2'; have HB2 := Lib.hid (row_bytes' hrow2'); have hc2' := row_cap1 hrow2'; rw [← hm2] at hc2'; have hl2 : m2 ≤ 1000000 := (by omega); have HM2 := Lib.hid hm2; have hxk2 := heap_cell hX2 0; simp at hxk2; clear hg2 hrow2 hm2 hrow1)
            refine (refputtext_at a2 c2' m2 (RK ++ [1]) xk w2 (by rw [HM2.out, List.length_append]; rfl) (by omega) hc2' (by omega) HB2.out).mono ?_
            rintro e w3 ⟨v3, rfl, hown3, hb3⟩
            have hB3 := hB2.trans (hb3.mono hB2.size)
            have hbx3 := (hb3.block w.heap.size (heap_lt hbx2)).trans hbx2
            have HRow3 := Lib.hid (row_lower hown3 hB2.size)
            clear hown3 hb3
            go_wp2_with fail
            go_roundw
            case rel =>
              refine ⟨k + 1, by omega, by go_num, ?_, hB3, hbx3, HW.out.below hB3⟩
              have e : RK ++ [1] ++ textE xk.data.toList = recK rev es (k + 1) := by rw [HRK2.out, HSu.out]; rfl
              rw [← e]
              exact HRow3.out
            case measure => simp [intOf]; omega
          | false =>
            have HK1 : Hid (kd = 0) := by have h := HKD.out; have h2 : [(0 : UInt8)] = [kd] := h; cases h2; rfl
            have hbxA := (Below.heap_alloc _ (.cells #[.int .u8 0] 5) _ (heap_lt HBx1.out)).trans HBx1.out
            go_wp2_with (at_builtin; refine wpList_append_one W1 rfl _ _ 28 rfl w.heap.size 5 i5 _ 1 Try.underlying28 hi5 hy0 hy1 hy2 rfl (.slice av RK.length cv) RK.length (bytesV RK) (by rfl) hrow1 (.int .u8 0) 1 rfl rfl (by omega) (by omega) hB1.size ?_; intro v2 w2 hrow2 hg2 _; have hX2 := heap_kept hrow1 hal (by decide) hg2; have hbx2 := heap_kept hrow1 HBx1.out (by decide) hg2; have hB2 := Below.own hB1 hrow1 (Nat.le_refl _) hB1.size hg2; have hrow2' : w2.ownsRow w.heap.size 5 1 v2 (RK.length + 1) (bytesV (RK ++ [0])) := (by rw [bytesV_append]; exact hrow2); obtain ⟨a2, m2, c2', rfl⟩ := row_slice hrow2'; have hm2 := row_len' hrow2'; have HB2 := Lib.hid (row_bytes' hrow2'); have hc2' := row_cap1 hrow2'; rw [← hm2] at hc2'; have hl2 : m2 ≤ 1000000 := (by omega); have HM2 := Lib.hid hm2; have hxk2 := heap_cell hX2 0; simp at hxk2; clear hg2 hrow2 hm2 hrow1)
            refine (refputtext_at a2 c2' m2 (RK ++ [0]) xk w2 (by rw [HM2.out, List.length_append]; rfl) (by omega) hc2' (by omega) HB2.out).mono ?_
            rintro e w3 ⟨v3, rfl, hown3, hb3⟩
            have hB3 := hB2.trans (hb3.mono hB2.size)
            have hbx3 := (hb3.block w.heap.size (heap_lt hbx2)).trans hbx2
            have HRow3 := Lib.hid (row_lower hown3 hB2.size)
            clear hown3 hb3
            go_wp2_with fail
            go_roundw
            case rel =>
              refine ⟨k + 1, by omega, by go_num, ?_, hB3, hbx3, HW.out.below hB3⟩
              have e : RK ++ [0] ++ textE xk.data.toList = recK rev es (k + 1) := by rw [HRK2.out, HSu.out]; rfl
              rw [← e]
              exact HRow3.out
            case measure => simp [intOf]; omega
        · obtain rfl : k = es.length := by omega
          have hdk : decide ((es.length : Int) < (es.length : Int)) = false := by simp
          have HRA : Hid (recK rev es es.length = recordB rev es) := recK_all rev es
          have hlen := HLen.out es.length (Nat.le_refl _)
          go_wp2_with fail
          go_ret
          rw [HRA.out] at hrow
          refine ⟨_, rfl, ?_, hB⟩
          rw [HRA.out]
          exact hrow
end Go.Proofs.Ytbamohcaamgalae
