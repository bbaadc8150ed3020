/- The same commits: walked. -/
import Derived.Test.YtbamohcaamgalaeWalkS
namespace Go.Proofs.Ytbamohcaamgalae
set_option linter.unusedVariables false
set_option linter.unusedSimpArgs false
open Go.RowKit

/-- commits that are read -/
def ComsRead (w : World) (a : Option Addr) (cs : List CM) : Prop := IsVals w a (comsV cs) ∧ ∀ c ∈ cs, IsEnts w c.a c.es ∧ c.es.length ≤ 9223372036854775807
theorem ComsRead.below {w w' : World} {a : Option Addr} {cs : List CM} (h : ComsRead w a cs) (hb : Below w.heap.size w w') : ComsRead w' a cs := ⟨h.1.below hb, fun c hc => ⟨(h.2 c hc).1.below hb, (h.2 c hc).2⟩⟩
theorem coms_at {w : World} {a : Option Addr} {cs : List CM} (h : ComsRead w a cs) (k : Nat) (hk : k < cs.length) : ∃ b off, a = some ⟨b, off, none⟩ ∧ w.cell? ⟨b, off + k * 2, none⟩ = some (.int .u64 ((cs.getD k default).rev : Int)) ∧ w.cell? ⟨b, off + k * 2 + 1, none⟩ = some (.slice (cs.getD k default).a (cs.getD k default).es.length (cs.getD k default).cap) ∧ IsEnts w (cs.getD k default).a (cs.getD k default).es ∧ (cs.getD k default).es.length ≤ 9223372036854775807 := by
  obtain ⟨b, off, ha, _, hc⟩ := h.1 (by rw [length_comsV]; omega)
  obtain ⟨q1, q2⟩ := comsV_get cs k hk
  have hm : cs.getD k default ∈ cs := by rw [List.getD_eq_getElem?_getD, List.getElem?_eq_getElem hk]; exact List.getElem_mem hk
  exact ⟨b, off, ha, (hc _ (by rw [length_comsV]; omega)).trans q1, (by rw [Nat.add_assoc]; exact (hc _ (by rw [length_comsV]; omega)).trans q2), (h.2 _ hm).1, (h.2 _ hm).2⟩
theorem pairs_ext (a b : List CM) (hl : a.length = b.length) (h : ∀ j, j < a.length → (a.getD j default).rev = (b.getD j default).rev ∧ (a.getD j default).es = (b.getD j default).es) : pairs a = pairs b := by
  unfold pairs
  refine List.ext_getElem (by simp [hl]) (fun i h1 h2 => ?_)
  have hi : i < a.length := by simpa using h1
  have := h i hi
  simp only [List.getD_eq_getElem?_getD, List.getElem?_eq_getElem hi, List.getElem?_eq_getElem (hl ▸ hi), Option.getD_some] at this
  rw [List.getElem_map, List.getElem_map, this.1, this.2]
theorem pairs_at {a b : List CM} (h : pairs a = pairs b) (j : Nat) (hj : j < a.length) : (a.getD j default).rev = (b.getD j default).rev ∧ (a.getD j default).es = (b.getD j default).es := by
  have hl : a.length = b.length := by have := congrArg List.length h; simpa [pairs] using this
  have := congrArg (fun x => x[j]?) h
  unfold pairs at this
  simp only [List.getElem?_map, List.getElem?_eq_getElem hj, List.getElem?_eq_getElem (hl ▸ hj), Option.map_some, Option.some.injEq, Prod.mk.injEq] at this
  simp only [List.getD_eq_getElem?_getD, List.getElem?_eq_getElem hj, List.getElem?_eq_getElem (hl ▸ hj), Option.getD_some]
  exact this
set_option maxRecDepth 100000 in
set_option maxHeartbeats 2000000 in
theorem sameall_any (a a2 : Option Addr) (cap cap2 : Nat) (cs cs2 : List CM) (w : World) (hl : cs.length ≤ 1000000000) (hl2 : cs2.length ≤ 1000000000) (h : ComsRead w a cs) (h2 : ComsRead w a2 cs2) :
    Calls Try.prog 18 #[.slice a cs.length cap, .slice a2 cs2.length cap2] w (BoolIs (pairs cs = pairs cs2) w) := by
  have H := Lib.hid h
  have H2 := Lib.hid h2
  clear h h2
  by_cases hlen : cs.length = cs2.length
  · have hn : ((cs.length : Int) != (cs2.length : Int)) = false := by rw [hlen]; simp
    have HLen := Lib.hid hlen
    clear hlen
    go_enter Try.func18, Try.ntmps18
    go_wp2_with fail
    go_loopw [13] (fun i wr => ∃ k : Nat, k ≤ cs.length ∧ i = .int .i64 k ∧ Hid (∀ j, j < k → (cs.getD j default).rev = (cs2.getD j default).rev ∧ (cs.getD j default).es = (cs2.getD j default).es) ∧ Below w.heap.size w wr) (fun i _ => cs.length - (intOf i).toNat)
    case atStart => exact ⟨0, Nat.zero_le _, rfl, Lib.hid (fun j hj => by omega), Below.refl _ _⟩
    case round =>
      obtain ⟨k, hkl, rfl, HO, hB⟩ := hrel
      by_cases hlt : k < cs.length
      · obtain ⟨b, off, rfl, c0, c1, he, hel⟩ := coms_at (H.out.below hB.drew) k hlt
        obtain ⟨b2, off2, rfl, d0, d1, he2, hel2⟩ := coms_at (H2.out.below hB.drew) k (by rw [← HLen.out]; exact hlt)
        have hdk : decide ((k : Int) < (cs.length : Int)) = true := by simp; omega
        have hi1 : (k : Int) < (cs.length : Int) := by omega
        have hi2 : (k : Int) < (cs2.length : Int) := by rw [← HLen.out]; exact hi1
        have hBd := hB.drew
        have HCall := Lib.hid (fun W hW => same_any (cs.getD k default).rev (cs2.getD k default).rev (cs.getD k default).a (cs2.getD k default).a (cs.getD k default).cap (cs2.getD k default).cap (cs.getD k default).es (cs2.getD k default).es W hel hel2 (he.below hW) (he2.below hW))
        unfold comV at HCall
        have HEq : Hid (pairs cs = pairs cs2 → (cs.getD k default).rev = (cs2.getD k default).rev ∧ (cs.getD k default).es = (cs2.getD k default).es) := fun h => pairs_at h k hlt
        generalize hx1 : cs.getD k default = x at *
        generalize hy1 : cs2.getD k default = y at *
        have HX := Lib.hid hx1
        have HY := Lib.hid hy1
        clear hx1 hy1 he he2
        go_wp2_with fail
        have hS0 : wr.drew.cell? ⟨b, off + k * 2, none⟩ = some (.int .u64 (x.rev : Int)) ∧ wr.drew.cell? ⟨b, off + k * 2 + 1, none⟩ = some (.slice x.a x.es.length x.cap) ∧ wr.drew.cell? ⟨b2, off2 + k * 2, none⟩ = some (.int .u64 (y.rev : Int)) ∧ wr.drew.cell? ⟨b2, off2 + k * 2 + 1, none⟩ = some (.slice y.a y.es.length y.cap) := ⟨c0, c1, d0, d1⟩
        refine wp_region_held_drew (S := fun w' => w'.cell? ⟨b, off + k * 2, none⟩ = some (.int .u64 (x.rev : Int)) ∧ w'.cell? ⟨b, off + k * 2 + 1, none⟩ = some (.slice x.a x.es.length x.cap) ∧ w'.cell? ⟨b2, off2 + k * 2, none⟩ = some (.int .u64 (y.rev : Int)) ∧ w'.cell? ⟨b2, off2 + k * 2 + 1, none⟩ = some (.slice y.a y.es.length y.cap)) (by kernel_rfl) hS0 (fun hHeld => ?_)
        clear hS0
        have hbl := World.block_lt_of_cell? _ _ c0
        have hbl2 := World.block_lt_of_cell? _ _ d0
        simp only at hbl hbl2
        have HR0 := Lib.hid (Below.refl wr.drew.heap.size wr.drew)
        refine take_at 0 16 (v := ?_) rfl rfl (by kernel_rfl) (by kernel_rfl) (by kernel_rfl) (fun _ _ _ h => h) (Or.inl ⟨by rfl, ?_⟩) hHeld ?_
        rotate_left
        · (intro w hSw; (try dsimp only at hSw); go_simp; try with_reducible rfl)
        try simp only [List.setIfInBounds_toArray, List.set_cons_zero, List.set_cons_succ]
        refine take_at 1 17 (v := ?_) rfl rfl (by kernel_rfl) (by kernel_rfl) (by kernel_rfl) (fun _ _ _ h => h) (Or.inl ⟨by rfl, ?_⟩) hHeld ?_
        rotate_left
        · (intro w hSw; (try dsimp only at hSw); go_simp; try with_reducible rfl)
        try simp only [List.setIfInBounds_toArray, List.set_cons_zero, List.set_cons_succ]
        refine take_at 2 18 (v := ?_) rfl rfl (by kernel_rfl) (by kernel_rfl) (by kernel_rfl) (fun _ _ _ h => h) (Or.inl ⟨by rfl, ?_⟩) hHeld ?_
        rotate_left
        · (intro w hSw; (try dsimp only at hSw); go_simp; try with_reducible rfl)
        try simp only [List.setIfInBounds_toArray, List.set_cons_zero, List.set_cons_succ]
        refine take_at 3 19 (v := ?_) rfl rfl (by kernel_rfl) (by kernel_rfl) (by kernel_rfl) (fun _ _ _ h => h) (Or.inl ⟨by rfl, ?_⟩) hHeld ?_
        rotate_left
        · (intro w hSw; (try dsimp only at hSw); go_simp; try with_reducible rfl)
        try simp only [List.setIfInBounds_toArray, List.set_cons_zero, List.set_cons_succ]
        refine take_at 4 20 (v := ?_) rfl rfl (by kernel_rfl) (by kernel_rfl) (by kernel_rfl) (fun _ _ _ h => h) (Or.inl ⟨by rfl, ?_⟩) hHeld ?_
        rotate_left
        · (intro w hSw; (try dsimp only at hSw); go_simp; try with_reducible rfl)
        try simp only [List.setIfInBounds_toArray, List.set_cons_zero, List.set_cons_succ]
        refine take_at 5 21 (v := ?_) rfl rfl (by kernel_rfl) (by kernel_rfl) (by kernel_rfl) (fun _ _ _ h => h) (Or.inl ⟨by rfl, ?_⟩) hHeld ?_
        rotate_left
        · (intro w hSw; (try dsimp only at hSw); go_simp; try with_reducible rfl)
        try simp only [List.setIfInBounds_toArray, List.set_cons_zero, List.set_cons_succ]
        refine take_at 6 22 (v := ?_) rfl rfl (by kernel_rfl) (by kernel_rfl) (by kernel_rfl) (fun _ _ _ h => h) (Or.inl ⟨by rfl, ?_⟩) hHeld ?_
        rotate_left
        · (intro w hSw; (try dsimp only at hSw); go_simp; try with_reducible rfl)
        try simp only [List.setIfInBounds_toArray, List.set_cons_zero, List.set_cons_succ]
        refine take_at 7 23 (v := ?_) rfl rfl (by kernel_rfl) (by kernel_rfl) (by kernel_rfl) (fun _ _ _ h => h) (Or.inl ⟨by rfl, ?_⟩) hHeld ?_
        rotate_left
        · (intro w hSw; (try dsimp only at hSw); go_simp; try with_reducible rfl)
        try simp only [List.setIfInBounds_toArray, List.set_cons_zero, List.set_cons_succ]
        refine only_at 8 24 (by kernel_rfl) rfl rfl (by rfl) (fun K hK => ?_)
        go_simp
        refine (HCall.out _ HR0.out).mono ?_
        rintro e W1 ⟨⟨r, rfl, hr⟩, hb1⟩
        have hB1 := hBd.trans (hb1.mono hBd.size)
        have hS1 := (⟨(hb1.cell (p := ⟨b, off + k * 2, none⟩) hbl).trans c0, (hb1.cell (p := ⟨b, off + k * 2 + 1, none⟩) hbl).trans c1, (hb1.cell (p := ⟨b2, off2 + k * 2, none⟩) hbl2).trans d0, (hb1.cell (p := ⟨b2, off2 + k * 2 + 1, none⟩) hbl2).trans d1⟩ : W1.cell? ⟨b, off + k * 2, none⟩ = some (.int .u64 (x.rev : Int)) ∧ W1.cell? ⟨b, off + k * 2 + 1, none⟩ = some (.slice x.a x.es.length x.cap) ∧ W1.cell? ⟨b2, off2 + k * 2, none⟩ = some (.int .u64 (y.rev : Int)) ∧ W1.cell? ⟨b2, off2 + k * 2 + 1, none⟩ = some (.slice y.a y.es.length y.cap))
        have HRR := Lib.hid hr
        clear hr hb1
        go_wp2_with fail
        refine hK.out _ _ hS1 (fun hHeld2 => ?_)
        clear hK K hHeld
        have hHeld := hHeld2
        clear hHeld2
        try simp only [Act.put, List.setIfInBounds_toArray, List.set_cons_zero, List.set_cons_succ]
        refine take_at 9 25 (v := ?_) rfl rfl (by kernel_rfl) (by kernel_rfl) (by kernel_rfl) (fun _ _ _ h => h) (Or.inl ⟨by rfl, ?_⟩) hHeld ?_
        rotate_left
        · (intro w hSw; (try dsimp only at hSw); go_simp; try with_reducible rfl)
        try simp only [List.setIfInBounds_toArray, List.set_cons_zero, List.set_cons_succ]
        refine wpAnyH_done (by kernel_rfl) ?_ _
        cases r with
        | true =>
          go_wp2_with fail
          go_roundw
          case rel =>
            refine ⟨k + 1, by omega, by go_num, ?_, hB1⟩
            intro j hj
            by_cases e : j = k
            · rw [e, HX.out, HY.out]; exact HRR.out.1 rfl
            · exact HO.out j (by omega)
          case measure => simp [intOf]; omega
        | false =>
          have HN : Hid (¬ pairs cs = pairs cs2) := by
            intro h
            have := HRR.out.2 (HEq.out h)
            cases this
          go_wp2_with fail
          go_ret
          exact ⟨⟨false, rfl, (fun h => by cases h), fun h => absurd h HN.out⟩, hB1⟩
      · obtain rfl : k = cs.length := by omega
        have hdk : decide ((cs.length : Int) < (cs.length : Int)) = false := by simp
        have HY : Hid (pairs cs = pairs cs2) := pairs_ext cs cs2 HLen.out HO.out
        go_wp2_with fail
        go_ret
        exact ⟨⟨true, rfl, fun _ => HY.out, fun _ => rfl⟩, hB⟩
  · have hn : ((cs.length : Int) != (cs2.length : Int)) = true := by rw [bne_iff_ne]; omega
    have HN : Hid (¬ pairs cs = pairs cs2) := fun h => hlen (by have := congrArg List.length h; simpa [pairs] using this)
    clear hlen
    go_enter Try.func18, Try.ntmps18
    go_wp2_with fail
    go_ret
    exact ⟨⟨false, rfl, (fun h => by cases h), fun h => absurd h HN.out⟩, Below.refl _ _⟩
end Go.Proofs.Ytbamohcaamgalae
