/- FrameSums, walked. -/
import Derived.Test.YtlhgjecbjfiljabWalkI
import Derived.Deep.RegionHeld3
namespace Go.Proofs.Ytlhgjecbjfiljab
open Go.RowKit

theorem row_len {w : World} {base : Nat} {e : TypeId} {size n m c : Nat} {a : Option Addr} {xs : List Value} (h : w.ownsRow base e size (.slice a m c) n xs) : m = n := by
  rcases h.2 with ⟨h0, h1⟩ | ⟨g, cap, cur, hv, _⟩
  · cases h0; omega
  · cases hv; rfl
theorem row_bytes {w : World} {base : Nat} {n m c : Nat} {a : Option Addr} {l : List UInt8} (h : w.ownsRow base 5 1 (.slice a m c) n (bytesV l)) : IsBytes w a l := by
  intro h0
  rcases h.2 with ⟨hv, h1⟩ | ⟨g, cap, cur, hv, _⟩
  · have := h.1; rw [length_bytesV] at this; omega
  · cases hv
    exact isBytes_row h h0
theorem below_step {w5 w6 w7 : World} (h : Below w5.heap.size w5 w6) (k : Below w6.heap.size w6 w7) : Below w5.heap.size w5 w7 := h.trans (k.mono h.size)
section
variable {P : Program} {ops : Array Oper} {Q : Exit → Act → World → Prop} {md : Region.Mode} {S : World → Prop}
/-- an operation is taken first, and its slot is named -/
theorem take_at (i d : Nat) {oi : Oper} {v : Value} {fuel : Nat} {listed : Array Bool} {tmps : Array Value} {ds : List Deferred} {w : World} (hi : ops[i]? = some oi) (hd : oi.dst = some d)
    (hs : Region.noSelect ops = true) (hf : Region.free md ops listed i = true) (hr : (Region.ready md ops listed).contains i = true)
    (hQ : ∀ c a w, Q (.panic c) (a.put oi.dst v) w → Q (.panic c) a w) (hy : YieldsIf P ops S oi v ⟨tmps, ds⟩) (hS : S w)
    (h : wpAnyH P md ops Q S fuel (listed.setIfInBounds i true) ⟨tmps.setIfInBounds d v, ds⟩ w) : wpAnyH P md ops Q S (fuel + 1) listed ⟨tmps, ds⟩ w :=
  wpAnyH_take hi hs hf hr hQ hy hS (by rw [hd]; exact h)
/-- one operation alone may come up, and its slot is named -/
theorem only_at (i d : Nat) {o : Oper} {fuel : Nat} {listed : Array Bool} {a : Act} {w : World} (hr : Region.ready md ops listed = [i]) (ho : ops[i]? = some o) (hd : o.dst = some d) (hw : Region.wanted o (yielded ops a.tmps) = true)
    (h : ∀ K' : Act → World → Prop, Shut (∀ a w, S w → (S w → wpAnyH P md ops Q S fuel (listed.setIfInBounds i true) a w) → K' a w) → Oper.wp P { o with dst := some d } a w K' Q) : wpAnyH P md ops Q S (fuel + 1) listed a w := by
  refine wpAnyH_ready hr (by simp) (AllReadyH.cons ho (fun K' hK => ?_) AllReadyH.nil)
  rw [if_pos hw]
  have e : ({ o with dst := some d } : Oper) = o := by cases o; simp_all
  have := h K' hK
  rwa [e] at this
end
set_option maxRecDepth 100000 in
set_option maxHeartbeats 40000000 in
theorem lawSums (a0 : Option Addr) (cap0 : Nat) (l : List UInt8) (a1 : Option Addr) (cap1 : Nat) (more : List UInt8) (w : World) (hl : l.length ≤ 9223372036854775807) (hm : more.length ≤ 9223372036854775807) (h : IsBytes w a0 l) (h1 : IsBytes w a1 more) :
    Calls Try.prog 3 #[.slice a0 l.length cap0, .slice a1 more.length cap1] w fun e w' => e = .returned (.bool true) ∧ Below w.heap.size w w' := by
  have H0 := Lib.hid h
  have H1 := Lib.hid h1
  obtain ⟨i0, hi, hz0, hz1, hz2⟩ := info_parts Try.info5
  clear h h1
  by_cases hb0 : 3000 < l.length
  · go_enter Try.func3, Try.ntmps3
    go_wp2_with (go_at_call 7; refine (fixed_any _).mono ?_; rintro e w1 ⟨rfl, hb1⟩)
    go_ret
    exact ⟨rfl, hb1⟩
  · by_cases hb1 : 3000 < more.length
    · go_enter Try.func3, Try.ntmps3
      go_wp2_with (go_at_call 7; refine (fixed_any _).mono ?_; rintro e w1 ⟨rfl, hb1⟩)
      go_ret
      exact ⟨rfl, hb1⟩
    · obtain ⟨n, hn⟩ : ∃ n, n = l.length := ⟨_, rfl⟩
      obtain ⟨m, hm'⟩ : ∃ m, m = more.length := ⟨_, rfl⟩
      have HN := Lib.hid hn.symm
      have HM := Lib.hid hm'.symm
      rw [← hn] at hl hb0 ⊢
      rw [← hm'] at hm hb1 ⊢
      clear hn hm'
      go_enter Try.func3, Try.ntmps3
      go_wp2_with fail
      refine (fixed_any _).mono ?_
      rintro e w1 ⟨rfl, hB1⟩
      go_wp2_with fail
      refine (seal_any a0 cap0 n l _ HN.out (by omega) (H0.out.below hB1)).mono ?_
      rintro e w2 ⟨v2, rfl, hown2, hb2⟩
      have hB2 := hB1.trans (hb2.mono hB1.size)
      obtain ⟨g2, cp2, rfl, hg21, hg22, hg23⟩ := row_shape hown2 (by omega)
      have hnew := World.ownsRow_lit (e := 5) (size := 1) (base := w2.heap.size) w2 #[] 0 (Nat.le_refl _) (by decide) rfl
      have hB3 := (Below.refl w2.heap.size w2).alloc (Nat.le_refl _) (.cells #[] 5)
      have H2 := Lib.hid (isBytes_row hown2)
      have HL2 : Hid ((seal_ l).length = 8 + n) := by have : (seal_ l).length = 8 + n := by rw [length_seal, HN.out]
                                                      exact this
      clear hown2
      go_wp2_with (first
        | (at_builtin; refine wpList_append_bytes (w2.alloc (.cells #[] 5)) rfl _ _ 22 rfl w2.heap.size 5 i0 (.int .u8 0) Try.underlying22 hi hz0 hz1 hz2 rfl _ 0 _ rfl hnew _ (8 + n) cp2 (seal_ l) rfl HL2.out (H2.out.below hB3) (by omega) hB3.size ?_; intro v3 w3 hown3 hg3 _; have hB4 := Below.own hB3 hnew (Nat.le_refl _) hB3.size hg3; obtain ⟨a3, m3, c3, rfl⟩ := row_slice hown3)
        | (at_builtin; refine wpList_append_bytes w3 rfl _ _ 22 rfl w2.heap.size 5 i0 (.int .u8 0) Try.underlying22 hi hz0 hz1 hz2 rfl _ (0 + (8 + n)) _ rfl hown3 _ m cap1 more rfl HM.out ((H1.out.below hB2).below hB4) (by omega) hB4.size ?_; intro v4 w4 hown4 hg4 _; have hB5 := Below.own hB4 hown3 (Nat.le_refl _) hB4.size hg4; obtain ⟨g4, cp4, rfl, hg41, hg42, hg43⟩ := row_shape hown4 (by omega)))
      have hbs4 := isBytes_row (l := seal_ l ++ more) (by rw [bytesV_append]; exact hown4)
      have hL : (seal_ l ++ more).length = 8 + n + m := by rw [List.length_append, HL2.out, HM.out]
      have hE := nextE_seal l more (by have := HN.out; omega)
      have hP := payload_seal l more (by have := HN.out; omega)
      have hNu := num_seal l more (by have := HN.out; omega)
      refine (next_any _ cp4 (8 + n + m) (seal_ l ++ more) _ hL (by omega) (by omega) hbs4).mono ?_
      clear hbs4 hL
      rintro e w5 ⟨hb5, v5, hok, _⟩
      obtain ⟨rfl, hown5⟩ := hok hE
      rw [hNu, HN.out, hP] at hown5
      rw [hNu, HN.out]
      clear hok hE hP hNu
      have hB25 := hB5.trans (hb5.mono hB5.size)
      have hBw := hB2.trans (hB25.mono hB2.size)
      obtain ⟨x5, y5, cp5, rfl⟩ := row_slice hown5
      have hy5 : y5 = n := row_len hown5
      subst hy5
      have G2 := Lib.hid (H2.out.below hB25)
      have G0 := Lib.hid (H0.out.below hBw)
      have G5 := Lib.hid (row_bytes hown5)
      clear hown4 hown3 hown5 hg3 hg4 hnew hB3 hB4 hB5 hB25 hb5 hb2 hB1 hB2
      have hd0 : Below w5.heap.size w5 w5.drew := (Below.refl w5.heap.size w5).drew
      have hd1 : Below w5.heap.size w5 w5 := Below.refl w5.heap.size w5
      have KP : ∀ w', Below w5.heap.size w5 w' → Below w5.heap.size w5 w' ∧ (convert 22 9 (.slice (some ⟨g2, 0, none⟩) (8 + y5) cp2)).run Try.prog w' = .ok (.string ⟨(seal_ l).toArray⟩) w' ∧ (convert 22 9 (.slice x5 y5 cp5)).run Try.prog w' = .ok (.string ⟨l.toArray⟩) w' ∧ (convert 22 9 (.slice a0 y5 cap0)).run Try.prog w' = .ok (.string ⟨l.toArray⟩) w' := fun w' hb =>
        ⟨hb, run_string_of_bytes (P := Try.prog) w' 22 9 5 (some ⟨g2, 0, none⟩) _ cp2 _ HL2.out Try.underlying22 Try.underlying5 Try.underlying9 (G2.out.below hb), run_string_of_bytes (P := Try.prog) w' 22 9 5 x5 _ cp5 _ HN.out Try.underlying22 Try.underlying5 Try.underlying9 (G5.out.below hb), run_string_of_bytes (P := Try.prog) w' 22 9 5 a0 _ cap0 _ HN.out Try.underlying22 Try.underlying5 Try.underlying9 (G0.out.below hb)⟩
      have KH := Lib.hid KP
      clear KP
      go_upto_region 7 with (fail)
      go_cut [4] (fun x wc => x = .bool true ∧ Below w5.heap.size w5 wc)
      case first =>
        generalize hsl : seal_ l = sl at *
        have HSL := Lib.hid hsl
        clear hsl
        generalize sum l = sm at *
        refine wp_region_noPanic ?_
        refine wp_region_held_drew (S := (fun w' => Below w5.heap.size w5 w' ∧ (convert 22 9 (.slice (some ⟨g2, 0, none⟩) (8 + y5) cp2)).run Try.prog w' = .ok (.string ⟨sl.toArray⟩) w' ∧ (convert 22 9 (.slice x5 y5 cp5)).run Try.prog w' = .ok (.string ⟨l.toArray⟩) w' ∧ (convert 22 9 (.slice a0 y5 cap0)).run Try.prog w' = .ok (.string ⟨l.toArray⟩) w')) (by kernel_rfl) (KH.out _ hd0) (fun hHeld => ?_)
        refine take_at 0 31 (v := ?_) rfl rfl (by kernel_rfl) (by kernel_rfl) (by kernel_rfl) (fun _ _ _ h => h) (Or.inl ⟨by rfl, ?_⟩) hHeld ?_
        rotate_left
        · (intro w hSw; (try dsimp only at hSw); go_simp; try with_reducible rfl)
        try simp only [List.setIfInBounds_toArray, List.set_cons_zero, List.set_cons_succ]
        refine take_at 2 33 (v := ?_) rfl rfl (by kernel_rfl) (by kernel_rfl) (by kernel_rfl) (fun _ _ _ h => h) (Or.inl ⟨by rfl, ?_⟩) hHeld ?_
        rotate_left
        · (intro w hSw; (try dsimp only at hSw); go_simp; try with_reducible rfl)
        try simp only [List.setIfInBounds_toArray, List.set_cons_zero, List.set_cons_succ]
        refine only_at 1 32 (by kernel_rfl) rfl rfl (by rfl) (fun K hK => ?_)
        go_simp
        refine (sum_at a0 cap0 _ l _ HN.out (by omega) (G0.out.below (by assumption))).mono ?_
        rintro e w6 ⟨rfl, hb6⟩
        have hb6' : Below w5.heap.size w5 w6 := below_step (by assumption) hb6
        go_wp2_with fail
        refine hK.out _ _ (KH.out _ (by assumption)) (fun hHeld2 => ?_)
        clear hK K hHeld
        have hHeld := hHeld2
        clear hHeld2
        try simp only [Act.put, List.setIfInBounds_toArray, List.set_cons_zero, List.set_cons_succ]
        refine only_at 3 34 (by kernel_rfl) rfl rfl (by rfl) (fun K hK => ?_)
        go_simp
        refine (refsum_at a0 cap0 _ l _ HN.out (by omega) (G0.out.below (by assumption))).mono ?_
        rintro e w6 ⟨rfl, rfl⟩
        go_wp2_with fail
        refine hK.out _ _ (KH.out _ (by assumption)) (fun hHeld2 => ?_)
        clear hK K hHeld
        have hHeld := hHeld2
        clear hHeld2
        try simp only [Act.put, List.setIfInBounds_toArray, List.set_cons_zero, List.set_cons_succ]
        refine take_at 4 35 (v := ?_) rfl rfl (by kernel_rfl) (by kernel_rfl) (by kernel_rfl) (fun _ _ _ h => h) (Or.inl ⟨by rfl, ?_⟩) hHeld ?_
        rotate_left
        · (intro w hSw; (try dsimp only at hSw); go_simp; try with_reducible rfl)
        try simp only [List.setIfInBounds_toArray, List.set_cons_zero, List.set_cons_succ]
        refine take_at 5 36 (v := ?_) rfl rfl (by kernel_rfl) (by kernel_rfl) (by kernel_rfl) (fun _ _ _ h => h) (Or.inl ⟨by rfl, ?_⟩) hHeld ?_
        rotate_left
        · (intro w hSw; (try dsimp only at hSw); go_simp; try with_reducible rfl)
        try simp only [List.setIfInBounds_toArray, List.set_cons_zero, List.set_cons_succ]
        refine take_at 6 37 (v := ?_) rfl rfl (by kernel_rfl) (by kernel_rfl) (by kernel_rfl) (fun _ _ _ h => h) (Or.inl ⟨by rfl, ?_⟩) hHeld ?_
        rotate_left
        · (intro w hSw; (try dsimp only at hSw); go_simp; try with_reducible rfl)
        try simp only [List.setIfInBounds_toArray, List.set_cons_zero, List.set_cons_succ]
        refine take_at 7 38 (v := ?_) rfl rfl (by kernel_rfl) (by kernel_rfl) (by kernel_rfl) (fun _ _ _ h => h) (Or.inl ⟨by rfl, ?_⟩) hHeld ?_
        rotate_left
        · (intro w hSw; (try dsimp only at hSw); go_simp; try with_reducible rfl)
        try simp only [List.setIfInBounds_toArray, List.set_cons_zero, List.set_cons_succ]
        refine take_at 8 39 (v := ?_) rfl rfl (by kernel_rfl) (by kernel_rfl) (by kernel_rfl) (fun _ _ _ h => h) (Or.inl ⟨by rfl, ?_⟩) hHeld ?_
        rotate_left
        · (intro w hSw; (try dsimp only at hSw); go_simp; try with_reducible rfl)
        try simp only [List.setIfInBounds_toArray, List.set_cons_zero, List.set_cons_succ]
        refine only_at 9 40 (by kernel_rfl) rfl rfl (by rfl) (fun K hK => ?_)
        go_simp
        refine (refseal_any a0 cap0 _ l _ HN.out (by omega) (G0.out.below (by assumption))).mono ?_
        rintro e w7 ⟨v7, rfl, hown7, hb7⟩
        obtain ⟨g7, cp7, rfl, hg71, hg72, hg73⟩ := row_shape hown7 (by omega)
        have hb7' : Below w5.heap.size w5 w7 := below_step (by assumption) hb7
        have c7 := run_string_of_bytes (P := Try.prog) w7 22 9 5 (some ⟨g7, 0, none⟩) _ cp7 _ HL2.out Try.underlying22 Try.underlying5 Try.underlying9 (HSL.out ▸ isBytes_row hown7)
        go_wp2_with fail
        refine hK.out _ _ (KH.out _ (by assumption)) (fun hHeld2 => ?_)
        clear hK K hHeld
        have hHeld := hHeld2
        clear hHeld2
        try simp only [Act.put, List.setIfInBounds_toArray, List.set_cons_zero, List.set_cons_succ]
        refine only_at 10 41 (by kernel_rfl) rfl rfl (by rfl) (fun K hK => ?_)
        go_simp
        refine hK.out _ _ (KH.out _ (by assumption)) (fun hHeld2 => ?_)
        clear hK K hHeld
        have hHeld := hHeld2
        clear hHeld2
        clear c7
        try simp only [Act.put, List.setIfInBounds_toArray, List.set_cons_zero, List.set_cons_succ]
        refine take_at 11 42 (v := ?_) rfl rfl (by kernel_rfl) (by kernel_rfl) (by kernel_rfl) (fun _ _ _ h => h) (Or.inl ⟨by rfl, ?_⟩) hHeld ?_
        rotate_left
        · (intro w hSw; (try dsimp only at hSw); go_simp; try with_reducible rfl)
        try simp only [List.setIfInBounds_toArray, List.set_cons_zero, List.set_cons_succ]
        refine take_at 12 43 (v := ?_) rfl rfl (by kernel_rfl) (by kernel_rfl) (by kernel_rfl) (fun _ _ _ h => h) (Or.inl ⟨by rfl, ?_⟩) hHeld ?_
        rotate_left
        · (intro w hSw; (try dsimp only at hSw); go_simp; try with_reducible rfl)
        try simp only [List.setIfInBounds_toArray, List.set_cons_zero, List.set_cons_succ]
        refine take_at 13 44 (v := ?_) rfl rfl (by kernel_rfl) (by kernel_rfl) (by kernel_rfl) (fun _ _ _ h => h) (Or.inl ⟨by rfl, ?_⟩) hHeld ?_
        rotate_left
        · (intro w hSw; (try dsimp only at hSw); go_simp; try with_reducible rfl)
        try simp only [List.setIfInBounds_toArray, List.set_cons_zero, List.set_cons_succ]
        refine take_at 14 45 (v := ?_) rfl rfl (by kernel_rfl) (by kernel_rfl) (by kernel_rfl) (fun _ _ _ h => h) (Or.inl ⟨by rfl, ?_⟩) hHeld ?_
        rotate_left
        · (intro w hSw; (try dsimp only at hSw); go_simp; try with_reducible rfl)
        try simp only [List.setIfInBounds_toArray, List.set_cons_zero, List.set_cons_succ]
        refine take_at 15 46 (v := ?_) rfl rfl (by kernel_rfl) (by kernel_rfl) (by kernel_rfl) (fun _ _ _ h => h) (Or.inl ⟨by rfl, ?_⟩) hHeld ?_
        rotate_left
        · (intro w hSw; (try dsimp only at hSw); go_simp; try with_reducible rfl)
        try simp only [List.setIfInBounds_toArray, List.set_cons_zero, List.set_cons_succ]
        refine take_at 16 47 (v := ?_) rfl rfl (by kernel_rfl) (by kernel_rfl) (by kernel_rfl) (fun _ _ _ h => h) (Or.inl ⟨by rfl, ?_⟩) hHeld ?_
        rotate_left
        · (intro w hSw; (try dsimp only at hSw); go_simp; try with_reducible rfl)
        try simp only [List.setIfInBounds_toArray, List.set_cons_zero, List.set_cons_succ]
        refine take_at 17 48 (v := ?_) rfl rfl (by kernel_rfl) (by kernel_rfl) (by kernel_rfl) (fun _ _ _ h => h) (Or.inl ⟨by rfl, ?_⟩) hHeld ?_
        rotate_left
        · (intro w hSw; (try dsimp only at hSw); go_simp; try with_reducible rfl)
        try simp only [List.setIfInBounds_toArray, List.set_cons_zero, List.set_cons_succ]
        refine take_at 18 49 (v := ?_) rfl rfl (by kernel_rfl) (by kernel_rfl) (by kernel_rfl) (fun _ _ _ h => h) (Or.inl ⟨by rfl, ?_⟩) hHeld ?_
        rotate_left
        · (intro w hSw; (try dsimp only at hSw); go_simp; try with_reducible rfl)
        try simp only [List.setIfInBounds_toArray, List.set_cons_zero, List.set_cons_succ]
        refine take_at 19 50 (v := ?_) rfl rfl (by kernel_rfl) (by kernel_rfl) (by kernel_rfl) (fun _ _ _ h => h) (Or.inl ⟨by rfl, ?_⟩) hHeld ?_
        rotate_left
        · (intro w hSw; (try dsimp only at hSw); go_simp; try with_reducible rfl)
        try simp only [List.setIfInBounds_toArray, List.set_cons_zero, List.set_cons_succ]
        refine take_at 20 51 (v := ?_) rfl rfl (by kernel_rfl) (by kernel_rfl) (by kernel_rfl) (fun _ _ _ h => h) (Or.inl ⟨by rfl, ?_⟩) hHeld ?_
        rotate_left
        · (intro w hSw; (try dsimp only at hSw); go_simp; try with_reducible rfl)
        try simp only [List.setIfInBounds_toArray, List.set_cons_zero, List.set_cons_succ]
        refine take_at 21 52 (v := ?_) rfl rfl (by kernel_rfl) (by kernel_rfl) (by kernel_rfl) (fun _ _ _ h => h) (Or.inl ⟨by rfl, ?_⟩) hHeld ?_
        rotate_left
        · (intro w hSw; (try dsimp only at hSw); go_simp; try with_reducible rfl)
        try simp only [List.setIfInBounds_toArray, List.set_cons_zero, List.set_cons_succ]
        refine take_at 22 53 (v := ?_) rfl rfl (by kernel_rfl) (by kernel_rfl) (by kernel_rfl) (fun _ _ _ h => h) (Or.inl ⟨by rfl, ?_⟩) hHeld ?_
        rotate_left
        · (intro w hSw; (try dsimp only at hSw); go_simp; try with_reducible rfl)
        try simp only [List.setIfInBounds_toArray, List.set_cons_zero, List.set_cons_succ]
        refine take_at 23 54 (v := ?_) rfl rfl (by kernel_rfl) (by kernel_rfl) (by kernel_rfl) (fun _ _ _ h => h) (Or.inl ⟨by rfl, ?_⟩) hHeld ?_
        rotate_left
        · (intro w hSw; (try dsimp only at hSw); go_simp; try with_reducible rfl)
        try simp only [List.setIfInBounds_toArray, List.set_cons_zero, List.set_cons_succ]
        refine take_at 24 55 (v := ?_) rfl rfl (by kernel_rfl) (by kernel_rfl) (by kernel_rfl) (fun _ _ _ h => h) (Or.inl ⟨by rfl, ?_⟩) hHeld ?_
        rotate_left
        · (intro w hSw; (try dsimp only at hSw); go_simp; try with_reducible rfl)
        try simp only [List.setIfInBounds_toArray, List.set_cons_zero, List.set_cons_succ]
        refine take_at 25 56 (v := ?_) rfl rfl (by kernel_rfl) (by kernel_rfl) (by kernel_rfl) (fun _ _ _ h => h) (Or.inl ⟨by rfl, ?_⟩) hHeld ?_
        rotate_left
        · (intro w hSw; (try dsimp only at hSw); go_simp; try with_reducible rfl)
        try simp only [List.setIfInBounds_toArray, List.set_cons_zero, List.set_cons_succ]
        refine take_at 26 57 (v := ?_) rfl rfl (by kernel_rfl) (by kernel_rfl) (by kernel_rfl) (fun _ _ _ h => h) (Or.inl ⟨by rfl, ?_⟩) hHeld ?_
        rotate_left
        · (intro w hSw; (try dsimp only at hSw); go_simp; try with_reducible rfl)
        try simp only [List.setIfInBounds_toArray, List.set_cons_zero, List.set_cons_succ]
        refine take_at 27 58 (v := ?_) rfl rfl (by kernel_rfl) (by kernel_rfl) (by kernel_rfl) (fun _ _ _ h => h) (Or.inl ⟨by rfl, ?_⟩) hHeld ?_
        rotate_left
        · (intro w hSw; (try dsimp only at hSw); go_simp; try with_reducible rfl)
        try simp only [List.setIfInBounds_toArray, List.set_cons_zero, List.set_cons_succ]
        refine take_at 28 59 (v := ?_) rfl rfl (by kernel_rfl) (by kernel_rfl) (by kernel_rfl) (fun _ _ _ h => h) (Or.inl ⟨by rfl, ?_⟩) hHeld ?_
        rotate_left
        · (intro w hSw; (try dsimp only at hSw); go_simp; try with_reducible rfl)
        try simp only [List.setIfInBounds_toArray, List.set_cons_zero, List.set_cons_succ]
        refine take_at 29 60 (v := ?_) rfl rfl (by kernel_rfl) (by kernel_rfl) (by kernel_rfl) (fun _ _ _ h => h) (Or.inl ⟨by rfl, ?_⟩) hHeld ?_
        rotate_left
        · (intro w hSw; (try dsimp only at hSw); go_simp; try with_reducible rfl)
        try simp only [List.setIfInBounds_toArray, List.set_cons_zero, List.set_cons_succ]
        refine take_at 30 4 (v := ?_) rfl rfl (by kernel_rfl) (by kernel_rfl) (by kernel_rfl) (fun _ _ _ h => h) (Or.inl ⟨by rfl, ?_⟩) hHeld ?_
        rotate_left
        · (intro w hSw; (try dsimp only at hSw); go_simp; try with_reducible rfl)
        try simp only [List.setIfInBounds_toArray, List.set_cons_zero, List.set_cons_succ]
        refine wpAnyH_done (by kernel_rfl) ?_ _
        refine NoPanic.normal ?_
        go_wp2_with fail
        go_meet
        case rel => exact ⟨rfl, by assumption⟩
      case rest =>
        obtain ⟨rfl, hbc⟩ := hcut
        go_wp2_with fail
        go_ret
        exact ⟨rfl, hBw.trans (hbc.mono hBw.size)⟩
end Go.Proofs.Ytlhgjecbjfiljab
