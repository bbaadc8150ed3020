/- Equal rules and trees are told equal: walked (printed by genGreatSameR.py). -/
import Derived.Test.YtacjbgmnoiimbabGreatSame2
import Derived.Test.YtacjbgmnoiimbabGreatFlat
namespace Go.Proofs.YtacjbgmnoiimbabGreat
set_option linter.unusedVariables false
set_option linter.unusedSimpArgs false
open Go.RowKit

theorem bs_ne (x : ByteArray) : (x != x) = false := by
  cases x with | mk a =>
  show (!(a == a)) = false
  simp
theorem two_new (W : World) (o p : Obj) : ((W.alloc o).alloc p).heap[W.heap.size]? = some (o) ∧ ((W.alloc o).alloc p).heap[W.heap.size + 1]? = some (p) := by
  have h := heap_alloc_new W o
  refine ⟨(heap_alloc_old (W.alloc o) p (heap_lt h)).trans h, ?_⟩
  have := heap_alloc_new (W.alloc o) p
  rwa [alloc_size] at this
set_option maxRecDepth 100000 in
set_option maxHeartbeats 8000000 in
theorem samerule_step (k : Int) (A B : ByteArray) (a : Option Addr) (c : Nat) (a2 : Option Addr) (c2 : Nat) (ps : List PR) (xs ys : List RE) (W : World) (hx : IsEls reC 4 W a xs) (hy : IsEls reC 4 W a2 ys) (hxl : xs.length = ps.length) (hyl : ys.length = ps.length) (hpl : xs.map RE.plain = ys.map RE.plain) (hn : ps.length ≤ 1000000000)
    (hone : ∀ j, j < ps.length → ∀ w, Below W.heap.size W w → Calls Tryz.prog 65 #[.agg (reC (xs.getD j default)).toArray, .agg (reC (ys.getD j default)).toArray] w (TrueIs w)) :
    Calls Tryz.prog 65 #[.agg #[.int .i64 k, .string A, .string B, .slice a ps.length c], .agg #[.int .i64 k, .string A, .string B, .slice a2 ps.length c2]] W (TrueIs W) := by
  have HB0 := Lib.hid (((Below.refl W.heap.size W).alloc (Nat.le_refl _) (.cells #[.int .i64 k, .string A, .string B, .slice a ps.length c] 71)).alloc (by simp) (.cells #[.int .i64 k, .string A, .string B, .slice a2 ps.length c2] 71))
  have htw := two_new W (.cells #[.int .i64 k, .string A, .string B, .slice a ps.length c] 71) (.cells #[.int .i64 k, .string A, .string B, .slice a2 ps.length c2] 71)
  have HX0 := Lib.hid htw.1
  have HY0 := Lib.hid htw.2
  have HEx := Lib.hid hx
  have HEy := Lib.hid hy
  have HXl := Lib.hid hxl
  have HYl := Lib.hid hyl
  have HPl := Lib.hid hpl
  have HOne := Lib.hid hone
  clear hx hy hone hxl hyl hpl htw
  have hAA := bs_ne A
  have hBB := bs_ne B
  have hkk : (k != k) = false := by simp
  have hnn : ((ps.length : Int) != (ps.length : Int)) = false := by simp
  go_enter Tryz.func65, Tryz.ntmps65
  go_upto_region 1 with (fail)
  generalize ((W.alloc (.cells #[.int .i64 k, .string A, .string B, .slice a ps.length c] 71)).alloc (.cells #[.int .i64 k, .string A, .string B, .slice a2 ps.length c2] 71)) = W0 at *
  obtain ⟨x, hx⟩ : ∃ x, x = W.heap.size := ⟨_, rfl⟩
  rw [← hx] at HX0 HY0
  rw [← hx]
  have HXx := Lib.hid hx
  clear hx
  have q0 := heap_cell HX0.out 0
  have r0 := heap_cell HY0.out 0
  have q1 := heap_cell HX0.out 1
  have r1 := heap_cell HY0.out 1
  have q2 := heap_cell HX0.out 2
  have r2 := heap_cell HY0.out 2
  have q3 := heap_cell HX0.out 3
  have r3 := heap_cell HY0.out 3
  simp at q0 r0 q1 r1 q2 r2 q3 r3
  go_wp2_with fail
  clear q0 r0 q1 r1 q2 r2 q3 r3
  clear hAA hBB hkk hnn
  go_loopw [37] (fun iv wr => ∃ j : Nat, iv = .int .i64 j ∧ j ≤ ps.length ∧ Hid (Below W.heap.size W wr ∧ wr.heap[x]? = some (.cells #[.int .i64 k, .string A, .string B, .slice a ps.length c] 71 (0, 0)) ∧ wr.heap[x + 1]? = some (.cells #[.int .i64 k, .string A, .string B, .slice a2 ps.length c2] 71 (0, 0)))) (fun iv _ => ps.length - (intOf iv).toNat)
  case atStart => exact ⟨0, rfl, Nat.zero_le _, HB0.out, HX0.out, HY0.out⟩
  case round =>
    clear HB0 HX0 HY0
    obtain ⟨j, rfl, hj, hst⟩ := hrel
    obtain ⟨hbel, hbx, hby⟩ := hst.out
    have HBl := Lib.hid hbel
    have HXl2 := Lib.hid hbx
    have HYl2 := Lib.hid hby
    clear hst hbx hby
    by_cases hjl : j < ps.length
    · have dj : decide ((j : Int) < (ps.length : Int)) = true := decide_eq_true (by omega)
      have dj2 : decide (j < ps.length) = true := decide_eq_true (by omega)
      have hij : (j : Int) < (ps.length : Int) := by omega
      have hjx : j < xs.length := by rw [HXl.out]; exact hjl
      have hjy : j < ys.length := by rw [HYl.out]; exact hjl
      obtain ⟨b, off, rfl, hb, hc⟩ := (HEx.out.below hbel) (by omega)
      obtain ⟨b2, off2, rfl, hb2, hc2⟩ := (HEy.out.below hbel) (by omega)
      have cx0 := hc j hjx 0 (by omega)
      have ce0 := hc2 j hjy 0 (by omega)
      have cx1 := hc j hjx 1 (by omega)
      have ce1 := hc2 j hjy 1 (by omega)
      have cx2 := hc j hjx 2 (by omega)
      have ce2 := hc2 j hjy 2 (by omega)
      have cx3 := hc j hjx 3 (by omega)
      have ce3 := hc2 j hjy 3 (by omega)
      have hone := HOne.out j hjl
      have hpe : (xs.getD j default).plain = (ys.getD j default).plain := by
        have := congrArg (fun l => l[j]?) HPl.out
        simp only [List.getElem?_map, List.getElem?_eq_getElem hjx, List.getElem?_eq_getElem hjy, Option.map_some, Option.some.injEq] at this
        rw [List.getD_eq_getElem?_getD, List.getElem?_eq_getElem hjx, List.getD_eq_getElem?_getD, List.getElem?_eq_getElem hjy]
        exact this
      clear hc hc2 hjx hjy
      generalize xs.getD j default = y at *
      generalize ys.getD j default = z at *
      obtain ⟨yk, yA, yB, ya, yc, yps⟩ := y
      obtain ⟨zk, zA, zB, za, zc, zps⟩ := z
      simp only [RE.plain, PR.mk.injEq] at hpe
      obtain ⟨rfl, rfl, rfl, rfl⟩ := hpe
      simp [reC] at cx0 ce0 cx1 ce1 cx2 ce2 cx3 ce3
      have HOj := Lib.hid hone
      clear hone
      obtain ⟨V, hV⟩ : ∃ V, V = wr.drew := ⟨_, rfl⟩
      have HBV : Hid (Below W.heap.size W V) := (by rw [hV]; exact HBl.out.drew : Below W.heap.size W V)
      have HXV : Hid (V.heap[x]? = some (.cells #[.int .i64 k, .string A, .string B, .slice (some ⟨b, off, none⟩) ps.length c] 71 (0, 0))) := (by rw [hV]; exact HXl2.out : V.heap[x]? = some (.cells #[.int .i64 k, .string A, .string B, .slice (some ⟨b, off, none⟩) ps.length c] 71 (0, 0)))
      have HYV : Hid (V.heap[x + 1]? = some (.cells #[.int .i64 k, .string A, .string B, .slice (some ⟨b2, off2, none⟩) ps.length c2] 71 (0, 0))) := (by rw [hV]; exact HYl2.out : V.heap[x + 1]? = some (.cells #[.int .i64 k, .string A, .string B, .slice (some ⟨b2, off2, none⟩) ps.length c2] 71 (0, 0)))
      have hS0 : V.cell? ⟨x, 3, none⟩ = some (.slice (some ⟨b, off, none⟩) ps.length c) ∧ V.cell? ⟨x + 1, 3, none⟩ = some (.slice (some ⟨b2, off2, none⟩) ps.length c2) ∧ V.cell? ⟨b, off + j * 4, none⟩ = some (.int .i64 yk) ∧ V.cell? ⟨b, off + j * 4 + 1, none⟩ = some (.string yA) ∧ V.cell? ⟨b, off + j * 4 + 2, none⟩ = some (.string yB) ∧ V.cell? ⟨b, off + j * 4 + 3, none⟩ = some (.slice ya yps.length yc) ∧ V.cell? ⟨b2, off2 + j * 4, none⟩ = some (.int .i64 yk) ∧ V.cell? ⟨b2, off2 + j * 4 + 1, none⟩ = some (.string yA) ∧ V.cell? ⟨b2, off2 + j * 4 + 2, none⟩ = some (.string yB) ∧ V.cell? ⟨b2, off2 + j * 4 + 3, none⟩ = some (.slice za yps.length zc) := ⟨heap_cell HXV.out 3, heap_cell HYV.out 3, by rw [hV]; exact cx0, by rw [hV]; exact cx1, by rw [hV]; exact cx2, by rw [hV]; exact cx3, by rw [hV]; exact ce0, by rw [hV]; exact ce1, by rw [hV]; exact ce2, by rw [hV]; exact ce3⟩
      clear cx0 ce0 cx1 ce1 cx2 ce2 cx3 ce3
      go_wp2_with fail
      try refine wp_region_noPanic ?_
      refine wp_region_held_drew (S := fun w' => w'.cell? ⟨x, 3, none⟩ = some (.slice (some ⟨b, off, none⟩) ps.length c) ∧ w'.cell? ⟨x + 1, 3, none⟩ = some (.slice (some ⟨b2, off2, none⟩) ps.length c2) ∧ w'.cell? ⟨b, off + j * 4, none⟩ = some (.int .i64 yk) ∧ w'.cell? ⟨b, off + j * 4 + 1, none⟩ = some (.string yA) ∧ w'.cell? ⟨b, off + j * 4 + 2, none⟩ = some (.string yB) ∧ w'.cell? ⟨b, off + j * 4 + 3, none⟩ = some (.slice ya yps.length yc) ∧ w'.cell? ⟨b2, off2 + j * 4, none⟩ = some (.int .i64 yk) ∧ w'.cell? ⟨b2, off2 + j * 4 + 1, none⟩ = some (.string yA) ∧ w'.cell? ⟨b2, off2 + j * 4 + 2, none⟩ = some (.string yB) ∧ w'.cell? ⟨b2, off2 + j * 4 + 3, none⟩ = some (.slice za yps.length zc)) (by kernel_rfl) (by rw [← hV]; exact hS0) (fun hHeld => ?_)
      rw [← hV] at hHeld ⊢
      have hS00 := hS0
      have HVs : wr.heap.size ≤ V.heap.size := by rw [hV]; exact Nat.le_refl _
      clear hV hS0 hbel
      refine take_at 0 40 (v := ?_) rfl rfl (by kernel_rfl) (by kernel_rfl) (by kernel_rfl) (fun _ _ _ h => h) (Or.inl ⟨by rfl, ?_⟩) hHeld ?_
      rotate_left
      · (intro w hSw; (try dsimp only at hSw); go_simp; try with_reducible rfl)
      try simp only [List.setIfInBounds_toArray, List.set_cons_zero, List.set_cons_succ]
      refine take_at 1 41 (v := ?_) rfl rfl (by kernel_rfl) (by kernel_rfl) (by kernel_rfl) (fun _ _ _ h => h) (Or.inl ⟨by rfl, ?_⟩) hHeld ?_
      rotate_left
      · (intro w hSw; (try dsimp only at hSw); go_simp; try with_reducible rfl)
      try simp only [List.setIfInBounds_toArray, List.set_cons_zero, List.set_cons_succ]
      refine take_at 2 42 (v := ?_) rfl rfl (by kernel_rfl) (by kernel_rfl) (by kernel_rfl) (fun _ _ _ h => h) (Or.inl ⟨by rfl, ?_⟩) hHeld ?_
      rotate_left
      · (intro w hSw; (try dsimp only at hSw); go_simp; try with_reducible rfl)
      try simp only [List.setIfInBounds_toArray, List.set_cons_zero, List.set_cons_succ]
      refine take_at 3 43 (v := ?_) rfl rfl (by kernel_rfl) (by kernel_rfl) (by kernel_rfl) (fun _ _ _ h => h) (Or.inl ⟨by rfl, ?_⟩) hHeld ?_
      rotate_left
      · (intro w hSw; (try dsimp only at hSw); go_simp; try with_reducible rfl)
      try simp only [List.setIfInBounds_toArray, List.set_cons_zero, List.set_cons_succ]
      refine take_at 4 44 (v := ?_) rfl rfl (by kernel_rfl) (by kernel_rfl) (by kernel_rfl) (fun _ _ _ h => h) (Or.inl ⟨by rfl, ?_⟩) hHeld ?_
      rotate_left
      · (intro w hSw; (try dsimp only at hSw); go_simp; try with_reducible rfl)
      try simp only [List.setIfInBounds_toArray, List.set_cons_zero, List.set_cons_succ]
      refine take_at 5 45 (v := ?_) rfl rfl (by kernel_rfl) (by kernel_rfl) (by kernel_rfl) (fun _ _ _ h => h) (Or.inl ⟨by rfl, ?_⟩) hHeld ?_
      rotate_left
      · (intro w hSw; (try dsimp only at hSw); go_simp; try with_reducible rfl)
      try simp only [List.setIfInBounds_toArray, List.set_cons_zero, List.set_cons_succ]
      refine take_at 6 46 (v := ?_) rfl rfl (by kernel_rfl) (by kernel_rfl) (by kernel_rfl) (fun _ _ _ h => h) (Or.inl ⟨by rfl, ?_⟩) hHeld ?_
      rotate_left
      · (intro w hSw; (try dsimp only at hSw); go_simp; try with_reducible rfl)
      try simp only [List.setIfInBounds_toArray, List.set_cons_zero, List.set_cons_succ]
      refine take_at 7 47 (v := ?_) rfl rfl (by kernel_rfl) (by kernel_rfl) (by kernel_rfl) (fun _ _ _ h => h) (Or.inl ⟨by rfl, ?_⟩) hHeld ?_
      rotate_left
      · (intro w hSw; (try dsimp only at hSw); go_simp; try with_reducible rfl)
      try simp only [List.setIfInBounds_toArray, List.set_cons_zero, List.set_cons_succ]
      refine take_at 8 48 (v := ?_) rfl rfl (by kernel_rfl) (by kernel_rfl) (by kernel_rfl) (fun _ _ _ h => h) (Or.inl ⟨by rfl, ?_⟩) hHeld ?_
      rotate_left
      · (intro w hSw; (try dsimp only at hSw); go_simp; try with_reducible rfl)
      try simp only [List.setIfInBounds_toArray, List.set_cons_zero, List.set_cons_succ]
      refine take_at 9 49 (v := ?_) rfl rfl (by kernel_rfl) (by kernel_rfl) (by kernel_rfl) (fun _ _ _ h => h) (Or.inl ⟨by rfl, ?_⟩) hHeld ?_
      rotate_left
      · (intro w hSw; (try dsimp only at hSw); go_simp; try with_reducible rfl)
      try simp only [List.setIfInBounds_toArray, List.set_cons_zero, List.set_cons_succ]
      refine only_at 10 50 (by kernel_rfl) rfl rfl (by rfl) (fun K hK => ?_)
      go_simp
      refine (HOj.out _ HBV.out).mono ?_
      rintro ee W2 ⟨rfl, hb2'⟩
      have HB2 := Lib.hid (HBV.out.trans (hb2'.mono HBV.out.size))
      have HX2 := Lib.hid ((hb2'.block _ (heap_lt HXV.out)).trans HXV.out)
      have HY2 := Lib.hid ((hb2'.block _ (heap_lt HYV.out)).trans HYV.out)
      go_wp2_with fail
      refine hK.out _ _ ((by obtain ⟨s0, s1, s2, s3, s4, s5, s6, s7, s8, s9⟩ := hS00; exact ⟨heap_cell HX2.out 3, heap_cell HY2.out 3, (hb2'.cell (Nat.lt_of_lt_of_le hb HVs)).trans s2, (hb2'.cell (Nat.lt_of_lt_of_le hb HVs)).trans s3, (hb2'.cell (Nat.lt_of_lt_of_le hb HVs)).trans s4, (hb2'.cell (Nat.lt_of_lt_of_le hb HVs)).trans s5, (hb2'.cell (Nat.lt_of_lt_of_le hb2 HVs)).trans s6, (hb2'.cell (Nat.lt_of_lt_of_le hb2 HVs)).trans s7, (hb2'.cell (Nat.lt_of_lt_of_le hb2 HVs)).trans s8, (hb2'.cell (Nat.lt_of_lt_of_le hb2 HVs)).trans s9⟩)) (fun hHeld2 => ?_)
      clear hK K hHeld
      have hHeld := hHeld2
      clear hHeld2
      try simp only [Act.put, List.setIfInBounds_toArray, List.set_cons_zero, List.set_cons_succ]
      refine take_at 11 51 (v := ?_) rfl rfl (by kernel_rfl) (by kernel_rfl) (by kernel_rfl) (fun _ _ _ h => h) (Or.inl ⟨by rfl, ?_⟩) hHeld ?_
      rotate_left
      · (intro w hSw; (try dsimp only at hSw); go_simp; try with_reducible rfl)
      try simp only [List.setIfInBounds_toArray, List.set_cons_zero, List.set_cons_succ]
      refine wpAnyH_done (by kernel_rfl) ?_ _
      try refine NoPanic.normal ?_
      go_wp2_with fail
      go_roundw
      case rel => exact ⟨j + 1, by go_num, by omega, HB2.out, HX2.out, HY2.out⟩
      case measure => first | (simp [intOf]; done) | (simp [intOf]; omega)
    · obtain rfl : j = ps.length := by omega
      have dj : decide ((ps.length : Int) < (ps.length : Int)) = false := by simp
      have dj2 : decide (ps.length < ps.length) = false := by simp
      clear hbel hjl
      go_wp2_with fail
      go_ret
      exact ⟨rfl, HBl.out⟩
set_option maxRecDepth 100000 in
theorem samerule_any : ∀ (n m : Nat) (S T : Nat → Prop) (W : World) (x y : RE), RMem S n W x.a x.ps → RMem T m W y.a y.ps → x.plain = y.plain → (encR x.plain).length ≤ 1000000000 →
    Calls Tryz.prog 65 #[.agg (reC x).toArray, .agg (reC y).toArray] W (TrueIs W) := by
  intro n
  induction n with
  | zero =>
    intro m S T W x y hx hy he hl
    have hnil : x.ps = [] := List.eq_nil_of_length_eq_zero hx
    obtain ⟨yk, yA, yB, ya, yc, yps⟩ := y
    simp only [RE.plain, PR.mk.injEq] at he
    obtain ⟨rfl, rfl, rfl, rfl⟩ := he
    have := samerule_step x.k x.A x.B x.a x.c ya yc x.ps [] [] W (fun h => absurd h (Nat.lt_irrefl 0)) (fun h => absurd h (Nat.lt_irrefl 0)) (by rw [hnil]; rfl) (by rw [hnil]; rfl) rfl (by rw [hnil]; exact Nat.zero_le _) (fun j hj => by rw [hnil] at hj; exact absurd hj (Nat.not_lt_zero _))
    exact this
  | succ n ih =>
    intro m S T W x y hx hy he hl
    obtain ⟨xs, h1, h2, h3, h4⟩ := hx
    have hlen : xs.length = x.ps.length := by rw [← h1, List.length_map]
    have hps := parts_len_encR x
    obtain ⟨yk, yA, yB, ya, yc, yps⟩ := y
    simp only [RE.plain, PR.mk.injEq] at he
    obtain ⟨rfl, rfl, rfl, rfl⟩ := he
    cases m with
    | zero =>
      have hnil : x.ps = [] := List.eq_nil_of_length_eq_zero hy
      have hxs : xs = [] := List.eq_nil_of_length_eq_zero (by rw [hlen, hnil]; rfl)
      have := samerule_step x.k x.A x.B x.a x.c ya yc x.ps [] [] W (fun h => absurd h (Nat.lt_irrefl 0)) (fun h => absurd h (Nat.lt_irrefl 0)) (by rw [hnil]; rfl) (by rw [hnil]; rfl) rfl (by rw [hnil]; exact Nat.zero_le _) (fun j hj => by rw [hnil] at hj; exact absurd hj (Nat.not_lt_zero _))
      exact this
    | succ m =>
      obtain ⟨ys, k1, k2, k3, k4⟩ := hy
      have hlen2 : ys.length = x.ps.length := by rw [← k1, List.length_map]
      refine samerule_step x.k x.A x.B x.a x.c ya yc x.ps xs ys W h2 k2 hlen hlen2 (h1.trans k1.symm) (by omega) (fun j hj w hbw => ?_)
      have hjx : j < xs.length := by omega
      have hjy : j < ys.length := by omega
      have hmx := getD_mem hjx
      have hmy := getD_mem hjy
      have hpe : (xs.getD j default).plain = (ys.getD j default).plain := by
        have := congrArg (fun l => l[j]?) (h1.trans k1.symm)
        simp only [List.getElem?_map, List.getElem?_eq_getElem hjx, List.getElem?_eq_getElem hjy, Option.map_some, Option.some.injEq] at this
        rw [List.getD_eq_getElem?_getD, List.getElem?_eq_getElem hjx, List.getD_eq_getElem?_getD, List.getElem?_eq_getElem hjy]
        exact this
      refine ih m S T w _ _ ((h4 _ hmx).2.stays (Stays.below hbw)) ((k4 _ hmy).2.stays (Stays.below hbw)) hpe ?_
      have := part_len_encR x.ps _ (by rw [← h1]; exact List.mem_map_of_mem hmx)
      omega
set_option maxRecDepth 100000 in
set_option maxHeartbeats 8000000 in
theorem samenode_step (k : Int) (t i r : ByteArray) (sa : Option Addr) (sc : Nat) (s2a : Option Addr) (s2c : Nat) (ss : List Tri) (a : Option Addr) (c : Nat) (a2 : Option Addr) (c2 : Nat) (ps : List PN) (xs ys : List NE) (W : World) (hs1 : IsEls triC 3 W sa ss) (hs2 : IsEls triC 3 W s2a ss) (hsl : ss.length ≤ 1000000000) (hx : IsEls neC 6 W a xs) (hy : IsEls neC 6 W a2 ys) (hxl : xs.length = ps.length) (hyl : ys.length = ps.length) (hpl : xs.map NE.plain = ys.map NE.plain) (hn : ps.length ≤ 1000000000)
    (hone : ∀ j, j < ps.length → ∀ w, Below W.heap.size W w → Calls Tryz.prog 64 #[.agg (neC (xs.getD j default)).toArray, .agg (neC (ys.getD j default)).toArray] w (TrueIs w)) :
    Calls Tryz.prog 64 #[.agg #[.int .i64 k, .string t, .string i, .string r, .slice sa ss.length sc, .slice a ps.length c], .agg #[.int .i64 k, .string t, .string i, .string r, .slice s2a ss.length s2c, .slice a2 ps.length c2]] W (TrueIs W) := by
  have HB0 := Lib.hid (((Below.refl W.heap.size W).alloc (Nat.le_refl _) (.cells #[.int .i64 k, .string t, .string i, .string r, .slice sa ss.length sc, .slice a ps.length c] 34)).alloc (by simp) (.cells #[.int .i64 k, .string t, .string i, .string r, .slice s2a ss.length s2c, .slice a2 ps.length c2] 34))
  have htw := two_new W (.cells #[.int .i64 k, .string t, .string i, .string r, .slice sa ss.length sc, .slice a ps.length c] 34) (.cells #[.int .i64 k, .string t, .string i, .string r, .slice s2a ss.length s2c, .slice a2 ps.length c2] 34)
  have HX0 := Lib.hid htw.1
  have HY0 := Lib.hid htw.2
  have HEx := Lib.hid hx
  have HEy := Lib.hid hy
  have HXl := Lib.hid hxl
  have HYl := Lib.hid hyl
  have HPl := Lib.hid hpl
  have HOne := Lib.hid hone
  have HS1 := Lib.hid hs1
  have HS2 := Lib.hid hs2
  have hcmp := fun W0 => neqObj t i W0
  clear hs1 hs2
  clear hx hy hone hxl hyl hpl htw
  have hAA := bs_ne r
  have hBB := bs_ne r
  have hkk : (k != k) = false := by simp
  have hnn : ((ps.length : Int) != (ps.length : Int)) = false := by simp
  go_enter Tryz.func64, Tryz.ntmps64
  go_upto_region 1 with (fail)
  generalize ((W.alloc (.cells #[.int .i64 k, .string t, .string i, .string r, .slice sa ss.length sc, .slice a ps.length c] 34)).alloc (.cells #[.int .i64 k, .string t, .string i, .string r, .slice s2a ss.length s2c, .slice a2 ps.length c2] 34)) = W0 at *
  obtain ⟨x, hx⟩ : ∃ x, x = W.heap.size := ⟨_, rfl⟩
  rw [← hx] at HX0 HY0
  rw [← hx]
  have HXx := Lib.hid hx
  clear hx
  have q0 := heap_cell HX0.out 0
  have r0 := heap_cell HY0.out 0
  have q1 := heap_cell HX0.out 1
  have r1 := heap_cell HY0.out 1
  have q2 := heap_cell HX0.out 2
  have r2 := heap_cell HY0.out 2
  have q3 := heap_cell HX0.out 3
  have r3 := heap_cell HY0.out 3
  have q4 := heap_cell HX0.out 4
  have r4 := heap_cell HY0.out 4
  have q5 := heap_cell HX0.out 5
  have r5 := heap_cell HY0.out 5
  simp at q0 r0 q1 r1 q2 r2 q3 r3 q4 r4 q5 r5
  go_wp2_with fail
  refine (samesub_any sa s2a sc s2c ss _ hsl (HS1.out.below HB0.out) (HS2.out.below HB0.out)).mono ?_
  rintro ee W1 ⟨rfl, hb1⟩
  have HB1 := Lib.hid (HB0.out.trans (hb1.mono HB0.out.size))
  have HX1 := Lib.hid ((hb1.block _ (heap_lt HX0.out)).trans HX0.out)
  have HY1 := Lib.hid ((hb1.block _ (heap_lt HY0.out)).trans HY0.out)
  clear hb1 HB0 HX0 HY0 q0 r0 q1 r1 q2 r2 q3 r3 q4 r4 q5 r5
  have q5 := heap_cell HX1.out 5
  have r5 := heap_cell HY1.out 5
  simp at q5 r5
  go_wp2_with fail
  clear q5 r5 hcmp
  clear hAA hBB hkk hnn
  go_loopw [45] (fun iv wr => ∃ j : Nat, iv = .int .i64 j ∧ j ≤ ps.length ∧ Hid (Below W.heap.size W wr ∧ wr.heap[x]? = some (.cells #[.int .i64 k, .string t, .string i, .string r, .slice sa ss.length sc, .slice a ps.length c] 34 (0, 0)) ∧ wr.heap[x + 1]? = some (.cells #[.int .i64 k, .string t, .string i, .string r, .slice s2a ss.length s2c, .slice a2 ps.length c2] 34 (0, 0)))) (fun iv _ => ps.length - (intOf iv).toNat)
  case atStart => exact ⟨0, rfl, Nat.zero_le _, HB1.out, HX1.out, HY1.out⟩
  case round =>
    clear HB1 HX1 HY1
    obtain ⟨j, rfl, hj, hst⟩ := hrel
    obtain ⟨hbel, hbx, hby⟩ := hst.out
    have HBl := Lib.hid hbel
    have HXl2 := Lib.hid hbx
    have HYl2 := Lib.hid hby
    clear hst hbx hby
    by_cases hjl : j < ps.length
    · have dj : decide ((j : Int) < (ps.length : Int)) = true := decide_eq_true (by omega)
      have dj2 : decide (j < ps.length) = true := decide_eq_true (by omega)
      have hij : (j : Int) < (ps.length : Int) := by omega
      have hjx : j < xs.length := by rw [HXl.out]; exact hjl
      have hjy : j < ys.length := by rw [HYl.out]; exact hjl
      obtain ⟨b, off, rfl, hb, hc⟩ := (HEx.out.below hbel) (by omega)
      obtain ⟨b2, off2, rfl, hb2, hc2⟩ := (HEy.out.below hbel) (by omega)
      have cx0 := hc j hjx 0 (by omega)
      have ce0 := hc2 j hjy 0 (by omega)
      have cx1 := hc j hjx 1 (by omega)
      have ce1 := hc2 j hjy 1 (by omega)
      have cx2 := hc j hjx 2 (by omega)
      have ce2 := hc2 j hjy 2 (by omega)
      have cx3 := hc j hjx 3 (by omega)
      have ce3 := hc2 j hjy 3 (by omega)
      have cx4 := hc j hjx 4 (by omega)
      have ce4 := hc2 j hjy 4 (by omega)
      have cx5 := hc j hjx 5 (by omega)
      have ce5 := hc2 j hjy 5 (by omega)
      have hone := HOne.out j hjl
      have hpe : (xs.getD j default).plain = (ys.getD j default).plain := by
        have := congrArg (fun l => l[j]?) HPl.out
        simp only [List.getElem?_map, List.getElem?_eq_getElem hjx, List.getElem?_eq_getElem hjy, Option.map_some, Option.some.injEq] at this
        rw [List.getD_eq_getElem?_getD, List.getElem?_eq_getElem hjx, List.getD_eq_getElem?_getD, List.getElem?_eq_getElem hjy]
        exact this
      clear hc hc2 hjx hjy
      generalize xs.getD j default = y at *
      generalize ys.getD j default = z at *
      obtain ⟨yk, yt, yi, yr, ysa, ysc, yss, ya, yc, yps⟩ := y
      obtain ⟨zk, zt, zi, zr, zsa, zsc, zss, za, zc, zps⟩ := z
      simp only [NE.plain, PN.mk.injEq, Prod.mk.injEq] at hpe
      obtain ⟨rfl, ⟨rfl, rfl⟩, rfl, rfl, rfl⟩ := hpe
      simp [neC] at cx0 ce0 cx1 ce1 cx2 ce2 cx3 ce3 cx4 ce4 cx5 ce5
      have HOj := Lib.hid hone
      clear hone
      obtain ⟨V, hV⟩ : ∃ V, V = wr.drew := ⟨_, rfl⟩
      have HBV : Hid (Below W.heap.size W V) := (by rw [hV]; exact HBl.out.drew : Below W.heap.size W V)
      have HXV : Hid (V.heap[x]? = some (.cells #[.int .i64 k, .string t, .string i, .string r, .slice sa ss.length sc, .slice (some ⟨b, off, none⟩) ps.length c] 34 (0, 0))) := (by rw [hV]; exact HXl2.out : V.heap[x]? = some (.cells #[.int .i64 k, .string t, .string i, .string r, .slice sa ss.length sc, .slice (some ⟨b, off, none⟩) ps.length c] 34 (0, 0)))
      have HYV : Hid (V.heap[x + 1]? = some (.cells #[.int .i64 k, .string t, .string i, .string r, .slice s2a ss.length s2c, .slice (some ⟨b2, off2, none⟩) ps.length c2] 34 (0, 0))) := (by rw [hV]; exact HYl2.out : V.heap[x + 1]? = some (.cells #[.int .i64 k, .string t, .string i, .string r, .slice s2a ss.length s2c, .slice (some ⟨b2, off2, none⟩) ps.length c2] 34 (0, 0)))
      have hS0 : V.cell? ⟨x, 5, none⟩ = some (.slice (some ⟨b, off, none⟩) ps.length c) ∧ V.cell? ⟨x + 1, 5, none⟩ = some (.slice (some ⟨b2, off2, none⟩) ps.length c2) ∧ V.cell? ⟨b, off + j * 6, none⟩ = some (.int .i64 yk) ∧ V.cell? ⟨b, off + j * 6 + 1, none⟩ = some (.string yt) ∧ V.cell? ⟨b, off + j * 6 + 2, none⟩ = some (.string yi) ∧ V.cell? ⟨b, off + j * 6 + 3, none⟩ = some (.string yr) ∧ V.cell? ⟨b, off + j * 6 + 4, none⟩ = some (.slice ysa yss.length ysc) ∧ V.cell? ⟨b, off + j * 6 + 5, none⟩ = some (.slice ya yps.length yc) ∧ V.cell? ⟨b2, off2 + j * 6, none⟩ = some (.int .i64 yk) ∧ V.cell? ⟨b2, off2 + j * 6 + 1, none⟩ = some (.string yt) ∧ V.cell? ⟨b2, off2 + j * 6 + 2, none⟩ = some (.string yi) ∧ V.cell? ⟨b2, off2 + j * 6 + 3, none⟩ = some (.string yr) ∧ V.cell? ⟨b2, off2 + j * 6 + 4, none⟩ = some (.slice zsa yss.length zsc) ∧ V.cell? ⟨b2, off2 + j * 6 + 5, none⟩ = some (.slice za yps.length zc) := ⟨heap_cell HXV.out 5, heap_cell HYV.out 5, by rw [hV]; exact cx0, by rw [hV]; exact cx1, by rw [hV]; exact cx2, by rw [hV]; exact cx3, by rw [hV]; exact cx4, by rw [hV]; exact cx5, by rw [hV]; exact ce0, by rw [hV]; exact ce1, by rw [hV]; exact ce2, by rw [hV]; exact ce3, by rw [hV]; exact ce4, by rw [hV]; exact ce5⟩
      clear cx0 ce0 cx1 ce1 cx2 ce2 cx3 ce3 cx4 ce4 cx5 ce5
      go_wp2_with fail
      try refine wp_region_noPanic ?_
      refine wp_region_held_drew (S := fun w' => w'.cell? ⟨x, 5, none⟩ = some (.slice (some ⟨b, off, none⟩) ps.length c) ∧ w'.cell? ⟨x + 1, 5, none⟩ = some (.slice (some ⟨b2, off2, none⟩) ps.length c2) ∧ w'.cell? ⟨b, off + j * 6, none⟩ = some (.int .i64 yk) ∧ w'.cell? ⟨b, off + j * 6 + 1, none⟩ = some (.string yt) ∧ w'.cell? ⟨b, off + j * 6 + 2, none⟩ = some (.string yi) ∧ w'.cell? ⟨b, off + j * 6 + 3, none⟩ = some (.string yr) ∧ w'.cell? ⟨b, off + j * 6 + 4, none⟩ = some (.slice ysa yss.length ysc) ∧ w'.cell? ⟨b, off + j * 6 + 5, none⟩ = some (.slice ya yps.length yc) ∧ w'.cell? ⟨b2, off2 + j * 6, none⟩ = some (.int .i64 yk) ∧ w'.cell? ⟨b2, off2 + j * 6 + 1, none⟩ = some (.string yt) ∧ w'.cell? ⟨b2, off2 + j * 6 + 2, none⟩ = some (.string yi) ∧ w'.cell? ⟨b2, off2 + j * 6 + 3, none⟩ = some (.string yr) ∧ w'.cell? ⟨b2, off2 + j * 6 + 4, none⟩ = some (.slice zsa yss.length zsc) ∧ w'.cell? ⟨b2, off2 + j * 6 + 5, none⟩ = some (.slice za yps.length zc)) (by kernel_rfl) (by rw [← hV]; exact hS0) (fun hHeld => ?_)
      rw [← hV] at hHeld ⊢
      have hS00 := hS0
      have HVs : wr.heap.size ≤ V.heap.size := by rw [hV]; exact Nat.le_refl _
      clear hV hS0 hbel
      refine take_at 0 48 (v := ?_) rfl rfl (by kernel_rfl) (by kernel_rfl) (by kernel_rfl) (fun _ _ _ h => h) (Or.inl ⟨by rfl, ?_⟩) hHeld ?_
      rotate_left
      · (intro w hSw; (try dsimp only at hSw); go_simp; try with_reducible rfl)
      try simp only [List.setIfInBounds_toArray, List.set_cons_zero, List.set_cons_succ]
      refine take_at 1 49 (v := ?_) rfl rfl (by kernel_rfl) (by kernel_rfl) (by kernel_rfl) (fun _ _ _ h => h) (Or.inl ⟨by rfl, ?_⟩) hHeld ?_
      rotate_left
      · (intro w hSw; (try dsimp only at hSw); go_simp; try with_reducible rfl)
      try simp only [List.setIfInBounds_toArray, List.set_cons_zero, List.set_cons_succ]
      refine take_at 2 50 (v := ?_) rfl rfl (by kernel_rfl) (by kernel_rfl) (by kernel_rfl) (fun _ _ _ h => h) (Or.inl ⟨by rfl, ?_⟩) hHeld ?_
      rotate_left
      · (intro w hSw; (try dsimp only at hSw); go_simp; try with_reducible rfl)
      try simp only [List.setIfInBounds_toArray, List.set_cons_zero, List.set_cons_succ]
      refine take_at 3 51 (v := ?_) rfl rfl (by kernel_rfl) (by kernel_rfl) (by kernel_rfl) (fun _ _ _ h => h) (Or.inl ⟨by rfl, ?_⟩) hHeld ?_
      rotate_left
      · (intro w hSw; (try dsimp only at hSw); go_simp; try with_reducible rfl)
      try simp only [List.setIfInBounds_toArray, List.set_cons_zero, List.set_cons_succ]
      refine take_at 4 52 (v := ?_) rfl rfl (by kernel_rfl) (by kernel_rfl) (by kernel_rfl) (fun _ _ _ h => h) (Or.inl ⟨by rfl, ?_⟩) hHeld ?_
      rotate_left
      · (intro w hSw; (try dsimp only at hSw); go_simp; try with_reducible rfl)
      try simp only [List.setIfInBounds_toArray, List.set_cons_zero, List.set_cons_succ]
      refine take_at 5 53 (v := ?_) rfl rfl (by kernel_rfl) (by kernel_rfl) (by kernel_rfl) (fun _ _ _ h => h) (Or.inl ⟨by rfl, ?_⟩) hHeld ?_
      rotate_left
      · (intro w hSw; (try dsimp only at hSw); go_simp; try with_reducible rfl)
      try simp only [List.setIfInBounds_toArray, List.set_cons_zero, List.set_cons_succ]
      refine take_at 6 54 (v := ?_) rfl rfl (by kernel_rfl) (by kernel_rfl) (by kernel_rfl) (fun _ _ _ h => h) (Or.inl ⟨by rfl, ?_⟩) hHeld ?_
      rotate_left
      · (intro w hSw; (try dsimp only at hSw); go_simp; try with_reducible rfl)
      try simp only [List.setIfInBounds_toArray, List.set_cons_zero, List.set_cons_succ]
      refine take_at 7 55 (v := ?_) rfl rfl (by kernel_rfl) (by kernel_rfl) (by kernel_rfl) (fun _ _ _ h => h) (Or.inl ⟨by rfl, ?_⟩) hHeld ?_
      rotate_left
      · (intro w hSw; (try dsimp only at hSw); go_simp; try with_reducible rfl)
      try simp only [List.setIfInBounds_toArray, List.set_cons_zero, List.set_cons_succ]
      refine take_at 8 56 (v := ?_) rfl rfl (by kernel_rfl) (by kernel_rfl) (by kernel_rfl) (fun _ _ _ h => h) (Or.inl ⟨by rfl, ?_⟩) hHeld ?_
      rotate_left
      · (intro w hSw; (try dsimp only at hSw); go_simp; try with_reducible rfl)
      try simp only [List.setIfInBounds_toArray, List.set_cons_zero, List.set_cons_succ]
      refine take_at 9 57 (v := ?_) rfl rfl (by kernel_rfl) (by kernel_rfl) (by kernel_rfl) (fun _ _ _ h => h) (Or.inl ⟨by rfl, ?_⟩) hHeld ?_
      rotate_left
      · (intro w hSw; (try dsimp only at hSw); go_simp; try with_reducible rfl)
      try simp only [List.setIfInBounds_toArray, List.set_cons_zero, List.set_cons_succ]
      refine only_at 10 58 (by kernel_rfl) rfl rfl (by rfl) (fun K hK => ?_)
      go_simp
      refine (HOj.out _ HBV.out).mono ?_
      rintro ee W2 ⟨rfl, hb2'⟩
      have HB2 := Lib.hid (HBV.out.trans (hb2'.mono HBV.out.size))
      have HX2 := Lib.hid ((hb2'.block _ (heap_lt HXV.out)).trans HXV.out)
      have HY2 := Lib.hid ((hb2'.block _ (heap_lt HYV.out)).trans HYV.out)
      go_wp2_with fail
      refine hK.out _ _ ((by obtain ⟨s0, s1, s2, s3, s4, s5, s6, s7, s8, s9, s10, s11, s12, s13⟩ := hS00; exact ⟨heap_cell HX2.out 5, heap_cell HY2.out 5, (hb2'.cell (Nat.lt_of_lt_of_le hb HVs)).trans s2, (hb2'.cell (Nat.lt_of_lt_of_le hb HVs)).trans s3, (hb2'.cell (Nat.lt_of_lt_of_le hb HVs)).trans s4, (hb2'.cell (Nat.lt_of_lt_of_le hb HVs)).trans s5, (hb2'.cell (Nat.lt_of_lt_of_le hb HVs)).trans s6, (hb2'.cell (Nat.lt_of_lt_of_le hb HVs)).trans s7, (hb2'.cell (Nat.lt_of_lt_of_le hb2 HVs)).trans s8, (hb2'.cell (Nat.lt_of_lt_of_le hb2 HVs)).trans s9, (hb2'.cell (Nat.lt_of_lt_of_le hb2 HVs)).trans s10, (hb2'.cell (Nat.lt_of_lt_of_le hb2 HVs)).trans s11, (hb2'.cell (Nat.lt_of_lt_of_le hb2 HVs)).trans s12, (hb2'.cell (Nat.lt_of_lt_of_le hb2 HVs)).trans s13⟩)) (fun hHeld2 => ?_)
      clear hK K hHeld
      have hHeld := hHeld2
      clear hHeld2
      try simp only [Act.put, List.setIfInBounds_toArray, List.set_cons_zero, List.set_cons_succ]
      refine take_at 11 59 (v := ?_) rfl rfl (by kernel_rfl) (by kernel_rfl) (by kernel_rfl) (fun _ _ _ h => h) (Or.inl ⟨by rfl, ?_⟩) hHeld ?_
      rotate_left
      · (intro w hSw; (try dsimp only at hSw); go_simp; try with_reducible rfl)
      try simp only [List.setIfInBounds_toArray, List.set_cons_zero, List.set_cons_succ]
      refine wpAnyH_done (by kernel_rfl) ?_ _
      try refine NoPanic.normal ?_
      go_wp2_with fail
      go_roundw
      case rel => exact ⟨j + 1, by go_num, by omega, HB2.out, HX2.out, HY2.out⟩
      case measure => first | (simp [intOf]; done) | (simp [intOf]; omega)
    · obtain rfl : j = ps.length := by omega
      have dj : decide ((ps.length : Int) < (ps.length : Int)) = false := by simp
      have dj2 : decide (ps.length < ps.length) = false := by simp
      clear hbel hjl
      go_wp2_with fail
      go_ret
      exact ⟨rfl, HBl.out⟩
set_option maxRecDepth 100000 in
theorem samenode_any : ∀ (n m : Nat) (S T : Nat → Prop) (W : World) (x y : NE), NMem S n W x.a x.ps → NMem T m W y.a y.ps → x.plain = y.plain → (encN x.plain).length ≤ 1000000000 → IsEls triC 3 W x.sa x.ss → IsEls triC 3 W y.sa y.ss →
    Calls Tryz.prog 64 #[.agg (neC x).toArray, .agg (neC y).toArray] W (TrueIs W) := by
  intro n
  induction n with
  | zero =>
    intro m S T W x y hx hy he hl hs1 hs2
    have hnil : x.ps = [] := List.eq_nil_of_length_eq_zero hx
    have hown := own_len_encN x
    obtain ⟨yk, yt, yi, yr, ysa, ysc, yss, ya, yc, yps⟩ := y
    simp only [NE.plain, PN.mk.injEq, Prod.mk.injEq] at he
    obtain ⟨rfl, ⟨rfl, rfl⟩, rfl, rfl, rfl⟩ := he
    have := samenode_step x.k x.t x.i x.r x.sa x.sc ysa ysc x.ss x.a x.c ya yc x.ps [] [] W hs1 hs2 (by omega) (fun h => absurd h (Nat.lt_irrefl 0)) (fun h => absurd h (Nat.lt_irrefl 0)) (by rw [hnil]; rfl) (by rw [hnil]; rfl) rfl (by rw [hnil]; exact Nat.zero_le _) (fun j hj => by rw [hnil] at hj; exact absurd hj (Nat.not_lt_zero _))
    exact this
  | succ n ih =>
    intro m S T W x y hx hy he hl hs1 hs2
    obtain ⟨xs, h1, h2, h3, h4⟩ := hx
    have hlen : xs.length = x.ps.length := by rw [← h1, List.length_map]
    have hps := parts_len_encN x
    have hown := own_len_encN x
    obtain ⟨yk, yt, yi, yr, ysa, ysc, yss, ya, yc, yps⟩ := y
    simp only [NE.plain, PN.mk.injEq, Prod.mk.injEq] at he
    obtain ⟨rfl, ⟨rfl, rfl⟩, rfl, rfl, rfl⟩ := he
    cases m with
    | zero =>
      have hnil : x.ps = [] := List.eq_nil_of_length_eq_zero hy
      have hxs : xs = [] := List.eq_nil_of_length_eq_zero (by rw [hlen, hnil]; rfl)
      have := samenode_step x.k x.t x.i x.r x.sa x.sc ysa ysc x.ss x.a x.c ya yc x.ps [] [] W hs1 hs2 (by omega) (fun h => absurd h (Nat.lt_irrefl 0)) (fun h => absurd h (Nat.lt_irrefl 0)) (by rw [hnil]; rfl) (by rw [hnil]; rfl) rfl (by rw [hnil]; exact Nat.zero_le _) (fun j hj => by rw [hnil] at hj; exact absurd hj (Nat.not_lt_zero _))
      exact this
    | succ m =>
      obtain ⟨ys, k1, k2, k3, k4⟩ := hy
      have hlen2 : ys.length = x.ps.length := by rw [← k1, List.length_map]
      refine samenode_step x.k x.t x.i x.r x.sa x.sc ysa ysc x.ss x.a x.c ya yc x.ps xs ys W hs1 hs2 (by omega) h2 k2 hlen hlen2 (h1.trans k1.symm) (by omega) (fun j hj w hbw => ?_)
      have hjx : j < xs.length := by omega
      have hjy : j < ys.length := by omega
      have hmx := getD_mem hjx
      have hmy := getD_mem hjy
      have hpe : (xs.getD j default).plain = (ys.getD j default).plain := by
        have := congrArg (fun l => l[j]?) (h1.trans k1.symm)
        simp only [List.getElem?_map, List.getElem?_eq_getElem hjx, List.getElem?_eq_getElem hjy, Option.map_some, Option.some.injEq] at this
        rw [List.getD_eq_getElem?_getD, List.getElem?_eq_getElem hjx, List.getD_eq_getElem?_getD, List.getElem?_eq_getElem hjy]
        exact this
      refine ih m S T w _ _ ((h4 _ hmx).2.2.2.2.stays (Stays.below hbw)) ((k4 _ hmy).2.2.2.2.stays (Stays.below hbw)) hpe ?_ ((h4 _ hmx).2.2.1.below hbw) ((k4 _ hmy).2.2.1.below hbw)
      have := part_len_encN x.ps _ (by rw [← h1]; exact List.mem_map_of_mem hmx)
      omega
end Go.Proofs.YtacjbgmnoiimbabGreat
