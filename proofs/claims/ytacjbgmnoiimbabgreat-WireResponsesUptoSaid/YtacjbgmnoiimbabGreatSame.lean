/- The same request: walked (printed by genWireSr.py). -/
import Derived.Test.YtacjbgmnoiimbabGreatRfF
namespace Go.Proofs.YtacjbgmnoiimbabGreat
set_option linter.unusedVariables false
set_option linter.unusedSimpArgs false
open Go.RowKit

theorem rqmem_ok : MemOk rqmem :=
  ⟨fun hS k => ⟨(lsmem_ok nomem_ok).weak hS k.1, (lsmem_ok nomem_ok).weak hS k.2.1, (lsmem_ok nomem_ok).weak hS k.2.2.1, (lsmem_ok nomem_ok).weak hS k.2.2.2⟩,
   fun k => ⟨(lsmem_ok nomem_ok).lt k.1, (lsmem_ok nomem_ok).lt k.2.1, (lsmem_ok nomem_ok).lt k.2.2.1, (lsmem_ok nomem_ok).lt k.2.2.2⟩,
   fun k hs => ⟨(lsmem_ok nomem_ok).stays k.1 hs, (lsmem_ok nomem_ok).stays k.2.1 hs, (lsmem_ok nomem_ok).stays k.2.2.1 hs, (lsmem_ok nomem_ok).stays k.2.2.2 hs⟩⟩
theorem rqmem.below {S : Nat → Prop} {W W' : World} {x : RQE} (h : rqmem S W x) (hb : Below W.heap.size W W') : rqmem S W' x := rqmem_ok.stays h (Stays.below hb)
/-- the document's bytes of a request where it lies -/
theorem rreq_of (x : RQE) (S : Nat → Prop) (W : World) (hm : rqmem S W x) (hok : reqok x.plain) (hl : ([113, 49] ++ reqE x.plain).length ≤ 100000000) :
    Calls Tryz.prog 82 #[.agg #[.string x.cl, .int .u64 (x.id : Int), .int .i64 x.kd, .int .i64 x.hw, .string x.tk, .int .u64 (x.n : Int), .string x.ty, .string x.f1, .string x.f2, .string x.f3, .slice x.ws.a x.ws.xs.length x.ws.c, .slice x.ps.a x.ps.xs.length x.ps.c, .slice x.ks.a x.ks.xs.length x.ks.c, .slice x.gs.a x.gs.xs.length x.gs.c]] W (RF [] ([113, 49] ++ reqE x.plain) W) :=
  rreq_any x.cl x.id x.kd x.hw x.tk x.n x.ty x.f1 x.f2 x.f3 x.ws.a x.ws.c x.ws.xs x.ps.a x.ps.c x.ps.xs x.ks.a x.ks.c x.ks.xs x.gs.a x.gs.c x.gs.xs W hok.2.1 hok.2.2.1 hok.2.2.2.1 hok.2.2.2.2.2.1 hm.1.2.1 hm.2.1.2.1 hm.2.2.1.2.1 hm.2.2.2.2.1
    (fun y hy => ⟨(hok.2.2.2.2.2.2.2.2.2.2.2.2 y hy).2.1, (hok.2.2.2.2.2.2.2.2.2.2.2.2 y hy).2.2.1⟩) hl
set_option maxRecDepth 100000 in
set_option maxHeartbeats 8000000 in
theorem rsame_any (x q : RQE) (Sx Sq : Nat → Prop) (W : World) (hx : rqmem Sx W x) (hq : rqmem Sq W q) (hkx : reqok x.plain) (hkq : reqok q.plain) (he : x.plain = q.plain) (hl : ([113, 49] ++ reqE x.plain).length ≤ 100000000) :
    Calls Tryz.prog 13 #[.agg #[.string x.cl, .int .u64 (x.id : Int), .int .i64 x.kd, .int .i64 x.hw, .string x.tk, .int .u64 (x.n : Int), .string x.ty, .string x.f1, .string x.f2, .string x.f3, .slice x.ws.a x.ws.xs.length x.ws.c, .slice x.ps.a x.ps.xs.length x.ps.c, .slice x.ks.a x.ks.xs.length x.ks.c, .slice x.gs.a x.gs.xs.length x.gs.c], .agg #[.string q.cl, .int .u64 (q.id : Int), .int .i64 q.kd, .int .i64 q.hw, .string q.tk, .int .u64 (q.n : Int), .string q.ty, .string q.f1, .string q.f2, .string q.f3, .slice q.ws.a q.ws.xs.length q.ws.c, .slice q.ps.a q.ps.xs.length q.ps.c, .slice q.ks.a q.ks.xs.length q.ks.c, .slice q.gs.a q.gs.xs.length q.gs.c]] W fun e W' => e = .returned (.bool true) ∧ Below W.heap.size W W' := by
  obtain ⟨E, hE⟩ : ∃ E, E = [113, 49] ++ reqE x.plain := ⟨_, rfl⟩
  have hE2 : E = [113, 49] ++ reqE q.plain := by rw [hE, he]
  rw [← hE] at hl
  have HE := Lib.hid hE
  have HE2 := Lib.hid hE2
  have HMx := Lib.hid hx
  have HMq := Lib.hid hq
  have HKx := Lib.hid hkx
  have HKq := Lib.hid hkq
  have hb1 := (Below.refl W.heap.size W).alloc (Nat.le_refl _) (.cells #[.string x.cl, .int .u64 (x.id : Int), .int .i64 x.kd, .int .i64 x.hw, .string x.tk, .int .u64 (x.n : Int), .string x.ty, .string x.f1, .string x.f2, .string x.f3, .slice x.ws.a x.ws.xs.length x.ws.c, .slice x.ps.a x.ps.xs.length x.ps.c, .slice x.ks.a x.ks.xs.length x.ks.c, .slice x.gs.a x.gs.xs.length x.gs.c] 54)
  have hb2 := hb1.alloc hb1.size (.cells #[.string q.cl, .int .u64 (q.id : Int), .int .i64 q.kd, .int .i64 q.hw, .string q.tk, .int .u64 (q.n : Int), .string q.ty, .string q.f1, .string q.f2, .string q.f3, .slice q.ws.a q.ws.xs.length q.ws.c, .slice q.ps.a q.ps.xs.length q.ps.c, .slice q.ks.a q.ks.xs.length q.ks.c, .slice q.gs.a q.gs.xs.length q.gs.c] 54)
  have hx2 := heap_alloc_new W (.cells #[.string x.cl, .int .u64 (x.id : Int), .int .i64 x.kd, .int .i64 x.hw, .string x.tk, .int .u64 (x.n : Int), .string x.ty, .string x.f1, .string x.f2, .string x.f3, .slice x.ws.a x.ws.xs.length x.ws.c, .slice x.ps.a x.ps.xs.length x.ps.c, .slice x.ks.a x.ks.xs.length x.ks.c, .slice x.gs.a x.gs.xs.length x.gs.c] 54)
  have hs1 := alloc_size W (.cells #[.string x.cl, .int .u64 (x.id : Int), .int .i64 x.kd, .int .i64 x.hw, .string x.tk, .int .u64 (x.n : Int), .string x.ty, .string x.f1, .string x.f2, .string x.f3, .slice x.ws.a x.ws.xs.length x.ws.c, .slice x.ps.a x.ps.xs.length x.ps.c, .slice x.ks.a x.ks.xs.length x.ks.c, .slice x.gs.a x.gs.xs.length x.gs.c] 54)
  have hx2' := (Below.heap_alloc (W.alloc (.cells #[.string x.cl, .int .u64 (x.id : Int), .int .i64 x.kd, .int .i64 x.hw, .string x.tk, .int .u64 (x.n : Int), .string x.ty, .string x.f1, .string x.f2, .string x.f3, .slice x.ws.a x.ws.xs.length x.ws.c, .slice x.ps.a x.ps.xs.length x.ps.c, .slice x.ks.a x.ks.xs.length x.ks.c, .slice x.gs.a x.gs.xs.length x.gs.c] 54)) (.cells #[.string q.cl, .int .u64 (q.id : Int), .int .i64 q.kd, .int .i64 q.hw, .string q.tk, .int .u64 (q.n : Int), .string q.ty, .string q.f1, .string q.f2, .string q.f3, .slice q.ws.a q.ws.xs.length q.ws.c, .slice q.ps.a q.ps.xs.length q.ps.c, .slice q.ks.a q.ks.xs.length q.ks.c, .slice q.gs.a q.gs.xs.length q.gs.c] 54) W.heap.size (by rw [hs1]; omega)).trans hx2
  have hx3 := heap_alloc_new (W.alloc (.cells #[.string x.cl, .int .u64 (x.id : Int), .int .i64 x.kd, .int .i64 x.hw, .string x.tk, .int .u64 (x.n : Int), .string x.ty, .string x.f1, .string x.f2, .string x.f3, .slice x.ws.a x.ws.xs.length x.ws.c, .slice x.ps.a x.ps.xs.length x.ps.c, .slice x.ks.a x.ks.xs.length x.ks.c, .slice x.gs.a x.gs.xs.length x.gs.c] 54)) (.cells #[.string q.cl, .int .u64 (q.id : Int), .int .i64 q.kd, .int .i64 q.hw, .string q.tk, .int .u64 (q.n : Int), .string q.ty, .string q.f1, .string q.f2, .string q.f3, .slice q.ws.a q.ws.xs.length q.ws.c, .slice q.ps.a q.ps.xs.length q.ps.c, .slice q.ks.a q.ks.xs.length q.ks.c, .slice q.gs.a q.gs.xs.length q.gs.c] 54)
  rw [hs1] at hx3
  obtain ⟨V, hV⟩ : ∃ V, V = ((W.alloc (.cells #[.string x.cl, .int .u64 (x.id : Int), .int .i64 x.kd, .int .i64 x.hw, .string x.tk, .int .u64 (x.n : Int), .string x.ty, .string x.f1, .string x.f2, .string x.f3, .slice x.ws.a x.ws.xs.length x.ws.c, .slice x.ps.a x.ps.xs.length x.ps.c, .slice x.ks.a x.ks.xs.length x.ks.c, .slice x.gs.a x.gs.xs.length x.gs.c] 54)).alloc (.cells #[.string q.cl, .int .u64 (q.id : Int), .int .i64 q.kd, .int .i64 q.hw, .string q.tk, .int .u64 (q.n : Int), .string q.ty, .string q.f1, .string q.f2, .string q.f3, .slice q.ws.a q.ws.xs.length q.ws.c, .slice q.ps.a q.ps.xs.length q.ps.c, .slice q.ks.a q.ks.xs.length q.ks.c, .slice q.gs.a q.gs.xs.length q.gs.c] 54)).drew := ⟨_, rfl⟩
  have HX2 : Hid (V.heap[W.heap.size]? = some (.cells #[.string x.cl, .int .u64 (x.id : Int), .int .i64 x.kd, .int .i64 x.hw, .string x.tk, .int .u64 (x.n : Int), .string x.ty, .string x.f1, .string x.f2, .string x.f3, .slice x.ws.a x.ws.xs.length x.ws.c, .slice x.ps.a x.ps.xs.length x.ps.c, .slice x.ks.a x.ks.xs.length x.ks.c, .slice x.gs.a x.gs.xs.length x.gs.c] 54 (0, 0))) := (by rw [hV]; exact hx2' : V.heap[W.heap.size]? = some (.cells #[.string x.cl, .int .u64 (x.id : Int), .int .i64 x.kd, .int .i64 x.hw, .string x.tk, .int .u64 (x.n : Int), .string x.ty, .string x.f1, .string x.f2, .string x.f3, .slice x.ws.a x.ws.xs.length x.ws.c, .slice x.ps.a x.ps.xs.length x.ps.c, .slice x.ks.a x.ks.xs.length x.ks.c, .slice x.gs.a x.gs.xs.length x.gs.c] 54 (0, 0)))
  have HX3 : Hid (V.heap[W.heap.size + 1]? = some (.cells #[.string q.cl, .int .u64 (q.id : Int), .int .i64 q.kd, .int .i64 q.hw, .string q.tk, .int .u64 (q.n : Int), .string q.ty, .string q.f1, .string q.f2, .string q.f3, .slice q.ws.a q.ws.xs.length q.ws.c, .slice q.ps.a q.ps.xs.length q.ps.c, .slice q.ks.a q.ks.xs.length q.ks.c, .slice q.gs.a q.gs.xs.length q.gs.c] 54 (0, 0))) := (by rw [hV]; exact hx3 : V.heap[W.heap.size + 1]? = some (.cells #[.string q.cl, .int .u64 (q.id : Int), .int .i64 q.kd, .int .i64 q.hw, .string q.tk, .int .u64 (q.n : Int), .string q.ty, .string q.f1, .string q.f2, .string q.f3, .slice q.ws.a q.ws.xs.length q.ws.c, .slice q.ps.a q.ps.xs.length q.ps.c, .slice q.ks.a q.ks.xs.length q.ks.c, .slice q.gs.a q.gs.xs.length q.gs.c] 54 (0, 0)))
  have HBel : Hid (Below W.heap.size W V) := (by rw [hV]; exact hb2.drew : Below W.heap.size W V)
  clear hE hE2 hx hq hkx hkq he hb1 hb2 hx2 hs1 hx2' hx3
  have hS0 : V.cell? ⟨W.heap.size, 0, none⟩ = some (.string x.cl) ∧ V.cell? ⟨W.heap.size, 1, none⟩ = some (.int .u64 (x.id : Int)) ∧ V.cell? ⟨W.heap.size, 2, none⟩ = some (.int .i64 x.kd) ∧ V.cell? ⟨W.heap.size, 3, none⟩ = some (.int .i64 x.hw) ∧ V.cell? ⟨W.heap.size, 4, none⟩ = some (.string x.tk) ∧ V.cell? ⟨W.heap.size, 5, none⟩ = some (.int .u64 (x.n : Int)) ∧ V.cell? ⟨W.heap.size, 6, none⟩ = some (.string x.ty) ∧ V.cell? ⟨W.heap.size, 7, none⟩ = some (.string x.f1) ∧ V.cell? ⟨W.heap.size, 8, none⟩ = some (.string x.f2) ∧ V.cell? ⟨W.heap.size, 9, none⟩ = some (.string x.f3) ∧ V.cell? ⟨W.heap.size, 10, none⟩ = some (.slice x.ws.a x.ws.xs.length x.ws.c) ∧ V.cell? ⟨W.heap.size, 11, none⟩ = some (.slice x.ps.a x.ps.xs.length x.ps.c) ∧ V.cell? ⟨W.heap.size, 12, none⟩ = some (.slice x.ks.a x.ks.xs.length x.ks.c) ∧ V.cell? ⟨W.heap.size, 13, none⟩ = some (.slice x.gs.a x.gs.xs.length x.gs.c) ∧ V.cell? ⟨W.heap.size + 1, 0, none⟩ = some (.string q.cl) ∧ V.cell? ⟨W.heap.size + 1, 1, none⟩ = some (.int .u64 (q.id : Int)) ∧ V.cell? ⟨W.heap.size + 1, 2, none⟩ = some (.int .i64 q.kd) ∧ V.cell? ⟨W.heap.size + 1, 3, none⟩ = some (.int .i64 q.hw) ∧ V.cell? ⟨W.heap.size + 1, 4, none⟩ = some (.string q.tk) ∧ V.cell? ⟨W.heap.size + 1, 5, none⟩ = some (.int .u64 (q.n : Int)) ∧ V.cell? ⟨W.heap.size + 1, 6, none⟩ = some (.string q.ty) ∧ V.cell? ⟨W.heap.size + 1, 7, none⟩ = some (.string q.f1) ∧ V.cell? ⟨W.heap.size + 1, 8, none⟩ = some (.string q.f2) ∧ V.cell? ⟨W.heap.size + 1, 9, none⟩ = some (.string q.f3) ∧ V.cell? ⟨W.heap.size + 1, 10, none⟩ = some (.slice q.ws.a q.ws.xs.length q.ws.c) ∧ V.cell? ⟨W.heap.size + 1, 11, none⟩ = some (.slice q.ps.a q.ps.xs.length q.ps.c) ∧ V.cell? ⟨W.heap.size + 1, 12, none⟩ = some (.slice q.ks.a q.ks.xs.length q.ks.c) ∧ V.cell? ⟨W.heap.size + 1, 13, none⟩ = some (.slice q.gs.a q.gs.xs.length q.gs.c) := ⟨heap_cell HX2.out 0, heap_cell HX2.out 1, heap_cell HX2.out 2, heap_cell HX2.out 3, heap_cell HX2.out 4, heap_cell HX2.out 5, heap_cell HX2.out 6, heap_cell HX2.out 7, heap_cell HX2.out 8, heap_cell HX2.out 9, heap_cell HX2.out 10, heap_cell HX2.out 11, heap_cell HX2.out 12, heap_cell HX2.out 13, heap_cell HX3.out 0, heap_cell HX3.out 1, heap_cell HX3.out 2, heap_cell HX3.out 3, heap_cell HX3.out 4, heap_cell HX3.out 5, heap_cell HX3.out 6, heap_cell HX3.out 7, heap_cell HX3.out 8, heap_cell HX3.out 9, heap_cell HX3.out 10, heap_cell HX3.out 11, heap_cell HX3.out 12, heap_cell HX3.out 13⟩
  go_enter Tryz.func13, Tryz.ntmps13
  go_wp2_with fail
  try refine wp_region_noPanic ?_
  refine wp_region_held_drew (S := fun w' => w'.cell? ⟨W.heap.size, 0, none⟩ = some (.string x.cl) ∧ w'.cell? ⟨W.heap.size, 1, none⟩ = some (.int .u64 (x.id : Int)) ∧ w'.cell? ⟨W.heap.size, 2, none⟩ = some (.int .i64 x.kd) ∧ w'.cell? ⟨W.heap.size, 3, none⟩ = some (.int .i64 x.hw) ∧ w'.cell? ⟨W.heap.size, 4, none⟩ = some (.string x.tk) ∧ w'.cell? ⟨W.heap.size, 5, none⟩ = some (.int .u64 (x.n : Int)) ∧ w'.cell? ⟨W.heap.size, 6, none⟩ = some (.string x.ty) ∧ w'.cell? ⟨W.heap.size, 7, none⟩ = some (.string x.f1) ∧ w'.cell? ⟨W.heap.size, 8, none⟩ = some (.string x.f2) ∧ w'.cell? ⟨W.heap.size, 9, none⟩ = some (.string x.f3) ∧ w'.cell? ⟨W.heap.size, 10, none⟩ = some (.slice x.ws.a x.ws.xs.length x.ws.c) ∧ w'.cell? ⟨W.heap.size, 11, none⟩ = some (.slice x.ps.a x.ps.xs.length x.ps.c) ∧ w'.cell? ⟨W.heap.size, 12, none⟩ = some (.slice x.ks.a x.ks.xs.length x.ks.c) ∧ w'.cell? ⟨W.heap.size, 13, none⟩ = some (.slice x.gs.a x.gs.xs.length x.gs.c) ∧ w'.cell? ⟨W.heap.size + 1, 0, none⟩ = some (.string q.cl) ∧ w'.cell? ⟨W.heap.size + 1, 1, none⟩ = some (.int .u64 (q.id : Int)) ∧ w'.cell? ⟨W.heap.size + 1, 2, none⟩ = some (.int .i64 q.kd) ∧ w'.cell? ⟨W.heap.size + 1, 3, none⟩ = some (.int .i64 q.hw) ∧ w'.cell? ⟨W.heap.size + 1, 4, none⟩ = some (.string q.tk) ∧ w'.cell? ⟨W.heap.size + 1, 5, none⟩ = some (.int .u64 (q.n : Int)) ∧ w'.cell? ⟨W.heap.size + 1, 6, none⟩ = some (.string q.ty) ∧ w'.cell? ⟨W.heap.size + 1, 7, none⟩ = some (.string q.f1) ∧ w'.cell? ⟨W.heap.size + 1, 8, none⟩ = some (.string q.f2) ∧ w'.cell? ⟨W.heap.size + 1, 9, none⟩ = some (.string q.f3) ∧ w'.cell? ⟨W.heap.size + 1, 10, none⟩ = some (.slice q.ws.a q.ws.xs.length q.ws.c) ∧ w'.cell? ⟨W.heap.size + 1, 11, none⟩ = some (.slice q.ps.a q.ps.xs.length q.ps.c) ∧ w'.cell? ⟨W.heap.size + 1, 12, none⟩ = some (.slice q.ks.a q.ks.xs.length q.ks.c) ∧ w'.cell? ⟨W.heap.size + 1, 13, none⟩ = some (.slice q.gs.a q.gs.xs.length q.gs.c)) (by kernel_rfl) (by rw [← hV]; exact hS0) (fun hHeld => ?_)
  rw [← hV] at hHeld ⊢
  clear hV hS0
  refine take_at 0 5 (v := ?_) rfl rfl (by kernel_rfl) (by kernel_rfl) (by kernel_rfl) (fun _ _ _ h => h) (Or.inl ⟨by rfl, ?_⟩) hHeld ?_
  rotate_left
  · (intro w hSw; (try dsimp only at hSw); go_simp; try with_reducible rfl)
  try simp only [List.setIfInBounds_toArray, List.set_cons_zero, List.set_cons_succ]
  refine take_at 3 8 (v := ?_) rfl rfl (by kernel_rfl) (by kernel_rfl) (by kernel_rfl) (fun _ _ _ h => h) (Or.inl ⟨by rfl, ?_⟩) hHeld ?_
  rotate_left
  · (intro w hSw; (try dsimp only at hSw); go_simp; try with_reducible rfl)
  try simp only [List.setIfInBounds_toArray, List.set_cons_zero, List.set_cons_succ]
  refine only_at 1 6 (by kernel_rfl) rfl rfl (by rfl) (fun K hK => ?_)
  go_simp
  refine (rreq_of x Sx V (HMx.out.below HBel.out) HKx.out (by rw [← HE.out]; omega)).mono ?_
  rintro ee W1 ⟨v1, rfl, h1, hb1⟩
  rw [List.nil_append, ← HE.out] at h1
  obtain ⟨a1, m1, c1, rfl⟩ := row_slice h1
  have hm1 := row_len' h1
  subst hm1
  have HR1 := Lib.hid (row_bytes' h1)
  have HBel1 := Lib.hid (HBel.out.trans (hb1.mono HBel.out.size))
  have HX21 := Lib.hid ((hb1.block _ (heap_lt HX2.out)).trans HX2.out)
  have HX31 := Lib.hid ((hb1.block _ (heap_lt HX3.out)).trans HX3.out)
  clear h1 hb1
  go_wp2_with fail
  refine hK.out _ _ (⟨heap_cell HX21.out 0, heap_cell HX21.out 1, heap_cell HX21.out 2, heap_cell HX21.out 3, heap_cell HX21.out 4, heap_cell HX21.out 5, heap_cell HX21.out 6, heap_cell HX21.out 7, heap_cell HX21.out 8, heap_cell HX21.out 9, heap_cell HX21.out 10, heap_cell HX21.out 11, heap_cell HX21.out 12, heap_cell HX21.out 13, heap_cell HX31.out 0, heap_cell HX31.out 1, heap_cell HX31.out 2, heap_cell HX31.out 3, heap_cell HX31.out 4, heap_cell HX31.out 5, heap_cell HX31.out 6, heap_cell HX31.out 7, heap_cell HX31.out 8, heap_cell HX31.out 9, heap_cell HX31.out 10, heap_cell HX31.out 11, heap_cell HX31.out 12, heap_cell HX31.out 13⟩) (fun hHeld2 => ?_)
  clear hK K hHeld
  have hHeld := hHeld2
  clear hHeld2
  try simp only [Act.put, List.setIfInBounds_toArray, List.set_cons_zero, List.set_cons_succ]
  refine two_at 2 4 7 9 (by kernel_rfl) rfl rfl (by rfl) rfl rfl (by rfl) (fun K hK => ?_) (fun K hK => ?_)
  · go_simp
    have hcv := run_string_of_bytes (P := Tryz.prog) W1 39 9 5 a1 E.length c1 E rfl Tryz.underlying39 Tryz.underlying5 Tryz.underlying9 HR1.out
    go_simp
    clear hcv
    refine hK.out _ _ (⟨heap_cell HX21.out 0, heap_cell HX21.out 1, heap_cell HX21.out 2, heap_cell HX21.out 3, heap_cell HX21.out 4, heap_cell HX21.out 5, heap_cell HX21.out 6, heap_cell HX21.out 7, heap_cell HX21.out 8, heap_cell HX21.out 9, heap_cell HX21.out 10, heap_cell HX21.out 11, heap_cell HX21.out 12, heap_cell HX21.out 13, heap_cell HX31.out 0, heap_cell HX31.out 1, heap_cell HX31.out 2, heap_cell HX31.out 3, heap_cell HX31.out 4, heap_cell HX31.out 5, heap_cell HX31.out 6, heap_cell HX31.out 7, heap_cell HX31.out 8, heap_cell HX31.out 9, heap_cell HX31.out 10, heap_cell HX31.out 11, heap_cell HX31.out 12, heap_cell HX31.out 13⟩) (fun hHeld2 => ?_)
    clear hK K hHeld
    have hHeld := hHeld2
    clear hHeld2
    try simp only [Act.put, List.setIfInBounds_toArray, List.set_cons_zero, List.set_cons_succ]
    refine only_at 4 9 (by kernel_rfl) rfl rfl (by rfl) (fun K hK => ?_)
    go_simp
    refine (rreq_of q Sq W1 (HMq.out.below HBel1.out) HKq.out (by rw [← HE2.out]; omega)).mono ?_
    rintro ee W2 ⟨v2, rfl, h2, hb2⟩
    rw [List.nil_append, ← HE2.out] at h2
    obtain ⟨a2, m2, c2, rfl⟩ := row_slice h2
    have hm2 := row_len' h2
    subst hm2
    have HR2 := Lib.hid (row_bytes' h2)
    have HR12 := Lib.hid (HR1.out.below hb2)
    have HBel2 := Lib.hid (HBel1.out.trans (hb2.mono HBel1.out.size))
    have HX22 := Lib.hid ((hb2.block _ (heap_lt HX21.out)).trans HX21.out)
    have HX32 := Lib.hid ((hb2.block _ (heap_lt HX31.out)).trans HX31.out)
    clear h2 hb2
    go_wp2_with fail
    refine hK.out _ _ (⟨heap_cell HX22.out 0, heap_cell HX22.out 1, heap_cell HX22.out 2, heap_cell HX22.out 3, heap_cell HX22.out 4, heap_cell HX22.out 5, heap_cell HX22.out 6, heap_cell HX22.out 7, heap_cell HX22.out 8, heap_cell HX22.out 9, heap_cell HX22.out 10, heap_cell HX22.out 11, heap_cell HX22.out 12, heap_cell HX22.out 13, heap_cell HX32.out 0, heap_cell HX32.out 1, heap_cell HX32.out 2, heap_cell HX32.out 3, heap_cell HX32.out 4, heap_cell HX32.out 5, heap_cell HX32.out 6, heap_cell HX32.out 7, heap_cell HX32.out 8, heap_cell HX32.out 9, heap_cell HX32.out 10, heap_cell HX32.out 11, heap_cell HX32.out 12, heap_cell HX32.out 13⟩) (fun hHeld2 => ?_)
    clear hK K hHeld
    have hHeld := hHeld2
    clear hHeld2
    try simp only [Act.put, List.setIfInBounds_toArray, List.set_cons_zero, List.set_cons_succ]
    refine only_at 5 10 (by kernel_rfl) rfl rfl (by rfl) (fun K hK => ?_)
    go_simp
    have hcv := run_string_of_bytes (P := Tryz.prog) W2 39 9 5 a2 E.length c2 E rfl Tryz.underlying39 Tryz.underlying5 Tryz.underlying9 HR2.out
    go_simp
    clear hcv
    refine hK.out _ _ (⟨heap_cell HX22.out 0, heap_cell HX22.out 1, heap_cell HX22.out 2, heap_cell HX22.out 3, heap_cell HX22.out 4, heap_cell HX22.out 5, heap_cell HX22.out 6, heap_cell HX22.out 7, heap_cell HX22.out 8, heap_cell HX22.out 9, heap_cell HX22.out 10, heap_cell HX22.out 11, heap_cell HX22.out 12, heap_cell HX22.out 13, heap_cell HX32.out 0, heap_cell HX32.out 1, heap_cell HX32.out 2, heap_cell HX32.out 3, heap_cell HX32.out 4, heap_cell HX32.out 5, heap_cell HX32.out 6, heap_cell HX32.out 7, heap_cell HX32.out 8, heap_cell HX32.out 9, heap_cell HX32.out 10, heap_cell HX32.out 11, heap_cell HX32.out 12, heap_cell HX32.out 13⟩) (fun hHeld2 => ?_)
    clear hK K hHeld
    have hHeld := hHeld2
    clear hHeld2
    try simp only [Act.put, List.setIfInBounds_toArray, List.set_cons_zero, List.set_cons_succ]
    refine take_at 6 11 (v := ?_) rfl rfl (by kernel_rfl) (by kernel_rfl) (by kernel_rfl) (fun _ _ _ h => h) (Or.inl ⟨by rfl, ?_⟩) hHeld ?_
    rotate_left
    · (intro w hSw; (try dsimp only at hSw); go_simp; try with_reducible rfl)
    try simp only [List.setIfInBounds_toArray, List.set_cons_zero, List.set_cons_succ]
    refine take_at 7 4 (v := ?_) rfl rfl (by kernel_rfl) (by kernel_rfl) (by kernel_rfl) (fun _ _ _ h => h) (Or.inl ⟨by rfl, ?_⟩) hHeld ?_
    rotate_left
    · (intro w hSw; (try dsimp only at hSw); go_simp; try with_reducible rfl)
    try simp only [List.setIfInBounds_toArray, List.set_cons_zero, List.set_cons_succ]
    refine wpAnyH_done (by kernel_rfl) ?_ _
    try refine NoPanic.normal ?_
    go_wp2_with fail
    go_ret
    exact ⟨rfl, HBel2.out⟩
  · go_simp
    refine (rreq_of q Sq W1 (HMq.out.below HBel1.out) HKq.out (by rw [← HE2.out]; omega)).mono ?_
    rintro ee W2 ⟨v2, rfl, h2, hb2⟩
    rw [List.nil_append, ← HE2.out] at h2
    obtain ⟨a2, m2, c2, rfl⟩ := row_slice h2
    have hm2 := row_len' h2
    subst hm2
    have HR2 := Lib.hid (row_bytes' h2)
    have HR12 := Lib.hid (HR1.out.below hb2)
    have HBel2 := Lib.hid (HBel1.out.trans (hb2.mono HBel1.out.size))
    have HX22 := Lib.hid ((hb2.block _ (heap_lt HX21.out)).trans HX21.out)
    have HX32 := Lib.hid ((hb2.block _ (heap_lt HX31.out)).trans HX31.out)
    clear h2 hb2
    go_wp2_with fail
    refine hK.out _ _ (⟨heap_cell HX22.out 0, heap_cell HX22.out 1, heap_cell HX22.out 2, heap_cell HX22.out 3, heap_cell HX22.out 4, heap_cell HX22.out 5, heap_cell HX22.out 6, heap_cell HX22.out 7, heap_cell HX22.out 8, heap_cell HX22.out 9, heap_cell HX22.out 10, heap_cell HX22.out 11, heap_cell HX22.out 12, heap_cell HX22.out 13, heap_cell HX32.out 0, heap_cell HX32.out 1, heap_cell HX32.out 2, heap_cell HX32.out 3, heap_cell HX32.out 4, heap_cell HX32.out 5, heap_cell HX32.out 6, heap_cell HX32.out 7, heap_cell HX32.out 8, heap_cell HX32.out 9, heap_cell HX32.out 10, heap_cell HX32.out 11, heap_cell HX32.out 12, heap_cell HX32.out 13⟩) (fun hHeld2 => ?_)
    clear hK K hHeld
    have hHeld := hHeld2
    clear hHeld2
    try simp only [Act.put, List.setIfInBounds_toArray, List.set_cons_zero, List.set_cons_succ]
    refine two_at 2 5 7 10 (by kernel_rfl) rfl rfl (by rfl) rfl rfl (by rfl) (fun K hK => ?_) (fun K hK => ?_)
    · go_simp
      have hcv := run_string_of_bytes (P := Tryz.prog) W2 39 9 5 a1 E.length c1 E rfl Tryz.underlying39 Tryz.underlying5 Tryz.underlying9 HR12.out
      go_simp
      clear hcv
      refine hK.out _ _ (⟨heap_cell HX22.out 0, heap_cell HX22.out 1, heap_cell HX22.out 2, heap_cell HX22.out 3, heap_cell HX22.out 4, heap_cell HX22.out 5, heap_cell HX22.out 6, heap_cell HX22.out 7, heap_cell HX22.out 8, heap_cell HX22.out 9, heap_cell HX22.out 10, heap_cell HX22.out 11, heap_cell HX22.out 12, heap_cell HX22.out 13, heap_cell HX32.out 0, heap_cell HX32.out 1, heap_cell HX32.out 2, heap_cell HX32.out 3, heap_cell HX32.out 4, heap_cell HX32.out 5, heap_cell HX32.out 6, heap_cell HX32.out 7, heap_cell HX32.out 8, heap_cell HX32.out 9, heap_cell HX32.out 10, heap_cell HX32.out 11, heap_cell HX32.out 12, heap_cell HX32.out 13⟩) (fun hHeld2 => ?_)
      clear hK K hHeld
      have hHeld := hHeld2
      clear hHeld2
      try simp only [Act.put, List.setIfInBounds_toArray, List.set_cons_zero, List.set_cons_succ]
      refine only_at 5 10 (by kernel_rfl) rfl rfl (by rfl) (fun K hK => ?_)
      go_simp
      have hcv := run_string_of_bytes (P := Tryz.prog) W2 39 9 5 a2 E.length c2 E rfl Tryz.underlying39 Tryz.underlying5 Tryz.underlying9 HR2.out
      go_simp
      clear hcv
      refine hK.out _ _ (⟨heap_cell HX22.out 0, heap_cell HX22.out 1, heap_cell HX22.out 2, heap_cell HX22.out 3, heap_cell HX22.out 4, heap_cell HX22.out 5, heap_cell HX22.out 6, heap_cell HX22.out 7, heap_cell HX22.out 8, heap_cell HX22.out 9, heap_cell HX22.out 10, heap_cell HX22.out 11, heap_cell HX22.out 12, heap_cell HX22.out 13, heap_cell HX32.out 0, heap_cell HX32.out 1, heap_cell HX32.out 2, heap_cell HX32.out 3, heap_cell HX32.out 4, heap_cell HX32.out 5, heap_cell HX32.out 6, heap_cell HX32.out 7, heap_cell HX32.out 8, heap_cell HX32.out 9, heap_cell HX32.out 10, heap_cell HX32.out 11, heap_cell HX32.out 12, heap_cell HX32.out 13⟩) (fun hHeld2 => ?_)
      clear hK K hHeld
      have hHeld := hHeld2
      clear hHeld2
      try simp only [Act.put, List.setIfInBounds_toArray, List.set_cons_zero, List.set_cons_succ]
      refine take_at 6 11 (v := ?_) rfl rfl (by kernel_rfl) (by kernel_rfl) (by kernel_rfl) (fun _ _ _ h => h) (Or.inl ⟨by rfl, ?_⟩) hHeld ?_
      rotate_left
      · (intro w hSw; (try dsimp only at hSw); go_simp; try with_reducible rfl)
      try simp only [List.setIfInBounds_toArray, List.set_cons_zero, List.set_cons_succ]
      refine take_at 7 4 (v := ?_) rfl rfl (by kernel_rfl) (by kernel_rfl) (by kernel_rfl) (fun _ _ _ h => h) (Or.inl ⟨by rfl, ?_⟩) hHeld ?_
      rotate_left
      · (intro w hSw; (try dsimp only at hSw); go_simp; try with_reducible rfl)
      try simp only [List.setIfInBounds_toArray, List.set_cons_zero, List.set_cons_succ]
      refine wpAnyH_done (by kernel_rfl) ?_ _
      try refine NoPanic.normal ?_
      go_wp2_with fail
      go_ret
      exact ⟨rfl, HBel2.out⟩
    · go_simp
      have hcv := run_string_of_bytes (P := Tryz.prog) W2 39 9 5 a2 E.length c2 E rfl Tryz.underlying39 Tryz.underlying5 Tryz.underlying9 HR2.out
      go_simp
      clear hcv
      refine hK.out _ _ (⟨heap_cell HX22.out 0, heap_cell HX22.out 1, heap_cell HX22.out 2, heap_cell HX22.out 3, heap_cell HX22.out 4, heap_cell HX22.out 5, heap_cell HX22.out 6, heap_cell HX22.out 7, heap_cell HX22.out 8, heap_cell HX22.out 9, heap_cell HX22.out 10, heap_cell HX22.out 11, heap_cell HX22.out 12, heap_cell HX22.out 13, heap_cell HX32.out 0, heap_cell HX32.out 1, heap_cell HX32.out 2, heap_cell HX32.out 3, heap_cell HX32.out 4, heap_cell HX32.out 5, heap_cell HX32.out 6, heap_cell HX32.out 7, heap_cell HX32.out 8, heap_cell HX32.out 9, heap_cell HX32.out 10, heap_cell HX32.out 11, heap_cell HX32.out 12, heap_cell HX32.out 13⟩) (fun hHeld2 => ?_)
      clear hK K hHeld
      have hHeld := hHeld2
      clear hHeld2
      try simp only [Act.put, List.setIfInBounds_toArray, List.set_cons_zero, List.set_cons_succ]
      refine only_at 2 7 (by kernel_rfl) rfl rfl (by rfl) (fun K hK => ?_)
      go_simp
      have hcv := run_string_of_bytes (P := Tryz.prog) W2 39 9 5 a1 E.length c1 E rfl Tryz.underlying39 Tryz.underlying5 Tryz.underlying9 HR12.out
      go_simp
      clear hcv
      refine hK.out _ _ (⟨heap_cell HX22.out 0, heap_cell HX22.out 1, heap_cell HX22.out 2, heap_cell HX22.out 3, heap_cell HX22.out 4, heap_cell HX22.out 5, heap_cell HX22.out 6, heap_cell HX22.out 7, heap_cell HX22.out 8, heap_cell HX22.out 9, heap_cell HX22.out 10, heap_cell HX22.out 11, heap_cell HX22.out 12, heap_cell HX22.out 13, heap_cell HX32.out 0, heap_cell HX32.out 1, heap_cell HX32.out 2, heap_cell HX32.out 3, heap_cell HX32.out 4, heap_cell HX32.out 5, heap_cell HX32.out 6, heap_cell HX32.out 7, heap_cell HX32.out 8, heap_cell HX32.out 9, heap_cell HX32.out 10, heap_cell HX32.out 11, heap_cell HX32.out 12, heap_cell HX32.out 13⟩) (fun hHeld2 => ?_)
      clear hK K hHeld
      have hHeld := hHeld2
      clear hHeld2
      try simp only [Act.put, List.setIfInBounds_toArray, List.set_cons_zero, List.set_cons_succ]
      refine take_at 6 11 (v := ?_) rfl rfl (by kernel_rfl) (by kernel_rfl) (by kernel_rfl) (fun _ _ _ h => h) (Or.inl ⟨by rfl, ?_⟩) hHeld ?_
      rotate_left
      · (intro w hSw; (try dsimp only at hSw); go_simp; try with_reducible rfl)
      try simp only [List.setIfInBounds_toArray, List.set_cons_zero, List.set_cons_succ]
      refine take_at 7 4 (v := ?_) rfl rfl (by kernel_rfl) (by kernel_rfl) (by kernel_rfl) (fun _ _ _ h => h) (Or.inl ⟨by rfl, ?_⟩) hHeld ?_
      rotate_left
      · (intro w hSw; (try dsimp only at hSw); go_simp; try with_reducible rfl)
      try simp only [List.setIfInBounds_toArray, List.set_cons_zero, List.set_cons_succ]
      refine wpAnyH_done (by kernel_rfl) ?_ _
      try refine NoPanic.normal ?_
      go_wp2_with fail
      go_ret
      exact ⟨rfl, HBel2.out⟩
end Go.Proofs.YtacjbgmnoiimbabGreat
