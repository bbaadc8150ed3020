/- The law WireRequests: walked (printed by genWireLq.py). -/
import Derived.Test.YtacjbgmnoiimbabLen
namespace Go.Proofs.Ytacjbgmnoiimbab
set_option linter.unusedVariables false
set_option linter.unusedSimpArgs false
open Go.RowKit

theorem few_of (x : RQE) (W : World) (h : RQok W x) : Calls Try.prog 7 #[.agg #[.string x.cl, .int .u64 (x.id : Int), .int .i64 x.kd, .int .i64 x.hw, .string x.tk, .int .u64 (x.n : Int), .string x.ty, .string x.f1, .string x.f2, .string x.f3, .slice x.ws.a x.ws.xs.length x.ws.c, .slice x.ps.a x.ps.xs.length x.ps.c, .slice x.ks.a x.ks.xs.length x.ks.c, .slice x.gs.a x.gs.xs.length x.gs.c]] W (FewIs x.plain W) :=
  few_any x.cl x.id x.kd x.hw x.tk x.n x.ty x.f1 x.f2 x.f3 x.ws.a x.ws.c x.ws.xs x.ps.a x.ps.c x.ps.xs x.ks.a x.ks.c x.ks.xs x.gs.a x.gs.c x.gs.xs W h.2.1.1.2.1 h.2.1.2.1.2.1 h.2.1.2.2.1.2.1 h.2.1.2.2.2.2.1 h.2.2.1.1 h.2.2.1.2.1 h.2.2.1.2.2.1 h.2.2.1.2.2.2
    h.2.2.2.1.1 h.2.2.2.1.2.1 h.2.2.2.1.2.2.1 h.2.2.2.1.2.2.2.1 h.2.2.2.1.2.2.2.2.1 h.2.2.2.1.2.2.2.2.2 h.2.2.2.2.1 h.2.2.2.2.2.1 h.2.2.2.2.2.2.1 h.2.2.2.2.2.2.2
theorem RQok.below {W W' : World} {x : RQE} (h : RQok W x) (hb : Below W.heap.size W W') : RQok W' x := ⟨h.1, h.2.1.below hb, h.2.2⟩
set_option maxRecDepth 100000 in
set_option maxHeartbeats 16000000 in
theorem lawReq (q : RQE) (W : World) (h : RQok W q) : Calls Try.prog 3 #[.agg #[.string q.cl, .int .u64 (q.id : Int), .int .i64 q.kd, .int .i64 q.hw, .string q.tk, .int .u64 (q.n : Int), .string q.ty, .string q.f1, .string q.f2, .string q.f3, .slice q.ws.a q.ws.xs.length q.ws.c, .slice q.ps.a q.ps.xs.length q.ps.c, .slice q.ks.a q.ks.xs.length q.ks.c, .slice q.gs.a q.gs.xs.length q.gs.c]] W fun e W' => e = .returned (.bool true) ∧ Below W.heap.size W W' := by
  have HX0 := Lib.hid (heap_alloc_new W (.cells #[.string q.cl, .int .u64 (q.id : Int), .int .i64 q.kd, .int .i64 q.hw, .string q.tk, .int .u64 (q.n : Int), .string q.ty, .string q.f1, .string q.f2, .string q.f3, .slice q.ws.a q.ws.xs.length q.ws.c, .slice q.ps.a q.ps.xs.length q.ps.c, .slice q.ks.a q.ks.xs.length q.ks.c, .slice q.gs.a q.gs.xs.length q.gs.c] 30))
  have HB0 := Lib.hid ((Below.refl W.heap.size W).alloc (Nat.le_refl _) (.cells #[.string q.cl, .int .u64 (q.id : Int), .int .i64 q.kd, .int .i64 q.hw, .string q.tk, .int .u64 (q.n : Int), .string q.ty, .string q.f1, .string q.f2, .string q.f3, .slice q.ws.a q.ws.xs.length q.ws.c, .slice q.ps.a q.ps.xs.length q.ps.c, .slice q.ks.a q.ks.xs.length q.ks.c, .slice q.gs.a q.gs.xs.length q.gs.c] 30))
  have HQ0 := Lib.hid (h.below HB0.out)
  have HC := Lib.hid (fixed_any (W.alloc (.cells #[.string q.cl, .int .u64 (q.id : Int), .int .i64 q.kd, .int .i64 q.hw, .string q.tk, .int .u64 (q.n : Int), .string q.ty, .string q.f1, .string q.f2, .string q.f3, .slice q.ws.a q.ws.xs.length q.ws.c, .slice q.ps.a q.ps.xs.length q.ps.c, .slice q.ks.a q.ks.xs.length q.ks.c, .slice q.gs.a q.gs.xs.length q.gs.c] 30)))
  clear h
  go_enter Try.func3, Try.ntmps3
  go_wp2_with fail
  generalize (W.alloc (.cells #[.string q.cl, .int .u64 (q.id : Int), .int .i64 q.kd, .int .i64 q.hw, .string q.tk, .int .u64 (q.n : Int), .string q.ty, .string q.f1, .string q.f2, .string q.f3, .slice q.ws.a q.ws.xs.length q.ws.c, .slice q.ps.a q.ps.xs.length q.ps.c, .slice q.ks.a q.ks.xs.length q.ks.c, .slice q.gs.a q.gs.xs.length q.gs.c] 30)) = W0 at *
  obtain ⟨x1, hx1⟩ : ∃ x1, x1 = W.heap.size := ⟨_, rfl⟩
  rw [← hx1] at HX0
  rw [← hx1]
  have HHx := Lib.hid hx1
  clear hx1
  refine HC.out.mono ?_
  clear HC
  rintro ee W1 ⟨rfl, hb1⟩
  have HB1 := Lib.hid (HB0.out.trans (hb1.mono HB0.out.size))
  have HX1 := Lib.hid ((hb1.block _ (heap_lt HX0.out)).trans HX0.out)
  have HQ1 := Lib.hid (HQ0.out.below hb1)
  have HC := Lib.hid (few_of q W1 HQ1.out)
  clear hb1
  have q0 := heap_cell HX1.out 0
  have q1 := heap_cell HX1.out 1
  have q2 := heap_cell HX1.out 2
  have q3 := heap_cell HX1.out 3
  have q4 := heap_cell HX1.out 4
  have q5 := heap_cell HX1.out 5
  have q6 := heap_cell HX1.out 6
  have q7 := heap_cell HX1.out 7
  have q8 := heap_cell HX1.out 8
  have q9 := heap_cell HX1.out 9
  have q10 := heap_cell HX1.out 10
  have q11 := heap_cell HX1.out 11
  have q12 := heap_cell HX1.out 12
  have q13 := heap_cell HX1.out 13
  simp at q0 q1 q2 q3 q4 q5 q6 q7 q8 q9 q10 q11 q12 q13
  go_wp2_with fail
  clear q0 q1 q2 q3 q4 q5 q6 q7 q8 q9 q10 q11 q12 q13
  refine HC.out.mono ?_
  clear HC
  rintro ee W2 ⟨b, rfl, hfew, hb2⟩
  have HB2 := Lib.hid (HB1.out.trans (hb2.mono HB1.out.size))
  have HX2 := Lib.hid ((hb2.block _ (heap_lt HX1.out)).trans HX1.out)
  have HQ2 := Lib.hid (HQ1.out.below hb2)
  clear hb2
  cases b with
  | false =>
    go_wp2_with fail
    go_ret
    exact ⟨rfl, HB2.out⟩
  | true =>
    have hf := hfew rfl
    have hln := few_len q.plain hf HQ2.out.1
    obtain ⟨E, hE⟩ : ∃ E, E = [113, 49] ++ reqE q.plain := ⟨_, rfl⟩
    have heb : E.length ≤ 100000000 := by
      rw [hE]
      have := hln.1
      omega
    have HC := Lib.hid (putreq_of q _ W2 HQ2.out.2.1 HQ2.out.1 ⟨Nat.le_trans hln.2.1 (by decide), Nat.le_trans hln.2.2.1 (by decide), Nat.le_trans hln.2.2.2.1 (by decide), Nat.le_trans hln.2.2.2.2 (by decide)⟩ (by rw [← hE]; exact heb))
    rw [← hE] at HC
    have HE := Lib.hid hE
    have HKq := Lib.hid HQ2.out.1
    clear hfew hf hln hE
    have q0 := heap_cell HX2.out 0
    have q1 := heap_cell HX2.out 1
    have q2 := heap_cell HX2.out 2
    have q3 := heap_cell HX2.out 3
    have q4 := heap_cell HX2.out 4
    have q5 := heap_cell HX2.out 5
    have q6 := heap_cell HX2.out 6
    have q7 := heap_cell HX2.out 7
    have q8 := heap_cell HX2.out 8
    have q9 := heap_cell HX2.out 9
    have q10 := heap_cell HX2.out 10
    have q11 := heap_cell HX2.out 11
    have q12 := heap_cell HX2.out 12
    have q13 := heap_cell HX2.out 13
    simp at q0 q1 q2 q3 q4 q5 q6 q7 q8 q9 q10 q11 q12 q13
    go_wp2_with fail
    clear q0 q1 q2 q3 q4 q5 q6 q7 q8 q9 q10 q11 q12 q13
    refine HC.out.mono ?_
    clear HC
    rintro ee W3 ⟨hp, _, hb3⟩
    obtain ⟨a, c, rfl, hac, hib⟩ := hp id
    have HB3 := Lib.hid (HB2.out.trans (hb3.mono HB2.out.size))
    have HX3 := Lib.hid ((hb3.block _ (heap_lt HX2.out)).trans HX2.out)
    have HQ3 := Lib.hid (HQ2.out.below hb3)
    have HR3 := Lib.hid hib
    have HC := Lib.hid (getreq_any a c E W3 heb hib)
    clear hp hb3 hib
    go_wp2_with fail
    refine HC.out.mono ?_
    clear HC
    rintro ee W4 ⟨hb4, hcase⟩
    rcases hcase with ⟨x, rfl, hmx, hokx, hex⟩ | ⟨_, hno⟩
    rotate_left
    · exact absurd HE.out (hno q.plain HKq.out)
    have HPl : Hid (x.plain = q.plain) := by
      have h1 : reqE x.plain ++ [] = reqE q.plain ++ [] := by
        rw [List.append_nil, List.append_nil]
        exact List.append_cancel_left (hex.symm.trans HE.out)
      exact (uq_req _ _ _ _ hokx HKq.out h1).1
    have HKx := Lib.hid hokx
    have ha4 := (Below.refl W4.heap.size W4).alloc (Nat.le_refl _) (.cells #[.string x.cl, .int .u64 (x.id : Int), .int .i64 x.kd, .int .i64 x.hw, .string x.tk, .int .u64 (x.n : Int), .string x.ty, .string x.f1, .string x.f2, .string x.f3, .slice x.ws.a x.ws.xs.length x.ws.c, .slice x.ps.a x.ps.xs.length x.ps.c, .slice x.ks.a x.ks.xs.length x.ks.c, .slice x.gs.a x.gs.xs.length x.gs.c] 30)
    have hba := hb4.trans (ha4.mono hb4.size)
    obtain ⟨V, hV⟩ : ∃ V, V = (W4.alloc (.cells #[.string x.cl, .int .u64 (x.id : Int), .int .i64 x.kd, .int .i64 x.hw, .string x.tk, .int .u64 (x.n : Int), .string x.ty, .string x.f1, .string x.f2, .string x.f3, .slice x.ws.a x.ws.xs.length x.ws.c, .slice x.ps.a x.ps.xs.length x.ps.c, .slice x.ks.a x.ks.xs.length x.ks.c, .slice x.gs.a x.gs.xs.length x.gs.c] 30)).drew := ⟨_, rfl⟩
    have HBV : Hid (Below W.heap.size W V) := (by rw [hV]; exact (HB3.out.trans (hba.mono HB3.out.size)).drew : Below W.heap.size W V)
    have HXV : Hid (V.heap[x1]? = some (.cells #[.string q.cl, .int .u64 (q.id : Int), .int .i64 q.kd, .int .i64 q.hw, .string q.tk, .int .u64 (q.n : Int), .string q.ty, .string q.f1, .string q.f2, .string q.f3, .slice q.ws.a q.ws.xs.length q.ws.c, .slice q.ps.a q.ps.xs.length q.ps.c, .slice q.ks.a q.ks.xs.length q.ks.c, .slice q.gs.a q.gs.xs.length q.gs.c] 30 (0, 0))) := (by rw [hV]; exact (hba.block _ (heap_lt HX3.out)).trans HX3.out : V.heap[x1]? = some (.cells #[.string q.cl, .int .u64 (q.id : Int), .int .i64 q.kd, .int .i64 q.hw, .string q.tk, .int .u64 (q.n : Int), .string q.ty, .string q.f1, .string q.f2, .string q.f3, .slice q.ws.a q.ws.xs.length q.ws.c, .slice q.ps.a q.ps.xs.length q.ps.c, .slice q.ks.a q.ks.xs.length q.ks.c, .slice q.gs.a q.gs.xs.length q.gs.c] 30 (0, 0)))
    have HYV : Hid (V.heap[W4.heap.size]? = some (.cells #[.string x.cl, .int .u64 (x.id : Int), .int .i64 x.kd, .int .i64 x.hw, .string x.tk, .int .u64 (x.n : Int), .string x.ty, .string x.f1, .string x.f2, .string x.f3, .slice x.ws.a x.ws.xs.length x.ws.c, .slice x.ps.a x.ps.xs.length x.ps.c, .slice x.ks.a x.ks.xs.length x.ks.c, .slice x.gs.a x.gs.xs.length x.gs.c] 30 (0, 0))) := (by rw [hV]; exact heap_alloc_new W4 _ : V.heap[W4.heap.size]? = some (.cells #[.string x.cl, .int .u64 (x.id : Int), .int .i64 x.kd, .int .i64 x.hw, .string x.tk, .int .u64 (x.n : Int), .string x.ty, .string x.f1, .string x.f2, .string x.f3, .slice x.ws.a x.ws.xs.length x.ws.c, .slice x.ps.a x.ps.xs.length x.ps.c, .slice x.ks.a x.ks.xs.length x.ks.c, .slice x.gs.a x.gs.xs.length x.gs.c] 30 (0, 0)))
    have HMq : Hid (rqmem (fun _ => True) V q) := (by rw [hV]; exact rqmem.below HQ3.out.2.1 hba.drew : rqmem (fun _ => True) V q)
    have HMx : Hid (rqmem (fun b => W3.heap.size ≤ b) V x) := (by rw [hV]; exact rqmem.below hmx ha4.drew : rqmem (fun b => W3.heap.size ≤ b) V x)
    have HRV : Hid (IsBytes V a E) := (by rw [hV]; exact HR3.out.below hba.drew : IsBytes V a E)
    obtain ⟨x5, hx5⟩ : ∃ x5, x5 = W4.heap.size := ⟨_, rfl⟩
    rw [← hx5] at HYV
    have HHx5 := Lib.hid hx5
    have hS0 : V.cell? ⟨x1, 0, none⟩ = some (.string q.cl) ∧ V.cell? ⟨x1, 1, none⟩ = some (.int .u64 (q.id : Int)) ∧ V.cell? ⟨x1, 2, none⟩ = some (.int .i64 q.kd) ∧ V.cell? ⟨x1, 3, none⟩ = some (.int .i64 q.hw) ∧ V.cell? ⟨x1, 4, none⟩ = some (.string q.tk) ∧ V.cell? ⟨x1, 5, none⟩ = some (.int .u64 (q.n : Int)) ∧ V.cell? ⟨x1, 6, none⟩ = some (.string q.ty) ∧ V.cell? ⟨x1, 7, none⟩ = some (.string q.f1) ∧ V.cell? ⟨x1, 8, none⟩ = some (.string q.f2) ∧ V.cell? ⟨x1, 9, none⟩ = some (.string q.f3) ∧ V.cell? ⟨x1, 10, none⟩ = some (.slice q.ws.a q.ws.xs.length q.ws.c) ∧ V.cell? ⟨x1, 11, none⟩ = some (.slice q.ps.a q.ps.xs.length q.ps.c) ∧ V.cell? ⟨x1, 12, none⟩ = some (.slice q.ks.a q.ks.xs.length q.ks.c) ∧ V.cell? ⟨x1, 13, none⟩ = some (.slice q.gs.a q.gs.xs.length q.gs.c) ∧ V.cell? ⟨x5, 0, none⟩ = some (.string x.cl) ∧ V.cell? ⟨x5, 1, none⟩ = some (.int .u64 (x.id : Int)) ∧ V.cell? ⟨x5, 2, none⟩ = some (.int .i64 x.kd) ∧ V.cell? ⟨x5, 3, none⟩ = some (.int .i64 x.hw) ∧ V.cell? ⟨x5, 4, none⟩ = some (.string x.tk) ∧ V.cell? ⟨x5, 5, none⟩ = some (.int .u64 (x.n : Int)) ∧ V.cell? ⟨x5, 6, none⟩ = some (.string x.ty) ∧ V.cell? ⟨x5, 7, none⟩ = some (.string x.f1) ∧ V.cell? ⟨x5, 8, none⟩ = some (.string x.f2) ∧ V.cell? ⟨x5, 9, none⟩ = some (.string x.f3) ∧ V.cell? ⟨x5, 10, none⟩ = some (.slice x.ws.a x.ws.xs.length x.ws.c) ∧ V.cell? ⟨x5, 11, none⟩ = some (.slice x.ps.a x.ps.xs.length x.ps.c) ∧ V.cell? ⟨x5, 12, none⟩ = some (.slice x.ks.a x.ks.xs.length x.ks.c) ∧ V.cell? ⟨x5, 13, none⟩ = some (.slice x.gs.a x.gs.xs.length x.gs.c) ∧ (convert 33 9 (.slice a E.length c)).run Try.prog V = .ok (.string ⟨E.toArray⟩) V := ⟨heap_cell HXV.out 0, heap_cell HXV.out 1, heap_cell HXV.out 2, heap_cell HXV.out 3, heap_cell HXV.out 4, heap_cell HXV.out 5, heap_cell HXV.out 6, heap_cell HXV.out 7, heap_cell HXV.out 8, heap_cell HXV.out 9, heap_cell HXV.out 10, heap_cell HXV.out 11, heap_cell HXV.out 12, heap_cell HXV.out 13, heap_cell HYV.out 0, heap_cell HYV.out 1, heap_cell HYV.out 2, heap_cell HYV.out 3, heap_cell HYV.out 4, heap_cell HYV.out 5, heap_cell HYV.out 6, heap_cell HYV.out 7, heap_cell HYV.out 8, heap_cell HYV.out 9, heap_cell HYV.out 10, heap_cell HYV.out 11, heap_cell HYV.out 12, heap_cell HYV.out 13, run_string_of_bytes (P := Try.prog) _ 33 9 5 a E.length c E rfl Try.underlying33 Try.underlying5 Try.underlying9 HRV.out⟩
    clear hb4 hmx hokx hex ha4 hba hx5
    simp only [rqV, lsV]
    go_wp2_with fail
    try refine wp_region_noPanic ?_
    rw [← HHx5.out]
    refine wp_region_held_drew (S := fun w' => w'.cell? ⟨x1, 0, none⟩ = some (.string q.cl) ∧ w'.cell? ⟨x1, 1, none⟩ = some (.int .u64 (q.id : Int)) ∧ w'.cell? ⟨x1, 2, none⟩ = some (.int .i64 q.kd) ∧ w'.cell? ⟨x1, 3, none⟩ = some (.int .i64 q.hw) ∧ w'.cell? ⟨x1, 4, none⟩ = some (.string q.tk) ∧ w'.cell? ⟨x1, 5, none⟩ = some (.int .u64 (q.n : Int)) ∧ w'.cell? ⟨x1, 6, none⟩ = some (.string q.ty) ∧ w'.cell? ⟨x1, 7, none⟩ = some (.string q.f1) ∧ w'.cell? ⟨x1, 8, none⟩ = some (.string q.f2) ∧ w'.cell? ⟨x1, 9, none⟩ = some (.string q.f3) ∧ w'.cell? ⟨x1, 10, none⟩ = some (.slice q.ws.a q.ws.xs.length q.ws.c) ∧ w'.cell? ⟨x1, 11, none⟩ = some (.slice q.ps.a q.ps.xs.length q.ps.c) ∧ w'.cell? ⟨x1, 12, none⟩ = some (.slice q.ks.a q.ks.xs.length q.ks.c) ∧ w'.cell? ⟨x1, 13, none⟩ = some (.slice q.gs.a q.gs.xs.length q.gs.c) ∧ w'.cell? ⟨x5, 0, none⟩ = some (.string x.cl) ∧ w'.cell? ⟨x5, 1, none⟩ = some (.int .u64 (x.id : Int)) ∧ w'.cell? ⟨x5, 2, none⟩ = some (.int .i64 x.kd) ∧ w'.cell? ⟨x5, 3, none⟩ = some (.int .i64 x.hw) ∧ w'.cell? ⟨x5, 4, none⟩ = some (.string x.tk) ∧ w'.cell? ⟨x5, 5, none⟩ = some (.int .u64 (x.n : Int)) ∧ w'.cell? ⟨x5, 6, none⟩ = some (.string x.ty) ∧ w'.cell? ⟨x5, 7, none⟩ = some (.string x.f1) ∧ w'.cell? ⟨x5, 8, none⟩ = some (.string x.f2) ∧ w'.cell? ⟨x5, 9, none⟩ = some (.string x.f3) ∧ w'.cell? ⟨x5, 10, none⟩ = some (.slice x.ws.a x.ws.xs.length x.ws.c) ∧ w'.cell? ⟨x5, 11, none⟩ = some (.slice x.ps.a x.ps.xs.length x.ps.c) ∧ w'.cell? ⟨x5, 12, none⟩ = some (.slice x.ks.a x.ks.xs.length x.ks.c) ∧ w'.cell? ⟨x5, 13, none⟩ = some (.slice x.gs.a x.gs.xs.length x.gs.c) ∧ (convert 33 9 (.slice a E.length c)).run Try.prog w' = .ok (.string ⟨E.toArray⟩) w') (by kernel_rfl) (by rw [← hV]; exact hS0) (fun hHeld => ?_)
    rw [← hV] at hHeld ⊢
    clear hV hS0
    refine take_at 0 22 (v := ?_) rfl rfl (by kernel_rfl) (by kernel_rfl) (by kernel_rfl) (fun _ _ _ h => h) (Or.inl ⟨by rfl, ?_⟩) hHeld ?_
    rotate_left
    · (intro w hSw; (try dsimp only at hSw); go_simp; try with_reducible rfl)
    try simp only [List.setIfInBounds_toArray, List.set_cons_zero, List.set_cons_succ]
    refine take_at 1 23 (v := ?_) rfl rfl (by kernel_rfl) (by kernel_rfl) (by kernel_rfl) (fun _ _ _ h => h) (Or.inl ⟨by rfl, ?_⟩) hHeld ?_
    rotate_left
    · (intro w hSw; (try dsimp only at hSw); go_simp; try with_reducible rfl)
    try simp only [List.setIfInBounds_toArray, List.set_cons_zero, List.set_cons_succ]
    refine take_at 2 24 (v := ?_) rfl rfl (by kernel_rfl) (by kernel_rfl) (by kernel_rfl) (fun _ _ _ h => h) (Or.inl ⟨by rfl, ?_⟩) hHeld ?_
    rotate_left
    · (intro w hSw; (try dsimp only at hSw); go_simp; try with_reducible rfl)
    try simp only [List.setIfInBounds_toArray, List.set_cons_zero, List.set_cons_succ]
    refine take_at 3 25 (v := ?_) rfl rfl (by kernel_rfl) (by kernel_rfl) (by kernel_rfl) (fun _ _ _ h => h) (Or.inl ⟨by rfl, ?_⟩) hHeld ?_
    rotate_left
    · (intro w hSw; (try dsimp only at hSw); go_simp; try with_reducible rfl)
    try simp only [List.setIfInBounds_toArray, List.set_cons_zero, List.set_cons_succ]
    refine take_at 4 26 (v := ?_) rfl rfl (by kernel_rfl) (by kernel_rfl) (by kernel_rfl) (fun _ _ _ h => h) (Or.inl ⟨by rfl, ?_⟩) hHeld ?_
    rotate_left
    · (intro w hSw; (try dsimp only at hSw); go_simp; try with_reducible rfl)
    try simp only [List.setIfInBounds_toArray, List.set_cons_zero, List.set_cons_succ]
    refine take_at 5 27 (v := ?_) rfl rfl (by kernel_rfl) (by kernel_rfl) (by kernel_rfl) (fun _ _ _ h => h) (Or.inl ⟨by rfl, ?_⟩) hHeld ?_
    rotate_left
    · (intro w hSw; (try dsimp only at hSw); go_simp; try with_reducible rfl)
    try simp only [List.setIfInBounds_toArray, List.set_cons_zero, List.set_cons_succ]
    refine take_at 6 28 (v := ?_) rfl rfl (by kernel_rfl) (by kernel_rfl) (by kernel_rfl) (fun _ _ _ h => h) (Or.inl ⟨by rfl, ?_⟩) hHeld ?_
    rotate_left
    · (intro w hSw; (try dsimp only at hSw); go_simp; try with_reducible rfl)
    try simp only [List.setIfInBounds_toArray, List.set_cons_zero, List.set_cons_succ]
    refine take_at 7 29 (v := ?_) rfl rfl (by kernel_rfl) (by kernel_rfl) (by kernel_rfl) (fun _ _ _ h => h) (Or.inl ⟨by rfl, ?_⟩) hHeld ?_
    rotate_left
    · (intro w hSw; (try dsimp only at hSw); go_simp; try with_reducible rfl)
    try simp only [List.setIfInBounds_toArray, List.set_cons_zero, List.set_cons_succ]
    refine take_at 8 30 (v := ?_) rfl rfl (by kernel_rfl) (by kernel_rfl) (by kernel_rfl) (fun _ _ _ h => h) (Or.inl ⟨by rfl, ?_⟩) hHeld ?_
    rotate_left
    · (intro w hSw; (try dsimp only at hSw); go_simp; try with_reducible rfl)
    try simp only [List.setIfInBounds_toArray, List.set_cons_zero, List.set_cons_succ]
    refine take_at 9 31 (v := ?_) rfl rfl (by kernel_rfl) (by kernel_rfl) (by kernel_rfl) (fun _ _ _ h => h) (Or.inl ⟨by rfl, ?_⟩) hHeld ?_
    rotate_left
    · (intro w hSw; (try dsimp only at hSw); go_simp; try with_reducible rfl)
    try simp only [List.setIfInBounds_toArray, List.set_cons_zero, List.set_cons_succ]
    refine only_at 10 32 (by kernel_rfl) rfl rfl (by rfl) (fun K hK => ?_)
    go_simp
    refine (rreq_of q _ _ HMq.out HKq.out (by rw [← HE.out]; exact heb)).mono ?_
    rintro ee W51 ⟨v51, rfl, h51, hb51⟩
    rw [List.nil_append, ← HE.out] at h51
    obtain ⟨a51, m51, c51, rfl⟩ := row_slice h51
    have hm51 := row_len' h51
    subst hm51
    have HR2 := Lib.hid (row_bytes' h51)
    have HBel51 := Lib.hid (HBV.out.trans (hb51.mono HBV.out.size))
    have HX151 := Lib.hid ((hb51.block _ (heap_lt HXV.out)).trans HXV.out)
    have HX551 := Lib.hid ((hb51.block _ (heap_lt HYV.out)).trans HYV.out)
    have HRb51 := Lib.hid (HRV.out.below hb51)
    have HMx51 := Lib.hid (rqmem.below HMx.out hb51)
    have HMq51 := Lib.hid (rqmem.below HMq.out hb51)
    clear h51 hb51
    go_wp2_with fail
    refine hK.out _ _ (⟨heap_cell HX151.out 0, heap_cell HX151.out 1, heap_cell HX151.out 2, heap_cell HX151.out 3, heap_cell HX151.out 4, heap_cell HX151.out 5, heap_cell HX151.out 6, heap_cell HX151.out 7, heap_cell HX151.out 8, heap_cell HX151.out 9, heap_cell HX151.out 10, heap_cell HX151.out 11, heap_cell HX151.out 12, heap_cell HX151.out 13, heap_cell HX551.out 0, heap_cell HX551.out 1, heap_cell HX551.out 2, heap_cell HX551.out 3, heap_cell HX551.out 4, heap_cell HX551.out 5, heap_cell HX551.out 6, heap_cell HX551.out 7, heap_cell HX551.out 8, heap_cell HX551.out 9, heap_cell HX551.out 10, heap_cell HX551.out 11, heap_cell HX551.out 12, heap_cell HX551.out 13, run_string_of_bytes (P := Try.prog) _ 33 9 5 a E.length c E rfl Try.underlying33 Try.underlying5 Try.underlying9 HRb51.out⟩) (fun hHeld2 => ?_)
    clear hK K hHeld
    have hHeld := hHeld2
    clear hHeld2
    try simp only [Act.put, List.setIfInBounds_toArray, List.set_cons_zero, List.set_cons_succ]
    refine only_at 11 33 (by kernel_rfl) rfl rfl (by rfl) (fun K hK => ?_)
    go_simp
    have hcv := run_string_of_bytes (P := Try.prog) W51 33 9 5 a51 E.length c51 E rfl Try.underlying33 Try.underlying5 Try.underlying9 HR2.out
    go_simp
    clear hcv
    refine hK.out _ _ (⟨heap_cell HX151.out 0, heap_cell HX151.out 1, heap_cell HX151.out 2, heap_cell HX151.out 3, heap_cell HX151.out 4, heap_cell HX151.out 5, heap_cell HX151.out 6, heap_cell HX151.out 7, heap_cell HX151.out 8, heap_cell HX151.out 9, heap_cell HX151.out 10, heap_cell HX151.out 11, heap_cell HX151.out 12, heap_cell HX151.out 13, heap_cell HX551.out 0, heap_cell HX551.out 1, heap_cell HX551.out 2, heap_cell HX551.out 3, heap_cell HX551.out 4, heap_cell HX551.out 5, heap_cell HX551.out 6, heap_cell HX551.out 7, heap_cell HX551.out 8, heap_cell HX551.out 9, heap_cell HX551.out 10, heap_cell HX551.out 11, heap_cell HX551.out 12, heap_cell HX551.out 13, run_string_of_bytes (P := Try.prog) _ 33 9 5 a E.length c E rfl Try.underlying33 Try.underlying5 Try.underlying9 HRb51.out⟩) (fun hHeld2 => ?_)
    clear hK K hHeld
    have hHeld := hHeld2
    clear hHeld2
    try simp only [Act.put, List.setIfInBounds_toArray, List.set_cons_zero, List.set_cons_succ]
    refine take_at 12 34 (v := ?_) rfl rfl (by kernel_rfl) (by kernel_rfl) (by kernel_rfl) (fun _ _ _ h => h) (Or.inl ⟨by rfl, ?_⟩) hHeld ?_
    rotate_left
    · (intro w hSw; (try dsimp only at hSw); go_simp; try with_reducible rfl)
    try simp only [List.setIfInBounds_toArray, List.set_cons_zero, List.set_cons_succ]
    refine take_at 13 35 (v := ?_) rfl rfl (by kernel_rfl) (by kernel_rfl) (by kernel_rfl) (fun _ _ _ h => h) (Or.inl ⟨by rfl, ?_⟩) hHeld ?_
    rotate_left
    · (intro w hSw; (try dsimp only at hSw); go_simp; try with_reducible rfl)
    try simp only [List.setIfInBounds_toArray, List.set_cons_zero, List.set_cons_succ]
    refine take_at 14 36 (v := ?_) rfl rfl (by kernel_rfl) (by kernel_rfl) (by kernel_rfl) (fun _ _ _ h => h) (Or.inl ⟨by rfl, ?_⟩) hHeld ?_
    rotate_left
    · (intro w hSw; (try dsimp only at hSw); go_simp; try with_reducible rfl)
    try simp only [List.setIfInBounds_toArray, List.set_cons_zero, List.set_cons_succ]
    refine take_at 15 37 (v := ?_) rfl rfl (by kernel_rfl) (by kernel_rfl) (by kernel_rfl) (fun _ _ _ h => h) (Or.inl ⟨by rfl, ?_⟩) hHeld ?_
    rotate_left
    · (intro w hSw; (try dsimp only at hSw); go_simp; try with_reducible rfl)
    try simp only [List.setIfInBounds_toArray, List.set_cons_zero, List.set_cons_succ]
    refine take_at 16 38 (v := ?_) rfl rfl (by kernel_rfl) (by kernel_rfl) (by kernel_rfl) (fun _ _ _ h => h) (Or.inl ⟨by rfl, ?_⟩) hHeld ?_
    rotate_left
    · (intro w hSw; (try dsimp only at hSw); go_simp; try with_reducible rfl)
    try simp only [List.setIfInBounds_toArray, List.set_cons_zero, List.set_cons_succ]
    refine only_at 17 39 (by kernel_rfl) rfl rfl (by rfl) (fun K hK => ?_)
    go_simp
    refine (rsame_any x q _ _ _ HMx51.out HMq51.out HKx.out HKq.out HPl.out (by rw [HPl.out, ← HE.out]; exact heb)).mono ?_
    rintro ee W52 ⟨rfl, hb52⟩
    have HBel52 := Lib.hid (HBel51.out.trans (hb52.mono HBel51.out.size))
    have HX152 := Lib.hid ((hb52.block _ (heap_lt HX151.out)).trans HX151.out)
    have HX552 := Lib.hid ((hb52.block _ (heap_lt HX551.out)).trans HX551.out)
    have HRb52 := Lib.hid (HRb51.out.below hb52)
    have HMx52 := Lib.hid (rqmem.below HMx51.out hb52)
    have HMq52 := Lib.hid (rqmem.below HMq51.out hb52)
    clear hb52
    go_wp2_with fail
    refine hK.out _ _ (⟨heap_cell HX152.out 0, heap_cell HX152.out 1, heap_cell HX152.out 2, heap_cell HX152.out 3, heap_cell HX152.out 4, heap_cell HX152.out 5, heap_cell HX152.out 6, heap_cell HX152.out 7, heap_cell HX152.out 8, heap_cell HX152.out 9, heap_cell HX152.out 10, heap_cell HX152.out 11, heap_cell HX152.out 12, heap_cell HX152.out 13, heap_cell HX552.out 0, heap_cell HX552.out 1, heap_cell HX552.out 2, heap_cell HX552.out 3, heap_cell HX552.out 4, heap_cell HX552.out 5, heap_cell HX552.out 6, heap_cell HX552.out 7, heap_cell HX552.out 8, heap_cell HX552.out 9, heap_cell HX552.out 10, heap_cell HX552.out 11, heap_cell HX552.out 12, heap_cell HX552.out 13, run_string_of_bytes (P := Try.prog) _ 33 9 5 a E.length c E rfl Try.underlying33 Try.underlying5 Try.underlying9 HRb52.out⟩) (fun hHeld2 => ?_)
    clear hK K hHeld
    have hHeld := hHeld2
    clear hHeld2
    try simp only [Act.put, List.setIfInBounds_toArray, List.set_cons_zero, List.set_cons_succ]
    refine take_at 18 40 (v := ?_) rfl rfl (by kernel_rfl) (by kernel_rfl) (by kernel_rfl) (fun _ _ _ h => h) (Or.inl ⟨by rfl, ?_⟩) hHeld ?_
    rotate_left
    · (intro w hSw; (try dsimp only at hSw); go_simp; try with_reducible rfl)
    try simp only [List.setIfInBounds_toArray, List.set_cons_zero, List.set_cons_succ]
    refine take_at 19 2 (v := ?_) rfl rfl (by kernel_rfl) (by kernel_rfl) (by kernel_rfl) (fun _ _ _ h => h) (Or.inl ⟨by rfl, ?_⟩) hHeld ?_
    rotate_left
    · (intro w hSw; (try dsimp only at hSw); go_simp; try with_reducible rfl)
    try simp only [List.setIfInBounds_toArray, List.set_cons_zero, List.set_cons_succ]
    refine wpAnyH_done (by kernel_rfl) ?_ _
    try refine NoPanic.normal ?_
    go_wp2_with fail
    go_ret
    exact ⟨rfl, HBel52.out⟩
end Go.Proofs.Ytacjbgmnoiimbab
