/- The law WireResponses: walked (printed by genGreatLaw.py). -/
import Derived.Test.YtacjbgmnoiimbabGreatOf
namespace Go.Proofs.YtacjbgmnoiimbabGreat
set_option linter.unusedVariables false
set_option linter.unusedSimpArgs false
open Go.RowKit

theorem rpmem_ok : MemOk rpmem :=
  ⟨fun hS k => ⟨(lsmem_ok nomem_ok).weak hS k.1, (lsmem_ok nomem_ok).weak hS k.2.1, (lsmem_ok nomem_ok).weak hS k.2.2.1, (lsmem_ok nomem_ok).weak hS k.2.2.2.1, (lsmem_ok (semem_ok 64)).weak hS k.2.2.2.2.1, (nemem_ok 64).weak hS k.2.2.2.2.2⟩,
   fun k => ⟨(lsmem_ok nomem_ok).lt k.1, (lsmem_ok nomem_ok).lt k.2.1, (lsmem_ok nomem_ok).lt k.2.2.1, (lsmem_ok nomem_ok).lt k.2.2.2.1, (lsmem_ok (semem_ok 64)).lt k.2.2.2.2.1, (nemem_ok 64).lt k.2.2.2.2.2⟩,
   fun k hs => ⟨(lsmem_ok nomem_ok).stays k.1 hs, (lsmem_ok nomem_ok).stays k.2.1 hs, (lsmem_ok nomem_ok).stays k.2.2.1 hs, (lsmem_ok nomem_ok).stays k.2.2.2.1 hs, (lsmem_ok (semem_ok 64)).stays k.2.2.2.2.1 hs, (nemem_ok 64).stays k.2.2.2.2.2 hs⟩⟩
theorem rpmem_below {S : Nat → Prop} {W W' : World} {y : RPE} (h : rpmem S W y) (hb : Below W.heap.size W W') : rpmem S W' y := rpmem_ok.stays h (Stays.below hb)
set_option maxRecDepth 100000 in
set_option maxHeartbeats 16000000 in
theorem lawResp (p : RPE) (W : World) (h : RPok W p) : Calls Tryz.prog 3 #[.agg #[.int .u64 (p.id : Int), .int .i64 p.er, .int .u64 (p.rv : Int), .string p.tk, .slice p.fs.a p.fs.xs.length p.fs.c, .slice p.ts.a p.ts.xs.length p.ts.c, .slice p.os.a p.os.xs.length p.os.c, .slice p.es.a p.es.xs.length p.es.c, .slice p.ss.a p.ss.xs.length p.ss.c, .int .i64 p.nd.k, .string p.nd.t, .string p.nd.i, .string p.nd.r, .slice p.nd.sa p.nd.ss.length p.nd.sc, .slice p.nd.a p.nd.ps.length p.nd.c]] W fun e W' => e = .returned (.bool true) ∧ Below W.heap.size W W' := by
  have HX0 := Lib.hid (heap_alloc_new W (.cells #[.int .u64 (p.id : Int), .int .i64 p.er, .int .u64 (p.rv : Int), .string p.tk, .slice p.fs.a p.fs.xs.length p.fs.c, .slice p.ts.a p.ts.xs.length p.ts.c, .slice p.os.a p.os.xs.length p.os.c, .slice p.es.a p.es.xs.length p.es.c, .slice p.ss.a p.ss.xs.length p.ss.c, .int .i64 p.nd.k, .string p.nd.t, .string p.nd.i, .string p.nd.r, .slice p.nd.sa p.nd.ss.length p.nd.sc, .slice p.nd.a p.nd.ps.length p.nd.c] 36))
  have HB0 := Lib.hid ((Below.refl W.heap.size W).alloc (Nat.le_refl _) (.cells #[.int .u64 (p.id : Int), .int .i64 p.er, .int .u64 (p.rv : Int), .string p.tk, .slice p.fs.a p.fs.xs.length p.fs.c, .slice p.ts.a p.ts.xs.length p.ts.c, .slice p.os.a p.os.xs.length p.os.c, .slice p.es.a p.es.xs.length p.es.c, .slice p.ss.a p.ss.xs.length p.ss.c, .int .i64 p.nd.k, .string p.nd.t, .string p.nd.i, .string p.nd.r, .slice p.nd.sa p.nd.ss.length p.nd.sc, .slice p.nd.a p.nd.ps.length p.nd.c] 36))
  have HQ0 := Lib.hid (h.below HB0.out)
  have HC := Lib.hid (fixed_any (W.alloc (.cells #[.int .u64 (p.id : Int), .int .i64 p.er, .int .u64 (p.rv : Int), .string p.tk, .slice p.fs.a p.fs.xs.length p.fs.c, .slice p.ts.a p.ts.xs.length p.ts.c, .slice p.os.a p.os.xs.length p.os.c, .slice p.es.a p.es.xs.length p.es.c, .slice p.ss.a p.ss.xs.length p.ss.c, .int .i64 p.nd.k, .string p.nd.t, .string p.nd.i, .string p.nd.r, .slice p.nd.sa p.nd.ss.length p.nd.sc, .slice p.nd.a p.nd.ps.length p.nd.c] 36)))
  clear h
  go_enter Tryz.func3, Tryz.ntmps3
  go_wp2_with fail
  generalize (W.alloc (.cells #[.int .u64 (p.id : Int), .int .i64 p.er, .int .u64 (p.rv : Int), .string p.tk, .slice p.fs.a p.fs.xs.length p.fs.c, .slice p.ts.a p.ts.xs.length p.ts.c, .slice p.os.a p.os.xs.length p.os.c, .slice p.es.a p.es.xs.length p.es.c, .slice p.ss.a p.ss.xs.length p.ss.c, .int .i64 p.nd.k, .string p.nd.t, .string p.nd.i, .string p.nd.r, .slice p.nd.sa p.nd.ss.length p.nd.sc, .slice p.nd.a p.nd.ps.length p.nd.c] 36)) = W0 at *
  obtain ⟨x1, hx1⟩ : ∃ x1, x1 = W.heap.size := ⟨_, rfl⟩
  rw [← hx1] at HX0
  rw [← hx1]
  have HHx := Lib.hid hx1
  clear hx1
  refine HC.out.mono ?_
  clear HC
  rintro ee W1 ⟨rfl, hb1⟩
  have HB1 := Lib.hid (HB0.out.trans (hb1.mono HB0.out.size))
  have HX1 := Lib.hid ((hb1.block _ (heap_lt HX0.out)).trans HX0.out)
  have HQ1 := Lib.hid (HQ0.out.below hb1)
  have HC := Lib.hid (small_of p W1 HQ1.out)
  clear hb1
  have q0 := heap_cell HX1.out 0
  have q1 := heap_cell HX1.out 1
  have q2 := heap_cell HX1.out 2
  have q3 := heap_cell HX1.out 3
  have q4 := heap_cell HX1.out 4
  have q5 := heap_cell HX1.out 5
  have q6 := heap_cell HX1.out 6
  have q7 := heap_cell HX1.out 7
  have q8 := heap_cell HX1.out 8
  have q9 := heap_cell HX1.out 9
  have q10 := heap_cell HX1.out 10
  have q11 := heap_cell HX1.out 11
  have q12 := heap_cell HX1.out 12
  have q13 := heap_cell HX1.out 13
  have q14 := heap_cell HX1.out 14
  simp at q0 q1 q2 q3 q4 q5 q6 q7 q8 q9 q10 q11 q12 q13 q14
  go_wp2_with fail
  clear q0 q1 q2 q3 q4 q5 q6 q7 q8 q9 q10 q11 q12 q13 q14
  refine HC.out.mono ?_
  clear HC
  rintro ee W2 ⟨b, rfl, hlow, hb2⟩
  have HB2 := Lib.hid (HB1.out.trans (hb2.mono HB1.out.size))
  have HX2 := Lib.hid ((hb2.block _ (heap_lt HX1.out)).trans HX1.out)
  have HQ2 := Lib.hid (HQ1.out.below hb2)
  have HLow := Lib.hid hlow
  clear hb2 hlow
  cases b with
  | false =>
    go_wp2_with fail
    go_ret
    exact ⟨rfl, HB2.out⟩
  | true =>
    obtain ⟨E, hE⟩ : ∃ E, E = [112, 49] ++ respE p.plain := ⟨_, rfl⟩
    have heb : E.length ≤ 100000000 := by
      rw [hE]
      exact Nat.le_trans HQ2.out.len (by decide)
    have HC := Lib.hid (putresp_of p W2 HQ2.out (HLow.out rfl))
    rw [← hE] at HC
    have HE := Lib.hid hE
    clear hE HLow
    have q0 := heap_cell HX2.out 0
    have q1 := heap_cell HX2.out 1
    have q2 := heap_cell HX2.out 2
    have q3 := heap_cell HX2.out 3
    have q4 := heap_cell HX2.out 4
    have q5 := heap_cell HX2.out 5
    have q6 := heap_cell HX2.out 6
    have q7 := heap_cell HX2.out 7
    have q8 := heap_cell HX2.out 8
    have q9 := heap_cell HX2.out 9
    have q10 := heap_cell HX2.out 10
    have q11 := heap_cell HX2.out 11
    have q12 := heap_cell HX2.out 12
    have q13 := heap_cell HX2.out 13
    have q14 := heap_cell HX2.out 14
    simp at q0 q1 q2 q3 q4 q5 q6 q7 q8 q9 q10 q11 q12 q13 q14
    go_wp2_with fail
    clear q0 q1 q2 q3 q4 q5 q6 q7 q8 q9 q10 q11 q12 q13 q14
    refine HC.out.mono ?_
    clear HC
    rintro ee W3 ⟨hp, hnp, hb3⟩
    have HB3 := Lib.hid (HB2.out.trans (hb3.mono HB2.out.size))
    have HX3 := Lib.hid ((hb3.block _ (heap_lt HX2.out)).trans HX2.out)
    have HQ3 := Lib.hid (HQ2.out.below hb3)
    clear hb3
    have HC := Lib.hid (flat_of p W3 HQ3.out)
    have q0 := heap_cell HX3.out 0
    have q1 := heap_cell HX3.out 1
    have q2 := heap_cell HX3.out 2
    have q3 := heap_cell HX3.out 3
    have q4 := heap_cell HX3.out 4
    have q5 := heap_cell HX3.out 5
    have q6 := heap_cell HX3.out 6
    have q7 := heap_cell HX3.out 7
    have q8 := heap_cell HX3.out 8
    have q9 := heap_cell HX3.out 9
    have q10 := heap_cell HX3.out 10
    have q11 := heap_cell HX3.out 11
    have q12 := heap_cell HX3.out 12
    have q13 := heap_cell HX3.out 13
    have q14 := heap_cell HX3.out 14
    simp at q0 q1 q2 q3 q4 q5 q6 q7 q8 q9 q10 q11 q12 q13 q14
    by_cases hfl : flatP p.plain
    · obtain ⟨a, c, rfl, hac, hib⟩ := hp (fun hn => hn hfl)
      have HR3 := Lib.hid hib
      clear hp hnp hib
      go_wp2_with fail
      clear q0 q1 q2 q3 q4 q5 q6 q7 q8 q9 q10 q11 q12 q13 q14
      refine HC.out.mono ?_
      clear HC
      rintro ee W4 ⟨bf, rfl, hbf, hb4⟩
      obtain rfl : bf = true := hbf.2 hfl
      have HB4 := Lib.hid (HB3.out.trans (hb4.mono HB3.out.size))
      have HX4 := Lib.hid ((hb4.block _ (heap_lt HX3.out)).trans HX3.out)
      have HQ4 := Lib.hid (HQ3.out.below hb4)
      have HR4 := Lib.hid (HR3.out.below hb4)
      have HFl := Lib.hid hfl
      clear hb4 hbf hfl
      have HC := Lib.hid (getresp_any a c E W4 heb HR4.out)
      go_wp2_with fail
      refine HC.out.mono ?_
      clear HC
      rintro ee W5 ⟨hb5, hcase⟩
      rcases hcase with ⟨x, rfl, hmx, hokx, hflx, hex⟩ | ⟨_, hno⟩
      rotate_left
      · exact absurd HE.out (hno p.plain HQ4.out.ok HFl.out)
      have HPl : Hid (x.plain = p.plain) := by
        have h1 : respE x.plain ++ [] = respE p.plain ++ [] := by
          rw [List.append_nil, List.append_nil]
          exact List.append_cancel_left (hex.symm.trans HE.out)
        exact (uq_resp _ _ _ _ hokx HQ4.out.ok h1).1
      have ha5 := (Below.refl W5.heap.size W5).alloc (Nat.le_refl _) (.cells #[.int .u64 (x.id : Int), .int .i64 x.er, .int .u64 (x.rv : Int), .string x.tk, .slice x.fs.a x.fs.xs.length x.fs.c, .slice x.ts.a x.ts.xs.length x.ts.c, .slice x.os.a x.os.xs.length x.os.c, .slice x.es.a x.es.xs.length x.es.c, .slice x.ss.a x.ss.xs.length x.ss.c, .int .i64 x.nd.k, .string x.nd.t, .string x.nd.i, .string x.nd.r, .slice x.nd.sa x.nd.ss.length x.nd.sc, .slice x.nd.a x.nd.ps.length x.nd.c] 36)
      have hba := hb5.trans (ha5.mono hb5.size)
      obtain ⟨V, hV⟩ : ∃ V, V = (W5.alloc (.cells #[.int .u64 (x.id : Int), .int .i64 x.er, .int .u64 (x.rv : Int), .string x.tk, .slice x.fs.a x.fs.xs.length x.fs.c, .slice x.ts.a x.ts.xs.length x.ts.c, .slice x.os.a x.os.xs.length x.os.c, .slice x.es.a x.es.xs.length x.es.c, .slice x.ss.a x.ss.xs.length x.ss.c, .int .i64 x.nd.k, .string x.nd.t, .string x.nd.i, .string x.nd.r, .slice x.nd.sa x.nd.ss.length x.nd.sc, .slice x.nd.a x.nd.ps.length x.nd.c] 36)).drew := ⟨_, rfl⟩
      have HBV : Hid (Below W.heap.size W V) := (by rw [hV]; exact (HB4.out.trans (hba.mono HB4.out.size)).drew : Below W.heap.size W V)
      have HXV : Hid (V.heap[x1]? = some (.cells #[.int .u64 (p.id : Int), .int .i64 p.er, .int .u64 (p.rv : Int), .string p.tk, .slice p.fs.a p.fs.xs.length p.fs.c, .slice p.ts.a p.ts.xs.length p.ts.c, .slice p.os.a p.os.xs.length p.os.c, .slice p.es.a p.es.xs.length p.es.c, .slice p.ss.a p.ss.xs.length p.ss.c, .int .i64 p.nd.k, .string p.nd.t, .string p.nd.i, .string p.nd.r, .slice p.nd.sa p.nd.ss.length p.nd.sc, .slice p.nd.a p.nd.ps.length p.nd.c] 36 (0, 0))) := (by rw [hV]; exact (hba.block _ (heap_lt HX4.out)).trans HX4.out : V.heap[x1]? = some (.cells #[.int .u64 (p.id : Int), .int .i64 p.er, .int .u64 (p.rv : Int), .string p.tk, .slice p.fs.a p.fs.xs.length p.fs.c, .slice p.ts.a p.ts.xs.length p.ts.c, .slice p.os.a p.os.xs.length p.os.c, .slice p.es.a p.es.xs.length p.es.c, .slice p.ss.a p.ss.xs.length p.ss.c, .int .i64 p.nd.k, .string p.nd.t, .string p.nd.i, .string p.nd.r, .slice p.nd.sa p.nd.ss.length p.nd.sc, .slice p.nd.a p.nd.ps.length p.nd.c] 36 (0, 0)))
      have HYV : Hid (V.heap[W5.heap.size]? = some (.cells #[.int .u64 (x.id : Int), .int .i64 x.er, .int .u64 (x.rv : Int), .string x.tk, .slice x.fs.a x.fs.xs.length x.fs.c, .slice x.ts.a x.ts.xs.length x.ts.c, .slice x.os.a x.os.xs.length x.os.c, .slice x.es.a x.es.xs.length x.es.c, .slice x.ss.a x.ss.xs.length x.ss.c, .int .i64 x.nd.k, .string x.nd.t, .string x.nd.i, .string x.nd.r, .slice x.nd.sa x.nd.ss.length x.nd.sc, .slice x.nd.a x.nd.ps.length x.nd.c] 36 (0, 0))) := (by rw [hV]; exact heap_alloc_new W5 _ : V.heap[W5.heap.size]? = some (.cells #[.int .u64 (x.id : Int), .int .i64 x.er, .int .u64 (x.rv : Int), .string x.tk, .slice x.fs.a x.fs.xs.length x.fs.c, .slice x.ts.a x.ts.xs.length x.ts.c, .slice x.os.a x.os.xs.length x.os.c, .slice x.es.a x.es.xs.length x.es.c, .slice x.ss.a x.ss.xs.length x.ss.c, .int .i64 x.nd.k, .string x.nd.t, .string x.nd.i, .string x.nd.r, .slice x.nd.sa x.nd.ss.length x.nd.sc, .slice x.nd.a x.nd.ps.length x.nd.c] 36 (0, 0)))
      have HMq : Hid (RPok V p) := (by rw [hV]; exact HQ4.out.below hba.drew : RPok V p)
      have HMx : Hid (rpmem (fun b => W4.heap.size ≤ b) V x) := (by rw [hV]; exact rpmem_below hmx ha5.drew : rpmem (fun b => W4.heap.size ≤ b) V x)
      have HRV : Hid (IsBytes V a E) := (by rw [hV]; exact HR4.out.below hba.drew : IsBytes V a E)
      obtain ⟨x5, hx5⟩ : ∃ x5, x5 = W5.heap.size := ⟨_, rfl⟩
      rw [← hx5] at HYV
      have HHx5 := Lib.hid hx5
      have hS0 : V.cell? ⟨x1, 0, none⟩ = some (.int .u64 (p.id : Int)) ∧ V.cell? ⟨x1, 1, none⟩ = some (.int .i64 p.er) ∧ V.cell? ⟨x1, 2, none⟩ = some (.int .u64 (p.rv : Int)) ∧ V.cell? ⟨x1, 3, none⟩ = some (.string p.tk) ∧ V.cell? ⟨x1, 4, none⟩ = some (.slice p.fs.a p.fs.xs.length p.fs.c) ∧ V.cell? ⟨x1, 5, none⟩ = some (.slice p.ts.a p.ts.xs.length p.ts.c) ∧ V.cell? ⟨x1, 6, none⟩ = some (.slice p.os.a p.os.xs.length p.os.c) ∧ V.cell? ⟨x1, 7, none⟩ = some (.slice p.es.a p.es.xs.length p.es.c) ∧ V.cell? ⟨x1, 8, none⟩ = some (.slice p.ss.a p.ss.xs.length p.ss.c) ∧ V.cell? ⟨x1, 9, none⟩ = some (.int .i64 p.nd.k) ∧ V.cell? ⟨x1, 10, none⟩ = some (.string p.nd.t) ∧ V.cell? ⟨x1, 11, none⟩ = some (.string p.nd.i) ∧ V.cell? ⟨x1, 12, none⟩ = some (.string p.nd.r) ∧ V.cell? ⟨x1, 13, none⟩ = some (.slice p.nd.sa p.nd.ss.length p.nd.sc) ∧ V.cell? ⟨x1, 14, none⟩ = some (.slice p.nd.a p.nd.ps.length p.nd.c) ∧ V.cell? ⟨x5, 0, none⟩ = some (.int .u64 (x.id : Int)) ∧ V.cell? ⟨x5, 1, none⟩ = some (.int .i64 x.er) ∧ V.cell? ⟨x5, 2, none⟩ = some (.int .u64 (x.rv : Int)) ∧ V.cell? ⟨x5, 3, none⟩ = some (.string x.tk) ∧ V.cell? ⟨x5, 4, none⟩ = some (.slice x.fs.a x.fs.xs.length x.fs.c) ∧ V.cell? ⟨x5, 5, none⟩ = some (.slice x.ts.a x.ts.xs.length x.ts.c) ∧ V.cell? ⟨x5, 6, none⟩ = some (.slice x.os.a x.os.xs.length x.os.c) ∧ V.cell? ⟨x5, 7, none⟩ = some (.slice x.es.a x.es.xs.length x.es.c) ∧ V.cell? ⟨x5, 8, none⟩ = some (.slice x.ss.a x.ss.xs.length x.ss.c) ∧ V.cell? ⟨x5, 9, none⟩ = some (.int .i64 x.nd.k) ∧ V.cell? ⟨x5, 10, none⟩ = some (.string x.nd.t) ∧ V.cell? ⟨x5, 11, none⟩ = some (.string x.nd.i) ∧ V.cell? ⟨x5, 12, none⟩ = some (.string x.nd.r) ∧ V.cell? ⟨x5, 13, none⟩ = some (.slice x.nd.sa x.nd.ss.length x.nd.sc) ∧ V.cell? ⟨x5, 14, none⟩ = some (.slice x.nd.a x.nd.ps.length x.nd.c) ∧ (convert 39 9 (.slice a E.length c)).run Tryz.prog V = .ok (.string ⟨E.toArray⟩) V := ⟨heap_cell HXV.out 0, heap_cell HXV.out 1, heap_cell HXV.out 2, heap_cell HXV.out 3, heap_cell HXV.out 4, heap_cell HXV.out 5, heap_cell HXV.out 6, heap_cell HXV.out 7, heap_cell HXV.out 8, heap_cell HXV.out 9, heap_cell HXV.out 10, heap_cell HXV.out 11, heap_cell HXV.out 12, heap_cell HXV.out 13, heap_cell HXV.out 14, heap_cell HYV.out 0, heap_cell HYV.out 1, heap_cell HYV.out 2, heap_cell HYV.out 3, heap_cell HYV.out 4, heap_cell HYV.out 5, heap_cell HYV.out 6, heap_cell HYV.out 7, heap_cell HYV.out 8, heap_cell HYV.out 9, heap_cell HYV.out 10, heap_cell HYV.out 11, heap_cell HYV.out 12, heap_cell HYV.out 13, heap_cell HYV.out 14, run_string_of_bytes (P := Tryz.prog) _ 39 9 5 a E.length c E rfl Tryz.underlying39 Tryz.underlying5 Tryz.underlying9 HRV.out⟩
      clear hb5 hmx hokx hflx hex ha5 hba hx5
      simp only [rpV, lsV]
      go_wp2_with fail
      try refine wp_region_noPanic ?_
      rw [← HHx5.out]
      refine wp_region_held_drew (S := fun w' => w'.cell? ⟨x1, 0, none⟩ = some (.int .u64 (p.id : Int)) ∧ w'.cell? ⟨x1, 1, none⟩ = some (.int .i64 p.er) ∧ w'.cell? ⟨x1, 2, none⟩ = some (.int .u64 (p.rv : Int)) ∧ w'.cell? ⟨x1, 3, none⟩ = some (.string p.tk) ∧ w'.cell? ⟨x1, 4, none⟩ = some (.slice p.fs.a p.fs.xs.length p.fs.c) ∧ w'.cell? ⟨x1, 5, none⟩ = some (.slice p.ts.a p.ts.xs.length p.ts.c) ∧ w'.cell? ⟨x1, 6, none⟩ = some (.slice p.os.a p.os.xs.length p.os.c) ∧ w'.cell? ⟨x1, 7, none⟩ = some (.slice p.es.a p.es.xs.length p.es.c) ∧ w'.cell? ⟨x1, 8, none⟩ = some (.slice p.ss.a p.ss.xs.length p.ss.c) ∧ w'.cell? ⟨x1, 9, none⟩ = some (.int .i64 p.nd.k) ∧ w'.cell? ⟨x1, 10, none⟩ = some (.string p.nd.t) ∧ w'.cell? ⟨x1, 11, none⟩ = some (.string p.nd.i) ∧ w'.cell? ⟨x1, 12, none⟩ = some (.string p.nd.r) ∧ w'.cell? ⟨x1, 13, none⟩ = some (.slice p.nd.sa p.nd.ss.length p.nd.sc) ∧ w'.cell? ⟨x1, 14, none⟩ = some (.slice p.nd.a p.nd.ps.length p.nd.c) ∧ w'.cell? ⟨x5, 0, none⟩ = some (.int .u64 (x.id : Int)) ∧ w'.cell? ⟨x5, 1, none⟩ = some (.int .i64 x.er) ∧ w'.cell? ⟨x5, 2, none⟩ = some (.int .u64 (x.rv : Int)) ∧ w'.cell? ⟨x5, 3, none⟩ = some (.string x.tk) ∧ w'.cell? ⟨x5, 4, none⟩ = some (.slice x.fs.a x.fs.xs.length x.fs.c) ∧ w'.cell? ⟨x5, 5, none⟩ = some (.slice x.ts.a x.ts.xs.length x.ts.c) ∧ w'.cell? ⟨x5, 6, none⟩ = some (.slice x.os.a x.os.xs.length x.os.c) ∧ w'.cell? ⟨x5, 7, none⟩ = some (.slice x.es.a x.es.xs.length x.es.c) ∧ w'.cell? ⟨x5, 8, none⟩ = some (.slice x.ss.a x.ss.xs.length x.ss.c) ∧ w'.cell? ⟨x5, 9, none⟩ = some (.int .i64 x.nd.k) ∧ w'.cell? ⟨x5, 10, none⟩ = some (.string x.nd.t) ∧ w'.cell? ⟨x5, 11, none⟩ = some (.string x.nd.i) ∧ w'.cell? ⟨x5, 12, none⟩ = some (.string x.nd.r) ∧ w'.cell? ⟨x5, 13, none⟩ = some (.slice x.nd.sa x.nd.ss.length x.nd.sc) ∧ w'.cell? ⟨x5, 14, none⟩ = some (.slice x.nd.a x.nd.ps.length x.nd.c) ∧ (convert 39 9 (.slice a E.length c)).run Tryz.prog w' = .ok (.string ⟨E.toArray⟩) w') (by kernel_rfl) (by rw [← hV]; exact hS0) (fun hHeld => ?_)
      rw [← hV] at hHeld ⊢
      clear hV hS0
      refine take_at 0 32 (v := ?_) rfl rfl (by kernel_rfl) (by kernel_rfl) (by kernel_rfl) (fun _ _ _ h => h) (Or.inl ⟨by rfl, ?_⟩) hHeld ?_
      rotate_left
      · (intro w hSw; (try dsimp only at hSw); go_simp; try with_reducible rfl)
      try simp only [List.setIfInBounds_toArray, List.set_cons_zero, List.set_cons_succ]
      refine take_at 1 33 (v := ?_) rfl rfl (by kernel_rfl) (by kernel_rfl) (by kernel_rfl) (fun _ _ _ h => h) (Or.inl ⟨by rfl, ?_⟩) hHeld ?_
      rotate_left
      · (intro w hSw; (try dsimp only at hSw); go_simp; try with_reducible rfl)
      try simp only [List.setIfInBounds_toArray, List.set_cons_zero, List.set_cons_succ]
      refine take_at 2 34 (v := ?_) rfl rfl (by kernel_rfl) (by kernel_rfl) (by kernel_rfl) (fun _ _ _ h => h) (Or.inl ⟨by rfl, ?_⟩) hHeld ?_
      rotate_left
      · (intro w hSw; (try dsimp only at hSw); go_simp; try with_reducible rfl)
      try simp only [List.setIfInBounds_toArray, List.set_cons_zero, List.set_cons_succ]
      refine take_at 3 35 (v := ?_) rfl rfl (by kernel_rfl) (by kernel_rfl) (by kernel_rfl) (fun _ _ _ h => h) (Or.inl ⟨by rfl, ?_⟩) hHeld ?_
      rotate_left
      · (intro w hSw; (try dsimp only at hSw); go_simp; try with_reducible rfl)
      try simp only [List.setIfInBounds_toArray, List.set_cons_zero, List.set_cons_succ]
      refine take_at 4 36 (v := ?_) rfl rfl (by kernel_rfl) (by kernel_rfl) (by kernel_rfl) (fun _ _ _ h => h) (Or.inl ⟨by rfl, ?_⟩) hHeld ?_
      rotate_left
      · (intro w hSw; (try dsimp only at hSw); go_simp; try with_reducible rfl)
      try simp only [List.setIfInBounds_toArray, List.set_cons_zero, List.set_cons_succ]
      refine take_at 5 37 (v := ?_) rfl rfl (by kernel_rfl) (by kernel_rfl) (by kernel_rfl) (fun _ _ _ h => h) (Or.inl ⟨by rfl, ?_⟩) hHeld ?_
      rotate_left
      · (intro w hSw; (try dsimp only at hSw); go_simp; try with_reducible rfl)
      try simp only [List.setIfInBounds_toArray, List.set_cons_zero, List.set_cons_succ]
      refine take_at 6 38 (v := ?_) rfl rfl (by kernel_rfl) (by kernel_rfl) (by kernel_rfl) (fun _ _ _ h => h) (Or.inl ⟨by rfl, ?_⟩) hHeld ?_
      rotate_left
      · (intro w hSw; (try dsimp only at hSw); go_simp; try with_reducible rfl)
      try simp only [List.setIfInBounds_toArray, List.set_cons_zero, List.set_cons_succ]
      refine take_at 7 39 (v := ?_) rfl rfl (by kernel_rfl) (by kernel_rfl) (by kernel_rfl) (fun _ _ _ h => h) (Or.inl ⟨by rfl, ?_⟩) hHeld ?_
      rotate_left
      · (intro w hSw; (try dsimp only at hSw); go_simp; try with_reducible rfl)
      try simp only [List.setIfInBounds_toArray, List.set_cons_zero, List.set_cons_succ]
      refine take_at 8 40 (v := ?_) rfl rfl (by kernel_rfl) (by kernel_rfl) (by kernel_rfl) (fun _ _ _ h => h) (Or.inl ⟨by rfl, ?_⟩) hHeld ?_
      rotate_left
      · (intro w hSw; (try dsimp only at hSw); go_simp; try with_reducible rfl)
      try simp only [List.setIfInBounds_toArray, List.set_cons_zero, List.set_cons_succ]
      refine take_at 9 41 (v := ?_) rfl rfl (by kernel_rfl) (by kernel_rfl) (by kernel_rfl) (fun _ _ _ h => h) (Or.inl ⟨by rfl, ?_⟩) hHeld ?_
      rotate_left
      · (intro w hSw; (try dsimp only at hSw); go_simp; try with_reducible rfl)
      try simp only [List.setIfInBounds_toArray, List.set_cons_zero, List.set_cons_succ]
      refine only_at 10 42 (by kernel_rfl) rfl rfl (by rfl) (fun K hK => ?_)
      go_simp
      refine (rresp_of p _ HMq.out).mono ?_
      rintro ee W61 ⟨v61, rfl, h61, hb61⟩
      rw [List.nil_append, ← HE.out] at h61
      obtain ⟨a61, m61, c61, rfl⟩ := row_slice h61
      have hm61 := row_len' h61
      subst hm61
      have HR2 := Lib.hid (row_bytes' h61)
      have HBel61 := Lib.hid (HBV.out.trans (hb61.mono HBV.out.size))
      have HX161 := Lib.hid ((hb61.block _ (heap_lt HXV.out)).trans HXV.out)
      have HX561 := Lib.hid ((hb61.block _ (heap_lt HYV.out)).trans HYV.out)
      have HRb61 := Lib.hid (HRV.out.below hb61)
      have HMx61 := Lib.hid (rpmem_below HMx.out hb61)
      have HMq61 := Lib.hid (HMq.out.below hb61)
      clear h61 hb61
      go_wp2_with fail
      refine hK.out _ _ (⟨heap_cell HX161.out 0, heap_cell HX161.out 1, heap_cell HX161.out 2, heap_cell HX161.out 3, heap_cell HX161.out 4, heap_cell HX161.out 5, heap_cell HX161.out 6, heap_cell HX161.out 7, heap_cell HX161.out 8, heap_cell HX161.out 9, heap_cell HX161.out 10, heap_cell HX161.out 11, heap_cell HX161.out 12, heap_cell HX161.out 13, heap_cell HX161.out 14, heap_cell HX561.out 0, heap_cell HX561.out 1, heap_cell HX561.out 2, heap_cell HX561.out 3, heap_cell HX561.out 4, heap_cell HX561.out 5, heap_cell HX561.out 6, heap_cell HX561.out 7, heap_cell HX561.out 8, heap_cell HX561.out 9, heap_cell HX561.out 10, heap_cell HX561.out 11, heap_cell HX561.out 12, heap_cell HX561.out 13, heap_cell HX561.out 14, run_string_of_bytes (P := Tryz.prog) _ 39 9 5 a E.length c E rfl Tryz.underlying39 Tryz.underlying5 Tryz.underlying9 HRb61.out⟩) (fun hHeld2 => ?_)
      clear hK K hHeld
      have hHeld := hHeld2
      clear hHeld2
      try simp only [Act.put, List.setIfInBounds_toArray, List.set_cons_zero, List.set_cons_succ]
      refine only_at 11 43 (by kernel_rfl) rfl rfl (by rfl) (fun K hK => ?_)
      go_simp
      have hcv := run_string_of_bytes (P := Tryz.prog) W61 39 9 5 a61 E.length c61 E rfl Tryz.underlying39 Tryz.underlying5 Tryz.underlying9 HR2.out
      go_simp
      clear hcv
      refine hK.out _ _ (⟨heap_cell HX161.out 0, heap_cell HX161.out 1, heap_cell HX161.out 2, heap_cell HX161.out 3, heap_cell HX161.out 4, heap_cell HX161.out 5, heap_cell HX161.out 6, heap_cell HX161.out 7, heap_cell HX161.out 8, heap_cell HX161.out 9, heap_cell HX161.out 10, heap_cell HX161.out 11, heap_cell HX161.out 12, heap_cell HX161.out 13, heap_cell HX161.out 14, heap_cell HX561.out 0, heap_cell HX561.out 1, heap_cell HX561.out 2, heap_cell HX561.out 3, heap_cell HX561.out 4, heap_cell HX561.out 5, heap_cell HX561.out 6, heap_cell HX561.out 7, heap_cell HX561.out 8, heap_cell HX561.out 9, heap_cell HX561.out 10, heap_cell HX561.out 11, heap_cell HX561.out 12, heap_cell HX561.out 13, heap_cell HX561.out 14, run_string_of_bytes (P := Tryz.prog) _ 39 9 5 a E.length c E rfl Tryz.underlying39 Tryz.underlying5 Tryz.underlying9 HRb61.out⟩) (fun hHeld2 => ?_)
      clear hK K hHeld
      have hHeld := hHeld2
      clear hHeld2
      try simp only [Act.put, List.setIfInBounds_toArray, List.set_cons_zero, List.set_cons_succ]
      refine take_at 12 44 (v := ?_) rfl rfl (by kernel_rfl) (by kernel_rfl) (by kernel_rfl) (fun _ _ _ h => h) (Or.inl ⟨by rfl, ?_⟩) hHeld ?_
      rotate_left
      · (intro w hSw; (try dsimp only at hSw); go_simp; try with_reducible rfl)
      try simp only [List.setIfInBounds_toArray, List.set_cons_zero, List.set_cons_succ]
      refine take_at 13 45 (v := ?_) rfl rfl (by kernel_rfl) (by kernel_rfl) (by kernel_rfl) (fun _ _ _ h => h) (Or.inl ⟨by rfl, ?_⟩) hHeld ?_
      rotate_left
      · (intro w hSw; (try dsimp only at hSw); go_simp; try with_reducible rfl)
      try simp only [List.setIfInBounds_toArray, List.set_cons_zero, List.set_cons_succ]
      refine take_at 14 46 (v := ?_) rfl rfl (by kernel_rfl) (by kernel_rfl) (by kernel_rfl) (fun _ _ _ h => h) (Or.inl ⟨by rfl, ?_⟩) hHeld ?_
      rotate_left
      · (intro w hSw; (try dsimp only at hSw); go_simp; try with_reducible rfl)
      try simp only [List.setIfInBounds_toArray, List.set_cons_zero, List.set_cons_succ]
      refine take_at 15 47 (v := ?_) rfl rfl (by kernel_rfl) (by kernel_rfl) (by kernel_rfl) (fun _ _ _ h => h) (Or.inl ⟨by rfl, ?_⟩) hHeld ?_
      rotate_left
      · (intro w hSw; (try dsimp only at hSw); go_simp; try with_reducible rfl)
      try simp only [List.setIfInBounds_toArray, List.set_cons_zero, List.set_cons_succ]
      refine take_at 16 48 (v := ?_) rfl rfl (by kernel_rfl) (by kernel_rfl) (by kernel_rfl) (fun _ _ _ h => h) (Or.inl ⟨by rfl, ?_⟩) hHeld ?_
      rotate_left
      · (intro w hSw; (try dsimp only at hSw); go_simp; try with_reducible rfl)
      try simp only [List.setIfInBounds_toArray, List.set_cons_zero, List.set_cons_succ]
      refine only_at 17 49 (by kernel_rfl) rfl rfl (by rfl) (fun K hK => ?_)
      go_simp
      refine (same_of x p _ _ HMx61.out HMq61.out HPl.out).mono ?_
      rintro ee W62 ⟨rfl, hb62⟩
      have HBel62 := Lib.hid (HBel61.out.trans (hb62.mono HBel61.out.size))
      have HX162 := Lib.hid ((hb62.block _ (heap_lt HX161.out)).trans HX161.out)
      have HX562 := Lib.hid ((hb62.block _ (heap_lt HX561.out)).trans HX561.out)
      have HRb62 := Lib.hid (HRb61.out.below hb62)
      have HMx62 := Lib.hid (rpmem_below HMx61.out hb62)
      have HMq62 := Lib.hid (HMq61.out.below hb62)
      clear hb62
      go_wp2_with fail
      refine hK.out _ _ (⟨heap_cell HX162.out 0, heap_cell HX162.out 1, heap_cell HX162.out 2, heap_cell HX162.out 3, heap_cell HX162.out 4, heap_cell HX162.out 5, heap_cell HX162.out 6, heap_cell HX162.out 7, heap_cell HX162.out 8, heap_cell HX162.out 9, heap_cell HX162.out 10, heap_cell HX162.out 11, heap_cell HX162.out 12, heap_cell HX162.out 13, heap_cell HX162.out 14, heap_cell HX562.out 0, heap_cell HX562.out 1, heap_cell HX562.out 2, heap_cell HX562.out 3, heap_cell HX562.out 4, heap_cell HX562.out 5, heap_cell HX562.out 6, heap_cell HX562.out 7, heap_cell HX562.out 8, heap_cell HX562.out 9, heap_cell HX562.out 10, heap_cell HX562.out 11, heap_cell HX562.out 12, heap_cell HX562.out 13, heap_cell HX562.out 14, run_string_of_bytes (P := Tryz.prog) _ 39 9 5 a E.length c E rfl Tryz.underlying39 Tryz.underlying5 Tryz.underlying9 HRb62.out⟩) (fun hHeld2 => ?_)
      clear hK K hHeld
      have hHeld := hHeld2
      clear hHeld2
      try simp only [Act.put, List.setIfInBounds_toArray, List.set_cons_zero, List.set_cons_succ]
      refine take_at 18 50 (v := ?_) rfl rfl (by kernel_rfl) (by kernel_rfl) (by kernel_rfl) (fun _ _ _ h => h) (Or.inl ⟨by rfl, ?_⟩) hHeld ?_
      rotate_left
      · (intro w hSw; (try dsimp only at hSw); go_simp; try with_reducible rfl)
      try simp only [List.setIfInBounds_toArray, List.set_cons_zero, List.set_cons_succ]
      refine take_at 19 2 (v := ?_) rfl rfl (by kernel_rfl) (by kernel_rfl) (by kernel_rfl) (fun _ _ _ h => h) (Or.inl ⟨by rfl, ?_⟩) hHeld ?_
      rotate_left
      · (intro w hSw; (try dsimp only at hSw); go_simp; try with_reducible rfl)
      try simp only [List.setIfInBounds_toArray, List.set_cons_zero, List.set_cons_succ]
      refine wpAnyH_done (by kernel_rfl) ?_ _
      try refine NoPanic.normal ?_
      go_wp2_with fail
      go_ret
      exact ⟨rfl, HBel62.out⟩
    · obtain rfl := hnp hfl
      clear hp hnp
      go_wp2_with fail
      clear q0 q1 q2 q3 q4 q5 q6 q7 q8 q9 q10 q11 q12 q13 q14
      refine HC.out.mono ?_
      clear HC
      rintro ee W4 ⟨bf, rfl, hbf, hb4⟩
      have HB4 := Lib.hid (HB3.out.trans (hb4.mono HB3.out.size))
      clear hb4
      cases bf with
      | true => exact absurd (hbf.1 rfl) hfl
      | false =>
        clear hbf hfl
        go_wp2_with fail
        go_ret
        exact ⟨rfl, HB4.out⟩
end Go.Proofs.YtacjbgmnoiimbabGreat
