/- The law WireReads: walked (printed by genWireLr.py). -/
import Derived.Test.YtacjbgmnoiimbabLawQ
namespace Go.Proofs.Ytacjbgmnoiimbab
set_option linter.unusedVariables false
set_option linter.unusedSimpArgs false
open Go.RowKit

theorem row_empty (w : World) (B : Nat) (e : TypeId) (size : Nat) (h : B ≤ w.heap.size) : (w.alloc (.cells #[] e)).ownsRow B e size (.slice (some ⟨w.heap.size, 0, none⟩) 0 0) 0 [] :=
  ⟨by simp, .inr ⟨w.heap.size, 0, #[], rfl, h, heap_alloc_new w _, Nat.le_refl _, by unfold maxLen; omega, by simp, by simp⟩⟩
/-- the document's bytes of a response where it lies -/
theorem rresp_of (y : RPE) (S : Nat → Prop) (W : World) (hm : rpmem S W y) (hok : respok y.plain) (hl : ([112, 49] ++ respE y.plain).length ≤ 100000000) :
    Calls Try.prog 13 #[.agg #[.int .u64 (y.id : Int), .int .i64 y.er, .int .u64 (y.rv : Int), .string y.tk, .slice y.fs.a y.fs.xs.length y.fs.c, .slice y.ts.a y.ts.xs.length y.ts.c, .slice y.os.a y.os.xs.length y.os.c, .slice y.es.a y.es.xs.length y.es.c, .slice y.ss.a y.ss.xs.length y.ss.c, .int .i64 y.nd.k, .string y.nd.t, .string y.nd.i, .string y.nd.r, .slice y.nd.sa y.nd.ss.length y.nd.sc, .slice y.nd.a y.nd.ps.length y.nd.c]] W (RF [] ([112, 49] ++ respE y.plain) W) := by
  have e : [112, 49] ++ respE y.plain = ([112, 49] ++ (uv y.id ++ (intE y.er ++ (uv y.rv ++ (txt y.tk ++ (listE boolE y.fs.xs ++ (listE sixE y.ts.xs ++ (listE duoE y.os.xs ++ (listE evtE y.es.xs ++ (listE seE y.ss.xs ++ neE (⟨y.nd.k, y.nd.t, y.nd.i, y.nd.r, y.nd.sa, y.nd.sc, y.nd.ss, y.nd.a, y.nd.c, y.nd.ps⟩ : NE))))))))))) := by
    rw [seE_list]; rfl
  rw [e] at hl ⊢
  exact rresp_cells S 64 y.id y.er y.rv y.tk y.fs.a y.fs.c y.fs.xs y.ts.a y.ts.c y.ts.xs y.os.a y.os.c y.os.xs y.es.a y.es.c y.es.xs y.ss.a y.ss.c y.ss.xs y.nd.k y.nd.t y.nd.i y.nd.r y.nd.sa y.nd.sc y.nd.ss y.nd.a y.nd.c y.nd.ps W hok.1 hok.2.1 hok.2.2.1 hm.1.2.1 hm.2.1.2.1 hm.2.2.1.2.1 hm.2.2.2.1.2.1
    (fun x hx => (hok.2.2.2.2.2.2.2.1.2 x hx).1) hm.2.2.2.2.1.2.1 hm.2.2.2.2.1.2.2.2 (fun x hx => hok.2.2.2.2.2.2.2.2.1.2 _ (List.mem_map_of_mem hx)) hm.2.2.2.2.2 hok.2.2.2.2.2.2.2.2.2 hl
theorem req_resp (a b : List UInt8) : [113, 49] ++ a ≠ [112, 49] ++ b := fun h => by
  have := (List.cons.inj h).1
  exact absurd this (by decide)
theorem cut_no (q : RQ) (hq : reqok q) (n : Nat) (hn : n < ([113, 49] ++ reqE q).length) (p : RQ) (hp : reqok p) : ([113, 49] ++ reqE q).take n ≠ [113, 49] ++ reqE p := fun h => by
  have e : [113, 49] ++ (reqE q ++ []) = [113, 49] ++ (reqE p ++ ([113, 49] ++ reqE q).drop n) := by
    rw [List.append_nil, ← List.append_assoc, ← h, List.take_append_drop]
  obtain ⟨_, e2⟩ := uq_req _ _ _ _ hq hp (List.append_cancel_left e)
  have := congrArg List.length e2
  rw [List.length_drop, List.length_nil] at this
  omega
theorem more_no (q : RQ) (hq : reqok q) (m : UInt8) (p : RQ) (hp : reqok p) : ([113, 49] ++ reqE q) ++ [m] ≠ [113, 49] ++ reqE p := fun h => by
  rw [List.append_assoc] at h
  have e : reqE q ++ [m] = reqE p ++ [] := by
    rw [List.append_nil]
    exact List.append_cancel_left h
  obtain ⟨_, e2⟩ := uq_req _ _ _ _ hq hp e
  cases e2
def CaseA (l : List UInt8) : Prop := ∃ q, reqok q ∧ l = [113, 49] ++ reqE q
def CaseB (l : List UInt8) : Prop := ∃ p, respok p ∧ flatP p ∧ l = [112, 49] ++ respE p
def CaseC (l : List UInt8) : Prop := ¬ CaseA l ∧ ¬ CaseB l
theorem rpmem_ok : MemOk rpmem :=
  ⟨fun hS k => ⟨(lsmem_ok nomem_ok).weak hS k.1, (lsmem_ok nomem_ok).weak hS k.2.1, (lsmem_ok nomem_ok).weak hS k.2.2.1, (lsmem_ok nomem_ok).weak hS k.2.2.2.1, (lsmem_ok (semem_ok 64)).weak hS k.2.2.2.2.1, (nemem_ok 64).weak hS k.2.2.2.2.2⟩,
   fun k => ⟨(lsmem_ok nomem_ok).lt k.1, (lsmem_ok nomem_ok).lt k.2.1, (lsmem_ok nomem_ok).lt k.2.2.1, (lsmem_ok nomem_ok).lt k.2.2.2.1, (lsmem_ok (semem_ok 64)).lt k.2.2.2.2.1, (nemem_ok 64).lt k.2.2.2.2.2⟩,
   fun k hs => ⟨(lsmem_ok nomem_ok).stays k.1 hs, (lsmem_ok nomem_ok).stays k.2.1 hs, (lsmem_ok nomem_ok).stays k.2.2.1 hs, (lsmem_ok nomem_ok).stays k.2.2.2.1 hs, (lsmem_ok (semem_ok 64)).stays k.2.2.2.2.1 hs, (nemem_ok 64).stays k.2.2.2.2.2 hs⟩⟩
theorem rpmem_below {S : Nat → Prop} {W W' : World} {y : RPE} (h : rpmem S W y) (hb : Below W.heap.size W W') : rpmem S W' y := rpmem_ok.stays h (Stays.below hb)
set_option maxRecDepth 100000 in
set_option maxHeartbeats 32000000 in
theorem lawReadsA (a0 : Option Addr) (c0 : Nat) (l : List UInt8) (q : RQE) (C : Nat) (M : UInt8) (W : World) (hl : l.length ≤ 9223372036854775807) (hC : C < 65536) (hib : IsBytes W a0 l) (h : RQok W q) (hcs : CaseA l) :
    Calls Try.prog 4 #[.slice a0 l.length c0, .agg #[.string q.cl, .int .u64 (q.id : Int), .int .i64 q.kd, .int .i64 q.hw, .string q.tk, .int .u64 (q.n : Int), .string q.ty, .string q.f1, .string q.f2, .string q.f3, .slice q.ws.a q.ws.xs.length q.ws.c, .slice q.ps.a q.ps.xs.length q.ps.c, .slice q.ks.a q.ks.xs.length q.ks.c, .slice q.gs.a q.gs.xs.length q.gs.c], .int .u16 (C : Int), .int .u8 (M.toNat : Int)] W fun e W' => e = .returned (.bool true) ∧ Below W.heap.size W W' := by
  have HCs := Lib.hid hcs
  clear hcs
  obtain ⟨i5, hi5, z0, z1, z2⟩ := info_parts Try.info5
  have hM := M.toNat_lt
  have HX0 := Lib.hid (heap_alloc_new W (.cells #[.string q.cl, .int .u64 (q.id : Int), .int .i64 q.kd, .int .i64 q.hw, .string q.tk, .int .u64 (q.n : Int), .string q.ty, .string q.f1, .string q.f2, .string q.f3, .slice q.ws.a q.ws.xs.length q.ws.c, .slice q.ps.a q.ps.xs.length q.ps.c, .slice q.ks.a q.ks.xs.length q.ks.c, .slice q.gs.a q.gs.xs.length q.gs.c] 30))
  have HB0 := Lib.hid ((Below.refl W.heap.size W).alloc (Nat.le_refl _) (.cells #[.string q.cl, .int .u64 (q.id : Int), .int .i64 q.kd, .int .i64 q.hw, .string q.tk, .int .u64 (q.n : Int), .string q.ty, .string q.f1, .string q.f2, .string q.f3, .slice q.ws.a q.ws.xs.length q.ws.c, .slice q.ps.a q.ps.xs.length q.ps.c, .slice q.ks.a q.ks.xs.length q.ks.c, .slice q.gs.a q.gs.xs.length q.gs.c] 30))
  have HQ0 := Lib.hid (h.below HB0.out)
  have HL0 := Lib.hid (hib.below HB0.out)
  have HC := Lib.hid (fixed_any (W.alloc (.cells #[.string q.cl, .int .u64 (q.id : Int), .int .i64 q.kd, .int .i64 q.hw, .string q.tk, .int .u64 (q.n : Int), .string q.ty, .string q.f1, .string q.f2, .string q.f3, .slice q.ws.a q.ws.xs.length q.ws.c, .slice q.ps.a q.ps.xs.length q.ps.c, .slice q.ks.a q.ks.xs.length q.ks.c, .slice q.gs.a q.gs.xs.length q.gs.c] 30)))
  clear h hib
  go_enter Try.func4, Try.ntmps4
  go_wp2_with fail
  generalize (W.alloc (.cells #[.string q.cl, .int .u64 (q.id : Int), .int .i64 q.kd, .int .i64 q.hw, .string q.tk, .int .u64 (q.n : Int), .string q.ty, .string q.f1, .string q.f2, .string q.f3, .slice q.ws.a q.ws.xs.length q.ws.c, .slice q.ps.a q.ps.xs.length q.ps.c, .slice q.ks.a q.ks.xs.length q.ks.c, .slice q.gs.a q.gs.xs.length q.gs.c] 30)) = W0 at *
  obtain ⟨x1, hx1⟩ : ∃ x1, x1 = W.heap.size := ⟨_, rfl⟩
  rw [← hx1] at HX0
  rw [← hx1]
  have HHx := Lib.hid hx1
  clear hx1
  refine HC.out.mono ?_
  clear HC
  rintro ee W1 ⟨rfl, hb1⟩
  have HB1 := Lib.hid (HB0.out.trans (hb1.mono HB0.out.size))
  have HX1 := Lib.hid ((hb1.block _ (heap_lt HX0.out)).trans HX0.out)
  have HQ1 := Lib.hid (HQ0.out.below hb1)
  have HL1 := Lib.hid (HL0.out.below hb1)
  clear hb1
  by_cases h2000 : 2000 < l.length
  · have d1 : decide ((2000 : Int) < (l.length : Int)) = true := decide_eq_true (by omega)
    have d2 : decide (2000 < l.length) = true := decide_eq_true h2000
    go_wp2_with fail
    go_ret
    exact ⟨rfl, HB1.out⟩
  have d1 : decide ((2000 : Int) < (l.length : Int)) = false := decide_eq_false (by omega)
  have d2 : decide (2000 < l.length) = false := decide_eq_false h2000
  have HC := Lib.hid (few_of q W1 HQ1.out)
  have q0 := heap_cell HX1.out 0
  have q1 := heap_cell HX1.out 1
  have q2 := heap_cell HX1.out 2
  have q3 := heap_cell HX1.out 3
  have q4 := heap_cell HX1.out 4
  have q5 := heap_cell HX1.out 5
  have q6 := heap_cell HX1.out 6
  have q7 := heap_cell HX1.out 7
  have q8 := heap_cell HX1.out 8
  have q9 := heap_cell HX1.out 9
  have q10 := heap_cell HX1.out 10
  have q11 := heap_cell HX1.out 11
  have q12 := heap_cell HX1.out 12
  have q13 := heap_cell HX1.out 13
  simp at q0 q1 q2 q3 q4 q5 q6 q7 q8 q9 q10 q11 q12 q13
  go_wp2_with fail
  clear q0 q1 q2 q3 q4 q5 q6 q7 q8 q9 q10 q11 q12 q13
  refine HC.out.mono ?_
  clear HC
  rintro ee W2 ⟨b, rfl, hfew, hb2⟩
  have HB2 := Lib.hid (HB1.out.trans (hb2.mono HB1.out.size))
  have HX2 := Lib.hid ((hb2.block _ (heap_lt HX1.out)).trans HX1.out)
  have HQ2 := Lib.hid (HQ1.out.below hb2)
  have HL2 := Lib.hid (HL1.out.below hb2)
  clear hb2 d1 d2
  cases b with
  | false =>
    go_wp2_with fail
    go_ret
    exact ⟨rfl, HB2.out⟩
  | true =>
    have hf := hfew rfl
    have hln := few_len q.plain hf HQ2.out.1
    obtain ⟨E, hE⟩ : ∃ E, E = [113, 49] ++ reqE q.plain := ⟨_, rfl⟩
    have heb : E.length ≤ 1000000 := by
      rw [hE]
      have := hln.1
      omega
    have he2 : 2 ≤ E.length := by
      rw [hE, List.length_append]
      show 2 ≤ 2 + _
      omega
    have HE := Lib.hid hE
    have HKq := Lib.hid HQ2.out.1
    have hl2 : l.length ≤ 100000000 := by omega
    clear hfew hf hln hE
    have HC := Lib.hid (getreq_any a0 c0 l W2 hl2 HL2.out)
    go_wp2_with fail
    refine HC.out.mono ?_
    clear HC
    rintro ee W3 ⟨hb3, hcase⟩
    have HB3 := Lib.hid (HB2.out.trans (hb3.mono HB2.out.size))
    have HX3 := Lib.hid ((hb3.block _ (heap_lt HX2.out)).trans HX2.out)
    have HQ3 := Lib.hid (HQ2.out.below hb3)
    have HL3 := Lib.hid (HL2.out.below hb3)
    clear hb3
    rcases hcase with ⟨x, rfl, hmx, hokx, hex⟩ | ⟨rfl, hno⟩
    · have HMx := Lib.hid hmx
      have HKx := Lib.hid hokx
      have HLx := Lib.hid hex
      clear hmx hokx hex
      have ha3 := (Below.refl W3.heap.size W3).alloc (Nat.le_refl _) (.cells #[.string x.cl, .int .u64 (x.id : Int), .int .i64 x.kd, .int .i64 x.hw, .string x.tk, .int .u64 (x.n : Int), .string x.ty, .string x.f1, .string x.f2, .string x.f3, .slice x.ws.a x.ws.xs.length x.ws.c, .slice x.ps.a x.ps.xs.length x.ps.c, .slice x.ks.a x.ks.xs.length x.ks.c, .slice x.gs.a x.gs.xs.length x.gs.c] 30)
      have HB3a := Lib.hid (HB3.out.trans (ha3.mono HB3.out.size))
      have HX3a := Lib.hid ((ha3.block _ (heap_lt HX3.out)).trans HX3.out)
      have HQ3a := Lib.hid (HQ3.out.below ha3)
      have HL3a := Lib.hid (HL3.out.below ha3)
      have HY3a := Lib.hid (heap_alloc_new W3 (.cells #[.string x.cl, .int .u64 (x.id : Int), .int .i64 x.kd, .int .i64 x.hw, .string x.tk, .int .u64 (x.n : Int), .string x.ty, .string x.f1, .string x.f2, .string x.f3, .slice x.ws.a x.ws.xs.length x.ws.c, .slice x.ps.a x.ps.xs.length x.ps.c, .slice x.ks.a x.ks.xs.length x.ks.c, .slice x.gs.a x.gs.xs.length x.gs.c] 30))
      have HM3a := Lib.hid (rqmem.below HMx.out ha3)
      clear ha3
      have HC := Lib.hid (getresp_any a0 c0 l (W3.alloc (.cells #[.string x.cl, .int .u64 (x.id : Int), .int .i64 x.kd, .int .i64 x.hw, .string x.tk, .int .u64 (x.n : Int), .string x.ty, .string x.f1, .string x.f2, .string x.f3, .slice x.ws.a x.ws.xs.length x.ws.c, .slice x.ps.a x.ps.xs.length x.ps.c, .slice x.ks.a x.ks.xs.length x.ks.c, .slice x.gs.a x.gs.xs.length x.gs.c] 30)) hl2 HL3a.out)
      simp only [rqV, lsV, rqZ]
      go_wp2_with fail
      generalize (W3.alloc (.cells #[.string x.cl, .int .u64 (x.id : Int), .int .i64 x.kd, .int .i64 x.hw, .string x.tk, .int .u64 (x.n : Int), .string x.ty, .string x.f1, .string x.f2, .string x.f3, .slice x.ws.a x.ws.xs.length x.ws.c, .slice x.ps.a x.ps.xs.length x.ps.c, .slice x.ks.a x.ks.xs.length x.ks.c, .slice x.gs.a x.gs.xs.length x.gs.c] 30)) = W3a at *
      obtain ⟨y9, hy9⟩ : ∃ y9, y9 = W3.heap.size := ⟨_, rfl⟩
      rw [← hy9] at HY3a
      rw [← hy9]
      have HHy9 := Lib.hid hy9
      clear hy9
      refine HC.out.mono ?_
      clear HC
      rintro ee W4 ⟨hb4, hcase⟩
      have HB4 := Lib.hid (HB3a.out.trans (hb4.mono HB3a.out.size))
      have HX4 := Lib.hid ((hb4.block _ (heap_lt HX3a.out)).trans HX3a.out)
      have HQ4 := Lib.hid (HQ3a.out.below hb4)
      have HL4 := Lib.hid (HL3a.out.below hb4)
      have HY4 := Lib.hid ((hb4.block _ (heap_lt HY3a.out)).trans HY3a.out)
      have HM4 := Lib.hid (rqmem.below HM3a.out hb4)
      clear hb4
      rcases hcase with ⟨y, _, _, _, _, hey⟩ | ⟨rfl, _⟩
      · exact absurd (HLx.out.symm.trans hey) (req_resp _ _)
      have ha4 := (Below.refl W4.heap.size W4).alloc (Nat.le_refl _) (.cells #[.int .u64 0, .int .i64 0, .int .u64 0, .string { data := #[] }, .slice none 0 0, .slice none 0 0, .slice none 0 0, .slice none 0 0, .slice none 0 0, .int .i64 0, .string { data := #[] }, .string { data := #[] }, .string { data := #[] }, .slice none 0 0, .slice none 0 0] 54)
      obtain ⟨V, hV⟩ : ∃ V, V = (W4.alloc (.cells #[.int .u64 0, .int .i64 0, .int .u64 0, .string { data := #[] }, .slice none 0 0, .slice none 0 0, .slice none 0 0, .slice none 0 0, .slice none 0 0, .int .i64 0, .string { data := #[] }, .string { data := #[] }, .string { data := #[] }, .slice none 0 0, .slice none 0 0] 54)).drew := ⟨_, rfl⟩
      have HBV : Hid (Below W.heap.size W V) := (by rw [hV]; exact (HB4.out.trans (ha4.mono HB4.out.size)).drew : Below W.heap.size W V)
      have HXV : Hid (V.heap[x1]? = some (.cells #[.string q.cl, .int .u64 (q.id : Int), .int .i64 q.kd, .int .i64 q.hw, .string q.tk, .int .u64 (q.n : Int), .string q.ty, .string q.f1, .string q.f2, .string q.f3, .slice q.ws.a q.ws.xs.length q.ws.c, .slice q.ps.a q.ps.xs.length q.ps.c, .slice q.ks.a q.ks.xs.length q.ks.c, .slice q.gs.a q.gs.xs.length q.gs.c] 30 (0, 0))) := (by rw [hV]; exact (ha4.block _ (heap_lt HX4.out)).trans HX4.out : V.heap[x1]? = some (.cells #[.string q.cl, .int .u64 (q.id : Int), .int .i64 q.kd, .int .i64 q.hw, .string q.tk, .int .u64 (q.n : Int), .string q.ty, .string q.f1, .string q.f2, .string q.f3, .slice q.ws.a q.ws.xs.length q.ws.c, .slice q.ps.a q.ps.xs.length q.ps.c, .slice q.ks.a q.ks.xs.length q.ks.c, .slice q.gs.a q.gs.xs.length q.gs.c] 30 (0, 0)))
      have HQV : Hid (RQok V q) := (by rw [hV]; exact HQ4.out.below ha4.drew : RQok V q)
      have HLV : Hid (IsBytes V a0 l) := (by rw [hV]; exact HL4.out.below ha4.drew : IsBytes V a0 l)
      have HYV : Hid (V.heap[y9]? = some (.cells #[.string x.cl, .int .u64 (x.id : Int), .int .i64 x.kd, .int .i64 x.hw, .string x.tk, .int .u64 (x.n : Int), .string x.ty, .string x.f1, .string x.f2, .string x.f3, .slice x.ws.a x.ws.xs.length x.ws.c, .slice x.ps.a x.ps.xs.length x.ps.c, .slice x.ks.a x.ks.xs.length x.ks.c, .slice x.gs.a x.gs.xs.length x.gs.c] 30 (0, 0))) := (by rw [hV]; exact (ha4.block _ (heap_lt HY4.out)).trans HY4.out : V.heap[y9]? = some (.cells #[.string x.cl, .int .u64 (x.id : Int), .int .i64 x.kd, .int .i64 x.hw, .string x.tk, .int .u64 (x.n : Int), .string x.ty, .string x.f1, .string x.f2, .string x.f3, .slice x.ws.a x.ws.xs.length x.ws.c, .slice x.ps.a x.ps.xs.length x.ps.c, .slice x.ks.a x.ks.xs.length x.ks.c, .slice x.gs.a x.gs.xs.length x.gs.c] 30 (0, 0)))
      have HMV : Hid (rqmem (fun b => W2.heap.size ≤ b) V x) := (by rw [hV]; exact rqmem.below HM4.out ha4.drew : rqmem (fun b => W2.heap.size ≤ b) V x)
      have hS0 : V.cell? ⟨y9, 0, none⟩ = some (.string x.cl) ∧ V.cell? ⟨y9, 1, none⟩ = some (.int .u64 (x.id : Int)) ∧ V.cell? ⟨y9, 2, none⟩ = some (.int .i64 x.kd) ∧ V.cell? ⟨y9, 3, none⟩ = some (.int .i64 x.hw) ∧ V.cell? ⟨y9, 4, none⟩ = some (.string x.tk) ∧ V.cell? ⟨y9, 5, none⟩ = some (.int .u64 (x.n : Int)) ∧ V.cell? ⟨y9, 6, none⟩ = some (.string x.ty) ∧ V.cell? ⟨y9, 7, none⟩ = some (.string x.f1) ∧ V.cell? ⟨y9, 8, none⟩ = some (.string x.f2) ∧ V.cell? ⟨y9, 9, none⟩ = some (.string x.f3) ∧ V.cell? ⟨y9, 10, none⟩ = some (.slice x.ws.a x.ws.xs.length x.ws.c) ∧ V.cell? ⟨y9, 11, none⟩ = some (.slice x.ps.a x.ps.xs.length x.ps.c) ∧ V.cell? ⟨y9, 12, none⟩ = some (.slice x.ks.a x.ks.xs.length x.ks.c) ∧ V.cell? ⟨y9, 13, none⟩ = some (.slice x.gs.a x.gs.xs.length x.gs.c) ∧ (convert 33 9 (.slice a0 l.length c0)).run Try.prog V = .ok (.string ⟨l.toArray⟩) V := ⟨heap_cell HYV.out 0, heap_cell HYV.out 1, heap_cell HYV.out 2, heap_cell HYV.out 3, heap_cell HYV.out 4, heap_cell HYV.out 5, heap_cell HYV.out 6, heap_cell HYV.out 7, heap_cell HYV.out 8, heap_cell HYV.out 9, heap_cell HYV.out 10, heap_cell HYV.out 11, heap_cell HYV.out 12, heap_cell HYV.out 13, run_string_of_bytes (P := Try.prog) _ 33 9 5 a0 l.length c0 l rfl Try.underlying33 Try.underlying5 Try.underlying9 HLV.out⟩
      clear ha4
      simp only [rpZ]
      go_wp2_with fail
      try refine wp_region_noPanic ?_
      refine wp_region_held_drew (S := fun w' => w'.cell? ⟨y9, 0, none⟩ = some (.string x.cl) ∧ w'.cell? ⟨y9, 1, none⟩ = some (.int .u64 (x.id : Int)) ∧ w'.cell? ⟨y9, 2, none⟩ = some (.int .i64 x.kd) ∧ w'.cell? ⟨y9, 3, none⟩ = some (.int .i64 x.hw) ∧ w'.cell? ⟨y9, 4, none⟩ = some (.string x.tk) ∧ w'.cell? ⟨y9, 5, none⟩ = some (.int .u64 (x.n : Int)) ∧ w'.cell? ⟨y9, 6, none⟩ = some (.string x.ty) ∧ w'.cell? ⟨y9, 7, none⟩ = some (.string x.f1) ∧ w'.cell? ⟨y9, 8, none⟩ = some (.string x.f2) ∧ w'.cell? ⟨y9, 9, none⟩ = some (.string x.f3) ∧ w'.cell? ⟨y9, 10, none⟩ = some (.slice x.ws.a x.ws.xs.length x.ws.c) ∧ w'.cell? ⟨y9, 11, none⟩ = some (.slice x.ps.a x.ps.xs.length x.ps.c) ∧ w'.cell? ⟨y9, 12, none⟩ = some (.slice x.ks.a x.ks.xs.length x.ks.c) ∧ w'.cell? ⟨y9, 13, none⟩ = some (.slice x.gs.a x.gs.xs.length x.gs.c) ∧ (convert 33 9 (.slice a0 l.length c0)).run Try.prog w' = .ok (.string ⟨l.toArray⟩) w') (by kernel_rfl) (by rw [← hV]; exact hS0) (fun hHeld => ?_)
      rw [← hV] at hHeld ⊢
      clear hV hS0
      refine take_at 0 52 (v := ?_) rfl rfl (by kernel_rfl) (by kernel_rfl) (by kernel_rfl) (fun _ _ _ h => h) (Or.inl ⟨by rfl, ?_⟩) hHeld ?_
      rotate_left
      · (intro w hSw; (try dsimp only at hSw); go_simp; try with_reducible rfl)
      try simp only [List.setIfInBounds_toArray, List.set_cons_zero, List.set_cons_succ]
      refine take_at 1 53 (v := ?_) rfl rfl (by kernel_rfl) (by kernel_rfl) (by kernel_rfl) (fun _ _ _ h => h) (Or.inl ⟨by rfl, ?_⟩) hHeld ?_
      rotate_left
      · (intro w hSw; (try dsimp only at hSw); go_simp; try with_reducible rfl)
      try simp only [List.setIfInBounds_toArray, List.set_cons_zero, List.set_cons_succ]
      refine take_at 2 54 (v := ?_) rfl rfl (by kernel_rfl) (by kernel_rfl) (by kernel_rfl) (fun _ _ _ h => h) (Or.inl ⟨by rfl, ?_⟩) hHeld ?_
      rotate_left
      · (intro w hSw; (try dsimp only at hSw); go_simp; try with_reducible rfl)
      try simp only [List.setIfInBounds_toArray, List.set_cons_zero, List.set_cons_succ]
      refine take_at 3 55 (v := ?_) rfl rfl (by kernel_rfl) (by kernel_rfl) (by kernel_rfl) (fun _ _ _ h => h) (Or.inl ⟨by rfl, ?_⟩) hHeld ?_
      rotate_left
      · (intro w hSw; (try dsimp only at hSw); go_simp; try with_reducible rfl)
      try simp only [List.setIfInBounds_toArray, List.set_cons_zero, List.set_cons_succ]
      refine take_at 6 58 (v := ?_) rfl rfl (by kernel_rfl) (by kernel_rfl) (by kernel_rfl) (fun _ _ _ h => h) (Or.inl ⟨by rfl, ?_⟩) hHeld ?_
      rotate_left
      · (intro w hSw; (try dsimp only at hSw); go_simp; try with_reducible rfl)
      try simp only [List.setIfInBounds_toArray, List.set_cons_zero, List.set_cons_succ]
      refine take_at 7 59 (v := ?_) rfl rfl (by kernel_rfl) (by kernel_rfl) (by kernel_rfl) (fun _ _ _ h => h) (Or.inl ⟨by rfl, ?_⟩) hHeld ?_
      rotate_left
      · (intro w hSw; (try dsimp only at hSw); go_simp; try with_reducible rfl)
      try simp only [List.setIfInBounds_toArray, List.set_cons_zero, List.set_cons_succ]
      refine only_at 4 56 (by kernel_rfl) rfl rfl (by rfl) (fun K hK => ?_)
      go_simp
      refine (rreq_of x _ _ HMV.out HKx.out (by rw [← HLx.out]; exact hl2)).mono ?_
      rintro ee W61 ⟨v61, rfl, h61, hb61⟩
      rw [List.nil_append, ← HLx.out] at h61
      obtain ⟨a61, m61, c61, rfl⟩ := row_slice h61
      have hm61 := row_len' h61
      subst hm61
      have HR2 := Lib.hid (row_bytes' h61)
      have HB61 := Lib.hid (HBV.out.trans (hb61.mono HBV.out.size))
      have HX61 := Lib.hid ((hb61.block _ (heap_lt HXV.out)).trans HXV.out)
      have HY61 := Lib.hid ((hb61.block _ (heap_lt HYV.out)).trans HYV.out)
      have HQ61 := Lib.hid (HQV.out.below hb61)
      have HL61 := Lib.hid (HLV.out.below hb61)
      clear h61 hb61
      go_wp2_with fail
      refine hK.out _ _ (⟨heap_cell HY61.out 0, heap_cell HY61.out 1, heap_cell HY61.out 2, heap_cell HY61.out 3, heap_cell HY61.out 4, heap_cell HY61.out 5, heap_cell HY61.out 6, heap_cell HY61.out 7, heap_cell HY61.out 8, heap_cell HY61.out 9, heap_cell HY61.out 10, heap_cell HY61.out 11, heap_cell HY61.out 12, heap_cell HY61.out 13, run_string_of_bytes (P := Try.prog) _ 33 9 5 a0 l.length c0 l rfl Try.underlying33 Try.underlying5 Try.underlying9 HL61.out⟩) (fun hHeld2 => ?_)
      clear hK K hHeld
      have hHeld := hHeld2
      clear hHeld2
      try simp only [Act.put, List.setIfInBounds_toArray, List.set_cons_zero, List.set_cons_succ]
      refine only_at 5 57 (by kernel_rfl) rfl rfl (by rfl) (fun K hK => ?_)
      go_simp
      have hcv := run_string_of_bytes (P := Try.prog) W61 33 9 5 a61 l.length c61 l rfl Try.underlying33 Try.underlying5 Try.underlying9 HR2.out
      go_simp
      clear hcv
      refine hK.out _ _ (⟨heap_cell HY61.out 0, heap_cell HY61.out 1, heap_cell HY61.out 2, heap_cell HY61.out 3, heap_cell HY61.out 4, heap_cell HY61.out 5, heap_cell HY61.out 6, heap_cell HY61.out 7, heap_cell HY61.out 8, heap_cell HY61.out 9, heap_cell HY61.out 10, heap_cell HY61.out 11, heap_cell HY61.out 12, heap_cell HY61.out 13, run_string_of_bytes (P := Try.prog) _ 33 9 5 a0 l.length c0 l rfl Try.underlying33 Try.underlying5 Try.underlying9 HL61.out⟩) (fun hHeld2 => ?_)
      clear hK K hHeld
      have hHeld := hHeld2
      clear hHeld2
      try simp only [Act.put, List.setIfInBounds_toArray, List.set_cons_zero, List.set_cons_succ]
      refine take_at 8 60 (v := ?_) rfl rfl (by kernel_rfl) (by kernel_rfl) (by kernel_rfl) (fun _ _ _ h => h) (Or.inl ⟨by rfl, ?_⟩) hHeld ?_
      rotate_left
      · (intro w hSw; (try dsimp only at hSw); go_simp; try with_reducible rfl)
      try simp only [List.setIfInBounds_toArray, List.set_cons_zero, List.set_cons_succ]
      refine take_at 9 61 (v := ?_) rfl rfl (by kernel_rfl) (by kernel_rfl) (by kernel_rfl) (fun _ _ _ h => h) (Or.inl ⟨by rfl, ?_⟩) hHeld ?_
      rotate_left
      · (intro w hSw; (try dsimp only at hSw); go_simp; try with_reducible rfl)
      try simp only [List.setIfInBounds_toArray, List.set_cons_zero, List.set_cons_succ]
      refine take_at 10 62 (v := ?_) rfl rfl (by kernel_rfl) (by kernel_rfl) (by kernel_rfl) (fun _ _ _ h => h) (Or.inl ⟨by rfl, ?_⟩) hHeld ?_
      rotate_left
      · (intro w hSw; (try dsimp only at hSw); go_simp; try with_reducible rfl)
      try simp only [List.setIfInBounds_toArray, List.set_cons_zero, List.set_cons_succ]
      refine take_at 11 63 (v := ?_) rfl rfl (by kernel_rfl) (by kernel_rfl) (by kernel_rfl) (fun _ _ _ h => h) (Or.inl ⟨by rfl, ?_⟩) hHeld ?_
      rotate_left
      · (intro w hSw; (try dsimp only at hSw); go_simp; try with_reducible rfl)
      try simp only [List.setIfInBounds_toArray, List.set_cons_zero, List.set_cons_succ]
      refine take_at 12 64 (v := ?_) rfl rfl (by kernel_rfl) (by kernel_rfl) (by kernel_rfl) (fun _ _ _ h => h) (Or.inl ⟨by rfl, ?_⟩) hHeld ?_
      rotate_left
      · (intro w hSw; (try dsimp only at hSw); go_simp; try with_reducible rfl)
      try simp only [List.setIfInBounds_toArray, List.set_cons_zero, List.set_cons_succ]
      refine take_at 13 65 (v := ?_) rfl rfl (by kernel_rfl) (by kernel_rfl) (by kernel_rfl) (fun _ _ _ h => h) (Or.inl ⟨by rfl, ?_⟩) hHeld ?_
      rotate_left
      · (intro w hSw; (try dsimp only at hSw); go_simp; try with_reducible rfl)
      try simp only [List.setIfInBounds_toArray, List.set_cons_zero, List.set_cons_succ]
      refine take_at 14 66 (v := undef) rfl rfl (by kernel_rfl) (by kernel_rfl) (by kernel_rfl) (fun _ _ _ h => h) (Or.inr ⟨by rfl, rfl⟩) hHeld ?_
      try simp only [List.setIfInBounds_toArray, List.set_cons_zero, List.set_cons_succ]
      refine take_at 15 67 (v := undef) rfl rfl (by kernel_rfl) (by kernel_rfl) (by kernel_rfl) (fun _ _ _ h => h) (Or.inr ⟨by rfl, rfl⟩) hHeld ?_
      try simp only [List.setIfInBounds_toArray, List.set_cons_zero, List.set_cons_succ]
      refine take_at 16 68 (v := undef) rfl rfl (by kernel_rfl) (by kernel_rfl) (by kernel_rfl) (fun _ _ _ h => h) (Or.inr ⟨by rfl, rfl⟩) hHeld ?_
      try simp only [List.setIfInBounds_toArray, List.set_cons_zero, List.set_cons_succ]
      refine take_at 17 69 (v := undef) rfl rfl (by kernel_rfl) (by kernel_rfl) (by kernel_rfl) (fun _ _ _ h => h) (Or.inr ⟨by rfl, rfl⟩) hHeld ?_
      try simp only [List.setIfInBounds_toArray, List.set_cons_zero, List.set_cons_succ]
      refine take_at 18 70 (v := undef) rfl rfl (by kernel_rfl) (by kernel_rfl) (by kernel_rfl) (fun _ _ _ h => h) (Or.inr ⟨by rfl, rfl⟩) hHeld ?_
      try simp only [List.setIfInBounds_toArray, List.set_cons_zero, List.set_cons_succ]
      refine take_at 19 71 (v := undef) rfl rfl (by kernel_rfl) (by kernel_rfl) (by kernel_rfl) (fun _ _ _ h => h) (Or.inr ⟨by rfl, rfl⟩) hHeld ?_
      try simp only [List.setIfInBounds_toArray, List.set_cons_zero, List.set_cons_succ]
      refine take_at 20 72 (v := ?_) rfl rfl (by kernel_rfl) (by kernel_rfl) (by kernel_rfl) (fun _ _ _ h => h) (Or.inl ⟨by rfl, ?_⟩) hHeld ?_
      rotate_left
      · (intro w hSw; (try dsimp only at hSw); go_simp; try with_reducible rfl)
      try simp only [List.setIfInBounds_toArray, List.set_cons_zero, List.set_cons_succ]
      refine take_at 21 73 (v := ?_) rfl rfl (by kernel_rfl) (by kernel_rfl) (by kernel_rfl) (fun _ _ _ h => h) (Or.inl ⟨by rfl, ?_⟩) hHeld ?_
      rotate_left
      · (intro w hSw; (try dsimp only at hSw); go_simp; try with_reducible rfl)
      try simp only [List.setIfInBounds_toArray, List.set_cons_zero, List.set_cons_succ]
      refine wpAnyH_done (by kernel_rfl) ?_ _
      try refine NoPanic.normal ?_
      have HC := Lib.hid (rreq_of q _ W61 HQ61.out.2.1 HKq.out (by rw [← HE.out]; omega))
      have q0 := heap_cell HX61.out 0
      have q1 := heap_cell HX61.out 1
      have q2 := heap_cell HX61.out 2
      have q3 := heap_cell HX61.out 3
      have q4 := heap_cell HX61.out 4
      have q5 := heap_cell HX61.out 5
      have q6 := heap_cell HX61.out 6
      have q7 := heap_cell HX61.out 7
      have q8 := heap_cell HX61.out 8
      have q9 := heap_cell HX61.out 9
      have q10 := heap_cell HX61.out 10
      have q11 := heap_cell HX61.out 11
      have q12 := heap_cell HX61.out 12
      have q13 := heap_cell HX61.out 13
      simp at q0 q1 q2 q3 q4 q5 q6 q7 q8 q9 q10 q11 q12 q13
      go_wp2_with fail
      clear q0 q1 q2 q3 q4 q5 q6 q7 q8 q9 q10 q11 q12 q13
      refine HC.out.mono ?_
      clear HC
      rintro ee W6 ⟨v6, rfl, h6, hb6⟩
      rw [List.nil_append, ← HE.out] at h6
      obtain ⟨a6, m6, c6, rfl⟩ := row_slice h6
      have hm6 := row_len' h6
      subst hm6
      have hc6 := row_cap h6
      have HR6 := Lib.hid (row_bytes' h6)
      have HB6 := Lib.hid (HB61.out.trans (hb6.mono HB61.out.size))
      clear h6 hb6
      obtain ⟨P, hP⟩ : ∃ P, P = E.take (C % E.length) := ⟨_, rfl⟩
      have hnl : C % E.length < E.length := Nat.mod_lt _ (by omega)
      have hPl : P.length = C % E.length := by rw [hP, List.length_take]; omega
      have hs1 : ∀ W, (Instr.slice 33 (.slice a6 E.length c6) none (some (.int .i64 ((C : Int) % (E.length : Int)))) none).run Try.prog W = .ok (.slice (cutA a6 c6 0) P.length c6) W := fun W => by
        rw [hPl]
        have e : (C : Int) % (E.length : Int) = ((C % E.length : Nat) : Int) := by omega
        rw [e]
        exact run_slice_h1 (P := Try.prog) W 33 5 i5 Try.underlying33 hi5 z1 a6 E.length c6 (C % E.length) .i64 (by omega)
      have hcb := cutA_bytes HR6.out (lo := 0) (hi := C % E.length) (by omega) hc6
      rw [List.drop_zero, ← hP] at hcb
      have HCut := Lib.hid hcb
      have HP := Lib.hid hP
      have HPl := Lib.hid hPl
      have hpb : P.length ≤ 100000000 := by omega
      have HC := Lib.hid (getreq_any (cutA a6 c6 0) c6 P W6 hpb HCut.out)
      generalize cutA a6 c6 0 = A6 at *
      have hu16 : IntKind.i64.wrap (C : Int) = (C : Int) := by rw [IntKind.wrap_i64]; omega
      have hne : ¬ (E.length = 0) := by omega
      clear hcb hP hPl hnl
      go_wp2_with fail
      refine HC.out.mono ?_
      clear HC hs1
      rintro ee W7 ⟨hb7, hcase⟩
      rcases hcase with ⟨x7, rfl, _, hok7, hex7⟩ | ⟨rfl, _⟩
      · refine absurd hex7 ?_
        rw [HP.out, HE.out]
        refine cut_no q.plain HKq.out _ ?_ _ hok7
        rw [← HE.out]
        exact Nat.mod_lt _ (by omega)
      have HB7 := Lib.hid (HB6.out.trans (hb7.mono HB6.out.size))
      have HR7 := Lib.hid (HR6.out.below hb7)
      clear hb7
      simp only [rqZ]
      have ha7 := (Below.refl W7.heap.size W7).alloc (Nat.le_refl _) (.cells #[.string { data := #[] }, .int .u64 0, .int .i64 0, .int .i64 0, .string { data := #[] }, .int .u64 0, .string { data := #[] }, .string { data := #[] }, .string { data := #[] }, .string { data := #[] }, .slice none 0 0, .slice none 0 0, .slice none 0 0, .slice none 0 0] 30)
      have HB7a := Lib.hid (HB7.out.trans (ha7.mono HB7.out.size))
      have HR7a := Lib.hid (HR7.out.below ha7)
      clear ha7
      go_upto_region 13 with (fail)
      generalize (W7.alloc (.cells #[.string { data := #[] }, .int .u64 0, .int .i64 0, .int .i64 0, .string { data := #[] }, .int .u64 0, .string { data := #[] }, .string { data := #[] }, .string { data := #[] }, .string { data := #[] }, .slice none 0 0, .slice none 0 0, .slice none 0 0, .slice none 0 0] 30)) = W8 at *
      generalize W7.heap.size = y7 at *
      have ha8 := (Below.refl W8.heap.size W8).alloc (Nat.le_refl _) (.cells #[] 5)
      have HEmp := Lib.hid (row_empty W8 W.heap.size 5 1 HB7a.out.size)
      have HB8 := Lib.hid (HB7a.out.trans (ha8.mono HB7a.out.size))
      have HR8 := Lib.hid (HR7a.out.below ha8)
      clear ha8
      go_wp2_with (first | (at_builtin; refine wpList_append_bytes _ rfl (.tmp 88) (.tmp 89) 33 rfl W.heap.size 5 i5 _ Try.underlying33 hi5 z0 z1 z2 rfl (.slice (some ⟨W8.heap.size, 0, none⟩) 0 0) 0 [] (by rfl) HEmp.out a6 E.length c6 E (by rfl) rfl HR8.out (by omega) HB8.out.size ?_; intro v9 w9 hrow9 hg9 _; have HB9 := Lib.hid (Below.own HB8.out HEmp.out (Nat.le_refl _) HB8.out.size hg9); rw [Nat.zero_add, List.nil_append] at hrow9; obtain ⟨a9, m9, c9, rfl⟩ := row_slice hrow9; have hm9 := row_len' hrow9; subst hm9; have HRow9 := Lib.hid hrow9; clear hrow9 hg9) | (at_builtin; refine wpList_append_one w9 rfl (.tmp 90) (.tmp 92) 33 rfl W.heap.size 5 i5 _ 1 Try.underlying33 hi5 z0 z1 z2 rfl (.slice a9 E.length c9) E.length (bytesV E) (by rfl) HRow9.out (.int .u8 (M.toNat : Int)) 1 (by rfl) rfl (by omega) (by omega) HB9.out.size ?_; intro v10 w10 hrow10 hg10 _; have HB10 := Lib.hid (Below.own HB9.out HRow9.out (Nat.le_refl _) HB9.out.size hg10); obtain ⟨P2, hP2⟩ : ∃ P2, P2 = E ++ [M] := ⟨_, rfl⟩; have hrow11 : w10.ownsRow W.heap.size 5 1 v10 P2.length (bytesV P2) := (by rw [hP2, List.length_append, bytesV_append]; exact hrow10); have hpl2 : P2.length ≤ 100000000 := (by rw [hP2, List.length_append]; show E.length + 1 ≤ 100000000; omega); obtain ⟨a10, m10, c10, rfl⟩ := row_slice hrow11; have hm10 := row_len' hrow11; subst hm10; have HR10 := Lib.hid (row_bytes' hrow11); have HP2 := Lib.hid hP2; clear hrow10 hg10 hrow11 hP2))
      refine (getreq_any a10 c10 P2 _ hpl2 HR10.out).mono ?_
      rintro ee W11 ⟨hb11, hcase⟩
      rcases hcase with ⟨x11, rfl, _, hok11, hex11⟩ | ⟨rfl, _⟩
      · refine absurd hex11 ?_
        rw [HP2.out, HE.out]
        exact more_no q.plain HKq.out M _ hok11
      have HB11 := Lib.hid (HB10.out.trans (hb11.mono HB10.out.size))
      clear hb11
      simp only [rqZ]
      have HB11a := Lib.hid (HB11.out.alloc HB11.out.size (.cells #[.string { data := #[] }, .int .u64 0, .int .i64 0, .int .i64 0, .string { data := #[] }, .int .u64 0, .string { data := #[] }, .string { data := #[] }, .string { data := #[] }, .string { data := #[] }, .slice none 0 0, .slice none 0 0, .slice none 0 0, .slice none 0 0] 30))
      go_wp2_with fail
      go_ret
      exact ⟨rfl, HB11a.out⟩
    · exact absurd HCs.out (fun ⟨p, hp, he⟩ => hno p hp he)
set_option maxRecDepth 100000 in
set_option maxHeartbeats 32000000 in
theorem lawReadsB (a0 : Option Addr) (c0 : Nat) (l : List UInt8) (q : RQE) (C : Nat) (M : UInt8) (W : World) (hl : l.length ≤ 9223372036854775807) (hC : C < 65536) (hib : IsBytes W a0 l) (h : RQok W q) (hcs : CaseB l) :
    Calls Try.prog 4 #[.slice a0 l.length c0, .agg #[.string q.cl, .int .u64 (q.id : Int), .int .i64 q.kd, .int .i64 q.hw, .string q.tk, .int .u64 (q.n : Int), .string q.ty, .string q.f1, .string q.f2, .string q.f3, .slice q.ws.a q.ws.xs.length q.ws.c, .slice q.ps.a q.ps.xs.length q.ps.c, .slice q.ks.a q.ks.xs.length q.ks.c, .slice q.gs.a q.gs.xs.length q.gs.c], .int .u16 (C : Int), .int .u8 (M.toNat : Int)] W fun e W' => e = .returned (.bool true) ∧ Below W.heap.size W W' := by
  have HCs := Lib.hid hcs
  clear hcs
  obtain ⟨i5, hi5, z0, z1, z2⟩ := info_parts Try.info5
  have hM := M.toNat_lt
  have HX0 := Lib.hid (heap_alloc_new W (.cells #[.string q.cl, .int .u64 (q.id : Int), .int .i64 q.kd, .int .i64 q.hw, .string q.tk, .int .u64 (q.n : Int), .string q.ty, .string q.f1, .string q.f2, .string q.f3, .slice q.ws.a q.ws.xs.length q.ws.c, .slice q.ps.a q.ps.xs.length q.ps.c, .slice q.ks.a q.ks.xs.length q.ks.c, .slice q.gs.a q.gs.xs.length q.gs.c] 30))
  have HB0 := Lib.hid ((Below.refl W.heap.size W).alloc (Nat.le_refl _) (.cells #[.string q.cl, .int .u64 (q.id : Int), .int .i64 q.kd, .int .i64 q.hw, .string q.tk, .int .u64 (q.n : Int), .string q.ty, .string q.f1, .string q.f2, .string q.f3, .slice q.ws.a q.ws.xs.length q.ws.c, .slice q.ps.a q.ps.xs.length q.ps.c, .slice q.ks.a q.ks.xs.length q.ks.c, .slice q.gs.a q.gs.xs.length q.gs.c] 30))
  have HQ0 := Lib.hid (h.below HB0.out)
  have HL0 := Lib.hid (hib.below HB0.out)
  have HC := Lib.hid (fixed_any (W.alloc (.cells #[.string q.cl, .int .u64 (q.id : Int), .int .i64 q.kd, .int .i64 q.hw, .string q.tk, .int .u64 (q.n : Int), .string q.ty, .string q.f1, .string q.f2, .string q.f3, .slice q.ws.a q.ws.xs.length q.ws.c, .slice q.ps.a q.ps.xs.length q.ps.c, .slice q.ks.a q.ks.xs.length q.ks.c, .slice q.gs.a q.gs.xs.length q.gs.c] 30)))
  clear h hib
  go_enter Try.func4, Try.ntmps4
  go_wp2_with fail
  generalize (W.alloc (.cells #[.string q.cl, .int .u64 (q.id : Int), .int .i64 q.kd, .int .i64 q.hw, .string q.tk, .int .u64 (q.n : Int), .string q.ty, .string q.f1, .string q.f2, .string q.f3, .slice q.ws.a q.ws.xs.length q.ws.c, .slice q.ps.a q.ps.xs.length q.ps.c, .slice q.ks.a q.ks.xs.length q.ks.c, .slice q.gs.a q.gs.xs.length q.gs.c] 30)) = W0 at *
  obtain ⟨x1, hx1⟩ : ∃ x1, x1 = W.heap.size := ⟨_, rfl⟩
  rw [← hx1] at HX0
  rw [← hx1]
  have HHx := Lib.hid hx1
  clear hx1
  refine HC.out.mono ?_
  clear HC
  rintro ee W1 ⟨rfl, hb1⟩
  have HB1 := Lib.hid (HB0.out.trans (hb1.mono HB0.out.size))
  have HX1 := Lib.hid ((hb1.block _ (heap_lt HX0.out)).trans HX0.out)
  have HQ1 := Lib.hid (HQ0.out.below hb1)
  have HL1 := Lib.hid (HL0.out.below hb1)
  clear hb1
  by_cases h2000 : 2000 < l.length
  · have d1 : decide ((2000 : Int) < (l.length : Int)) = true := decide_eq_true (by omega)
    have d2 : decide (2000 < l.length) = true := decide_eq_true h2000
    go_wp2_with fail
    go_ret
    exact ⟨rfl, HB1.out⟩
  have d1 : decide ((2000 : Int) < (l.length : Int)) = false := decide_eq_false (by omega)
  have d2 : decide (2000 < l.length) = false := decide_eq_false h2000
  have HC := Lib.hid (few_of q W1 HQ1.out)
  have q0 := heap_cell HX1.out 0
  have q1 := heap_cell HX1.out 1
  have q2 := heap_cell HX1.out 2
  have q3 := heap_cell HX1.out 3
  have q4 := heap_cell HX1.out 4
  have q5 := heap_cell HX1.out 5
  have q6 := heap_cell HX1.out 6
  have q7 := heap_cell HX1.out 7
  have q8 := heap_cell HX1.out 8
  have q9 := heap_cell HX1.out 9
  have q10 := heap_cell HX1.out 10
  have q11 := heap_cell HX1.out 11
  have q12 := heap_cell HX1.out 12
  have q13 := heap_cell HX1.out 13
  simp at q0 q1 q2 q3 q4 q5 q6 q7 q8 q9 q10 q11 q12 q13
  go_wp2_with fail
  clear q0 q1 q2 q3 q4 q5 q6 q7 q8 q9 q10 q11 q12 q13
  refine HC.out.mono ?_
  clear HC
  rintro ee W2 ⟨b, rfl, hfew, hb2⟩
  have HB2 := Lib.hid (HB1.out.trans (hb2.mono HB1.out.size))
  have HX2 := Lib.hid ((hb2.block _ (heap_lt HX1.out)).trans HX1.out)
  have HQ2 := Lib.hid (HQ1.out.below hb2)
  have HL2 := Lib.hid (HL1.out.below hb2)
  clear hb2 d1 d2
  cases b with
  | false =>
    go_wp2_with fail
    go_ret
    exact ⟨rfl, HB2.out⟩
  | true =>
    have hf := hfew rfl
    have hln := few_len q.plain hf HQ2.out.1
    obtain ⟨E, hE⟩ : ∃ E, E = [113, 49] ++ reqE q.plain := ⟨_, rfl⟩
    have heb : E.length ≤ 1000000 := by
      rw [hE]
      have := hln.1
      omega
    have he2 : 2 ≤ E.length := by
      rw [hE, List.length_append]
      show 2 ≤ 2 + _
      omega
    have HE := Lib.hid hE
    have HKq := Lib.hid HQ2.out.1
    have hl2 : l.length ≤ 100000000 := by omega
    clear hfew hf hln hE
    have HC := Lib.hid (getreq_any a0 c0 l W2 hl2 HL2.out)
    go_wp2_with fail
    refine HC.out.mono ?_
    clear HC
    rintro ee W3 ⟨hb3, hcase⟩
    have HB3 := Lib.hid (HB2.out.trans (hb3.mono HB2.out.size))
    have HX3 := Lib.hid ((hb3.block _ (heap_lt HX2.out)).trans HX2.out)
    have HQ3 := Lib.hid (HQ2.out.below hb3)
    have HL3 := Lib.hid (HL2.out.below hb3)
    clear hb3
    rcases hcase with ⟨x, rfl, hmx, hokx, hex⟩ | ⟨rfl, hno⟩
    · exact absurd HCs.out (fun ⟨p, _, _, he⟩ => req_resp _ _ (hex.symm.trans he))
    · clear hno
      have ha3 := (Below.refl W3.heap.size W3).alloc (Nat.le_refl _) (.cells #[.string { data := #[] }, .int .u64 0, .int .i64 0, .int .i64 0, .string { data := #[] }, .int .u64 0, .string { data := #[] }, .string { data := #[] }, .string { data := #[] }, .string { data := #[] }, .slice none 0 0, .slice none 0 0, .slice none 0 0, .slice none 0 0] 30)
      have HB3a := Lib.hid (HB3.out.trans (ha3.mono HB3.out.size))
      have HX3a := Lib.hid ((ha3.block _ (heap_lt HX3.out)).trans HX3.out)
      have HQ3a := Lib.hid (HQ3.out.below ha3)
      have HL3a := Lib.hid (HL3.out.below ha3)
      have HY3a := Lib.hid (heap_alloc_new W3 (.cells #[.string { data := #[] }, .int .u64 0, .int .i64 0, .int .i64 0, .string { data := #[] }, .int .u64 0, .string { data := #[] }, .string { data := #[] }, .string { data := #[] }, .string { data := #[] }, .slice none 0 0, .slice none 0 0, .slice none 0 0, .slice none 0 0] 30))
      clear ha3
      have HC := Lib.hid (getresp_any a0 c0 l (W3.alloc (.cells #[.string { data := #[] }, .int .u64 0, .int .i64 0, .int .i64 0, .string { data := #[] }, .int .u64 0, .string { data := #[] }, .string { data := #[] }, .string { data := #[] }, .string { data := #[] }, .slice none 0 0, .slice none 0 0, .slice none 0 0, .slice none 0 0] 30)) hl2 HL3a.out)
      simp only [rqV, lsV, rqZ]
      go_wp2_with fail
      generalize (W3.alloc (.cells #[.string { data := #[] }, .int .u64 0, .int .i64 0, .int .i64 0, .string { data := #[] }, .int .u64 0, .string { data := #[] }, .string { data := #[] }, .string { data := #[] }, .string { data := #[] }, .slice none 0 0, .slice none 0 0, .slice none 0 0, .slice none 0 0] 30)) = W3a at *
      obtain ⟨y9, hy9⟩ : ∃ y9, y9 = W3.heap.size := ⟨_, rfl⟩
      rw [← hy9] at HY3a
      rw [← hy9]
      have HHy9 := Lib.hid hy9
      clear hy9
      refine HC.out.mono ?_
      clear HC
      rintro ee W4 ⟨hb4, hcase⟩
      have HB4 := Lib.hid (HB3a.out.trans (hb4.mono HB3a.out.size))
      have HX4 := Lib.hid ((hb4.block _ (heap_lt HX3a.out)).trans HX3a.out)
      have HQ4 := Lib.hid (HQ3a.out.below hb4)
      have HL4 := Lib.hid (HL3a.out.below hb4)
      have HY4 := Lib.hid ((hb4.block _ (heap_lt HY3a.out)).trans HY3a.out)
      clear hb4
      rcases hcase with ⟨y, rfl, hmy, hoky, hfy, hey⟩ | ⟨rfl, hno⟩
      · have HMy := Lib.hid hmy
        have HKy := Lib.hid hoky
        have HLy := Lib.hid hey
        clear hmy hoky hey hfy
        have ha4 := (Below.refl W4.heap.size W4).alloc (Nat.le_refl _) (.cells #[.int .u64 (y.id : Int), .int .i64 y.er, .int .u64 (y.rv : Int), .string y.tk, .slice y.fs.a y.fs.xs.length y.fs.c, .slice y.ts.a y.ts.xs.length y.ts.c, .slice y.os.a y.os.xs.length y.os.c, .slice y.es.a y.es.xs.length y.es.c, .slice y.ss.a y.ss.xs.length y.ss.c, .int .i64 y.nd.k, .string y.nd.t, .string y.nd.i, .string y.nd.r, .slice y.nd.sa y.nd.ss.length y.nd.sc, .slice y.nd.a y.nd.ps.length y.nd.c] 54)
        obtain ⟨V, hV⟩ : ∃ V, V = (W4.alloc (.cells #[.int .u64 (y.id : Int), .int .i64 y.er, .int .u64 (y.rv : Int), .string y.tk, .slice y.fs.a y.fs.xs.length y.fs.c, .slice y.ts.a y.ts.xs.length y.ts.c, .slice y.os.a y.os.xs.length y.os.c, .slice y.es.a y.es.xs.length y.es.c, .slice y.ss.a y.ss.xs.length y.ss.c, .int .i64 y.nd.k, .string y.nd.t, .string y.nd.i, .string y.nd.r, .slice y.nd.sa y.nd.ss.length y.nd.sc, .slice y.nd.a y.nd.ps.length y.nd.c] 54)).drew := ⟨_, rfl⟩
        have HBV : Hid (Below W.heap.size W V) := (by rw [hV]; exact (HB4.out.trans (ha4.mono HB4.out.size)).drew : Below W.heap.size W V)
        have HXV : Hid (V.heap[x1]? = some (.cells #[.string q.cl, .int .u64 (q.id : Int), .int .i64 q.kd, .int .i64 q.hw, .string q.tk, .int .u64 (q.n : Int), .string q.ty, .string q.f1, .string q.f2, .string q.f3, .slice q.ws.a q.ws.xs.length q.ws.c, .slice q.ps.a q.ps.xs.length q.ps.c, .slice q.ks.a q.ks.xs.length q.ks.c, .slice q.gs.a q.gs.xs.length q.gs.c] 30 (0, 0))) := (by rw [hV]; exact (ha4.block _ (heap_lt HX4.out)).trans HX4.out : V.heap[x1]? = some (.cells #[.string q.cl, .int .u64 (q.id : Int), .int .i64 q.kd, .int .i64 q.hw, .string q.tk, .int .u64 (q.n : Int), .string q.ty, .string q.f1, .string q.f2, .string q.f3, .slice q.ws.a q.ws.xs.length q.ws.c, .slice q.ps.a q.ps.xs.length q.ps.c, .slice q.ks.a q.ks.xs.length q.ks.c, .slice q.gs.a q.gs.xs.length q.gs.c] 30 (0, 0)))
        have HQV : Hid (RQok V q) := (by rw [hV]; exact HQ4.out.below ha4.drew : RQok V q)
        have HLV : Hid (IsBytes V a0 l) := (by rw [hV]; exact HL4.out.below ha4.drew : IsBytes V a0 l)
        have HYV : Hid (V.heap[W4.heap.size]? = some (.cells #[.int .u64 (y.id : Int), .int .i64 y.er, .int .u64 (y.rv : Int), .string y.tk, .slice y.fs.a y.fs.xs.length y.fs.c, .slice y.ts.a y.ts.xs.length y.ts.c, .slice y.os.a y.os.xs.length y.os.c, .slice y.es.a y.es.xs.length y.es.c, .slice y.ss.a y.ss.xs.length y.ss.c, .int .i64 y.nd.k, .string y.nd.t, .string y.nd.i, .string y.nd.r, .slice y.nd.sa y.nd.ss.length y.nd.sc, .slice y.nd.a y.nd.ps.length y.nd.c] 54 (0, 0))) := (by rw [hV]; exact heap_alloc_new W4 _ : V.heap[W4.heap.size]? = some (.cells #[.int .u64 (y.id : Int), .int .i64 y.er, .int .u64 (y.rv : Int), .string y.tk, .slice y.fs.a y.fs.xs.length y.fs.c, .slice y.ts.a y.ts.xs.length y.ts.c, .slice y.os.a y.os.xs.length y.os.c, .slice y.es.a y.es.xs.length y.es.c, .slice y.ss.a y.ss.xs.length y.ss.c, .int .i64 y.nd.k, .string y.nd.t, .string y.nd.i, .string y.nd.r, .slice y.nd.sa y.nd.ss.length y.nd.sc, .slice y.nd.a y.nd.ps.length y.nd.c] 54 (0, 0)))
        have HMV : Hid (rpmem (fun b => W3a.heap.size ≤ b) V y) := (by rw [hV]; exact rpmem_below HMy.out ha4.drew : rpmem (fun b => W3a.heap.size ≤ b) V y)
        obtain ⟨y11, hy11⟩ : ∃ y11, y11 = W4.heap.size := ⟨_, rfl⟩
        rw [← hy11] at HYV
        have HHy11 := Lib.hid hy11
        clear hy11
        have hS0 : V.cell? ⟨y11, 0, none⟩ = some (.int .u64 (y.id : Int)) ∧ V.cell? ⟨y11, 1, none⟩ = some (.int .i64 y.er) ∧ V.cell? ⟨y11, 2, none⟩ = some (.int .u64 (y.rv : Int)) ∧ V.cell? ⟨y11, 3, none⟩ = some (.string y.tk) ∧ V.cell? ⟨y11, 4, none⟩ = some (.slice y.fs.a y.fs.xs.length y.fs.c) ∧ V.cell? ⟨y11, 5, none⟩ = some (.slice y.ts.a y.ts.xs.length y.ts.c) ∧ V.cell? ⟨y11, 6, none⟩ = some (.slice y.os.a y.os.xs.length y.os.c) ∧ V.cell? ⟨y11, 7, none⟩ = some (.slice y.es.a y.es.xs.length y.es.c) ∧ V.cell? ⟨y11, 8, none⟩ = some (.slice y.ss.a y.ss.xs.length y.ss.c) ∧ V.cell? ⟨y11, 9, none⟩ = some (.int .i64 y.nd.k) ∧ V.cell? ⟨y11, 10, none⟩ = some (.string y.nd.t) ∧ V.cell? ⟨y11, 11, none⟩ = some (.string y.nd.i) ∧ V.cell? ⟨y11, 12, none⟩ = some (.string y.nd.r) ∧ V.cell? ⟨y11, 13, none⟩ = some (.slice y.nd.sa y.nd.ss.length y.nd.sc) ∧ V.cell? ⟨y11, 14, none⟩ = some (.slice y.nd.a y.nd.ps.length y.nd.c) ∧ (convert 33 9 (.slice a0 l.length c0)).run Try.prog V = .ok (.string ⟨l.toArray⟩) V := ⟨heap_cell HYV.out 0, heap_cell HYV.out 1, heap_cell HYV.out 2, heap_cell HYV.out 3, heap_cell HYV.out 4, heap_cell HYV.out 5, heap_cell HYV.out 6, heap_cell HYV.out 7, heap_cell HYV.out 8, heap_cell HYV.out 9, heap_cell HYV.out 10, heap_cell HYV.out 11, heap_cell HYV.out 12, heap_cell HYV.out 13, heap_cell HYV.out 14, run_string_of_bytes (P := Try.prog) _ 33 9 5 a0 l.length c0 l rfl Try.underlying33 Try.underlying5 Try.underlying9 HLV.out⟩
        clear ha4
        simp only [rpV, lsV]
        go_wp2_with fail
        try refine wp_region_noPanic ?_
        rw [← HHy11.out]
        refine wp_region_held_drew (S := fun w' => w'.cell? ⟨y11, 0, none⟩ = some (.int .u64 (y.id : Int)) ∧ w'.cell? ⟨y11, 1, none⟩ = some (.int .i64 y.er) ∧ w'.cell? ⟨y11, 2, none⟩ = some (.int .u64 (y.rv : Int)) ∧ w'.cell? ⟨y11, 3, none⟩ = some (.string y.tk) ∧ w'.cell? ⟨y11, 4, none⟩ = some (.slice y.fs.a y.fs.xs.length y.fs.c) ∧ w'.cell? ⟨y11, 5, none⟩ = some (.slice y.ts.a y.ts.xs.length y.ts.c) ∧ w'.cell? ⟨y11, 6, none⟩ = some (.slice y.os.a y.os.xs.length y.os.c) ∧ w'.cell? ⟨y11, 7, none⟩ = some (.slice y.es.a y.es.xs.length y.es.c) ∧ w'.cell? ⟨y11, 8, none⟩ = some (.slice y.ss.a y.ss.xs.length y.ss.c) ∧ w'.cell? ⟨y11, 9, none⟩ = some (.int .i64 y.nd.k) ∧ w'.cell? ⟨y11, 10, none⟩ = some (.string y.nd.t) ∧ w'.cell? ⟨y11, 11, none⟩ = some (.string y.nd.i) ∧ w'.cell? ⟨y11, 12, none⟩ = some (.string y.nd.r) ∧ w'.cell? ⟨y11, 13, none⟩ = some (.slice y.nd.sa y.nd.ss.length y.nd.sc) ∧ w'.cell? ⟨y11, 14, none⟩ = some (.slice y.nd.a y.nd.ps.length y.nd.c) ∧ (convert 33 9 (.slice a0 l.length c0)).run Try.prog w' = .ok (.string ⟨l.toArray⟩) w') (by kernel_rfl) (by rw [← hV]; exact hS0) (fun hHeld => ?_)
        rw [← hV] at hHeld ⊢
        clear hV hS0
        refine take_at 0 52 (v := ?_) rfl rfl (by kernel_rfl) (by kernel_rfl) (by kernel_rfl) (fun _ _ _ h => h) (Or.inl ⟨by rfl, ?_⟩) hHeld ?_
        rotate_left
        · (intro w hSw; (try dsimp only at hSw); go_simp; try with_reducible rfl)
        try simp only [List.setIfInBounds_toArray, List.set_cons_zero, List.set_cons_succ]
        refine take_at 1 53 (v := ?_) rfl rfl (by kernel_rfl) (by kernel_rfl) (by kernel_rfl) (fun _ _ _ h => h) (Or.inl ⟨by rfl, ?_⟩) hHeld ?_
        rotate_left
        · (intro w hSw; (try dsimp only at hSw); go_simp; try with_reducible rfl)
        try simp only [List.setIfInBounds_toArray, List.set_cons_zero, List.set_cons_succ]
        refine take_at 2 54 (v := ?_) rfl rfl (by kernel_rfl) (by kernel_rfl) (by kernel_rfl) (fun _ _ _ h => h) (Or.inl ⟨by rfl, ?_⟩) hHeld ?_
        rotate_left
        · (intro w hSw; (try dsimp only at hSw); go_simp; try with_reducible rfl)
        try simp only [List.setIfInBounds_toArray, List.set_cons_zero, List.set_cons_succ]
        refine take_at 3 55 (v := undef) rfl rfl (by kernel_rfl) (by kernel_rfl) (by kernel_rfl) (fun _ _ _ h => h) (Or.inr ⟨by rfl, rfl⟩) hHeld ?_
        try simp only [List.setIfInBounds_toArray, List.set_cons_zero, List.set_cons_succ]
        refine take_at 4 56 (v := undef) rfl rfl (by kernel_rfl) (by kernel_rfl) (by kernel_rfl) (fun _ _ _ h => h) (Or.inr ⟨by rfl, rfl⟩) hHeld ?_
        try simp only [List.setIfInBounds_toArray, List.set_cons_zero, List.set_cons_succ]
        refine take_at 5 57 (v := undef) rfl rfl (by kernel_rfl) (by kernel_rfl) (by kernel_rfl) (fun _ _ _ h => h) (Or.inr ⟨by rfl, rfl⟩) hHeld ?_
        try simp only [List.setIfInBounds_toArray, List.set_cons_zero, List.set_cons_succ]
        refine take_at 6 58 (v := undef) rfl rfl (by kernel_rfl) (by kernel_rfl) (by kernel_rfl) (fun _ _ _ h => h) (Or.inr ⟨by rfl, rfl⟩) hHeld ?_
        try simp only [List.setIfInBounds_toArray, List.set_cons_zero, List.set_cons_succ]
        refine take_at 7 59 (v := undef) rfl rfl (by kernel_rfl) (by kernel_rfl) (by kernel_rfl) (fun _ _ _ h => h) (Or.inr ⟨by rfl, rfl⟩) hHeld ?_
        try simp only [List.setIfInBounds_toArray, List.set_cons_zero, List.set_cons_succ]
        refine take_at 8 60 (v := undef) rfl rfl (by kernel_rfl) (by kernel_rfl) (by kernel_rfl) (fun _ _ _ h => h) (Or.inr ⟨by rfl, rfl⟩) hHeld ?_
        try simp only [List.setIfInBounds_toArray, List.set_cons_zero, List.set_cons_succ]
        refine take_at 9 61 (v := ?_) rfl rfl (by kernel_rfl) (by kernel_rfl) (by kernel_rfl) (fun _ _ _ h => h) (Or.inl ⟨by rfl, ?_⟩) hHeld ?_
        rotate_left
        · (intro w hSw; (try dsimp only at hSw); go_simp; try with_reducible rfl)
        try simp only [List.setIfInBounds_toArray, List.set_cons_zero, List.set_cons_succ]
        refine take_at 10 62 (v := ?_) rfl rfl (by kernel_rfl) (by kernel_rfl) (by kernel_rfl) (fun _ _ _ h => h) (Or.inl ⟨by rfl, ?_⟩) hHeld ?_
        rotate_left
        · (intro w hSw; (try dsimp only at hSw); go_simp; try with_reducible rfl)
        try simp only [List.setIfInBounds_toArray, List.set_cons_zero, List.set_cons_succ]
        refine take_at 11 63 (v := ?_) rfl rfl (by kernel_rfl) (by kernel_rfl) (by kernel_rfl) (fun _ _ _ h => h) (Or.inl ⟨by rfl, ?_⟩) hHeld ?_
        rotate_left
        · (intro w hSw; (try dsimp only at hSw); go_simp; try with_reducible rfl)
        try simp only [List.setIfInBounds_toArray, List.set_cons_zero, List.set_cons_succ]
        refine take_at 12 64 (v := ?_) rfl rfl (by kernel_rfl) (by kernel_rfl) (by kernel_rfl) (fun _ _ _ h => h) (Or.inl ⟨by rfl, ?_⟩) hHeld ?_
        rotate_left
        · (intro w hSw; (try dsimp only at hSw); go_simp; try with_reducible rfl)
        try simp only [List.setIfInBounds_toArray, List.set_cons_zero, List.set_cons_succ]
        refine take_at 13 65 (v := ?_) rfl rfl (by kernel_rfl) (by kernel_rfl) (by kernel_rfl) (fun _ _ _ h => h) (Or.inl ⟨by rfl, ?_⟩) hHeld ?_
        rotate_left
        · (intro w hSw; (try dsimp only at hSw); go_simp; try with_reducible rfl)
        try simp only [List.setIfInBounds_toArray, List.set_cons_zero, List.set_cons_succ]
        refine take_at 14 66 (v := ?_) rfl rfl (by kernel_rfl) (by kernel_rfl) (by kernel_rfl) (fun _ _ _ h => h) (Or.inl ⟨by rfl, ?_⟩) hHeld ?_
        rotate_left
        · (intro w hSw; (try dsimp only at hSw); go_simp; try with_reducible rfl)
        try simp only [List.setIfInBounds_toArray, List.set_cons_zero, List.set_cons_succ]
        refine take_at 17 69 (v := ?_) rfl rfl (by kernel_rfl) (by kernel_rfl) (by kernel_rfl) (fun _ _ _ h => h) (Or.inl ⟨by rfl, ?_⟩) hHeld ?_
        rotate_left
        · (intro w hSw; (try dsimp only at hSw); go_simp; try with_reducible rfl)
        try simp only [List.setIfInBounds_toArray, List.set_cons_zero, List.set_cons_succ]
        refine take_at 18 70 (v := ?_) rfl rfl (by kernel_rfl) (by kernel_rfl) (by kernel_rfl) (fun _ _ _ h => h) (Or.inl ⟨by rfl, ?_⟩) hHeld ?_
        rotate_left
        · (intro w hSw; (try dsimp only at hSw); go_simp; try with_reducible rfl)
        try simp only [List.setIfInBounds_toArray, List.set_cons_zero, List.set_cons_succ]
        refine only_at 15 67 (by kernel_rfl) rfl rfl (by rfl) (fun K hK => ?_)
        go_simp
        refine (rresp_of y _ _ HMV.out HKy.out (by rw [← HLy.out]; exact hl2)).mono ?_
        rintro ee W61 ⟨v61, rfl, h61, hb61⟩
        rw [List.nil_append, ← HLy.out] at h61
        obtain ⟨a61, m61, c61, rfl⟩ := row_slice h61
        have hm61 := row_len' h61
        subst hm61
        have HR2 := Lib.hid (row_bytes' h61)
        have HB61 := Lib.hid (HBV.out.trans (hb61.mono HBV.out.size))
        have HX61 := Lib.hid ((hb61.block _ (heap_lt HXV.out)).trans HXV.out)
        have HY61 := Lib.hid ((hb61.block _ (heap_lt HYV.out)).trans HYV.out)
        have HQ61 := Lib.hid (HQV.out.below hb61)
        have HL61 := Lib.hid (HLV.out.below hb61)
        clear h61 hb61
        go_wp2_with fail
        refine hK.out _ _ (⟨heap_cell HY61.out 0, heap_cell HY61.out 1, heap_cell HY61.out 2, heap_cell HY61.out 3, heap_cell HY61.out 4, heap_cell HY61.out 5, heap_cell HY61.out 6, heap_cell HY61.out 7, heap_cell HY61.out 8, heap_cell HY61.out 9, heap_cell HY61.out 10, heap_cell HY61.out 11, heap_cell HY61.out 12, heap_cell HY61.out 13, heap_cell HY61.out 14, run_string_of_bytes (P := Try.prog) _ 33 9 5 a0 l.length c0 l rfl Try.underlying33 Try.underlying5 Try.underlying9 HL61.out⟩) (fun hHeld2 => ?_)
        clear hK K hHeld
        have hHeld := hHeld2
        clear hHeld2
        try simp only [Act.put, List.setIfInBounds_toArray, List.set_cons_zero, List.set_cons_succ]
        refine only_at 16 68 (by kernel_rfl) rfl rfl (by rfl) (fun K hK => ?_)
        go_simp
        have hcv := run_string_of_bytes (P := Try.prog) W61 33 9 5 a61 l.length c61 l rfl Try.underlying33 Try.underlying5 Try.underlying9 HR2.out
        go_simp
        clear hcv
        refine hK.out _ _ (⟨heap_cell HY61.out 0, heap_cell HY61.out 1, heap_cell HY61.out 2, heap_cell HY61.out 3, heap_cell HY61.out 4, heap_cell HY61.out 5, heap_cell HY61.out 6, heap_cell HY61.out 7, heap_cell HY61.out 8, heap_cell HY61.out 9, heap_cell HY61.out 10, heap_cell HY61.out 11, heap_cell HY61.out 12, heap_cell HY61.out 13, heap_cell HY61.out 14, run_string_of_bytes (P := Try.prog) _ 33 9 5 a0 l.length c0 l rfl Try.underlying33 Try.underlying5 Try.underlying9 HL61.out⟩) (fun hHeld2 => ?_)
        clear hK K hHeld
        have hHeld := hHeld2
        clear hHeld2
        try simp only [Act.put, List.setIfInBounds_toArray, List.set_cons_zero, List.set_cons_succ]
        refine take_at 19 71 (v := ?_) rfl rfl (by kernel_rfl) (by kernel_rfl) (by kernel_rfl) (fun _ _ _ h => h) (Or.inl ⟨by rfl, ?_⟩) hHeld ?_
        rotate_left
        · (intro w hSw; (try dsimp only at hSw); go_simp; try with_reducible rfl)
        try simp only [List.setIfInBounds_toArray, List.set_cons_zero, List.set_cons_succ]
        refine take_at 20 72 (v := ?_) rfl rfl (by kernel_rfl) (by kernel_rfl) (by kernel_rfl) (fun _ _ _ h => h) (Or.inl ⟨by rfl, ?_⟩) hHeld ?_
        rotate_left
        · (intro w hSw; (try dsimp only at hSw); go_simp; try with_reducible rfl)
        try simp only [List.setIfInBounds_toArray, List.set_cons_zero, List.set_cons_succ]
        refine take_at 21 73 (v := ?_) rfl rfl (by kernel_rfl) (by kernel_rfl) (by kernel_rfl) (fun _ _ _ h => h) (Or.inl ⟨by rfl, ?_⟩) hHeld ?_
        rotate_left
        · (intro w hSw; (try dsimp only at hSw); go_simp; try with_reducible rfl)
        try simp only [List.setIfInBounds_toArray, List.set_cons_zero, List.set_cons_succ]
        refine wpAnyH_done (by kernel_rfl) ?_ _
        try refine NoPanic.normal ?_
        have HC := Lib.hid (rreq_of q _ W61 HQ61.out.2.1 HKq.out (by rw [← HE.out]; omega))
        have q0 := heap_cell HX61.out 0
        have q1 := heap_cell HX61.out 1
        have q2 := heap_cell HX61.out 2
        have q3 := heap_cell HX61.out 3
        have q4 := heap_cell HX61.out 4
        have q5 := heap_cell HX61.out 5
        have q6 := heap_cell HX61.out 6
        have q7 := heap_cell HX61.out 7
        have q8 := heap_cell HX61.out 8
        have q9 := heap_cell HX61.out 9
        have q10 := heap_cell HX61.out 10
        have q11 := heap_cell HX61.out 11
        have q12 := heap_cell HX61.out 12
        have q13 := heap_cell HX61.out 13
        simp at q0 q1 q2 q3 q4 q5 q6 q7 q8 q9 q10 q11 q12 q13
        go_wp2_with fail
        clear q0 q1 q2 q3 q4 q5 q6 q7 q8 q9 q10 q11 q12 q13
        refine HC.out.mono ?_
        clear HC
        rintro ee W6 ⟨v6, rfl, h6, hb6⟩
        rw [List.nil_append, ← HE.out] at h6
        obtain ⟨a6, m6, c6, rfl⟩ := row_slice h6
        have hm6 := row_len' h6
        subst hm6
        have hc6 := row_cap h6
        have HR6 := Lib.hid (row_bytes' h6)
        have HB6 := Lib.hid (HB61.out.trans (hb6.mono HB61.out.size))
        clear h6 hb6
        obtain ⟨P, hP⟩ : ∃ P, P = E.take (C % E.length) := ⟨_, rfl⟩
        have hnl : C % E.length < E.length := Nat.mod_lt _ (by omega)
        have hPl : P.length = C % E.length := by rw [hP, List.length_take]; omega
        have hs1 : ∀ W, (Instr.slice 33 (.slice a6 E.length c6) none (some (.int .i64 ((C : Int) % (E.length : Int)))) none).run Try.prog W = .ok (.slice (cutA a6 c6 0) P.length c6) W := fun W => by
          rw [hPl]
          have e : (C : Int) % (E.length : Int) = ((C % E.length : Nat) : Int) := by omega
          rw [e]
          exact run_slice_h1 (P := Try.prog) W 33 5 i5 Try.underlying33 hi5 z1 a6 E.length c6 (C % E.length) .i64 (by omega)
        have hcb := cutA_bytes HR6.out (lo := 0) (hi := C % E.length) (by omega) hc6
        rw [List.drop_zero, ← hP] at hcb
        have HCut := Lib.hid hcb
        have HP := Lib.hid hP
        have HPl := Lib.hid hPl
        have hpb : P.length ≤ 100000000 := by omega
        have HC := Lib.hid (getreq_any (cutA a6 c6 0) c6 P W6 hpb HCut.out)
        generalize cutA a6 c6 0 = A6 at *
        have hu16 : IntKind.i64.wrap (C : Int) = (C : Int) := by rw [IntKind.wrap_i64]; omega
        have hne : ¬ (E.length = 0) := by omega
        clear hcb hP hPl hnl
        go_wp2_with fail
        refine HC.out.mono ?_
        clear HC hs1
        rintro ee W7 ⟨hb7, hcase⟩
        rcases hcase with ⟨x7, rfl, _, hok7, hex7⟩ | ⟨rfl, _⟩
        · refine absurd hex7 ?_
          rw [HP.out, HE.out]
          refine cut_no q.plain HKq.out _ ?_ _ hok7
          rw [← HE.out]
          exact Nat.mod_lt _ (by omega)
        have HB7 := Lib.hid (HB6.out.trans (hb7.mono HB6.out.size))
        have HR7 := Lib.hid (HR6.out.below hb7)
        clear hb7
        simp only [rqZ]
        have ha7 := (Below.refl W7.heap.size W7).alloc (Nat.le_refl _) (.cells #[.string { data := #[] }, .int .u64 0, .int .i64 0, .int .i64 0, .string { data := #[] }, .int .u64 0, .string { data := #[] }, .string { data := #[] }, .string { data := #[] }, .string { data := #[] }, .slice none 0 0, .slice none 0 0, .slice none 0 0, .slice none 0 0] 30)
        have HB7a := Lib.hid (HB7.out.trans (ha7.mono HB7.out.size))
        have HR7a := Lib.hid (HR7.out.below ha7)
        clear ha7
        go_upto_region 13 with (fail)
        generalize (W7.alloc (.cells #[.string { data := #[] }, .int .u64 0, .int .i64 0, .int .i64 0, .string { data := #[] }, .int .u64 0, .string { data := #[] }, .string { data := #[] }, .string { data := #[] }, .string { data := #[] }, .slice none 0 0, .slice none 0 0, .slice none 0 0, .slice none 0 0] 30)) = W8 at *
        generalize W7.heap.size = y7 at *
        have ha8 := (Below.refl W8.heap.size W8).alloc (Nat.le_refl _) (.cells #[] 5)
        have HEmp := Lib.hid (row_empty W8 W.heap.size 5 1 HB7a.out.size)
        have HB8 := Lib.hid (HB7a.out.trans (ha8.mono HB7a.out.size))
        have HR8 := Lib.hid (HR7a.out.below ha8)
        clear ha8
        go_wp2_with (first | (at_builtin; refine wpList_append_bytes _ rfl (.tmp 88) (.tmp 89) 33 rfl W.heap.size 5 i5 _ Try.underlying33 hi5 z0 z1 z2 rfl (.slice (some ⟨W8.heap.size, 0, none⟩) 0 0) 0 [] (by rfl) HEmp.out a6 E.length c6 E (by rfl) rfl HR8.out (by omega) HB8.out.size ?_; intro v9 w9 hrow9 hg9 _; have HB9 := Lib.hid (Below.own HB8.out HEmp.out (Nat.le_refl _) HB8.out.size hg9); rw [Nat.zero_add, List.nil_append] at hrow9; obtain ⟨a9, m9, c9, rfl⟩ := row_slice hrow9; have hm9 := row_len' hrow9; subst hm9; have HRow9 := Lib.hid hrow9; clear hrow9 hg9) | (at_builtin; refine wpList_append_one w9 rfl (.tmp 90) (.tmp 92) 33 rfl W.heap.size 5 i5 _ 1 Try.underlying33 hi5 z0 z1 z2 rfl (.slice a9 E.length c9) E.length (bytesV E) (by rfl) HRow9.out (.int .u8 (M.toNat : Int)) 1 (by rfl) rfl (by omega) (by omega) HB9.out.size ?_; intro v10 w10 hrow10 hg10 _; have HB10 := Lib.hid (Below.own HB9.out HRow9.out (Nat.le_refl _) HB9.out.size hg10); obtain ⟨P2, hP2⟩ : ∃ P2, P2 = E ++ [M] := ⟨_, rfl⟩; have hrow11 : w10.ownsRow W.heap.size 5 1 v10 P2.length (bytesV P2) := (by rw [hP2, List.length_append, bytesV_append]; exact hrow10); have hpl2 : P2.length ≤ 100000000 := (by rw [hP2, List.length_append]; show E.length + 1 ≤ 100000000; omega); obtain ⟨a10, m10, c10, rfl⟩ := row_slice hrow11; have hm10 := row_len' hrow11; subst hm10; have HR10 := Lib.hid (row_bytes' hrow11); have HP2 := Lib.hid hP2; clear hrow10 hg10 hrow11 hP2))
        refine (getreq_any a10 c10 P2 _ hpl2 HR10.out).mono ?_
        rintro ee W11 ⟨hb11, hcase⟩
        rcases hcase with ⟨x11, rfl, _, hok11, hex11⟩ | ⟨rfl, _⟩
        · refine absurd hex11 ?_
          rw [HP2.out, HE.out]
          exact more_no q.plain HKq.out M _ hok11
        have HB11 := Lib.hid (HB10.out.trans (hb11.mono HB10.out.size))
        clear hb11
        simp only [rqZ]
        have HB11a := Lib.hid (HB11.out.alloc HB11.out.size (.cells #[.string { data := #[] }, .int .u64 0, .int .i64 0, .int .i64 0, .string { data := #[] }, .int .u64 0, .string { data := #[] }, .string { data := #[] }, .string { data := #[] }, .string { data := #[] }, .slice none 0 0, .slice none 0 0, .slice none 0 0, .slice none 0 0] 30))
        go_wp2_with fail
        go_ret
        exact ⟨rfl, HB11a.out⟩
      · exact absurd HCs.out (fun ⟨p, hp, hf, he⟩ => hno p hp hf he)
set_option maxRecDepth 100000 in
set_option maxHeartbeats 32000000 in
theorem lawReadsC (a0 : Option Addr) (c0 : Nat) (l : List UInt8) (q : RQE) (C : Nat) (M : UInt8) (W : World) (hl : l.length ≤ 9223372036854775807) (hC : C < 65536) (hib : IsBytes W a0 l) (h : RQok W q) (hcs : CaseC l) :
    Calls Try.prog 4 #[.slice a0 l.length c0, .agg #[.string q.cl, .int .u64 (q.id : Int), .int .i64 q.kd, .int .i64 q.hw, .string q.tk, .int .u64 (q.n : Int), .string q.ty, .string q.f1, .string q.f2, .string q.f3, .slice q.ws.a q.ws.xs.length q.ws.c, .slice q.ps.a q.ps.xs.length q.ps.c, .slice q.ks.a q.ks.xs.length q.ks.c, .slice q.gs.a q.gs.xs.length q.gs.c], .int .u16 (C : Int), .int .u8 (M.toNat : Int)] W fun e W' => e = .returned (.bool true) ∧ Below W.heap.size W W' := by
  have HCs := Lib.hid hcs
  clear hcs
  obtain ⟨i5, hi5, z0, z1, z2⟩ := info_parts Try.info5
  have hM := M.toNat_lt
  have HX0 := Lib.hid (heap_alloc_new W (.cells #[.string q.cl, .int .u64 (q.id : Int), .int .i64 q.kd, .int .i64 q.hw, .string q.tk, .int .u64 (q.n : Int), .string q.ty, .string q.f1, .string q.f2, .string q.f3, .slice q.ws.a q.ws.xs.length q.ws.c, .slice q.ps.a q.ps.xs.length q.ps.c, .slice q.ks.a q.ks.xs.length q.ks.c, .slice q.gs.a q.gs.xs.length q.gs.c] 30))
  have HB0 := Lib.hid ((Below.refl W.heap.size W).alloc (Nat.le_refl _) (.cells #[.string q.cl, .int .u64 (q.id : Int), .int .i64 q.kd, .int .i64 q.hw, .string q.tk, .int .u64 (q.n : Int), .string q.ty, .string q.f1, .string q.f2, .string q.f3, .slice q.ws.a q.ws.xs.length q.ws.c, .slice q.ps.a q.ps.xs.length q.ps.c, .slice q.ks.a q.ks.xs.length q.ks.c, .slice q.gs.a q.gs.xs.length q.gs.c] 30))
  have HQ0 := Lib.hid (h.below HB0.out)
  have HL0 := Lib.hid (hib.below HB0.out)
  have HC := Lib.hid (fixed_any (W.alloc (.cells #[.string q.cl, .int .u64 (q.id : Int), .int .i64 q.kd, .int .i64 q.hw, .string q.tk, .int .u64 (q.n : Int), .string q.ty, .string q.f1, .string q.f2, .string q.f3, .slice q.ws.a q.ws.xs.length q.ws.c, .slice q.ps.a q.ps.xs.length q.ps.c, .slice q.ks.a q.ks.xs.length q.ks.c, .slice q.gs.a q.gs.xs.length q.gs.c] 30)))
  clear h hib
  go_enter Try.func4, Try.ntmps4
  go_wp2_with fail
  generalize (W.alloc (.cells #[.string q.cl, .int .u64 (q.id : Int), .int .i64 q.kd, .int .i64 q.hw, .string q.tk, .int .u64 (q.n : Int), .string q.ty, .string q.f1, .string q.f2, .string q.f3, .slice q.ws.a q.ws.xs.length q.ws.c, .slice q.ps.a q.ps.xs.length q.ps.c, .slice q.ks.a q.ks.xs.length q.ks.c, .slice q.gs.a q.gs.xs.length q.gs.c] 30)) = W0 at *
  obtain ⟨x1, hx1⟩ : ∃ x1, x1 = W.heap.size := ⟨_, rfl⟩
  rw [← hx1] at HX0
  rw [← hx1]
  have HHx := Lib.hid hx1
  clear hx1
  refine HC.out.mono ?_
  clear HC
  rintro ee W1 ⟨rfl, hb1⟩
  have HB1 := Lib.hid (HB0.out.trans (hb1.mono HB0.out.size))
  have HX1 := Lib.hid ((hb1.block _ (heap_lt HX0.out)).trans HX0.out)
  have HQ1 := Lib.hid (HQ0.out.below hb1)
  have HL1 := Lib.hid (HL0.out.below hb1)
  clear hb1
  by_cases h2000 : 2000 < l.length
  · have d1 : decide ((2000 : Int) < (l.length : Int)) = true := decide_eq_true (by omega)
    have d2 : decide (2000 < l.length) = true := decide_eq_true h2000
    go_wp2_with fail
    go_ret
    exact ⟨rfl, HB1.out⟩
  have d1 : decide ((2000 : Int) < (l.length : Int)) = false := decide_eq_false (by omega)
  have d2 : decide (2000 < l.length) = false := decide_eq_false h2000
  have HC := Lib.hid (few_of q W1 HQ1.out)
  have q0 := heap_cell HX1.out 0
  have q1 := heap_cell HX1.out 1
  have q2 := heap_cell HX1.out 2
  have q3 := heap_cell HX1.out 3
  have q4 := heap_cell HX1.out 4
  have q5 := heap_cell HX1.out 5
  have q6 := heap_cell HX1.out 6
  have q7 := heap_cell HX1.out 7
  have q8 := heap_cell HX1.out 8
  have q9 := heap_cell HX1.out 9
  have q10 := heap_cell HX1.out 10
  have q11 := heap_cell HX1.out 11
  have q12 := heap_cell HX1.out 12
  have q13 := heap_cell HX1.out 13
  simp at q0 q1 q2 q3 q4 q5 q6 q7 q8 q9 q10 q11 q12 q13
  go_wp2_with fail
  clear q0 q1 q2 q3 q4 q5 q6 q7 q8 q9 q10 q11 q12 q13
  refine HC.out.mono ?_
  clear HC
  rintro ee W2 ⟨b, rfl, hfew, hb2⟩
  have HB2 := Lib.hid (HB1.out.trans (hb2.mono HB1.out.size))
  have HX2 := Lib.hid ((hb2.block _ (heap_lt HX1.out)).trans HX1.out)
  have HQ2 := Lib.hid (HQ1.out.below hb2)
  have HL2 := Lib.hid (HL1.out.below hb2)
  clear hb2 d1 d2
  cases b with
  | false =>
    go_wp2_with fail
    go_ret
    exact ⟨rfl, HB2.out⟩
  | true =>
    have hf := hfew rfl
    have hln := few_len q.plain hf HQ2.out.1
    obtain ⟨E, hE⟩ : ∃ E, E = [113, 49] ++ reqE q.plain := ⟨_, rfl⟩
    have heb : E.length ≤ 1000000 := by
      rw [hE]
      have := hln.1
      omega
    have he2 : 2 ≤ E.length := by
      rw [hE, List.length_append]
      show 2 ≤ 2 + _
      omega
    have HE := Lib.hid hE
    have HKq := Lib.hid HQ2.out.1
    have hl2 : l.length ≤ 100000000 := by omega
    clear hfew hf hln hE
    have HC := Lib.hid (getreq_any a0 c0 l W2 hl2 HL2.out)
    go_wp2_with fail
    refine HC.out.mono ?_
    clear HC
    rintro ee W3 ⟨hb3, hcase⟩
    have HB3 := Lib.hid (HB2.out.trans (hb3.mono HB2.out.size))
    have HX3 := Lib.hid ((hb3.block _ (heap_lt HX2.out)).trans HX2.out)
    have HQ3 := Lib.hid (HQ2.out.below hb3)
    have HL3 := Lib.hid (HL2.out.below hb3)
    clear hb3
    rcases hcase with ⟨x, rfl, hmx, hokx, hex⟩ | ⟨rfl, hno⟩
    · exact absurd (⟨_, hokx, hex⟩ : CaseA l) HCs.out.1
    · clear hno
      have ha3 := (Below.refl W3.heap.size W3).alloc (Nat.le_refl _) (.cells #[.string { data := #[] }, .int .u64 0, .int .i64 0, .int .i64 0, .string { data := #[] }, .int .u64 0, .string { data := #[] }, .string { data := #[] }, .string { data := #[] }, .string { data := #[] }, .slice none 0 0, .slice none 0 0, .slice none 0 0, .slice none 0 0] 30)
      have HB3a := Lib.hid (HB3.out.trans (ha3.mono HB3.out.size))
      have HX3a := Lib.hid ((ha3.block _ (heap_lt HX3.out)).trans HX3.out)
      have HQ3a := Lib.hid (HQ3.out.below ha3)
      have HL3a := Lib.hid (HL3.out.below ha3)
      have HY3a := Lib.hid (heap_alloc_new W3 (.cells #[.string { data := #[] }, .int .u64 0, .int .i64 0, .int .i64 0, .string { data := #[] }, .int .u64 0, .string { data := #[] }, .string { data := #[] }, .string { data := #[] }, .string { data := #[] }, .slice none 0 0, .slice none 0 0, .slice none 0 0, .slice none 0 0] 30))
      clear ha3
      have HC := Lib.hid (getresp_any a0 c0 l (W3.alloc (.cells #[.string { data := #[] }, .int .u64 0, .int .i64 0, .int .i64 0, .string { data := #[] }, .int .u64 0, .string { data := #[] }, .string { data := #[] }, .string { data := #[] }, .string { data := #[] }, .slice none 0 0, .slice none 0 0, .slice none 0 0, .slice none 0 0] 30)) hl2 HL3a.out)
      simp only [rqV, lsV, rqZ]
      go_wp2_with fail
      generalize (W3.alloc (.cells #[.string { data := #[] }, .int .u64 0, .int .i64 0, .int .i64 0, .string { data := #[] }, .int .u64 0, .string { data := #[] }, .string { data := #[] }, .string { data := #[] }, .string { data := #[] }, .slice none 0 0, .slice none 0 0, .slice none 0 0, .slice none 0 0] 30)) = W3a at *
      obtain ⟨y9, hy9⟩ : ∃ y9, y9 = W3.heap.size := ⟨_, rfl⟩
      rw [← hy9] at HY3a
      rw [← hy9]
      have HHy9 := Lib.hid hy9
      clear hy9
      refine HC.out.mono ?_
      clear HC
      rintro ee W4 ⟨hb4, hcase⟩
      have HB4 := Lib.hid (HB3a.out.trans (hb4.mono HB3a.out.size))
      have HX4 := Lib.hid ((hb4.block _ (heap_lt HX3a.out)).trans HX3a.out)
      have HQ4 := Lib.hid (HQ3a.out.below hb4)
      have HL4 := Lib.hid (HL3a.out.below hb4)
      have HY4 := Lib.hid ((hb4.block _ (heap_lt HY3a.out)).trans HY3a.out)
      clear hb4
      rcases hcase with ⟨y, rfl, hmy, hoky, hfy, hey⟩ | ⟨rfl, hno⟩
      · exact absurd (⟨_, hoky, hfy, hey⟩ : CaseB l) HCs.out.2
      clear hno
      have ha4 := (Below.refl W4.heap.size W4).alloc (Nat.le_refl _) (.cells #[.int .u64 0, .int .i64 0, .int .u64 0, .string { data := #[] }, .slice none 0 0, .slice none 0 0, .slice none 0 0, .slice none 0 0, .slice none 0 0, .int .i64 0, .string { data := #[] }, .string { data := #[] }, .string { data := #[] }, .slice none 0 0, .slice none 0 0] 54)
      obtain ⟨V, hV⟩ : ∃ V, V = (W4.alloc (.cells #[.int .u64 0, .int .i64 0, .int .u64 0, .string { data := #[] }, .slice none 0 0, .slice none 0 0, .slice none 0 0, .slice none 0 0, .slice none 0 0, .int .i64 0, .string { data := #[] }, .string { data := #[] }, .string { data := #[] }, .slice none 0 0, .slice none 0 0] 54)).drew := ⟨_, rfl⟩
      have HBV : Hid (Below W.heap.size W V) := (by rw [hV]; exact (HB4.out.trans (ha4.mono HB4.out.size)).drew : Below W.heap.size W V)
      have HXV : Hid (V.heap[x1]? = some (.cells #[.string q.cl, .int .u64 (q.id : Int), .int .i64 q.kd, .int .i64 q.hw, .string q.tk, .int .u64 (q.n : Int), .string q.ty, .string q.f1, .string q.f2, .string q.f3, .slice q.ws.a q.ws.xs.length q.ws.c, .slice q.ps.a q.ps.xs.length q.ps.c, .slice q.ks.a q.ks.xs.length q.ks.c, .slice q.gs.a q.gs.xs.length q.gs.c] 30 (0, 0))) := (by rw [hV]; exact (ha4.block _ (heap_lt HX4.out)).trans HX4.out : V.heap[x1]? = some (.cells #[.string q.cl, .int .u64 (q.id : Int), .int .i64 q.kd, .int .i64 q.hw, .string q.tk, .int .u64 (q.n : Int), .string q.ty, .string q.f1, .string q.f2, .string q.f3, .slice q.ws.a q.ws.xs.length q.ws.c, .slice q.ps.a q.ps.xs.length q.ps.c, .slice q.ks.a q.ks.xs.length q.ks.c, .slice q.gs.a q.gs.xs.length q.gs.c] 30 (0, 0)))
      have HQV : Hid (RQok V q) := (by rw [hV]; exact HQ4.out.below ha4.drew : RQok V q)
      have HLV : Hid (IsBytes V a0 l) := (by rw [hV]; exact HL4.out.below ha4.drew : IsBytes V a0 l)
      have hS0 : (convert 33 9 (.slice a0 l.length c0)).run Try.prog V = .ok (.string ⟨l.toArray⟩) V := run_string_of_bytes (P := Try.prog) _ 33 9 5 a0 l.length c0 l rfl Try.underlying33 Try.underlying5 Try.underlying9 HLV.out
      clear ha4
      simp only [rpZ]
      go_wp2_with fail
      try refine wp_region_noPanic ?_
      refine wp_region_held_drew (S := fun w' => (convert 33 9 (.slice a0 l.length c0)).run Try.prog w' = .ok (.string ⟨l.toArray⟩) w') (by kernel_rfl) (by rw [← hV]; exact hS0) (fun hHeld => ?_)
      rw [← hV] at hHeld ⊢
      clear hV hS0
      refine take_at 0 52 (v := ?_) rfl rfl (by kernel_rfl) (by kernel_rfl) (by kernel_rfl) (fun _ _ _ h => h) (Or.inl ⟨by rfl, ?_⟩) hHeld ?_
      rotate_left
      · (intro w hSw; (try dsimp only at hSw); go_simp; try with_reducible rfl)
      try simp only [List.setIfInBounds_toArray, List.set_cons_zero, List.set_cons_succ]
      refine take_at 1 53 (v := ?_) rfl rfl (by kernel_rfl) (by kernel_rfl) (by kernel_rfl) (fun _ _ _ h => h) (Or.inl ⟨by rfl, ?_⟩) hHeld ?_
      rotate_left
      · (intro w hSw; (try dsimp only at hSw); go_simp; try with_reducible rfl)
      try simp only [List.setIfInBounds_toArray, List.set_cons_zero, List.set_cons_succ]
      refine take_at 2 54 (v := ?_) rfl rfl (by kernel_rfl) (by kernel_rfl) (by kernel_rfl) (fun _ _ _ h => h) (Or.inl ⟨by rfl, ?_⟩) hHeld ?_
      rotate_left
      · (intro w hSw; (try dsimp only at hSw); go_simp; try with_reducible rfl)
      try simp only [List.setIfInBounds_toArray, List.set_cons_zero, List.set_cons_succ]
      refine take_at 3 55 (v := undef) rfl rfl (by kernel_rfl) (by kernel_rfl) (by kernel_rfl) (fun _ _ _ h => h) (Or.inr ⟨by rfl, rfl⟩) hHeld ?_
      try simp only [List.setIfInBounds_toArray, List.set_cons_zero, List.set_cons_succ]
      refine take_at 4 56 (v := undef) rfl rfl (by kernel_rfl) (by kernel_rfl) (by kernel_rfl) (fun _ _ _ h => h) (Or.inr ⟨by rfl, rfl⟩) hHeld ?_
      try simp only [List.setIfInBounds_toArray, List.set_cons_zero, List.set_cons_succ]
      refine take_at 5 57 (v := undef) rfl rfl (by kernel_rfl) (by kernel_rfl) (by kernel_rfl) (fun _ _ _ h => h) (Or.inr ⟨by rfl, rfl⟩) hHeld ?_
      try simp only [List.setIfInBounds_toArray, List.set_cons_zero, List.set_cons_succ]
      refine take_at 6 58 (v := undef) rfl rfl (by kernel_rfl) (by kernel_rfl) (by kernel_rfl) (fun _ _ _ h => h) (Or.inr ⟨by rfl, rfl⟩) hHeld ?_
      try simp only [List.setIfInBounds_toArray, List.set_cons_zero, List.set_cons_succ]
      refine take_at 7 59 (v := undef) rfl rfl (by kernel_rfl) (by kernel_rfl) (by kernel_rfl) (fun _ _ _ h => h) (Or.inr ⟨by rfl, rfl⟩) hHeld ?_
      try simp only [List.setIfInBounds_toArray, List.set_cons_zero, List.set_cons_succ]
      refine take_at 8 60 (v := undef) rfl rfl (by kernel_rfl) (by kernel_rfl) (by kernel_rfl) (fun _ _ _ h => h) (Or.inr ⟨by rfl, rfl⟩) hHeld ?_
      try simp only [List.setIfInBounds_toArray, List.set_cons_zero, List.set_cons_succ]
      refine take_at 9 61 (v := ?_) rfl rfl (by kernel_rfl) (by kernel_rfl) (by kernel_rfl) (fun _ _ _ h => h) (Or.inl ⟨by rfl, ?_⟩) hHeld ?_
      rotate_left
      · (intro w hSw; (try dsimp only at hSw); go_simp; try with_reducible rfl)
      try simp only [List.setIfInBounds_toArray, List.set_cons_zero, List.set_cons_succ]
      refine take_at 10 62 (v := ?_) rfl rfl (by kernel_rfl) (by kernel_rfl) (by kernel_rfl) (fun _ _ _ h => h) (Or.inl ⟨by rfl, ?_⟩) hHeld ?_
      rotate_left
      · (intro w hSw; (try dsimp only at hSw); go_simp; try with_reducible rfl)
      try simp only [List.setIfInBounds_toArray, List.set_cons_zero, List.set_cons_succ]
      refine take_at 11 63 (v := ?_) rfl rfl (by kernel_rfl) (by kernel_rfl) (by kernel_rfl) (fun _ _ _ h => h) (Or.inl ⟨by rfl, ?_⟩) hHeld ?_
      rotate_left
      · (intro w hSw; (try dsimp only at hSw); go_simp; try with_reducible rfl)
      try simp only [List.setIfInBounds_toArray, List.set_cons_zero, List.set_cons_succ]
      refine take_at 12 64 (v := ?_) rfl rfl (by kernel_rfl) (by kernel_rfl) (by kernel_rfl) (fun _ _ _ h => h) (Or.inl ⟨by rfl, ?_⟩) hHeld ?_
      rotate_left
      · (intro w hSw; (try dsimp only at hSw); go_simp; try with_reducible rfl)
      try simp only [List.setIfInBounds_toArray, List.set_cons_zero, List.set_cons_succ]
      refine take_at 13 65 (v := ?_) rfl rfl (by kernel_rfl) (by kernel_rfl) (by kernel_rfl) (fun _ _ _ h => h) (Or.inl ⟨by rfl, ?_⟩) hHeld ?_
      rotate_left
      · (intro w hSw; (try dsimp only at hSw); go_simp; try with_reducible rfl)
      try simp only [List.setIfInBounds_toArray, List.set_cons_zero, List.set_cons_succ]
      refine take_at 14 66 (v := undef) rfl rfl (by kernel_rfl) (by kernel_rfl) (by kernel_rfl) (fun _ _ _ h => h) (Or.inr ⟨by rfl, rfl⟩) hHeld ?_
      try simp only [List.setIfInBounds_toArray, List.set_cons_zero, List.set_cons_succ]
      refine take_at 15 67 (v := undef) rfl rfl (by kernel_rfl) (by kernel_rfl) (by kernel_rfl) (fun _ _ _ h => h) (Or.inr ⟨by rfl, rfl⟩) hHeld ?_
      try simp only [List.setIfInBounds_toArray, List.set_cons_zero, List.set_cons_succ]
      refine take_at 16 68 (v := undef) rfl rfl (by kernel_rfl) (by kernel_rfl) (by kernel_rfl) (fun _ _ _ h => h) (Or.inr ⟨by rfl, rfl⟩) hHeld ?_
      try simp only [List.setIfInBounds_toArray, List.set_cons_zero, List.set_cons_succ]
      refine take_at 17 69 (v := undef) rfl rfl (by kernel_rfl) (by kernel_rfl) (by kernel_rfl) (fun _ _ _ h => h) (Or.inr ⟨by rfl, rfl⟩) hHeld ?_
      try simp only [List.setIfInBounds_toArray, List.set_cons_zero, List.set_cons_succ]
      refine take_at 18 70 (v := undef) rfl rfl (by kernel_rfl) (by kernel_rfl) (by kernel_rfl) (fun _ _ _ h => h) (Or.inr ⟨by rfl, rfl⟩) hHeld ?_
      try simp only [List.setIfInBounds_toArray, List.set_cons_zero, List.set_cons_succ]
      refine take_at 19 71 (v := undef) rfl rfl (by kernel_rfl) (by kernel_rfl) (by kernel_rfl) (fun _ _ _ h => h) (Or.inr ⟨by rfl, rfl⟩) hHeld ?_
      try simp only [List.setIfInBounds_toArray, List.set_cons_zero, List.set_cons_succ]
      refine take_at 20 72 (v := ?_) rfl rfl (by kernel_rfl) (by kernel_rfl) (by kernel_rfl) (fun _ _ _ h => h) (Or.inl ⟨by rfl, ?_⟩) hHeld ?_
      rotate_left
      · (intro w hSw; (try dsimp only at hSw); go_simp; try with_reducible rfl)
      try simp only [List.setIfInBounds_toArray, List.set_cons_zero, List.set_cons_succ]
      refine take_at 21 73 (v := ?_) rfl rfl (by kernel_rfl) (by kernel_rfl) (by kernel_rfl) (fun _ _ _ h => h) (Or.inl ⟨by rfl, ?_⟩) hHeld ?_
      rotate_left
      · (intro w hSw; (try dsimp only at hSw); go_simp; try with_reducible rfl)
      try simp only [List.setIfInBounds_toArray, List.set_cons_zero, List.set_cons_succ]
      refine wpAnyH_done (by kernel_rfl) ?_ _
      try refine NoPanic.normal ?_
      have HC := Lib.hid (rreq_of q _ V HQV.out.2.1 HKq.out (by rw [← HE.out]; omega))
      have q0 := heap_cell HXV.out 0
      have q1 := heap_cell HXV.out 1
      have q2 := heap_cell HXV.out 2
      have q3 := heap_cell HXV.out 3
      have q4 := heap_cell HXV.out 4
      have q5 := heap_cell HXV.out 5
      have q6 := heap_cell HXV.out 6
      have q7 := heap_cell HXV.out 7
      have q8 := heap_cell HXV.out 8
      have q9 := heap_cell HXV.out 9
      have q10 := heap_cell HXV.out 10
      have q11 := heap_cell HXV.out 11
      have q12 := heap_cell HXV.out 12
      have q13 := heap_cell HXV.out 13
      simp at q0 q1 q2 q3 q4 q5 q6 q7 q8 q9 q10 q11 q12 q13
      go_wp2_with fail
      clear q0 q1 q2 q3 q4 q5 q6 q7 q8 q9 q10 q11 q12 q13
      refine HC.out.mono ?_
      clear HC
      rintro ee W6 ⟨v6, rfl, h6, hb6⟩
      rw [List.nil_append, ← HE.out] at h6
      obtain ⟨a6, m6, c6, rfl⟩ := row_slice h6
      have hm6 := row_len' h6
      subst hm6
      have hc6 := row_cap h6
      have HR6 := Lib.hid (row_bytes' h6)
      have HB6 := Lib.hid (HBV.out.trans (hb6.mono HBV.out.size))
      clear h6 hb6
      obtain ⟨P, hP⟩ : ∃ P, P = E.take (C % E.length) := ⟨_, rfl⟩
      have hnl : C % E.length < E.length := Nat.mod_lt _ (by omega)
      have hPl : P.length = C % E.length := by rw [hP, List.length_take]; omega
      have hs1 : ∀ W, (Instr.slice 33 (.slice a6 E.length c6) none (some (.int .i64 ((C : Int) % (E.length : Int)))) none).run Try.prog W = .ok (.slice (cutA a6 c6 0) P.length c6) W := fun W => by
        rw [hPl]
        have e : (C : Int) % (E.length : Int) = ((C % E.length : Nat) : Int) := by omega
        rw [e]
        exact run_slice_h1 (P := Try.prog) W 33 5 i5 Try.underlying33 hi5 z1 a6 E.length c6 (C % E.length) .i64 (by omega)
      have hcb := cutA_bytes HR6.out (lo := 0) (hi := C % E.length) (by omega) hc6
      rw [List.drop_zero, ← hP] at hcb
      have HCut := Lib.hid hcb
      have HP := Lib.hid hP
      have HPl := Lib.hid hPl
      have hpb : P.length ≤ 100000000 := by omega
      have HC := Lib.hid (getreq_any (cutA a6 c6 0) c6 P W6 hpb HCut.out)
      generalize cutA a6 c6 0 = A6 at *
      have hu16 : IntKind.i64.wrap (C : Int) = (C : Int) := by rw [IntKind.wrap_i64]; omega
      have hne : ¬ (E.length = 0) := by omega
      clear hcb hP hPl hnl
      go_wp2_with fail
      refine HC.out.mono ?_
      clear HC hs1
      rintro ee W7 ⟨hb7, hcase⟩
      rcases hcase with ⟨x7, rfl, _, hok7, hex7⟩ | ⟨rfl, _⟩
      · refine absurd hex7 ?_
        rw [HP.out, HE.out]
        refine cut_no q.plain HKq.out _ ?_ _ hok7
        rw [← HE.out]
        exact Nat.mod_lt _ (by omega)
      have HB7 := Lib.hid (HB6.out.trans (hb7.mono HB6.out.size))
      have HR7 := Lib.hid (HR6.out.below hb7)
      clear hb7
      simp only [rqZ]
      have ha7 := (Below.refl W7.heap.size W7).alloc (Nat.le_refl _) (.cells #[.string { data := #[] }, .int .u64 0, .int .i64 0, .int .i64 0, .string { data := #[] }, .int .u64 0, .string { data := #[] }, .string { data := #[] }, .string { data := #[] }, .string { data := #[] }, .slice none 0 0, .slice none 0 0, .slice none 0 0, .slice none 0 0] 30)
      have HB7a := Lib.hid (HB7.out.trans (ha7.mono HB7.out.size))
      have HR7a := Lib.hid (HR7.out.below ha7)
      clear ha7
      go_upto_region 13 with (fail)
      generalize (W7.alloc (.cells #[.string { data := #[] }, .int .u64 0, .int .i64 0, .int .i64 0, .string { data := #[] }, .int .u64 0, .string { data := #[] }, .string { data := #[] }, .string { data := #[] }, .string { data := #[] }, .slice none 0 0, .slice none 0 0, .slice none 0 0, .slice none 0 0] 30)) = W8 at *
      generalize W7.heap.size = y7 at *
      have ha8 := (Below.refl W8.heap.size W8).alloc (Nat.le_refl _) (.cells #[] 5)
      have HEmp := Lib.hid (row_empty W8 W.heap.size 5 1 HB7a.out.size)
      have HB8 := Lib.hid (HB7a.out.trans (ha8.mono HB7a.out.size))
      have HR8 := Lib.hid (HR7a.out.below ha8)
      clear ha8
      go_wp2_with (first | (at_builtin; refine wpList_append_bytes _ rfl (.tmp 88) (.tmp 89) 33 rfl W.heap.size 5 i5 _ Try.underlying33 hi5 z0 z1 z2 rfl (.slice (some ⟨W8.heap.size, 0, none⟩) 0 0) 0 [] (by rfl) HEmp.out a6 E.length c6 E (by rfl) rfl HR8.out (by omega) HB8.out.size ?_; intro v9 w9 hrow9 hg9 _; have HB9 := Lib.hid (Below.own HB8.out HEmp.out (Nat.le_refl _) HB8.out.size hg9); rw [Nat.zero_add, List.nil_append] at hrow9; obtain ⟨a9, m9, c9, rfl⟩ := row_slice hrow9; have hm9 := row_len' hrow9; subst hm9; have HRow9 := Lib.hid hrow9; clear hrow9 hg9) | (at_builtin; refine wpList_append_one w9 rfl (.tmp 90) (.tmp 92) 33 rfl W.heap.size 5 i5 _ 1 Try.underlying33 hi5 z0 z1 z2 rfl (.slice a9 E.length c9) E.length (bytesV E) (by rfl) HRow9.out (.int .u8 (M.toNat : Int)) 1 (by rfl) rfl (by omega) (by omega) HB9.out.size ?_; intro v10 w10 hrow10 hg10 _; have HB10 := Lib.hid (Below.own HB9.out HRow9.out (Nat.le_refl _) HB9.out.size hg10); obtain ⟨P2, hP2⟩ : ∃ P2, P2 = E ++ [M] := ⟨_, rfl⟩; have hrow11 : w10.ownsRow W.heap.size 5 1 v10 P2.length (bytesV P2) := (by rw [hP2, List.length_append, bytesV_append]; exact hrow10); have hpl2 : P2.length ≤ 100000000 := (by rw [hP2, List.length_append]; show E.length + 1 ≤ 100000000; omega); obtain ⟨a10, m10, c10, rfl⟩ := row_slice hrow11; have hm10 := row_len' hrow11; subst hm10; have HR10 := Lib.hid (row_bytes' hrow11); have HP2 := Lib.hid hP2; clear hrow10 hg10 hrow11 hP2))
      refine (getreq_any a10 c10 P2 _ hpl2 HR10.out).mono ?_
      rintro ee W11 ⟨hb11, hcase⟩
      rcases hcase with ⟨x11, rfl, _, hok11, hex11⟩ | ⟨rfl, _⟩
      · refine absurd hex11 ?_
        rw [HP2.out, HE.out]
        exact more_no q.plain HKq.out M _ hok11
      have HB11 := Lib.hid (HB10.out.trans (hb11.mono HB10.out.size))
      clear hb11
      simp only [rqZ]
      have HB11a := Lib.hid (HB11.out.alloc HB11.out.size (.cells #[.string { data := #[] }, .int .u64 0, .int .i64 0, .int .i64 0, .string { data := #[] }, .int .u64 0, .string { data := #[] }, .string { data := #[] }, .string { data := #[] }, .string { data := #[] }, .slice none 0 0, .slice none 0 0, .slice none 0 0, .slice none 0 0] 30))
      go_wp2_with fail
      go_ret
      exact ⟨rfl, HB11a.out⟩
theorem nat_of_u16 {n : Int} (h : (Lit.int .u16 n).wf = true) : ∃ k : Nat, n = k ∧ k < 65536 := by
  have := bounds_u16 h
  exact ⟨n.toNat, by omega, by omega⟩
theorem byte_of_u8 {n : Int} (h : (Lit.int .u8 n).wf = true) : ∃ M : UInt8, n = (M.toNat : Int) := by
  have hb := bounds_u8 h
  refine ⟨UInt8.ofNat n.toNat, ?_⟩
  have e : (UInt8.ofNat n.toNat).toNat = n.toNat % 256 := by simp
  omega
theorem lawReads (a0 : Option Addr) (c0 : Nat) (l : List UInt8) (q : RQE) (C : Nat) (M : UInt8) (W : World) (hl : l.length ≤ 9223372036854775807) (hC : C < 65536) (hib : IsBytes W a0 l) (h : RQok W q) :
    Calls Try.prog 4 #[.slice a0 l.length c0, .agg #[.string q.cl, .int .u64 (q.id : Int), .int .i64 q.kd, .int .i64 q.hw, .string q.tk, .int .u64 (q.n : Int), .string q.ty, .string q.f1, .string q.f2, .string q.f3, .slice q.ws.a q.ws.xs.length q.ws.c, .slice q.ps.a q.ps.xs.length q.ps.c, .slice q.ks.a q.ks.xs.length q.ks.c, .slice q.gs.a q.gs.xs.length q.gs.c], .int .u16 (C : Int), .int .u8 (M.toNat : Int)] W fun e W' => e = .returned (.bool true) ∧ Below W.heap.size W W' := by
  by_cases hA : CaseA l
  · exact lawReadsA a0 c0 l q C M W hl hC hib h hA
  by_cases hB : CaseB l
  · exact lawReadsB a0 c0 l q C M W hl hC hib h hB
  exact lawReadsC a0 c0 l q C M W hl hC hib h ⟨hA, hB⟩
theorem lawReadsI (a0 : Option Addr) (c0 : Nat) (l : List UInt8) (q : RQE) (n m : Int) (W : World) (hl : l.length ≤ 9223372036854775807) (hn : (Lit.int .u16 n).wf = true) (hm : (Lit.int .u8 m).wf = true) (hib : IsBytes W a0 l) (h : RQok W q) :
    Calls Try.prog 4 #[.slice a0 l.length c0, .agg #[.string q.cl, .int .u64 (q.id : Int), .int .i64 q.kd, .int .i64 q.hw, .string q.tk, .int .u64 (q.n : Int), .string q.ty, .string q.f1, .string q.f2, .string q.f3, .slice q.ws.a q.ws.xs.length q.ws.c, .slice q.ps.a q.ps.xs.length q.ps.c, .slice q.ks.a q.ks.xs.length q.ks.c, .slice q.gs.a q.gs.xs.length q.gs.c], .int .u16 n, .int .u8 m] W fun e W' => e = .returned (.bool true) ∧ Below W.heap.size W W' := by
  obtain ⟨C, rfl, hC⟩ := nat_of_u16 hn
  obtain ⟨M, rfl⟩ := byte_of_u8 hm
  exact lawReads a0 c0 l q C M W hl hC hib h
end Go.Proofs.Ytacjbgmnoiimbab
