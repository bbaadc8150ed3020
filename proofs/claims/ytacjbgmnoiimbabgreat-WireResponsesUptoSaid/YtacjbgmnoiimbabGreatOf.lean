/- What the law WireResponses calls, on a response where it lies (printed by genGreatLaw.py). -/
import Derived.Test.YtacjbgmnoiimbabGreatView
namespace Go.Proofs.YtacjbgmnoiimbabGreat
set_option linter.unusedVariables false
set_option linter.unusedSimpArgs false
set_option maxRecDepth 100000
open Go.RowKit

theorem RPok.below {W W' : World} {p : RPE} (h : RPok W p) (hb : Below W.heap.size W W') : RPok W' p :=
  ⟨h.ok, (lsmem_ok nomem_ok).stays h.fs (Stays.below hb), (lsmem_ok nomem_ok).stays h.ts (Stays.below hb), (lsmem_ok nomem_ok).stays h.os (Stays.below hb), (lsmem_ok nomem_ok).stays h.es (Stays.below hb), (lsmem_ok (semem_ok _)).stays h.ss (Stays.below hb), (nemem_ok _).stays h.nd (Stays.below hb), h.tl, h.ol, h.el,
    fun y hy => ⟨(h.sl y hy).1, (semem_ok _).stays (h.sl y hy).2.1 (Stays.below hb), (h.sl y hy).2.2⟩, h.tk, h.ln, h.nl, h.len⟩
theorem sixB_of {y : Six} (h : sixS y) : sixB y := ⟨Nat.le_trans h.1 (by decide), Nat.le_trans h.2.1 (by decide), Nat.le_trans h.2.2.1 (by decide), Nat.le_trans h.2.2.2.1 (by decide), Nat.le_trans h.2.2.2.2.1 (by decide), Nat.le_trans h.2.2.2.2.2 (by decide)⟩
def LowP (p : RPE) : Prop := p.fs.xs.length ≤ 100 ∧ p.ts.xs.length + p.os.xs.length + p.es.xs.length + p.ss.xs.length ≤ 40 ∧ p.nd.ss.length ≤ 200
theorem small_of (p : RPE) (W : World) (h : RPok W p) : Calls Tryz.prog 5 #[.agg #[.int .u64 (p.id : Int), .int .i64 p.er, .int .u64 (p.rv : Int), .string p.tk, .slice p.fs.a p.fs.xs.length p.fs.c, .slice p.ts.a p.ts.xs.length p.ts.c, .slice p.os.a p.os.xs.length p.os.c, .slice p.es.a p.es.xs.length p.es.c, .slice p.ss.a p.ss.xs.length p.ss.c, .int .i64 p.nd.k, .string p.nd.t, .string p.nd.i, .string p.nd.r, .slice p.nd.sa p.nd.ss.length p.nd.sc, .slice p.nd.a p.nd.ps.length p.nd.c]] W (SmallIs (LowP p) W) :=
  smallr_any 1048576 (fun _ => True) p.id p.er p.rv p.tk p.fs.a p.fs.c p.fs.xs p.ts.a p.ts.c p.ts.xs p.os.a p.os.c p.os.xs p.es.a p.es.c p.es.xs p.ss.a p.ss.c p.ss.xs p.nd.k p.nd.t p.nd.i p.nd.r p.nd.sa p.nd.sc p.nd.ss p.nd.a p.nd.c p.nd.ps W h.ts.2.1 h.os.2.1 h.es.2.1 h.ss.2.1 h.ss.2.2.2 (fun y hy => Nat.le_trans (h.sl y hy).2.2.2.2 (by decide)) h.nd.2.2.2.2 (Nat.le_trans h.nl (by decide))
    (Nat.le_trans h.ln.1 (by decide)) (Nat.le_trans h.ln.2.1 (by decide)) (Nat.le_trans h.ln.2.2.1 (by decide)) (Nat.le_trans h.ln.2.2.2.1 (by decide)) (Nat.le_trans h.ln.2.2.2.2 (by decide)) (Nat.le_trans h.tk (by decide)) (fun y hy => sixB_of (h.tl y hy)) (fun y hy => ⟨Nat.le_trans (h.ol y hy).1 (by decide), Nat.le_trans (h.ol y hy).2 (by decide)⟩) (fun y hy => sixB_of (h.el y hy).2) (fun y hy => ⟨sixB_of (h.sl y hy).2.2.1, Nat.le_trans (h.sl y hy).2.2.2.1 (by decide)⟩)
theorem flat_of (p : RPE) (W : World) (h : RPok W p) : Calls Tryz.prog 7 #[.agg #[.int .u64 (p.id : Int), .int .i64 p.er, .int .u64 (p.rv : Int), .string p.tk, .slice p.fs.a p.fs.xs.length p.fs.c, .slice p.ts.a p.ts.xs.length p.ts.c, .slice p.os.a p.os.xs.length p.os.c, .slice p.es.a p.es.xs.length p.es.c, .slice p.ss.a p.ss.xs.length p.ss.c, .int .i64 p.nd.k, .string p.nd.t, .string p.nd.i, .string p.nd.r, .slice p.nd.sa p.nd.ss.length p.nd.sc, .slice p.nd.a p.nd.ps.length p.nd.c]] W (FlatIs (flatP p.plain) W) := by
  have e : flatP p.plain ↔ ((∀ x ∈ p.ss.xs, depR x.r.plain ≤ 64) ∧ depN (NE.plain ⟨p.nd.k, p.nd.t, p.nd.i, p.nd.r, p.nd.sa, p.nd.sc, p.nd.ss, p.nd.a, p.nd.c, p.nd.ps⟩) ≤ 64) := by
    show ((∀ x ∈ p.ss.xs.map SE.plain, depR x.2.1 ≤ 64) ∧ depN p.nd.plain ≤ 64) ↔ _
    constructor
    · rintro ⟨h1, h2⟩
      exact ⟨fun x hx => h1 _ (List.mem_map_of_mem hx), h2⟩
    · rintro ⟨h1, h2⟩
      refine ⟨fun x hx => ?_, h2⟩
      obtain ⟨y, hy, rfl⟩ := List.mem_map.1 hx
      exact h1 y hy
  refine (flat_any 1048576 (fun _ => True) p.id p.er p.rv p.tk p.fs.a p.fs.c p.fs.xs p.ts.a p.ts.c p.ts.xs p.os.a p.os.c p.os.xs p.es.a p.es.c p.es.xs p.ss.a p.ss.c p.ss.xs p.nd.k p.nd.t p.nd.i p.nd.r p.nd.sa p.nd.sc p.nd.ss p.nd.a p.nd.c p.nd.ps W h.ss.2.1 h.ss.2.2.2 (fun y hy => Nat.le_trans (h.sl y hy).2.2.2.2 (by decide)) (Nat.le_trans h.ln.2.2.2.2 (by decide)) h.nd.2.2.2.2 (Nat.le_trans h.nl (by decide))).mono ?_
  rintro ee W' ⟨b, rfl, hb, hbel⟩
  exact ⟨b, rfl, hb.trans e.symm, hbel⟩
theorem putresp_of (p : RPE) (W : World) (h : RPok W p) (hl : LowP p) : Calls Tryz.prog 6 #[.agg #[.int .u64 (p.id : Int), .int .i64 p.er, .int .u64 (p.rv : Int), .string p.tk, .slice p.fs.a p.fs.xs.length p.fs.c, .slice p.ts.a p.ts.xs.length p.ts.c, .slice p.os.a p.os.xs.length p.os.c, .slice p.es.a p.es.xs.length p.es.c, .slice p.ss.a p.ss.xs.length p.ss.c, .int .i64 p.nd.k, .string p.nd.t, .string p.nd.i, .string p.nd.r, .slice p.nd.sa p.nd.ss.length p.nd.sc, .slice p.nd.a p.nd.ps.length p.nd.c]] W (PutDoes ([112, 49] ++ respE p.plain) (¬ flatP p.plain) W) := by
  have hok := h.ok
  have e : ((∃ x ∈ p.ss.xs, seB x 0) ∨ badN p.nd.plain 0) ↔ ¬ flatP p.plain := by
    rw [flat_iff, Classical.not_not]
    unfold rpbad
    constructor
    · rintro (⟨x, hx, h⟩ | h)
      · exact .inl ⟨_, List.mem_map_of_mem hx, h⟩
      · exact .inr h
    · rintro (⟨x, hx, h⟩ | h)
      · obtain ⟨y, hy, rfl⟩ := List.mem_map.1 hx
        exact .inl ⟨y, hy, h⟩
      · exact .inr h
  refine (putresp_any 1048576 p.id p.er p.rv p.tk p.fs.a p.fs.c p.fs.xs p.ts.a p.ts.c p.ts.xs p.os.a p.os.c p.os.xs p.es.a p.es.c p.es.xs p.ss.a p.ss.c p.ss.xs p.nd.k p.nd.t p.nd.i p.nd.r p.nd.sa p.nd.sc p.nd.ss p.nd.a p.nd.c p.nd.ps W hok.1 hok.2.1 hok.2.2.1 h.fs.2.1 h.ts.2.1 h.os.2.1 h.es.2.1 (fun y hy => (h.el y hy).1) h.ss.2.1 (fun y hy => ?_) (fun y hy => (h.sl y hy).1) h.nd.2.2.1 ?_ hok.2.2.2.2.2.2.2.2.2
    ⟨Nat.le_trans hl.1 (by decide), Nat.le_trans (m := 40) (by have := hl.2.1; omega) (by decide), Nat.le_trans (m := 40) (by have := hl.2.1; omega) (by decide), Nat.le_trans (m := 40) (by have := hl.2.1; omega) (by decide), Nat.le_trans hl.2.2 (by decide)⟩ (Nat.le_trans h.len (by decide))).mono ?_
  · have := (semem_ok 1048576).weak (S' := (· < W.heap.size)) (fun b hb => hb.2) ((semem_ok 1048576).lt (h.ss.2.2.2 y hy))
    exact ⟨this.1.1, this.1.2, this.2.1, this.2.2.1, this.2.2.2.1⟩
  · exact ((nemem_ok 1048576).weak (S' := (· < W.heap.size)) (fun b hb => hb.2) ((nemem_ok 1048576).lt h.nd)).2.2.2.2
  · rintro ee W' ⟨h1, h2, h3⟩
    exact ⟨fun hn => h1 (fun hb => hn (e.1 hb)), fun hb => h2 (e.2 hb), h3⟩
theorem rresp_of (p : RPE) (W : World) (h : RPok W p) : Calls Tryz.prog 9 #[.agg #[.int .u64 (p.id : Int), .int .i64 p.er, .int .u64 (p.rv : Int), .string p.tk, .slice p.fs.a p.fs.xs.length p.fs.c, .slice p.ts.a p.ts.xs.length p.ts.c, .slice p.os.a p.os.xs.length p.os.c, .slice p.es.a p.es.xs.length p.es.c, .slice p.ss.a p.ss.xs.length p.ss.c, .int .i64 p.nd.k, .string p.nd.t, .string p.nd.i, .string p.nd.r, .slice p.nd.sa p.nd.ss.length p.nd.sc, .slice p.nd.a p.nd.ps.length p.nd.c]] W (RF [] ([112, 49] ++ respE p.plain) W) := by
  have hok := h.ok
  have hl := h.len
  have e : [112, 49] ++ respE p.plain = ([112, 49] ++ (uv p.id ++ (intE p.er ++ (uv p.rv ++ (txt p.tk ++ (listE boolE p.fs.xs ++ (listE sixE p.ts.xs ++ (listE duoE p.os.xs ++ (listE evtE p.es.xs ++ (listE seE p.ss.xs ++ neE (⟨p.nd.k, p.nd.t, p.nd.i, p.nd.r, p.nd.sa, p.nd.sc, p.nd.ss, p.nd.a, p.nd.c, p.nd.ps⟩ : NE))))))))))) := by
    rw [seE_list]; rfl
  rw [e] at hl ⊢
  exact rresp_cells (fun _ => True) 1048576 p.id p.er p.rv p.tk p.fs.a p.fs.c p.fs.xs p.ts.a p.ts.c p.ts.xs p.os.a p.os.c p.os.xs p.es.a p.es.c p.es.xs p.ss.a p.ss.c p.ss.xs p.nd.k p.nd.t p.nd.i p.nd.r p.nd.sa p.nd.sc p.nd.ss p.nd.a p.nd.c p.nd.ps W hok.1 hok.2.1 hok.2.2.1 h.fs.2.1 h.ts.2.1 h.os.2.1 h.es.2.1 (fun y hy => (h.el y hy).1) h.ss.2.1 h.ss.2.2.2 (fun y hy => (h.sl y hy).1) h.nd hok.2.2.2.2.2.2.2.2.2 (Nat.le_trans hl (by decide))
theorem same_of (x p : RPE) (S : Nat → Prop) (W : World) (hx : rpmem S W x) (h : RPok W p) (he : x.plain = p.plain) :
    Calls Tryz.prog 10 #[.agg #[.int .u64 (x.id : Int), .int .i64 x.er, .int .u64 (x.rv : Int), .string x.tk, .slice x.fs.a x.fs.xs.length x.fs.c, .slice x.ts.a x.ts.xs.length x.ts.c, .slice x.os.a x.os.xs.length x.os.c, .slice x.es.a x.es.xs.length x.es.c, .slice x.ss.a x.ss.xs.length x.ss.c, .int .i64 x.nd.k, .string x.nd.t, .string x.nd.i, .string x.nd.r, .slice x.nd.sa x.nd.ss.length x.nd.sc, .slice x.nd.a x.nd.ps.length x.nd.c], .agg #[.int .u64 (p.id : Int), .int .i64 p.er, .int .u64 (p.rv : Int), .string p.tk, .slice p.fs.a p.fs.xs.length p.fs.c, .slice p.ts.a p.ts.xs.length p.ts.c, .slice p.os.a p.os.xs.length p.os.c, .slice p.es.a p.es.xs.length p.es.c, .slice p.ss.a p.ss.xs.length p.ss.c, .int .i64 p.nd.k, .string p.nd.t, .string p.nd.i, .string p.nd.r, .slice p.nd.sa p.nd.ss.length p.nd.sc, .slice p.nd.a p.nd.ps.length p.nd.c]] W (TrueIs W) := by
  obtain ⟨xid, xer, xrv, xtk, ⟨xfa, xfc, xfs⟩, ⟨xta, xtc, xts⟩, ⟨xoa, xoc, xos⟩, ⟨xea, xec, xes⟩, ⟨xsa, xsc, xss⟩, ⟨xk, xt, xi, xr, xna, xnc, xns, xpa, xpc, xps⟩⟩ := x
  obtain ⟨pid, per, prv, ptk, ⟨pfa, pfc, pfs⟩, ⟨pta, ptc, pts⟩, ⟨poa, poc, pos⟩, ⟨pea, pec, pes⟩, ⟨psa, psc, pss⟩, ⟨pk, pt, pi, pr, pna, pnc, pns, ppa, ppc, pps⟩⟩ := p
  simp only [RPE.plain, NE.plain, Prod.mk.injEq, PN.mk.injEq] at he
  obtain ⟨rfl, rfl, rfl, rfl, rfl, rfl, rfl, rfl, hss, rfl, ⟨rfl, rfl⟩, rfl, rfl, rfl⟩ := he
  obtain ⟨k1, k2, k3, k4, k5, k6⟩ := hx
  have hls : xss.length = pss.length := by
    have := congrArg List.length hss
    rwa [List.length_map, List.length_map] at this
  have hln := h.ln
  refine samep_any 64 1048576 S (fun _ => True) xid xer xrv xtk xfa xfc pfa pfc xfs xta xtc pta ptc xts xoa xoc poa poc xos xea xec pea pec xes xsa xsc psa psc xss pss xk xt xi xr xna xnc pna pnc xns xpa xpc ppa ppc xps W k1.2.1 h.fs.2.1 k2.2.1 h.ts.2.1 k3.2.1 h.os.2.1 k4.2.1 h.es.2.1 k5.2.1 h.ss.2.1 k5.2.2.2 h.ss.2.2.2 hss k6 h.nd
    (Nat.le_trans hln.1 (by decide)) (Nat.le_trans hln.2.1 (by decide)) (Nat.le_trans hln.2.2.1 (by decide)) (Nat.le_trans hln.2.2.2.1 (by decide)) (by rw [hls]; exact Nat.le_trans hln.2.2.2.2 (by decide)) (fun y hy => ?_) (Nat.le_trans h.nl (by decide))
  have hm : y.plain ∈ pss.map SE.plain := by rw [← hss]; exact List.mem_map_of_mem hy
  obtain ⟨z, hz, hze⟩ := List.mem_map.1 hm
  have hq := h.sl z hz
  obtain ⟨_, ⟨yk, yA, yB, ya, yc, yps⟩, _, yba, ybc, ybs⟩ := y
  obtain ⟨_, ⟨zk, zA, zB, za, zc, zps⟩, _, zba, zbc, zbs⟩ := z
  simp only [SE.plain, RE.plain, Prod.mk.injEq, PR.mk.injEq] at hze
  obtain ⟨rfl, ⟨rfl, rfl, rfl, rfl⟩, rfl, rfl⟩ := hze
  exact ⟨Nat.le_trans hq.2.2.2.2 (by decide), Nat.le_trans hq.2.2.2.1 (by decide)⟩
end Go.Proofs.YtacjbgmnoiimbabGreat
