/- The fixed calls: walked (printed by genWireFx.py). -/
import Derived.Test.YtacjbgmnoiimbabGreatSame
import Derived.Test.YtacjbgmnoiimbabGreatRfG
import Derived.Test.YtacjbgmnoiimbabGreatWrI
import Derived.Test.YtacjbgmnoiimbabGreatWrJ
namespace Go.Proofs.YtacjbgmnoiimbabGreat
set_option linter.unusedVariables false
set_option linter.unusedSimpArgs false
open Go.RowKit

/-- a request where it lies is written -/
theorem putreq_of (x : RQE) (S : Nat → Prop) (W : World) (hm : rqmem S W x) (hok : reqok x.plain) (hlw : x.ws.xs.length ≤ 1000 ∧ x.ps.xs.length ≤ 1000 ∧ x.ks.xs.length ≤ 1000 ∧ x.gs.xs.length ≤ 1000) (hl : ([113, 49] ++ reqE x.plain).length ≤ 100000000) :
    Calls Tryz.prog 11 #[.agg #[.string x.cl, .int .u64 (x.id : Int), .int .i64 x.kd, .int .i64 x.hw, .string x.tk, .int .u64 (x.n : Int), .string x.ty, .string x.f1, .string x.f2, .string x.f3, .slice x.ws.a x.ws.xs.length x.ws.c, .slice x.ps.a x.ps.xs.length x.ps.c, .slice x.ks.a x.ks.xs.length x.ks.c, .slice x.gs.a x.gs.xs.length x.gs.c]] W (PutDoes ([113, 49] ++ reqE x.plain) False W) :=
  putreq_any x.cl x.id x.kd x.hw x.tk x.n x.ty x.f1 x.f2 x.f3 x.ws.a x.ws.c x.ws.xs x.ps.a x.ps.c x.ps.xs x.ks.a x.ks.c x.ks.xs x.gs.a x.gs.c x.gs.xs W hok.2.1 hok.2.2.1 hok.2.2.2.1 hok.2.2.2.2.2.1 hm.1.2.1 hm.2.1.2.1 hm.2.2.1.2.1 hm.2.2.2.2.1
    (fun y hy => ⟨(hok.2.2.2.2.2.2.2.2.2.2.2.2 y hy).2.1, (hok.2.2.2.2.2.2.2.2.2.2.2.2 y hy).2.2.1⟩) hlw hl
def lsZ {T : Type} : LS T := ⟨none, 0, []⟩
def zq : RQE := ⟨⟨#[]⟩, 0, 0, 0, ⟨#[]⟩, 0, ⟨#[]⟩, ⟨#[]⟩, ⟨#[]⟩, ⟨#[]⟩, lsZ, lsZ, lsZ, lsZ⟩
theorem lsmem_nil {T : Type} [Inhabited T] (cells : T → List Value) (size : Nat) (mem : (Nat → Prop) → World → T → Prop) (S : Nat → Prop) (W : World) : lsmem cells size mem S W lsZ :=
  ⟨Nat.le_refl _, fun h => absurd h (Nat.lt_irrefl 0), fun h => absurd h (Nat.lt_irrefl 0), fun x hx => by cases hx⟩
theorem zq_mem (S : Nat → Prop) (W : World) : rqmem S W zq := ⟨lsmem_nil _ _ _ _ _, lsmem_nil _ _ _ _ _, lsmem_nil _ _ _ _ _, lsmem_nil _ _ _ _ _⟩
theorem tok_nil : tok ⟨#[]⟩ := by unfold tok; decide
theorem iok_zero : iok 0 := by unfold iok; omega
theorem nok_zero : nok 0 := by unfold nok; decide
theorem lok_nil {T : Type} (ok : T → Prop) : lok ok [] := ⟨by show 0 < 18446744073709551616; decide, fun x hx => by cases hx⟩
theorem zq_ok : reqok zq.plain := ⟨tok_nil, nok_zero, iok_zero, iok_zero, tok_nil, nok_zero, tok_nil, ⟨tok_nil, tok_nil, tok_nil⟩, lok_nil _, lok_nil _, lok_nil _, lok_nil _⟩
theorem txt_nil : txt ⟨#[]⟩ = [0] := by
  rw [txt_eq]
  show uv 0 ++ [] = [0]
  rw [uv_zero]; rfl
theorem intE_zero : intE 0 = [0] := by
  unfold intE
  rw [show zig 0 = 0 from rfl, uv_zero]
theorem listE_nil {T : Type} (en : T → List UInt8) : listE en [] = [0] := by
  unfold listE
  show uv 0 ++ [] = [0]
  rw [uv_zero]; rfl
theorem zq_len : ([113, 49] ++ reqE zq.plain).length = 16 := by
  have e : reqE zq.plain = [0, 0, 0, 0, 0, 0, 0, 0, 0, 0, 0, 0, 0, 0] := by
    show txt ⟨#[]⟩ ++ (uv 0 ++ (intE 0 ++ (intE 0 ++ (txt ⟨#[]⟩ ++ (uv 0 ++ (txt ⟨#[]⟩ ++ (triE (⟨#[]⟩, ⟨#[]⟩, ⟨#[]⟩) ++ (listE wrtE [] ++ (listE wrtE [] ++ (listE sixE [] ++ listE argE [])))))))))) = _
    unfold triE
    rw [txt_nil, uv_zero, intE_zero, listE_nil, listE_nil, listE_nil]; rfl
  rw [e]; rfl
/-- a response where it lies -/
def ndZ : NE := ⟨0, ⟨#[]⟩, ⟨#[]⟩, ⟨#[]⟩, none, 0, [], none, 0, []⟩
def zp (id : Nat) : RPE := ⟨id, 0, 0, ⟨#[]⟩, lsZ, lsZ, lsZ, lsZ, lsZ, ndZ⟩
theorem ndZ_ok : okN ndZ.plain := (okN_eq _ _ _ _ _).2 ⟨iok_zero, ⟨tok_nil, tok_nil⟩, tok_nil, lok_nil _, by decide, okNs_iff.2 (fun x hx => by cases hx)⟩
theorem zp_ok (id : Nat) (h : id < 18446744073709551616) : respok (zp id).plain := ⟨h, iok_zero, nok_zero, tok_nil, lok_nil _, lok_nil _, lok_nil _, lok_nil _, lok_nil _, ndZ_ok⟩
theorem zp_flat (id : Nat) : flatP (zp id).plain := ⟨(fun x hx => by cases hx), by
  show depN (.mk 0 (⟨#[]⟩, ⟨#[]⟩) ⟨#[]⟩ [] []) ≤ 64
  rw [depN_eq, depNs]; decide⟩
theorem encN_zero : encN ndZ.plain = [0, 0, 0, 0, 0, 0] := by
  show encN (.mk 0 (⟨#[]⟩, ⟨#[]⟩) ⟨#[]⟩ [] []) = _
  rw [encN_eq]
  unfold duoE
  rw [txt_nil, intE_zero, listE_nil, listE_nil]; rfl
theorem zp3_len : ([112, 49] ++ respE (zp 3).plain).length ≤ 100000000 := by
  show ([112, 49] ++ (uv 3 ++ (intE 0 ++ (uv 0 ++ (txt ⟨#[]⟩ ++ (listE boolE [] ++ (listE sixE [] ++ (listE duoE [] ++ (listE evtE [] ++ (listE stepE [] ++ encN ndZ.plain)))))))))).length ≤ _
  rw [encN_zero, txt_nil, uv_zero, intE_zero, listE_nil, listE_nil, listE_nil, listE_nil, listE_nil]
  have := uv_len64 3 (by decide)
  simp only [List.length_append, List.length_cons, List.length_nil]
  omega
theorem putzero (W : World) : Calls Tryz.prog 6 #[.agg #[.int .u64 3, .int .i64 0, .int .u64 0, .string { data := #[] }, .slice none 0 0, .slice none 0 0, .slice none 0 0, .slice none 0 0, .slice none 0 0, .int .i64 0, .string { data := #[] }, .string { data := #[] }, .string { data := #[] }, .slice none 0 0, .slice none 0 0]] W (PutDoes ([112, 49] ++ respE (zp 3).plain) ((∃ x ∈ ([] : List SE), seB x 0) ∨ badN ndZ.plain 0) W) :=
  putresp_any 0 3 0 0 ⟨#[]⟩ none 0 [] none 0 [] none 0 [] none 0 [] none 0 [] 0 ⟨#[]⟩ ⟨#[]⟩ ⟨#[]⟩ none 0 [] none 0 [] W (by decide) iok_zero (by decide) (fun h => absurd h (Nat.lt_irrefl 0)) (fun h => absurd h (Nat.lt_irrefl 0)) (fun h => absurd h (Nat.lt_irrefl 0)) (fun h => absurd h (Nat.lt_irrefl 0)) (fun x hx => by cases hx) (fun h => absurd h (Nat.lt_irrefl 0)) (fun x hx => by cases hx) (fun x hx => by cases hx) (fun h => absurd h (Nat.lt_irrefl 0)) rfl ndZ_ok ⟨by decide, by decide, by decide, by decide, by decide⟩ zp3_len
set_option maxRecDepth 100000 in
set_option maxHeartbeats 8000000 in
theorem fixed_any (W : World) : Calls Tryz.prog 4 #[] W fun e W' => e = .returned (.bool true) ∧ Below W.heap.size W W' := by
  obtain ⟨E, hE⟩ : ∃ E, E = [113, 49] ++ reqE zq.plain := ⟨_, rfl⟩
  have he16 : ((E.length : Int) == 16) = true := by rw [hE, zq_len]; rfl
  have heb : E.length ≤ 100000000 := by rw [hE, zq_len]; decide
  obtain ⟨F, hF⟩ : ∃ F, F = [112, 49] ++ respE (zp 3).plain := ⟨_, rfl⟩
  have hfb : F.length ≤ 100000000 := by rw [hF]; exact zp3_len
  have HE := Lib.hid hE
  have HF := Lib.hid hF
  have HC : Hid (Calls Tryz.prog 11 #[.agg #[.string { data := #[] }, .int .u64 0, .int .i64 0, .int .i64 0, .string { data := #[] }, .int .u64 0, .string { data := #[] }, .string { data := #[] }, .string { data := #[] }, .string { data := #[] }, .slice none 0 0, .slice none 0 0, .slice none 0 0, .slice none 0 0]] W (PutDoes E False W)) := (by rw [hE]; exact putreq_of zq (fun _ => True) W (zq_mem _ _) zq_ok ⟨by decide, by decide, by decide, by decide⟩ (by rw [zq_len]; decide) : Calls Tryz.prog 11 #[.agg #[.string { data := #[] }, .int .u64 0, .int .i64 0, .int .i64 0, .string { data := #[] }, .int .u64 0, .string { data := #[] }, .string { data := #[] }, .string { data := #[] }, .string { data := #[] }, .slice none 0 0, .slice none 0 0, .slice none 0 0, .slice none 0 0]] W (PutDoes E False W))
  clear hE hF
  go_enter Tryz.func4, Tryz.ntmps4
  go_wp2_with fail
  refine HC.out.mono ?_
  clear HC
  rintro ee W1 ⟨hp, _, hb1⟩
  obtain ⟨a, c, rfl, hac, hib⟩ := hp id
  have HB1 := Lib.hid hb1
  have HC := Lib.hid (getreq_any a c E W1 heb hib)
  clear hp hb1 hib
  go_wp2_with fail
  refine HC.out.mono ?_
  clear HC
  rintro ee W2 ⟨hb2, hcase⟩
  have HB2 := Lib.hid (HB1.out.trans (hb2.mono HB1.out.size))
  rcases hcase with ⟨x, rfl, hmx, hokx, hex⟩ | ⟨_, hno⟩
  rotate_left
  · exact absurd HE.out (hno zq.plain zq_ok)
  have hplain : x.plain = zq.plain := by
    have h1 : reqE x.plain ++ [] = reqE zq.plain ++ [] := by
      rw [List.append_nil, List.append_nil]
      exact List.append_cancel_left (hex.symm.trans HE.out)
    exact (uq_req _ _ _ _ hokx zq_ok h1).1
  have HMx := Lib.hid hmx
  have HKx := Lib.hid hokx
  have HPl := Lib.hid hplain
  have HEx := Lib.hid hex
  clear hb2 hmx hokx hex hplain
  simp only [rqV, lsV]
  have ha2 := (Below.refl W2.heap.size W2).alloc (Nat.le_refl _) (.cells #[.string x.cl, .int .u64 (x.id : Int), .int .i64 x.kd, .int .i64 x.hw, .string x.tk, .int .u64 (x.n : Int), .string x.ty, .string x.f1, .string x.f2, .string x.f3, .slice x.ws.a x.ws.xs.length x.ws.c, .slice x.ps.a x.ps.xs.length x.ps.c, .slice x.ks.a x.ks.xs.length x.ks.c, .slice x.gs.a x.gs.xs.length x.gs.c] 54)
  have HB2a := Lib.hid (HB2.out.trans (ha2.mono HB2.out.size))
  have HM2a := Lib.hid (rqmem.below HMx.out ha2)
  have HX2a := Lib.hid (heap_alloc_new W2 (.cells #[.string x.cl, .int .u64 (x.id : Int), .int .i64 x.kd, .int .i64 x.hw, .string x.tk, .int .u64 (x.n : Int), .string x.ty, .string x.f1, .string x.f2, .string x.f3, .slice x.ws.a x.ws.xs.length x.ws.c, .slice x.ps.a x.ps.xs.length x.ps.c, .slice x.ks.a x.ks.xs.length x.ks.c, .slice x.gs.a x.gs.xs.length x.gs.c] 54))
  have HC : Hid (Calls Tryz.prog 12 #[.slice none 0 0] (W2.alloc (.cells #[.string x.cl, .int .u64 (x.id : Int), .int .i64 x.kd, .int .i64 x.hw, .string x.tk, .int .u64 (x.n : Int), .string x.ty, .string x.f1, .string x.f2, .string x.f3, .slice x.ws.a x.ws.xs.length x.ws.c, .slice x.ps.a x.ps.xs.length x.ps.c, .slice x.ks.a x.ks.xs.length x.ks.c, .slice x.gs.a x.gs.xs.length x.gs.c] 54)) (GReq [] (W2.alloc (.cells #[.string x.cl, .int .u64 (x.id : Int), .int .i64 x.kd, .int .i64 x.hw, .string x.tk, .int .u64 (x.n : Int), .string x.ty, .string x.f1, .string x.f2, .string x.f3, .slice x.ws.a x.ws.xs.length x.ws.c, .slice x.ps.a x.ps.xs.length x.ps.c, .slice x.ks.a x.ks.xs.length x.ks.c, .slice x.gs.a x.gs.xs.length x.gs.c] 54)))) := getreq_any none 0 [] _ (by decide) (fun h => absurd h (Nat.lt_irrefl 0))
  clear ha2
  go_wp2_with fail
  generalize (W2.alloc (.cells #[.string x.cl, .int .u64 (x.id : Int), .int .i64 x.kd, .int .i64 x.hw, .string x.tk, .int .u64 (x.n : Int), .string x.ty, .string x.f1, .string x.f2, .string x.f3, .slice x.ws.a x.ws.xs.length x.ws.c, .slice x.ps.a x.ps.xs.length x.ps.c, .slice x.ks.a x.ks.xs.length x.ks.c, .slice x.gs.a x.gs.xs.length x.gs.c] 54)) = W2a at *
  obtain ⟨y2, hy2⟩ : ∃ y2, y2 = W2.heap.size := ⟨_, rfl⟩
  rw [← hy2] at HX2a
  rw [← hy2]
  have HHy := Lib.hid hy2
  clear hy2
  refine HC.out.mono ?_
  clear HC
  rintro ee W3 ⟨hb3, hcase⟩
  rcases hcase with ⟨x3, rfl, _, _, hex3⟩ | ⟨rfl, _⟩
  · exact absurd hex3 (fun h => by cases h)
  have HB3 := Lib.hid (HB2a.out.trans (hb3.mono HB2a.out.size))
  have HM3 := Lib.hid (rqmem.below HM2a.out hb3)
  have HX3 := Lib.hid ((hb3.block _ (heap_lt HX2a.out)).trans HX2a.out)
  clear hb3
  simp only [rqZ]
  have ha3 := (Below.refl W3.heap.size W3).alloc (Nat.le_refl _) (.cells #[.string { data := #[] }, .int .u64 0, .int .i64 0, .int .i64 0, .string { data := #[] }, .int .u64 0, .string { data := #[] }, .string { data := #[] }, .string { data := #[] }, .string { data := #[] }, .slice none 0 0, .slice none 0 0, .slice none 0 0, .slice none 0 0] 54)
  have HB3a := Lib.hid (HB3.out.trans (ha3.mono HB3.out.size))
  have HM3a := Lib.hid (rqmem.below HM3.out ha3)
  have HX3a := Lib.hid ((ha3.block _ (heap_lt HX3.out)).trans HX3.out)
  have HC := Lib.hid (putzero (W3.alloc (.cells #[.string { data := #[] }, .int .u64 0, .int .i64 0, .int .i64 0, .string { data := #[] }, .int .u64 0, .string { data := #[] }, .string { data := #[] }, .string { data := #[] }, .string { data := #[] }, .slice none 0 0, .slice none 0 0, .slice none 0 0, .slice none 0 0] 54)))
  rw [← HF.out] at HC
  clear ha3
  go_wp2_with fail
  generalize (W3.alloc (.cells #[.string { data := #[] }, .int .u64 0, .int .i64 0, .int .i64 0, .string { data := #[] }, .int .u64 0, .string { data := #[] }, .string { data := #[] }, .string { data := #[] }, .string { data := #[] }, .slice none 0 0, .slice none 0 0, .slice none 0 0, .slice none 0 0] 54)) = W3a at *
  refine HC.out.mono ?_
  clear HC
  rintro ee W4 ⟨hp, _, hb4⟩
  obtain ⟨a4, c4, rfl, hac4, hib4⟩ := hp (fun h => h.elim (fun ⟨x, hx, _⟩ => by cases hx) (fun h => by
    have e : depN ndZ.plain ≤ 64 := (zp_flat 3).2
    unfold badN at h
    omega))
  have HB4 := Lib.hid (HB3a.out.trans (hb4.mono HB3a.out.size))
  have HM4 := Lib.hid (rqmem.below HM3a.out hb4)
  have HX4 := Lib.hid ((hb4.block _ (heap_lt HX3a.out)).trans HX3a.out)
  have HC := Lib.hid (getresp_any a4 c4 F W4 hfb hib4)
  clear hp hb4 hib4
  go_wp2_with fail
  refine HC.out.mono ?_
  clear HC
  rintro ee W5 ⟨hb5, hcase⟩
  rcases hcase with ⟨p, rfl, _, hokp, _, hep⟩ | ⟨_, hno⟩
  rotate_left
  · exact absurd HF.out (hno (zp 3).plain (zp_ok 3 (by decide)) (zp_flat 3))
  have hid3 : ((p.id : Int) == 3) = true := by
    have h1 : respE p.plain ++ [] = respE (zp 3).plain ++ [] := by
      rw [List.append_nil, List.append_nil]
      exact List.append_cancel_left (hep.symm.trans HF.out)
    have h2 := (uq_resp _ _ _ _ hokp (zp_ok 3 (by decide)) h1).1
    have h3 : p.id = 3 := congrArg (fun r : RP => r.1) h2
    rw [h3]; rfl
  have HB5 := Lib.hid (HB4.out.trans (hb5.mono HB4.out.size))
  have HM5 := Lib.hid (rqmem.below HM4.out hb5)
  have HX5 := Lib.hid ((hb5.block _ (heap_lt HX4.out)).trans HX4.out)
  clear hb5 hokp hep
  simp only [rpV, lsV]
  have ha5 := (Below.refl W5.heap.size W5).alloc (Nat.le_refl _) (.cells #[.int .u64 (p.id : Int), .int .i64 p.er, .int .u64 (p.rv : Int), .string p.tk, .slice p.fs.a p.fs.xs.length p.fs.c, .slice p.ts.a p.ts.xs.length p.ts.c, .slice p.os.a p.os.xs.length p.os.c, .slice p.es.a p.es.xs.length p.es.c, .slice p.ss.a p.ss.xs.length p.ss.c, .int .i64 p.nd.k, .string p.nd.t, .string p.nd.i, .string p.nd.r, .slice p.nd.sa p.nd.ss.length p.nd.sc, .slice p.nd.a p.nd.ps.length p.nd.c] 36)
  have HB5a := Lib.hid (HB5.out.trans (ha5.mono HB5.out.size))
  have HM5a := Lib.hid (rqmem.below HM5.out ha5)
  have HX5a := Lib.hid ((ha5.block _ (heap_lt HX5.out)).trans HX5.out)
  have HY5a := Lib.hid (heap_alloc_new W5 (.cells #[.int .u64 (p.id : Int), .int .i64 p.er, .int .u64 (p.rv : Int), .string p.tk, .slice p.fs.a p.fs.xs.length p.fs.c, .slice p.ts.a p.ts.xs.length p.ts.c, .slice p.os.a p.os.xs.length p.os.c, .slice p.es.a p.es.xs.length p.es.c, .slice p.ss.a p.ss.xs.length p.ss.c, .int .i64 p.nd.k, .string p.nd.t, .string p.nd.i, .string p.nd.r, .slice p.nd.sa p.nd.ss.length p.nd.sc, .slice p.nd.a p.nd.ps.length p.nd.c] 36))
  clear ha5
  have HC : Hid (Calls Tryz.prog 13 #[.agg #[.string x.cl, .int .u64 (x.id : Int), .int .i64 x.kd, .int .i64 x.hw, .string x.tk, .int .u64 (x.n : Int), .string x.ty, .string x.f1, .string x.f2, .string x.f3, .slice x.ws.a x.ws.xs.length x.ws.c, .slice x.ps.a x.ps.xs.length x.ps.c, .slice x.ks.a x.ks.xs.length x.ks.c, .slice x.gs.a x.gs.xs.length x.gs.c], .agg #[.string { data := #[] }, .int .u64 0, .int .i64 0, .int .i64 0, .string { data := #[] }, .int .u64 0, .string { data := #[] }, .string { data := #[] }, .string { data := #[] }, .string { data := #[] }, .slice none 0 0, .slice none 0 0, .slice none 0 0, .slice none 0 0]] (W5.alloc (.cells #[.int .u64 (p.id : Int), .int .i64 p.er, .int .u64 (p.rv : Int), .string p.tk, .slice p.fs.a p.fs.xs.length p.fs.c, .slice p.ts.a p.ts.xs.length p.ts.c, .slice p.os.a p.os.xs.length p.os.c, .slice p.es.a p.es.xs.length p.es.c, .slice p.ss.a p.ss.xs.length p.ss.c, .int .i64 p.nd.k, .string p.nd.t, .string p.nd.i, .string p.nd.r, .slice p.nd.sa p.nd.ss.length p.nd.sc, .slice p.nd.a p.nd.ps.length p.nd.c] 36)) (fun e W' => e = .returned (.bool true) ∧ Below (W5.alloc (.cells #[.int .u64 (p.id : Int), .int .i64 p.er, .int .u64 (p.rv : Int), .string p.tk, .slice p.fs.a p.fs.xs.length p.fs.c, .slice p.ts.a p.ts.xs.length p.ts.c, .slice p.os.a p.os.xs.length p.os.c, .slice p.es.a p.es.xs.length p.es.c, .slice p.ss.a p.ss.xs.length p.ss.c, .int .i64 p.nd.k, .string p.nd.t, .string p.nd.i, .string p.nd.r, .slice p.nd.sa p.nd.ss.length p.nd.sc, .slice p.nd.a p.nd.ps.length p.nd.c] 36)).heap.size (W5.alloc (.cells #[.int .u64 (p.id : Int), .int .i64 p.er, .int .u64 (p.rv : Int), .string p.tk, .slice p.fs.a p.fs.xs.length p.fs.c, .slice p.ts.a p.ts.xs.length p.ts.c, .slice p.os.a p.os.xs.length p.os.c, .slice p.es.a p.es.xs.length p.es.c, .slice p.ss.a p.ss.xs.length p.ss.c, .int .i64 p.nd.k, .string p.nd.t, .string p.nd.i, .string p.nd.r, .slice p.nd.sa p.nd.ss.length p.nd.sc, .slice p.nd.a p.nd.ps.length p.nd.c] 36)) W')) :=
    rsame_any x zq _ (fun _ => True) _ HM5a.out (zq_mem _ _) HKx.out zq_ok HPl.out (by rw [HPl.out, zq_len]; decide)
  go_upto_region 6 with (fail)
  generalize (W5.alloc (.cells #[.int .u64 (p.id : Int), .int .i64 p.er, .int .u64 (p.rv : Int), .string p.tk, .slice p.fs.a p.fs.xs.length p.fs.c, .slice p.ts.a p.ts.xs.length p.ts.c, .slice p.os.a p.os.xs.length p.os.c, .slice p.es.a p.es.xs.length p.es.c, .slice p.ss.a p.ss.xs.length p.ss.c, .int .i64 p.nd.k, .string p.nd.t, .string p.nd.i, .string p.nd.r, .slice p.nd.sa p.nd.ss.length p.nd.sc, .slice p.nd.a p.nd.ps.length p.nd.c] 36)) = W5a at *
  obtain ⟨y5, hy5⟩ : ∃ y5, y5 = W5.heap.size := ⟨_, rfl⟩
  rw [← hy5] at HY5a
  rw [← hy5]
  have HHy5 := Lib.hid hy5
  clear hy5
  have q0 := heap_cell HX5a.out 0
  have q1 := heap_cell HX5a.out 1
  have q2 := heap_cell HX5a.out 2
  have q3 := heap_cell HX5a.out 3
  have q4 := heap_cell HX5a.out 4
  have q5 := heap_cell HX5a.out 5
  have q6 := heap_cell HX5a.out 6
  have q7 := heap_cell HX5a.out 7
  have q8 := heap_cell HX5a.out 8
  have q9 := heap_cell HX5a.out 9
  have q10 := heap_cell HX5a.out 10
  have q11 := heap_cell HX5a.out 11
  have q12 := heap_cell HX5a.out 12
  have q13 := heap_cell HX5a.out 13
  simp at q0 q1 q2 q3 q4 q5 q6 q7 q8 q9 q10 q11 q12 q13
  go_wp2_with fail
  refine HC.out.mono ?_
  clear HC q0 q1 q2 q3 q4 q5 q6 q7 q8 q9 q10 q11 q12 q13
  rintro ee W6 ⟨rfl, hb6⟩
  have HB6 := Lib.hid (HB5a.out.trans (hb6.mono HB5a.out.size))
  have p0 := heap_cell ((hb6.block _ (heap_lt HY5a.out)).trans HY5a.out) 0
  simp at p0
  clear hb6
  go_wp2_with fail
  go_ret
  exact ⟨rfl, HB6.out⟩
end Go.Proofs.YtacjbgmnoiimbabGreat
