/- The document's response: walked (printed by genWireRv.py). -/
import Derived.Test.YtacjbgmnoiimbabGreatRfF
import Derived.Test.YtacjbgmnoiimbabGreatRdR
namespace Go.Proofs.YtacjbgmnoiimbabGreat
set_option linter.unusedVariables false
set_option linter.unusedSimpArgs false
open Go.RowKit

theorem seE_sum (p : Tri) (r : RE) (s : Tri) (ba : Option Addr) (bc : Nat) (bs : List Int) : seE ⟨p, r, s, ba, bc, bs⟩ = triE p ++ (reE r ++ (triE s ++ listE intE bs)) := rfl
theorem seE_len (p : Tri) (r : RE) (s : Tri) (ba : Option Addr) (bc : Nat) (bs : List Int) : (seE ⟨p, r, s, ba, bc, bs⟩).length = (triE p).length + ((reE r).length + ((triE s).length + (listE intE bs).length)) := by
  rw [seE_sum]
  simp only [List.length_append]
set_option maxRecDepth 100000 in
set_option maxHeartbeats 32000000 in
theorem rresp_cells (S : Nat → Prop) (dm : Nat) (id : Nat) (er : Int) (rv : Nat) (tk : ByteArray) (fa : Option Addr) (fc : Nat) (fs : List Bool) (ta : Option Addr) (tc : Nat) (ts : List Six) (oba : Option Addr) (obc : Nat) (os : List Duo) (ea : Option Addr) (ec : Nat) (es : List Evt) (sa : Option Addr) (sc : Nat) (ss : List SE) (nk : Int) (nt ni nr : ByteArray) (nsa : Option Addr) (nsc : Nat) (nss : List Tri) (na : Option Addr) (nc : Nat) (nps : List PN) (W : World)
    (hid : id < 18446744073709551616) (her : iok er) (hrv : rv < 18446744073709551616) (hfs : IsEls boolC 1 W fa fs) (hts : IsEls sixC 6 W ta ts) (hos : IsEls duoC 2 W oba os) (hes : IsEls evtC 8 W ea es) (hek : ∀ x ∈ es, x.1 < 18446744073709551616) (hss : IsEls seC 11 W sa ss) (hsm : ∀ x ∈ ss, semem dm S W x) (hsk : ∀ x ∈ ss, stepok x.plain) (hnd : nemem dm S W (⟨nk, nt, ni, nr, nsa, nsc, nss, na, nc, nps⟩ : NE)) (hnk : okN (⟨nk, nt, ni, nr, nsa, nsc, nss, na, nc, nps⟩ : NE).plain) (hl : ([112, 49] ++ (uv id ++ (intE er ++ (uv rv ++ (txt tk ++ (listE boolE fs ++ (listE sixE ts ++ (listE duoE os ++ (listE evtE es ++ (listE seE ss ++ neE (⟨nk, nt, ni, nr, nsa, nsc, nss, na, nc, nps⟩ : NE))))))))))).length ≤ 100000000) :
    Calls Tryz.prog 9 #[.agg #[.int .u64 (id : Int), .int .i64 er, .int .u64 (rv : Int), .string tk, .slice fa fs.length fc, .slice ta ts.length tc, .slice oba os.length obc, .slice ea es.length ec, .slice sa ss.length sc, .int .i64 nk, .string nt, .string ni, .string nr, .slice nsa nss.length nsc, .slice na nps.length nc]] W (RF [] ([112, 49] ++ (uv id ++ (intE er ++ (uv rv ++ (txt tk ++ (listE boolE fs ++ (listE sixE ts ++ (listE duoE os ++ (listE evtE es ++ (listE seE ss ++ neE (⟨nk, nt, ni, nr, nsa, nsc, nss, na, nc, nps⟩ : NE))))))))))) W) := by
  have hL := hl
  simp only [List.length_append] at hL
  have h2l : ([112, 49] : List UInt8).length = 2 := rfl
  rw [h2l] at hL
  have hlf := list_ge (en := boolE) boolE_pos fs
  have hlt := list_ge (en := sixE) sixE_pos ts
  have hlo := list_ge (en := duoE) duoE_pos os
  have hle := list_ge (en := evtE) evtE_pos es
  have hls := list_ge (en := seE) seE_pos ss
  have hbf : (listE boolE fs).length = (uv fs.length).length + (bodyE boolE fs).length := by unfold listE; rw [List.length_append]
  have hbt : (listE sixE ts).length = (uv ts.length).length + (bodyE sixE ts).length := by unfold listE; rw [List.length_append]
  have hbo : (listE duoE os).length = (uv os.length).length + (bodyE duoE os).length := by unfold listE; rw [List.length_append]
  have hbe : (listE evtE es).length = (uv es.length).length + (bodyE evtE es).length := by unfold listE; rw [List.length_append]
  have hbs : (listE seE ss).length = (uv ss.length).length + (bodyE seE ss).length := by unfold listE; rw [List.length_append]
  have HEr := Lib.hid her
  have HFs := Lib.hid hfs
  have HTs := Lib.hid hts
  have HOs := Lib.hid hos
  have HEs := Lib.hid hes
  have HEk := Lib.hid hek
  have HSs := Lib.hid hss
  have HSm := Lib.hid hsm
  have HSk := Lib.hid hsk
  have HNd := Lib.hid hnd
  have HNk := Lib.hid hnk
  have HBx := (Below.refl W.heap.size W).alloc (Nat.le_refl _) (.cells #[.int .u64 (id : Int), .int .i64 er, .int .u64 (rv : Int), .string tk, .slice fa fs.length fc, .slice ta ts.length tc, .slice oba os.length obc, .slice ea es.length ec, .slice sa ss.length sc, .int .i64 nk, .string nt, .string ni, .string nr, .slice nsa nss.length nsc, .slice na nps.length nc] 36)
  have hx0 := heap_alloc_new W (.cells #[.int .u64 (id : Int), .int .i64 er, .int .u64 (rv : Int), .string tk, .slice fa fs.length fc, .slice ta ts.length tc, .slice oba os.length obc, .slice ea es.length ec, .slice sa ss.length sc, .int .i64 nk, .string nt, .string ni, .string nr, .slice nsa nss.length nsc, .slice na nps.length nc] 36)
  obtain ⟨V, hV⟩ : ∃ V, V = (W.alloc (.cells #[.int .u64 (id : Int), .int .i64 er, .int .u64 (rv : Int), .string tk, .slice fa fs.length fc, .slice ta ts.length tc, .slice oba os.length obc, .slice ea es.length ec, .slice sa ss.length sc, .int .i64 nk, .string nt, .string ni, .string nr, .slice nsa nss.length nsc, .slice na nps.length nc] 36)).drew := ⟨_, rfl⟩
  have HXV : Hid (V.heap[W.heap.size]? = some (.cells #[.int .u64 (id : Int), .int .i64 er, .int .u64 (rv : Int), .string tk, .slice fa fs.length fc, .slice ta ts.length tc, .slice oba os.length obc, .slice ea es.length ec, .slice sa ss.length sc, .int .i64 nk, .string nt, .string ni, .string nr, .slice nsa nss.length nsc, .slice na nps.length nc] 36 (0, 0))) := (by rw [hV]; exact hx0 : V.heap[W.heap.size]? = some (.cells #[.int .u64 (id : Int), .int .i64 er, .int .u64 (rv : Int), .string tk, .slice fa fs.length fc, .slice ta ts.length tc, .slice oba os.length obc, .slice ea es.length ec, .slice sa ss.length sc, .int .i64 nk, .string nt, .string ni, .string nr, .slice nsa nss.length nsc, .slice na nps.length nc] 36 (0, 0)))
  have HBelV : Hid (Below W.heap.size W V) := (by rw [hV]; exact HBx.drew : Below W.heap.size W V)
  clear hfs hts hos hes hek hss hsm hsk hnd hnk hx0 HBx her hl
  go_enter Tryz.func9, Tryz.ntmps9
  go_upto_region 1 with (fail)
  obtain ⟨x, hx⟩ : ∃ x, x = W.heap.size := ⟨_, rfl⟩
  rw [← hx] at HXV
  rw [← hx]
  have HXx := Lib.hid hx
  clear hx
  have hS0 : V.cell? ⟨x, 0, none⟩ = some (.int .u64 (id : Int)) ∧ V.cell? ⟨x, 1, none⟩ = some (.int .i64 er) := ⟨heap_cell HXV.out 0, heap_cell HXV.out 1⟩
  try refine wp_region_noPanic ?_
  refine wp_region_held_drew (S := fun w' => w'.cell? ⟨x, 0, none⟩ = some (.int .u64 (id : Int)) ∧ w'.cell? ⟨x, 1, none⟩ = some (.int .i64 er)) (by kernel_rfl) (by rw [← hV]; exact hS0) (fun hHeld => ?_)
  rw [← hV] at hHeld ⊢
  clear hV hS0
  refine take_at 2 18 (v := ?_) rfl rfl (by kernel_rfl) (by kernel_rfl) (by kernel_rfl) (fun _ _ _ h => h) (Or.inl ⟨by rfl, ?_⟩) hHeld ?_
  rotate_left
  · (intro w hSw; (try dsimp only at hSw); go_simp; try with_reducible rfl)
  try simp only [List.setIfInBounds_toArray, List.set_cons_zero, List.set_cons_succ]
  refine take_at 3 19 (v := ?_) rfl rfl (by kernel_rfl) (by kernel_rfl) (by kernel_rfl) (fun _ _ _ h => h) (Or.inl ⟨by rfl, ?_⟩) hHeld ?_
  rotate_left
  · (intro w hSw; (try dsimp only at hSw); go_simp; try with_reducible rfl)
  try simp only [List.setIfInBounds_toArray, List.set_cons_zero, List.set_cons_succ]
  refine take_at 5 21 (v := ?_) rfl rfl (by kernel_rfl) (by kernel_rfl) (by kernel_rfl) (fun _ _ _ h => h) (Or.inl ⟨by rfl, ?_⟩) hHeld ?_
  rotate_left
  · (intro w hSw; (try dsimp only at hSw); go_simp; try with_reducible rfl)
  try simp only [List.setIfInBounds_toArray, List.set_cons_zero, List.set_cons_succ]
  refine take_at 6 22 (v := ?_) rfl rfl (by kernel_rfl) (by kernel_rfl) (by kernel_rfl) (fun _ _ _ h => h) (Or.inl ⟨by rfl, ?_⟩) hHeld ?_
  rotate_left
  · (intro w hSw; (try dsimp only at hSw); go_simp; try with_reducible rfl)
  try simp only [List.setIfInBounds_toArray, List.set_cons_zero, List.set_cons_succ]
  refine only_at 0 16 (by kernel_rfl) rfl rfl (by rfl) (fun K hK => ?_)
  go_simp
  have hk1_0 := cell_alloc_of (.cells #[.int .u8 112, .int .u8 49] 5) (heap_cell HXV.out 0)
  have hk1_1 := cell_alloc_of (.cells #[.int .u8 112, .int .u8 49] 5) (heap_cell HXV.out 1)
  refine hK.out _ _ (⟨hk1_0, hk1_1⟩) (fun hHeld2 => ?_)
  clear hK K hHeld
  have hHeld := hHeld2
  clear hHeld2
  try simp only [Act.put, List.setIfInBounds_toArray, List.set_cons_zero, List.set_cons_succ]
  have hW1l : W.heap.size ≤ V.heap.size := HBelV.out.size
  have hxb1l := heap_lt HXV.out
  clear hk1_0 hk1_1
  obtain ⟨W1, hW1⟩ : ∃ w9, w9 = (V.alloc (.cells #[.int .u8 112, .int .u8 49] 5)) := ⟨_, rfl⟩
  have hbl1 : Below V.heap.size V W1 := by rw [hW1]; exact (Below.refl _ _).alloc (Nat.le_refl _) _
  have hlt1 : V.heap.size < W1.heap.size := by rw [hW1, alloc_size]; omega
  have HLit1n : Hid (W1.heap[V.heap.size]? = some (.cells #[.int .u8 112, .int .u8 49] 5 (0, 0))) := (by rw [hW1]; exact heap_alloc_new V _ : W1.heap[V.heap.size]? = some (.cells #[.int .u8 112, .int .u8 49] 5 (0, 0)))
  have HBel1 := Lib.hid (HBelV.out.trans (hbl1.mono HBelV.out.size))
  have HXb1 := Lib.hid ((hbl1.block _ (heap_lt HXV.out)).trans HXV.out)
  rw [← hW1] at hHeld ⊢
  clear hW1 hbl1
  refine only_at 1 17 (by kernel_rfl) rfl rfl (by rfl) (fun K hK => ?_)
  go_simp
  obtain ⟨W2, hrun, hgr2, hlit2⟩ := conv_mark W1 39 5 V.heap.size #[.int .u8 112, .int .u8 49] 2 2 Tryz.underlying39 Tryz.underlying5 HLit1n.out
  have HXb2 := Lib.hid (grown_block hgr2 HXb1.out (Nat.ne_of_lt hxb1l))
  have HBel2 := Lib.hid (below_on HBel1.out hgr2 HBel1.out.size hW1l)
  have HR2 : Hid (IsBytes W2 (some ⟨V.heap.size, 0, none⟩) [112, 49]) := lit_bytes hlit2
  clear hlit2 hgr2
  go_simp
  clear hrun
  refine hK.out _ _ (⟨heap_cell HXb2.out 0, heap_cell HXb2.out 1⟩) (fun hHeld2 => ?_)
  clear hK K hHeld
  have hHeld := hHeld2
  clear hHeld2
  try simp only [Act.put, List.setIfInBounds_toArray, List.set_cons_zero, List.set_cons_succ]
  refine only_at 4 20 (by kernel_rfl) rfl rfl (by rfl) (fun K hK => ?_)
  go_simp
  refine (refput_any (some ⟨V.heap.size, 0, none⟩) 2 ([112, 49] : List UInt8) id W2 (by show (([112, 49] : List UInt8)).length ≤ 1000000000; first | (show 2 ≤ 1000000000; omega) | omega) hid HR2.out).mono ?_
  rintro ee W3 ⟨v3, rfl, h3, hb3⟩
  obtain ⟨lc3, hlc⟩ : ∃ lc9, lc9 = ([112, 49] : List UInt8) ++ uv id := ⟨_, rfl⟩
  rw [← hlc] at h3
  have hn3 : lc3.length ≤ ([112, 49] : List UInt8).length + (uv id).length := by rw [hlc, List.length_append]; exact Nat.le_refl _
  have HLc3 := Lib.hid hlc
  clear hlc
  obtain ⟨a3, m3, c3, rfl⟩ := row_slice h3
  have hm3 := row_len' h3
  subst hm3
  have HBel3 := Lib.hid (HBel2.out.trans (hb3.mono HBel2.out.size))
  have HO3 : Hid (Own5 W.heap.size W3 (.slice a3 lc3.length c3) lc3) := row_lower h3 HBel2.out.size
  have HXb3 := Lib.hid ((hb3.block _ (heap_lt HXb2.out)).trans HXb2.out)
  clear h3 hb3
  go_wp2_with fail
  refine hK.out _ _ (⟨heap_cell HXb3.out 0, heap_cell HXb3.out 1⟩) (fun hHeld2 => ?_)
  clear hK K hHeld
  have hHeld := hHeld2
  clear hHeld2
  try simp only [Act.put, List.setIfInBounds_toArray, List.set_cons_zero, List.set_cons_succ]
  refine only_at 7 23 (by kernel_rfl) rfl rfl (by rfl) (fun K hK => ?_)
  go_simp
  refine (rwhole_any a3 c3 lc3 er W3 (by omega) HEr.out (row_bytes' HO3.out)).mono ?_
  rintro ee W4 ⟨v4, rfl, h4, hb4⟩
  obtain ⟨lc4, hlc⟩ : ∃ lc9, lc9 = lc3 ++ intE er := ⟨_, rfl⟩
  rw [← hlc] at h4
  have hn4 : lc4.length ≤ lc3.length + (intE er).length := by rw [hlc, List.length_append]; exact Nat.le_refl _
  have HLc4 := Lib.hid hlc
  clear hlc
  obtain ⟨a4, m4, c4, rfl⟩ := row_slice h4
  have hm4 := row_len' h4
  subst hm4
  have HBel4 := Lib.hid (HBel3.out.trans (hb4.mono HBel3.out.size))
  have HO4 : Hid (Own5 W.heap.size W4 (.slice a4 lc4.length c4) lc4) := row_lower h4 HBel3.out.size
  have HXb4 := Lib.hid ((hb4.block _ (heap_lt HXb3.out)).trans HXb3.out)
  clear h4 hb4
  go_wp2_with fail
  refine hK.out _ _ (⟨heap_cell HXb4.out 0, heap_cell HXb4.out 1⟩) (fun hHeld2 => ?_)
  clear hK K hHeld
  have hHeld := hHeld2
  clear hHeld2
  try simp only [Act.put, List.setIfInBounds_toArray, List.set_cons_zero, List.set_cons_succ]
  refine take_at 8 3 (v := ?_) rfl rfl (by kernel_rfl) (by kernel_rfl) (by kernel_rfl) (fun _ _ _ h => h) (Or.inl ⟨by rfl, ?_⟩) hHeld ?_
  rotate_left
  · (intro w hSw; (try dsimp only at hSw); go_simp; try with_reducible rfl)
  try simp only [List.setIfInBounds_toArray, List.set_cons_zero, List.set_cons_succ]
  refine wpAnyH_done (by kernel_rfl) ?_ _
  try refine NoPanic.normal ?_
  go_upto_region 2 with (fail)
  go_cut [3] (fun v wc0 => ∃ (qa : Option Addr) (qc : Nat) (lq : List UInt8), v = .slice qa lq.length qc ∧ lq.length ≤ lc4.length + ((uv rv).length + (txt tk).length) ∧ Hid (lq = lc4 ++ (uv rv ++ txt tk)) ∧ Own5 W.heap.size wc0 (.slice qa lq.length qc) lq ∧ Below W.heap.size W wc0 ∧ wc0.heap[x]? = some (.cells #[.int .u64 (id : Int), .int .i64 er, .int .u64 (rv : Int), .string tk, .slice fa fs.length fc, .slice ta ts.length tc, .slice oba os.length obc, .slice ea es.length ec, .slice sa ss.length sc, .int .i64 nk, .string nt, .string ni, .string nr, .slice nsa nss.length nsc, .slice na nps.length nc] 36 (0, 0)))
  case first =>
    obtain ⟨W5, hV5⟩ : ∃ V9, V9 = W4.drew := ⟨_, rfl⟩
    have HBel5 : Hid (Below W.heap.size W W5) := (by rw [hV5]; exact HBel4.out.drew : Below W.heap.size W W5)
    have HO5 : Hid (Own5 W.heap.size W5 (.slice a4 lc4.length c4) lc4) := (by rw [hV5]; exact HO4.out : Own5 W.heap.size W5 (.slice a4 lc4.length c4) lc4)
    have HXb5 : Hid (W5.heap[x]? = some (.cells #[.int .u64 (id : Int), .int .i64 er, .int .u64 (rv : Int), .string tk, .slice fa fs.length fc, .slice ta ts.length tc, .slice oba os.length obc, .slice ea es.length ec, .slice sa ss.length sc, .int .i64 nk, .string nt, .string ni, .string nr, .slice nsa nss.length nsc, .slice na nps.length nc] 36 (0, 0))) := (by rw [hV5]; exact HXb4.out : W5.heap[x]? = some (.cells #[.int .u64 (id : Int), .int .i64 er, .int .u64 (rv : Int), .string tk, .slice fa fs.length fc, .slice ta ts.length tc, .slice oba os.length obc, .slice ea es.length ec, .slice sa ss.length sc, .int .i64 nk, .string nt, .string ni, .string nr, .slice nsa nss.length nsc, .slice na nps.length nc] 36 (0, 0)))
    have hS0 : W5.cell? ⟨x, 2, none⟩ = some (.int .u64 (rv : Int)) ∧ W5.cell? ⟨x, 3, none⟩ = some (.string tk) := ⟨heap_cell HXb5.out 2, heap_cell HXb5.out 3⟩
    go_wp2_with fail
    try refine wp_region_noPanic ?_
    refine wp_region_held_drew (S := fun w' => w'.cell? ⟨x, 2, none⟩ = some (.int .u64 (rv : Int)) ∧ w'.cell? ⟨x, 3, none⟩ = some (.string tk)) (by kernel_rfl) (by rw [← hV5]; exact hS0) (fun hHeld => ?_)
    rw [← hV5] at hHeld ⊢
    clear hV5 hS0
    refine take_at 0 24 (v := ?_) rfl rfl (by kernel_rfl) (by kernel_rfl) (by kernel_rfl) (fun _ _ _ h => h) (Or.inl ⟨by rfl, ?_⟩) hHeld ?_
    rotate_left
    · (intro w hSw; (try dsimp only at hSw); go_simp; try with_reducible rfl)
    try simp only [List.setIfInBounds_toArray, List.set_cons_zero, List.set_cons_succ]
    refine take_at 1 25 (v := ?_) rfl rfl (by kernel_rfl) (by kernel_rfl) (by kernel_rfl) (fun _ _ _ h => h) (Or.inl ⟨by rfl, ?_⟩) hHeld ?_
    rotate_left
    · (intro w hSw; (try dsimp only at hSw); go_simp; try with_reducible rfl)
    try simp only [List.setIfInBounds_toArray, List.set_cons_zero, List.set_cons_succ]
    refine take_at 2 26 (v := ?_) rfl rfl (by kernel_rfl) (by kernel_rfl) (by kernel_rfl) (fun _ _ _ h => h) (Or.inl ⟨by rfl, ?_⟩) hHeld ?_
    rotate_left
    · (intro w hSw; (try dsimp only at hSw); go_simp; try with_reducible rfl)
    try simp only [List.setIfInBounds_toArray, List.set_cons_zero, List.set_cons_succ]
    refine take_at 4 28 (v := ?_) rfl rfl (by kernel_rfl) (by kernel_rfl) (by kernel_rfl) (fun _ _ _ h => h) (Or.inl ⟨by rfl, ?_⟩) hHeld ?_
    rotate_left
    · (intro w hSw; (try dsimp only at hSw); go_simp; try with_reducible rfl)
    try simp only [List.setIfInBounds_toArray, List.set_cons_zero, List.set_cons_succ]
    refine take_at 5 29 (v := ?_) rfl rfl (by kernel_rfl) (by kernel_rfl) (by kernel_rfl) (fun _ _ _ h => h) (Or.inl ⟨by rfl, ?_⟩) hHeld ?_
    rotate_left
    · (intro w hSw; (try dsimp only at hSw); go_simp; try with_reducible rfl)
    try simp only [List.setIfInBounds_toArray, List.set_cons_zero, List.set_cons_succ]
    refine two_at 3 6 27 30 (by kernel_rfl) rfl rfl (by rfl) rfl rfl (by rfl) (fun K hK => ?_) (fun K hK => ?_)
    · go_simp
      refine (refput_any a4 c4 lc4 rv W5 (by omega) hrv (row_bytes' HO5.out)).mono ?_
      rintro ee W6 ⟨v6, rfl, h6, hb6⟩
      obtain ⟨lc6, hlc⟩ : ∃ lc9, lc9 = lc4 ++ uv rv := ⟨_, rfl⟩
      rw [← hlc] at h6
      have hn6 : lc6.length ≤ lc4.length + (uv rv).length := by rw [hlc, List.length_append]; exact Nat.le_refl _
      have HLc6 := Lib.hid hlc
      clear hlc
      obtain ⟨a6, m6, c6, rfl⟩ := row_slice h6
      have hm6 := row_len' h6
      subst hm6
      have HBel6 := Lib.hid (HBel5.out.trans (hb6.mono HBel5.out.size))
      have HO6 : Hid (Own5 W.heap.size W6 (.slice a6 lc6.length c6) lc6) := row_lower h6 HBel5.out.size
      have HXb6 := Lib.hid ((hb6.block _ (heap_lt HXb5.out)).trans HXb5.out)
      clear h6 hb6
      go_wp2_with fail
      refine hK.out _ _ (⟨heap_cell HXb6.out 2, heap_cell HXb6.out 3⟩) (fun hHeld2 => ?_)
      clear hK K hHeld
      have hHeld := hHeld2
      clear hHeld2
      try simp only [Act.put, List.setIfInBounds_toArray, List.set_cons_zero, List.set_cons_succ]
      refine only_at 6 30 (by kernel_rfl) rfl rfl (by rfl) (fun K hK => ?_)
      go_simp
      have hk7_2 := cell_alloc_of (.cells #[.string tk] 9) (heap_cell HXb6.out 2)
      have hk7_3 := cell_alloc_of (.cells #[.string tk] 9) (heap_cell HXb6.out 3)
      refine hK.out _ _ (⟨hk7_2, hk7_3⟩) (fun hHeld2 => ?_)
      clear hK K hHeld
      have hHeld := hHeld2
      clear hHeld2
      try simp only [Act.put, List.setIfInBounds_toArray, List.set_cons_zero, List.set_cons_succ]
      clear hk7_2 hk7_3
      obtain ⟨W7, hW7⟩ : ∃ w9, w9 = (W6.alloc (.cells #[.string tk] 9)) := ⟨_, rfl⟩
      have hbl7 : Below W6.heap.size W6 W7 := by rw [hW7]; exact (Below.refl _ _).alloc (Nat.le_refl _) _
      have hlt7 : W6.heap.size < W7.heap.size := by rw [hW7, alloc_size]; omega
      have HTa7n : Hid (IsStrs W7 (some ⟨W6.heap.size, 0, none⟩) [tk]) := (by rw [hW7]; exact strs_new W6 [tk] : IsStrs W7 (some ⟨W6.heap.size, 0, none⟩) [tk])
      have HBel7 := Lib.hid (HBel6.out.trans (hbl7.mono HBel6.out.size))
      have HO7 : Hid (Own5 W.heap.size W7 (.slice a6 lc6.length c6) lc6) := Below.row hbl7 HO6.out
      have HXb7 := Lib.hid ((hbl7.block _ (heap_lt HXb6.out)).trans HXb6.out)
      rw [← hW7] at hHeld ⊢
      clear hW7 hbl7
      refine only_at 7 31 (by kernel_rfl) rfl rfl (by rfl) (fun K hK => ?_)
      go_simp
      refine (rtexts_any a6 c6 lc6 (some ⟨W6.heap.size, 0, none⟩) 1 [tk] W7 (by rw [body1]; omega) (by show 0 < 1; omega) (by show 1 ≤ 1000000; omega) (row_bytes' HO7.out) HTa7n.out).mono ?_
      rintro ee W8 ⟨v8, rfl, h8, hb8⟩
      rw [body1] at h8
      obtain ⟨lc8, hlc⟩ : ∃ lc9, lc9 = lc6 ++ txt tk := ⟨_, rfl⟩
      rw [← hlc] at h8
      have hn8 : lc8.length ≤ lc6.length + (txt tk).length := by rw [hlc, List.length_append]; exact Nat.le_refl _
      have HLc8 := Lib.hid hlc
      clear hlc
      obtain ⟨a8, m8, c8, rfl⟩ := row_slice h8
      have hm8 := row_len' h8
      subst hm8
      have HBel8 := Lib.hid (HBel7.out.trans (hb8.mono HBel7.out.size))
      have HO8 : Hid (Own5 W.heap.size W8 (.slice a8 lc8.length c8) lc8) := row_lower h8 HBel7.out.size
      have HXb8 := Lib.hid ((hb8.block _ (heap_lt HXb7.out)).trans HXb7.out)
      clear h8 hb8
      go_wp2_with fail
      refine hK.out _ _ (⟨heap_cell HXb8.out 2, heap_cell HXb8.out 3⟩) (fun hHeld2 => ?_)
      clear hK K hHeld
      have hHeld := hHeld2
      clear hHeld2
      try simp only [Act.put, List.setIfInBounds_toArray, List.set_cons_zero, List.set_cons_succ]
      refine take_at 8 3 (v := ?_) rfl rfl (by kernel_rfl) (by kernel_rfl) (by kernel_rfl) (fun _ _ _ h => h) (Or.inl ⟨by rfl, ?_⟩) hHeld ?_
      rotate_left
      · (intro w hSw; (try dsimp only at hSw); go_simp; try with_reducible rfl)
      try simp only [List.setIfInBounds_toArray, List.set_cons_zero, List.set_cons_succ]
      refine wpAnyH_done (by kernel_rfl) ?_ _
      try refine NoPanic.normal ?_
      go_wp2_with fail
      go_meet
      case rel =>
        refine ⟨a8, c8, lc8, rfl, by omega, ?_, HO8.out, HBel8.out, HXb8.out⟩
        show _ = _
        rw [HLc8.out, HLc6.out]
        simp only [List.append_assoc]
    · go_simp
      have hk6_2 := cell_alloc_of (.cells #[.string tk] 9) (heap_cell HXb5.out 2)
      have hk6_3 := cell_alloc_of (.cells #[.string tk] 9) (heap_cell HXb5.out 3)
      refine hK.out _ _ (⟨hk6_2, hk6_3⟩) (fun hHeld2 => ?_)
      clear hK K hHeld
      have hHeld := hHeld2
      clear hHeld2
      try simp only [Act.put, List.setIfInBounds_toArray, List.set_cons_zero, List.set_cons_succ]
      clear hk6_2 hk6_3
      obtain ⟨W6, hW6⟩ : ∃ w9, w9 = (W5.alloc (.cells #[.string tk] 9)) := ⟨_, rfl⟩
      have hbl6 : Below W5.heap.size W5 W6 := by rw [hW6]; exact (Below.refl _ _).alloc (Nat.le_refl _) _
      have hlt6 : W5.heap.size < W6.heap.size := by rw [hW6, alloc_size]; omega
      have HTa6n : Hid (IsStrs W6 (some ⟨W5.heap.size, 0, none⟩) [tk]) := (by rw [hW6]; exact strs_new W5 [tk] : IsStrs W6 (some ⟨W5.heap.size, 0, none⟩) [tk])
      have HBel6 := Lib.hid (HBel5.out.trans (hbl6.mono HBel5.out.size))
      have HO6 : Hid (Own5 W.heap.size W6 (.slice a4 lc4.length c4) lc4) := Below.row hbl6 HO5.out
      have HXb6 := Lib.hid ((hbl6.block _ (heap_lt HXb5.out)).trans HXb5.out)
      rw [← hW6] at hHeld ⊢
      clear hW6 hbl6
      refine only_at 3 27 (by kernel_rfl) rfl rfl (by rfl) (fun K hK => ?_)
      go_simp
      refine (refput_any a4 c4 lc4 rv W6 (by omega) hrv (row_bytes' HO6.out)).mono ?_
      rintro ee W7 ⟨v7, rfl, h7, hb7⟩
      obtain ⟨lc7, hlc⟩ : ∃ lc9, lc9 = lc4 ++ uv rv := ⟨_, rfl⟩
      rw [← hlc] at h7
      have hn7 : lc7.length ≤ lc4.length + (uv rv).length := by rw [hlc, List.length_append]; exact Nat.le_refl _
      have HLc7 := Lib.hid hlc
      clear hlc
      obtain ⟨a7, m7, c7, rfl⟩ := row_slice h7
      have hm7 := row_len' h7
      subst hm7
      have HBel7 := Lib.hid (HBel6.out.trans (hb7.mono HBel6.out.size))
      have HO7 : Hid (Own5 W.heap.size W7 (.slice a7 lc7.length c7) lc7) := row_lower h7 HBel6.out.size
      have HXb7 := Lib.hid ((hb7.block _ (heap_lt HXb6.out)).trans HXb6.out)
      have HTa7 := Lib.hid (HTa6n.out.below hb7)
      clear h7 hb7
      go_wp2_with fail
      refine hK.out _ _ (⟨heap_cell HXb7.out 2, heap_cell HXb7.out 3⟩) (fun hHeld2 => ?_)
      clear hK K hHeld
      have hHeld := hHeld2
      clear hHeld2
      try simp only [Act.put, List.setIfInBounds_toArray, List.set_cons_zero, List.set_cons_succ]
      refine only_at 7 31 (by kernel_rfl) rfl rfl (by rfl) (fun K hK => ?_)
      go_simp
      refine (rtexts_any a7 c7 lc7 (some ⟨W5.heap.size, 0, none⟩) 1 [tk] W7 (by rw [body1]; omega) (by show 0 < 1; omega) (by show 1 ≤ 1000000; omega) (row_bytes' HO7.out) HTa7.out).mono ?_
      rintro ee W8 ⟨v8, rfl, h8, hb8⟩
      rw [body1] at h8
      obtain ⟨lc8, hlc⟩ : ∃ lc9, lc9 = lc7 ++ txt tk := ⟨_, rfl⟩
      rw [← hlc] at h8
      have hn8 : lc8.length ≤ lc7.length + (txt tk).length := by rw [hlc, List.length_append]; exact Nat.le_refl _
      have HLc8 := Lib.hid hlc
      clear hlc
      obtain ⟨a8, m8, c8, rfl⟩ := row_slice h8
      have hm8 := row_len' h8
      subst hm8
      have HBel8 := Lib.hid (HBel7.out.trans (hb8.mono HBel7.out.size))
      have HO8 : Hid (Own5 W.heap.size W8 (.slice a8 lc8.length c8) lc8) := row_lower h8 HBel7.out.size
      have HXb8 := Lib.hid ((hb8.block _ (heap_lt HXb7.out)).trans HXb7.out)
      clear h8 hb8
      go_wp2_with fail
      refine hK.out _ _ (⟨heap_cell HXb8.out 2, heap_cell HXb8.out 3⟩) (fun hHeld2 => ?_)
      clear hK K hHeld
      have hHeld := hHeld2
      clear hHeld2
      try simp only [Act.put, List.setIfInBounds_toArray, List.set_cons_zero, List.set_cons_succ]
      refine take_at 8 3 (v := ?_) rfl rfl (by kernel_rfl) (by kernel_rfl) (by kernel_rfl) (fun _ _ _ h => h) (Or.inl ⟨by rfl, ?_⟩) hHeld ?_
      rotate_left
      · (intro w hSw; (try dsimp only at hSw); go_simp; try with_reducible rfl)
      try simp only [List.setIfInBounds_toArray, List.set_cons_zero, List.set_cons_succ]
      refine wpAnyH_done (by kernel_rfl) ?_ _
      try refine NoPanic.normal ?_
      go_wp2_with fail
      go_meet
      case rel =>
        refine ⟨a8, c8, lc8, rfl, by omega, ?_, HO8.out, HBel8.out, HXb8.out⟩
        show _ = _
        rw [HLc8.out, HLc7.out]
        simp only [List.append_assoc]
  case rest =>
    obtain ⟨qa, qc, lq, rfl, hlq, hlceq, hown, hbel, hbox⟩ := hcut
    have HLQ := hlceq
    have HO0 := Lib.hid hown
    have HB0 := Lib.hid hbel
    have HX0 := Lib.hid hbox
    clear hown hbel hbox hlceq HO4 HBel4 HXb4
    have qq4 := heap_cell HX0.out 4
    simp at qq4
    have HC := Lib.hid (rmany_any qa qc lq fs.length wc (by omega) (by omega) (row_bytes' HO0.out))
    go_wp2_with fail
    refine HC.out.mono ?_
    clear HC qq4
    rintro ee W301 ⟨v301, rfl, h301, hb301⟩
    obtain ⟨lc301, hlc⟩ : ∃ lc9, lc9 = lq ++ uv fs.length := ⟨_, rfl⟩
    rw [← hlc] at h301
    have hn301 : lc301.length ≤ lq.length + (uv fs.length).length := by rw [hlc, List.length_append]; exact Nat.le_refl _
    have HLc301 := Lib.hid hlc
    clear hlc
    obtain ⟨a301, m301, c301, rfl⟩ := row_slice h301
    have hm301 := row_len' h301
    subst hm301
    have HBel301 := Lib.hid (HB0.out.trans (hb301.mono HB0.out.size))
    have HO301 : Hid (Own5 W.heap.size W301 (.slice a301 lc301.length c301) lc301) := row_lower h301 HB0.out.size
    have HXb301 := Lib.hid ((hb301.block _ (heap_lt HX0.out)).trans HX0.out)
    clear h301 hb301
    have qq := heap_cell HXb301.out 4
    simp at qq
    go_wp2_with fail
    go_loopw [3, 40] (fun bv iv wr => ∃ (j : Nat) (oa : Option Addr) (oc : Nat) (lj : List UInt8), bv = .slice oa lj.length oc ∧ iv = .int .i64 j ∧ j ≤ fs.length ∧ Hid (lj = lc301 ++ bodyE boolE (fs.take j) ∧ Own5 W.heap.size wr (.slice oa lj.length oc) lj ∧ Below W.heap.size W wr ∧ wr.heap[x]? = some (.cells #[.int .u64 (id : Int), .int .i64 er, .int .u64 (rv : Int), .string tk, .slice fa fs.length fc, .slice ta ts.length tc, .slice oba os.length obc, .slice ea es.length ec, .slice sa ss.length sc, .int .i64 nk, .string nt, .string ni, .string nr, .slice nsa nss.length nsc, .slice na nps.length nc] 36 (0, 0)))) (fun _ iv _ => fs.length - (intOf iv).toNat)
    case atStart => exact ⟨0, a301, c301, lc301, rfl, rfl, Nat.zero_le _, by rw [List.take_zero]; simp [bodyE], HO301.out, HBel301.out, HXb301.out⟩
    case round =>
      clear HO301 HBel301 HXb301 qq
      obtain ⟨ja, oja, cja, lja, rfl, rfl, hja, hst⟩ := hrel
      obtain ⟨hlj, hown, hbel, hbox⟩ := hst.out
      have hble := body_le boolE fs ja
      have hlja : lja.length ≤ lc301.length + (bodyE boolE (fs.take ja)).length := by rw [hlj, List.length_append]; exact Nat.le_refl _
      by_cases hjl : ja < fs.length
      · have dj : decide ((ja : Int) < (fs.length : Int)) = true := decide_eq_true (by omega)
        have dj2 : decide (ja < fs.length) = true := decide_eq_true (by omega)
        have hij : (ja : Int) < (fs.length : Int) := by omega
        obtain ⟨ba, offa, rfl, hb, hc⟩ := (HFs.out.below hbel) (by omega)
        have c0 := hc ja hjl 0 (by omega)
        have hbt := body_take boolE fs ja hjl
        have hble2 := body_le boolE fs (ja + 1)
        rw [hbt, List.length_append] at hble2
        have hmem := getD_mem hjl
        have HBt := Lib.hid hbt
        have HLj := Lib.hid hlj
        have HOj := Lib.hid hown
        have HBj := Lib.hid hbel
        have HXj := Lib.hid hbox
        clear hst hc hbt hlj hown hbel hbox
        generalize fs.getD ja default = y at *
        simp [boolC] at c0
        go_wp2_with fail
        refine (rtruth2_any W.heap.size (.slice oja lja.length cja) lja y wr (by omega) HOj.out HBj.out.size).mono ?_
        rintro ee W302 ⟨v302, rfl, h302, hg302⟩
        unfold Own5 at h302
        obtain ⟨lc302, hlc⟩ : ∃ lc9, lc9 = lja ++ boolE y := ⟨_, rfl⟩
        rw [← hlc] at h302
        have hn302 : lc302.length ≤ lja.length + (boolE y).length := by rw [hlc, List.length_append]; exact Nat.le_refl _
        have HLc302 := Lib.hid hlc
        clear hlc
        obtain ⟨a302, m302, c302, rfl⟩ := row_slice h302
        have hm302 := row_len' h302
        subst hm302
        have HBel302 := Lib.hid (Below.own HBj.out HOj.out (Nat.le_refl _) HBj.out.size hg302)
        have HO302 : Hid (Own5 W.heap.size W302 (.slice a302 lc302.length c302) lc302) := h302
        have HXb302 := Lib.hid (heap_kept HOj.out HXj.out (by decide) hg302)
        clear h302 hg302
        have HRN : Hid (lc302 = lc301 ++ bodyE boolE (fs.take (ja + 1)) ∧ Own5 W.heap.size W302 (.slice a302 lc302.length c302) lc302 ∧ Below W.heap.size W W302 ∧ W302.heap[x]? = some (.cells #[.int .u64 (id : Int), .int .i64 er, .int .u64 (rv : Int), .string tk, .slice (some ⟨ba, offa, none⟩) fs.length fc, .slice ta ts.length tc, .slice oba os.length obc, .slice ea es.length ec, .slice sa ss.length sc, .int .i64 nk, .string nt, .string ni, .string nr, .slice nsa nss.length nsc, .slice na nps.length nc] 36 (0, 0))) := ⟨by
          rw [HLc302.out, HLj.out, HBt.out]
          simp only [List.append_assoc], HO302.out, HBel302.out, HXb302.out⟩
        clear hjl hble hble2
        go_wp2_with fail
        go_roundw
        case rel => exact ⟨ja + 1, a302, c302, lc302, rfl, by go_num, by omega, HRN⟩
        case measure => first | (simp [intOf]; done) | (simp [intOf]; omega)
      · have hje : ja = fs.length := by omega
        have dj : decide ((ja : Int) < (fs.length : Int)) = false := decide_eq_false (by omega)
        have dj2 : decide (ja < fs.length) = false := decide_eq_false (by omega)
        have HLea : Hid (lja = lc301 ++ bodyE boolE fs) := (by rw [hlj, hje, List.take_length] : lja = lc301 ++ bodyE boolE fs)
        have hlea : lja.length ≤ lc301.length + (bodyE boolE fs).length := Nat.le_trans hlja (Nat.add_le_add_left hble _)
        have HOea := Lib.hid hown
        have HBea := Lib.hid hbel
        have HXea := Lib.hid hbox
        clear hst hlj hown hbel hbox hje hjl hble hlja
        have qq5 := heap_cell HXea.out 5
        simp at qq5
        have HC := Lib.hid (rmany_any oja cja lja ts.length wr (by omega) (by omega) (row_bytes' HOea.out))
        go_wp2_with fail
        refine HC.out.mono ?_
        clear HC qq5
        rintro ee W302 ⟨v302, rfl, h302, hb302⟩
        obtain ⟨lc302, hlc⟩ : ∃ lc9, lc9 = lja ++ uv ts.length := ⟨_, rfl⟩
        rw [← hlc] at h302
        have hn302 : lc302.length ≤ lja.length + (uv ts.length).length := by rw [hlc, List.length_append]; exact Nat.le_refl _
        have HLc302 := Lib.hid hlc
        clear hlc
        obtain ⟨a302, m302, c302, rfl⟩ := row_slice h302
        have hm302 := row_len' h302
        subst hm302
        have HBel302 := Lib.hid (HBea.out.trans (hb302.mono HBea.out.size))
        have HO302 : Hid (Own5 W.heap.size W302 (.slice a302 lc302.length c302) lc302) := row_lower h302 HBea.out.size
        have HXb302 := Lib.hid ((hb302.block _ (heap_lt HXea.out)).trans HXea.out)
        clear h302 hb302
        have qq := heap_cell HXb302.out 5
        simp at qq
        go_wp2_with fail
        go_loopw [3, 56] (fun bv iv wr => ∃ (j : Nat) (oa : Option Addr) (oc : Nat) (lj : List UInt8), bv = .slice oa lj.length oc ∧ iv = .int .i64 j ∧ j ≤ ts.length ∧ Hid (lj = lc302 ++ bodyE sixE (ts.take j) ∧ Own5 W.heap.size wr (.slice oa lj.length oc) lj ∧ Below W.heap.size W wr ∧ wr.heap[x]? = some (.cells #[.int .u64 (id : Int), .int .i64 er, .int .u64 (rv : Int), .string tk, .slice fa fs.length fc, .slice ta ts.length tc, .slice oba os.length obc, .slice ea es.length ec, .slice sa ss.length sc, .int .i64 nk, .string nt, .string ni, .string nr, .slice nsa nss.length nsc, .slice na nps.length nc] 36 (0, 0)))) (fun _ iv _ => ts.length - (intOf iv).toNat)
        case atStart => exact ⟨0, a302, c302, lc302, rfl, rfl, Nat.zero_le _, by rw [List.take_zero]; simp [bodyE], HO302.out, HBel302.out, HXb302.out⟩
        case round =>
          clear HO302 HBel302 HXb302 qq
          obtain ⟨jb, ojb, cjb, ljb, rfl, rfl, hjb, hst⟩ := hrel
          obtain ⟨hlj, hown, hbel, hbox⟩ := hst.out
          have hble := body_le sixE ts jb
          have hljb : ljb.length ≤ lc302.length + (bodyE sixE (ts.take jb)).length := by rw [hlj, List.length_append]; exact Nat.le_refl _
          by_cases hjl : jb < ts.length
          · have dj : decide ((jb : Int) < (ts.length : Int)) = true := decide_eq_true (by omega)
            have dj2 : decide (jb < ts.length) = true := decide_eq_true (by omega)
            have hij : (jb : Int) < (ts.length : Int) := by omega
            obtain ⟨bb, offb, rfl, hb, hc⟩ := (HTs.out.below hbel) (by omega)
            have c0 := hc jb hjl 0 (by omega)
            have c1 := hc jb hjl 1 (by omega)
            have c2 := hc jb hjl 2 (by omega)
            have c3 := hc jb hjl 3 (by omega)
            have c4 := hc jb hjl 4 (by omega)
            have c5 := hc jb hjl 5 (by omega)
            have hbt := body_take sixE ts jb hjl
            have hble2 := body_le sixE ts (jb + 1)
            rw [hbt, List.length_append] at hble2
            have hmem := getD_mem hjl
            have HBt := Lib.hid hbt
            have HLj := Lib.hid hlj
            have HOj := Lib.hid hown
            have HBj := Lib.hid hbel
            have HXj := Lib.hid hbox
            clear hst hc hbt hlj hown hbel hbox
            generalize ts.getD jb default = y at *
            obtain ⟨⟨ya, yb, yc⟩, yd, ye, yf⟩ := y
            simp [sixC, triC] at c0 c1 c2 c3 c4 c5
            have hB1 := (Below.refl wr.heap.size wr).alloc (Nat.le_refl _) (.cells #[.string ya, .string yb, .string yc, .string yd, .string ye, .string yf] 62)
            have HBa := Lib.hid (HBj.out.trans (hB1.mono HBj.out.size))
            have HXa := Lib.hid ((hB1.block _ (heap_lt HXj.out)).trans HXj.out)
            have HRa := Lib.hid ((row_bytes' HOj.out).below hB1)
            clear hB1
            have HC := Lib.hid (rtuple_any ojb cjb ljb ya yb yc yd ye yf _ (by omega) HRa.out)
            go_wp2_with fail
            refine HC.out.mono ?_
            clear HC
            rintro ee W303 ⟨v303, rfl, h303, hb303⟩
            obtain ⟨lc303, hlc⟩ : ∃ lc9, lc9 = ljb ++ sixE ((ya, yb, yc), yd, ye, yf) := ⟨_, rfl⟩
            rw [← hlc] at h303
            have hn303 : lc303.length ≤ ljb.length + (sixE ((ya, yb, yc), yd, ye, yf)).length := by rw [hlc, List.length_append]; exact Nat.le_refl _
            have HLc303 := Lib.hid hlc
            clear hlc
            obtain ⟨a303, m303, c303, rfl⟩ := row_slice h303
            have hm303 := row_len' h303
            subst hm303
            have HBel303 := Lib.hid (HBa.out.trans (hb303.mono HBa.out.size))
            have HO303 : Hid (Own5 W.heap.size W303 (.slice a303 lc303.length c303) lc303) := row_lower h303 HBa.out.size
            have HXb303 := Lib.hid ((hb303.block _ (heap_lt HXa.out)).trans HXa.out)
            clear h303 hb303
            have HRN : Hid (lc303 = lc302 ++ bodyE sixE (ts.take (jb + 1)) ∧ Own5 W.heap.size W303 (.slice a303 lc303.length c303) lc303 ∧ Below W.heap.size W W303 ∧ W303.heap[x]? = some (.cells #[.int .u64 (id : Int), .int .i64 er, .int .u64 (rv : Int), .string tk, .slice fa fs.length fc, .slice (some ⟨bb, offb, none⟩) ts.length tc, .slice oba os.length obc, .slice ea es.length ec, .slice sa ss.length sc, .int .i64 nk, .string nt, .string ni, .string nr, .slice nsa nss.length nsc, .slice na nps.length nc] 36 (0, 0))) := ⟨by
              rw [HLc303.out, HLj.out, HBt.out]
              simp only [List.append_assoc], HO303.out, HBel303.out, HXb303.out⟩
            clear hjl hble hble2
            go_wp2_with fail
            go_roundw
            case rel => exact ⟨jb + 1, a303, c303, lc303, rfl, by go_num, by omega, HRN⟩
            case measure => first | (simp [intOf]; done) | (simp [intOf]; omega)
          · have hje : jb = ts.length := by omega
            have dj : decide ((jb : Int) < (ts.length : Int)) = false := decide_eq_false (by omega)
            have dj2 : decide (jb < ts.length) = false := decide_eq_false (by omega)
            have HLeb : Hid (ljb = lc302 ++ bodyE sixE ts) := (by rw [hlj, hje, List.take_length] : ljb = lc302 ++ bodyE sixE ts)
            have hleb : ljb.length ≤ lc302.length + (bodyE sixE ts).length := Nat.le_trans hljb (Nat.add_le_add_left hble _)
            have HOeb := Lib.hid hown
            have HBeb := Lib.hid hbel
            have HXeb := Lib.hid hbox
            clear hst hlj hown hbel hbox hje hjl hble hljb
            have qq6 := heap_cell HXeb.out 6
            simp at qq6
            have HC := Lib.hid (rmany_any ojb cjb ljb os.length wr (by omega) (by omega) (row_bytes' HOeb.out))
            go_wp2_with fail
            refine HC.out.mono ?_
            clear HC qq6
            rintro ee W303 ⟨v303, rfl, h303, hb303⟩
            obtain ⟨lc303, hlc⟩ : ∃ lc9, lc9 = ljb ++ uv os.length := ⟨_, rfl⟩
            rw [← hlc] at h303
            have hn303 : lc303.length ≤ ljb.length + (uv os.length).length := by rw [hlc, List.length_append]; exact Nat.le_refl _
            have HLc303 := Lib.hid hlc
            clear hlc
            obtain ⟨a303, m303, c303, rfl⟩ := row_slice h303
            have hm303 := row_len' h303
            subst hm303
            have HBel303 := Lib.hid (HBeb.out.trans (hb303.mono HBeb.out.size))
            have HO303 : Hid (Own5 W.heap.size W303 (.slice a303 lc303.length c303) lc303) := row_lower h303 HBeb.out.size
            have HXb303 := Lib.hid ((hb303.block _ (heap_lt HXeb.out)).trans HXeb.out)
            clear h303 hb303
            have qq := heap_cell HXb303.out 6
            simp at qq
            go_wp2_with fail
            go_loopw [3, 72] (fun bv iv wr => ∃ (j : Nat) (oa : Option Addr) (oc : Nat) (lj : List UInt8), bv = .slice oa lj.length oc ∧ iv = .int .i64 j ∧ j ≤ os.length ∧ Hid (lj = lc303 ++ bodyE duoE (os.take j) ∧ Own5 W.heap.size wr (.slice oa lj.length oc) lj ∧ Below W.heap.size W wr ∧ wr.heap[x]? = some (.cells #[.int .u64 (id : Int), .int .i64 er, .int .u64 (rv : Int), .string tk, .slice fa fs.length fc, .slice ta ts.length tc, .slice oba os.length obc, .slice ea es.length ec, .slice sa ss.length sc, .int .i64 nk, .string nt, .string ni, .string nr, .slice nsa nss.length nsc, .slice na nps.length nc] 36 (0, 0)))) (fun _ iv _ => os.length - (intOf iv).toNat)
            case atStart => exact ⟨0, a303, c303, lc303, rfl, rfl, Nat.zero_le _, by rw [List.take_zero]; simp [bodyE], HO303.out, HBel303.out, HXb303.out⟩
            case round =>
              clear HO303 HBel303 HXb303 qq
              obtain ⟨jc, ojc, cjc, ljc, rfl, rfl, hjc, hst⟩ := hrel
              obtain ⟨hlj, hown, hbel, hbox⟩ := hst.out
              have hble := body_le duoE os jc
              have hljc : ljc.length ≤ lc303.length + (bodyE duoE (os.take jc)).length := by rw [hlj, List.length_append]; exact Nat.le_refl _
              by_cases hjl : jc < os.length
              · have dj : decide ((jc : Int) < (os.length : Int)) = true := decide_eq_true (by omega)
                have dj2 : decide (jc < os.length) = true := decide_eq_true (by omega)
                have hij : (jc : Int) < (os.length : Int) := by omega
                obtain ⟨bc, offc, rfl, hb, hc⟩ := (HOs.out.below hbel) (by omega)
                have c0 := hc jc hjl 0 (by omega)
                have c1 := hc jc hjl 1 (by omega)
                have hbt := body_take duoE os jc hjl
                have hble2 := body_le duoE os (jc + 1)
                rw [hbt, List.length_append] at hble2
                have hmem := getD_mem hjl
                have HBt := Lib.hid hbt
                have HLj := Lib.hid hlj
                have HOj := Lib.hid hown
                have HBj := Lib.hid hbel
                have HXj := Lib.hid hbox
                clear hst hc hbt hlj hown hbel hbox
                generalize os.getD jc default = y at *
                obtain ⟨ya, yb⟩ := y
                simp [duoC] at c0 c1
                have hB1 := (Below.refl wr.heap.size wr).alloc (Nat.le_refl _) (.cells #[.string ya, .string yb] 30)
                have hB2 := hB1.alloc hB1.size (.cells #[.string ya, .string yb] 9)
                have HTz : Hid (IsStrs ((wr.alloc (.cells #[.string ya, .string yb] 30)).alloc (.cells #[.string ya, .string yb] 9)) (some ⟨wr.heap.size + 1, 0, none⟩) [ya, yb]) := (by have h := strs_new (wr.alloc (.cells #[.string ya, .string yb] 30)) [ya, yb]; rw [alloc_size] at h; exact h : IsStrs ((wr.alloc (.cells #[.string ya, .string yb] 30)).alloc (.cells #[.string ya, .string yb] 9)) (some ⟨wr.heap.size + 1, 0, none⟩) [ya, yb])
                have HBa := Lib.hid (HBj.out.trans (hB2.mono HBj.out.size))
                have HXa := Lib.hid ((hB2.block _ (heap_lt HXj.out)).trans HXj.out)
                have HRa := Lib.hid ((row_bytes' HOj.out).below hB2)
                clear hB1 hB2
                have HC := Lib.hid (rtexts_any ojc cjc ljc (some ⟨wr.heap.size + 1, 0, none⟩) 2 [ya, yb] _ (by rw [body2]; omega) (by show 0 < 2; omega) (by show 2 ≤ 1000000; omega) HRa.out HTz.out)
                go_wp2_with fail
                refine HC.out.mono ?_
                clear HC
                rintro ee W304 ⟨v304, rfl, h304, hb304⟩
                rw [body2] at h304
                obtain ⟨lc304, hlc⟩ : ∃ lc9, lc9 = ljc ++ duoE (ya, yb) := ⟨_, rfl⟩
                rw [← hlc] at h304
                have hn304 : lc304.length ≤ ljc.length + (duoE (ya, yb)).length := by rw [hlc, List.length_append]; exact Nat.le_refl _
                have HLc304 := Lib.hid hlc
                clear hlc
                obtain ⟨a304, m304, c304, rfl⟩ := row_slice h304
                have hm304 := row_len' h304
                subst hm304
                have HBel304 := Lib.hid (HBa.out.trans (hb304.mono HBa.out.size))
                have HO304 : Hid (Own5 W.heap.size W304 (.slice a304 lc304.length c304) lc304) := row_lower h304 HBa.out.size
                have HXb304 := Lib.hid ((hb304.block _ (heap_lt HXa.out)).trans HXa.out)
                clear h304 hb304
                have HRN : Hid (lc304 = lc303 ++ bodyE duoE (os.take (jc + 1)) ∧ Own5 W.heap.size W304 (.slice a304 lc304.length c304) lc304 ∧ Below W.heap.size W W304 ∧ W304.heap[x]? = some (.cells #[.int .u64 (id : Int), .int .i64 er, .int .u64 (rv : Int), .string tk, .slice fa fs.length fc, .slice ta ts.length tc, .slice (some ⟨bc, offc, none⟩) os.length obc, .slice ea es.length ec, .slice sa ss.length sc, .int .i64 nk, .string nt, .string ni, .string nr, .slice nsa nss.length nsc, .slice na nps.length nc] 36 (0, 0))) := ⟨by
                  rw [HLc304.out, HLj.out, HBt.out]
                  simp only [List.append_assoc], HO304.out, HBel304.out, HXb304.out⟩
                clear hjl hble hble2
                go_wp2_with fail
                go_roundw
                case rel => exact ⟨jc + 1, a304, c304, lc304, rfl, by go_num, by omega, HRN⟩
                case measure => first | (simp [intOf]; done) | (simp [intOf]; omega)
              · have hje : jc = os.length := by omega
                have dj : decide ((jc : Int) < (os.length : Int)) = false := decide_eq_false (by omega)
                have dj2 : decide (jc < os.length) = false := decide_eq_false (by omega)
                have HLec : Hid (ljc = lc303 ++ bodyE duoE os) := (by rw [hlj, hje, List.take_length] : ljc = lc303 ++ bodyE duoE os)
                have hlec : ljc.length ≤ lc303.length + (bodyE duoE os).length := Nat.le_trans hljc (Nat.add_le_add_left hble _)
                have HOec := Lib.hid hown
                have HBec := Lib.hid hbel
                have HXec := Lib.hid hbox
                clear hst hlj hown hbel hbox hje hjl hble hljc
                have qq7 := heap_cell HXec.out 7
                simp at qq7
                have HC := Lib.hid (rmany_any ojc cjc ljc es.length wr (by omega) (by omega) (row_bytes' HOec.out))
                go_wp2_with fail
                refine HC.out.mono ?_
                clear HC qq7
                rintro ee W304 ⟨v304, rfl, h304, hb304⟩
                obtain ⟨lc304, hlc⟩ : ∃ lc9, lc9 = ljc ++ uv es.length := ⟨_, rfl⟩
                rw [← hlc] at h304
                have hn304 : lc304.length ≤ ljc.length + (uv es.length).length := by rw [hlc, List.length_append]; exact Nat.le_refl _
                have HLc304 := Lib.hid hlc
                clear hlc
                obtain ⟨a304, m304, c304, rfl⟩ := row_slice h304
                have hm304 := row_len' h304
                subst hm304
                have HBel304 := Lib.hid (HBec.out.trans (hb304.mono HBec.out.size))
                have HO304 : Hid (Own5 W.heap.size W304 (.slice a304 lc304.length c304) lc304) := row_lower h304 HBec.out.size
                have HXb304 := Lib.hid ((hb304.block _ (heap_lt HXec.out)).trans HXec.out)
                clear h304 hb304
                have qq := heap_cell HXb304.out 7
                simp at qq
                go_wp2_with fail
                go_loopw [3, 92] (fun bv iv wr => ∃ (j : Nat) (oa : Option Addr) (oc : Nat) (lj : List UInt8), bv = .slice oa lj.length oc ∧ iv = .int .i64 j ∧ j ≤ es.length ∧ Hid (lj = lc304 ++ bodyE evtE (es.take j) ∧ Own5 W.heap.size wr (.slice oa lj.length oc) lj ∧ Below W.heap.size W wr ∧ wr.heap[x]? = some (.cells #[.int .u64 (id : Int), .int .i64 er, .int .u64 (rv : Int), .string tk, .slice fa fs.length fc, .slice ta ts.length tc, .slice oba os.length obc, .slice ea es.length ec, .slice sa ss.length sc, .int .i64 nk, .string nt, .string ni, .string nr, .slice nsa nss.length nsc, .slice na nps.length nc] 36 (0, 0)))) (fun _ iv _ => es.length - (intOf iv).toNat)
                case atStart => exact ⟨0, a304, c304, lc304, rfl, rfl, Nat.zero_le _, by rw [List.take_zero]; simp [bodyE], HO304.out, HBel304.out, HXb304.out⟩
                case round =>
                  clear HO304 HBel304 HXb304 qq
                  obtain ⟨jd, ojd, cjd, ljd, rfl, rfl, hjd, hst⟩ := hrel
                  obtain ⟨hlj, hown, hbel, hbox⟩ := hst.out
                  have hble := body_le evtE es jd
                  have hljd : ljd.length ≤ lc304.length + (bodyE evtE (es.take jd)).length := by rw [hlj, List.length_append]; exact Nat.le_refl _
                  by_cases hjl : jd < es.length
                  · have dj : decide ((jd : Int) < (es.length : Int)) = true := decide_eq_true (by omega)
                    have dj2 : decide (jd < es.length) = true := decide_eq_true (by omega)
                    have hij : (jd : Int) < (es.length : Int) := by omega
                    obtain ⟨bd, offd, rfl, hb, hc⟩ := (HEs.out.below hbel) (by omega)
                    have c0 := hc jd hjl 0 (by omega)
                    have c1 := hc jd hjl 1 (by omega)
                    have c2 := hc jd hjl 2 (by omega)
                    have c3 := hc jd hjl 3 (by omega)
                    have c4 := hc jd hjl 4 (by omega)
                    have c5 := hc jd hjl 5 (by omega)
                    have c6 := hc jd hjl 6 (by omega)
                    have c7 := hc jd hjl 7 (by omega)
                    have hbt := body_take evtE es jd hjl
                    have hble2 := body_le evtE es (jd + 1)
                    rw [hbt, List.length_append] at hble2
                    have hmem := getD_mem hjl
                    have HBt := Lib.hid hbt
                    have HLj := Lib.hid hlj
                    have HOj := Lib.hid hown
                    have HBj := Lib.hid hbel
                    have HXj := Lib.hid hbox
                    have hey := HEk.out _ hmem
                    clear hst hc hbt hlj hown hbel hbox
                    generalize es.getD jd default = y at *
                    obtain ⟨yv, yz, ⟨ya, yb, yc⟩, yd, ye, yf⟩ := y
                    simp [evtC, wrtC, sixC, triC] at c0 c1 c2 c3 c4 c5 c6 c7
                    have hwe : (evtE (yv, yz, (ya, yb, yc), yd, ye, yf)).length = (uv yv).length + ((boolE yz).length + (sixE ((ya, yb, yc), yd, ye, yf)).length) := by unfold evtE wrtE; simp only [List.length_append]
                    have hba305 := (Below.refl wr.heap.size wr).alloc (Nat.le_refl _) (.cells #[.int .u64 (yv : Int), .bool yz, .string ya, .string yb, .string yc, .string yd, .string ye, .string yf] 67)
                    obtain ⟨W305, hV305⟩ : ∃ V9, V9 = (wr.alloc (.cells #[.int .u64 (yv : Int), .bool yz, .string ya, .string yb, .string yc, .string yd, .string ye, .string yf] 67)).drew := ⟨_, rfl⟩
                    have HBel305 : Hid (Below W.heap.size W W305) := (by rw [hV305]; exact (HBj.out.trans (hba305.mono HBj.out.size)).drew : Below W.heap.size W W305)
                    have HO305 : Hid (Own5 W.heap.size W305 (.slice ojd ljd.length cjd) ljd) := (by rw [hV305]; exact Below.row hba305.drew HOj.out : Own5 W.heap.size W305 (.slice ojd ljd.length cjd) ljd)
                    have HXb305 : Hid (W305.heap[x]? = some (.cells #[.int .u64 (id : Int), .int .i64 er, .int .u64 (rv : Int), .string tk, .slice fa fs.length fc, .slice ta ts.length tc, .slice oba os.length obc, .slice (some ⟨bd, offd, none⟩) es.length ec, .slice sa ss.length sc, .int .i64 nk, .string nt, .string ni, .string nr, .slice nsa nss.length nsc, .slice na nps.length nc] 36 (0, 0))) := (by rw [hV305]; exact (hba305.block _ (heap_lt HXj.out)).trans HXj.out : W305.heap[x]? = some (.cells #[.int .u64 (id : Int), .int .i64 er, .int .u64 (rv : Int), .string tk, .slice fa fs.length fc, .slice ta ts.length tc, .slice oba os.length obc, .slice (some ⟨bd, offd, none⟩) es.length ec, .slice sa ss.length sc, .int .i64 nk, .string nt, .string ni, .string nr, .slice nsa nss.length nsc, .slice na nps.length nc] 36 (0, 0)))
                    have HXl305 : Hid (W305.heap[wr.heap.size]? = some (.cells #[.int .u64 (yv : Int), .bool yz, .string ya, .string yb, .string yc, .string yd, .string ye, .string yf] 67 (0, 0))) := (by rw [hV305]; exact heap_alloc_new wr _ : W305.heap[wr.heap.size]? = some (.cells #[.int .u64 (yv : Int), .bool yz, .string ya, .string yb, .string yc, .string yd, .string ye, .string yf] 67 (0, 0)))
                    have hS0 : W305.cell? ⟨wr.heap.size, 0, none⟩ = some (.int .u64 (yv : Int)) ∧ W305.cell? ⟨wr.heap.size, 1, none⟩ = some (.bool yz) ∧ W305.cell? ⟨wr.heap.size, 2, none⟩ = some (.string ya) ∧ W305.cell? ⟨wr.heap.size, 3, none⟩ = some (.string yb) ∧ W305.cell? ⟨wr.heap.size, 4, none⟩ = some (.string yc) ∧ W305.cell? ⟨wr.heap.size, 5, none⟩ = some (.string yd) ∧ W305.cell? ⟨wr.heap.size, 6, none⟩ = some (.string ye) ∧ W305.cell? ⟨wr.heap.size, 7, none⟩ = some (.string yf) := ⟨heap_cell HXl305.out 0, heap_cell HXl305.out 1, heap_cell HXl305.out 2, heap_cell HXl305.out 3, heap_cell HXl305.out 4, heap_cell HXl305.out 5, heap_cell HXl305.out 6, heap_cell HXl305.out 7⟩
                    go_wp2_with fail
                    try refine wp_region_noPanic ?_
                    refine wp_region_held_drew (S := fun w' => w'.cell? ⟨wr.heap.size, 0, none⟩ = some (.int .u64 (yv : Int)) ∧ w'.cell? ⟨wr.heap.size, 1, none⟩ = some (.bool yz) ∧ w'.cell? ⟨wr.heap.size, 2, none⟩ = some (.string ya) ∧ w'.cell? ⟨wr.heap.size, 3, none⟩ = some (.string yb) ∧ w'.cell? ⟨wr.heap.size, 4, none⟩ = some (.string yc) ∧ w'.cell? ⟨wr.heap.size, 5, none⟩ = some (.string yd) ∧ w'.cell? ⟨wr.heap.size, 6, none⟩ = some (.string ye) ∧ w'.cell? ⟨wr.heap.size, 7, none⟩ = some (.string yf)) (by kernel_rfl) (by rw [← hV305]; exact hS0) (fun hHeld => ?_)
                    rw [← hV305] at hHeld ⊢
                    clear hV305 hS0 hba305
                    refine take_at 0 96 (v := ?_) rfl rfl (by kernel_rfl) (by kernel_rfl) (by kernel_rfl) (fun _ _ _ h => h) (Or.inl ⟨by rfl, ?_⟩) hHeld ?_
                    rotate_left
                    · (intro w hSw; (try dsimp only at hSw); go_simp; try with_reducible rfl)
                    try simp only [List.setIfInBounds_toArray, List.set_cons_zero, List.set_cons_succ]
                    refine take_at 1 97 (v := ?_) rfl rfl (by kernel_rfl) (by kernel_rfl) (by kernel_rfl) (fun _ _ _ h => h) (Or.inl ⟨by rfl, ?_⟩) hHeld ?_
                    rotate_left
                    · (intro w hSw; (try dsimp only at hSw); go_simp; try with_reducible rfl)
                    try simp only [List.setIfInBounds_toArray, List.set_cons_zero, List.set_cons_succ]
                    refine take_at 2 98 (v := ?_) rfl rfl (by kernel_rfl) (by kernel_rfl) (by kernel_rfl) (fun _ _ _ h => h) (Or.inl ⟨by rfl, ?_⟩) hHeld ?_
                    rotate_left
                    · (intro w hSw; (try dsimp only at hSw); go_simp; try with_reducible rfl)
                    try simp only [List.setIfInBounds_toArray, List.set_cons_zero, List.set_cons_succ]
                    refine take_at 4 100 (v := ?_) rfl rfl (by kernel_rfl) (by kernel_rfl) (by kernel_rfl) (fun _ _ _ h => h) (Or.inl ⟨by rfl, ?_⟩) hHeld ?_
                    rotate_left
                    · (intro w hSw; (try dsimp only at hSw); go_simp; try with_reducible rfl)
                    try simp only [List.setIfInBounds_toArray, List.set_cons_zero, List.set_cons_succ]
                    refine take_at 5 101 (v := ?_) rfl rfl (by kernel_rfl) (by kernel_rfl) (by kernel_rfl) (fun _ _ _ h => h) (Or.inl ⟨by rfl, ?_⟩) hHeld ?_
                    rotate_left
                    · (intro w hSw; (try dsimp only at hSw); go_simp; try with_reducible rfl)
                    try simp only [List.setIfInBounds_toArray, List.set_cons_zero, List.set_cons_succ]
                    refine take_at 6 102 (v := ?_) rfl rfl (by kernel_rfl) (by kernel_rfl) (by kernel_rfl) (fun _ _ _ h => h) (Or.inl ⟨by rfl, ?_⟩) hHeld ?_
                    rotate_left
                    · (intro w hSw; (try dsimp only at hSw); go_simp; try with_reducible rfl)
                    try simp only [List.setIfInBounds_toArray, List.set_cons_zero, List.set_cons_succ]
                    refine take_at 8 104 (v := ?_) rfl rfl (by kernel_rfl) (by kernel_rfl) (by kernel_rfl) (fun _ _ _ h => h) (Or.inl ⟨by rfl, ?_⟩) hHeld ?_
                    rotate_left
                    · (intro w hSw; (try dsimp only at hSw); go_simp; try with_reducible rfl)
                    try simp only [List.setIfInBounds_toArray, List.set_cons_zero, List.set_cons_succ]
                    refine take_at 9 105 (v := ?_) rfl rfl (by kernel_rfl) (by kernel_rfl) (by kernel_rfl) (fun _ _ _ h => h) (Or.inl ⟨by rfl, ?_⟩) hHeld ?_
                    rotate_left
                    · (intro w hSw; (try dsimp only at hSw); go_simp; try with_reducible rfl)
                    try simp only [List.setIfInBounds_toArray, List.set_cons_zero, List.set_cons_succ]
                    refine take_at 10 106 (v := ?_) rfl rfl (by kernel_rfl) (by kernel_rfl) (by kernel_rfl) (fun _ _ _ h => h) (Or.inl ⟨by rfl, ?_⟩) hHeld ?_
                    rotate_left
                    · (intro w hSw; (try dsimp only at hSw); go_simp; try with_reducible rfl)
                    try simp only [List.setIfInBounds_toArray, List.set_cons_zero, List.set_cons_succ]
                    refine only_at 3 99 (by kernel_rfl) rfl rfl (by rfl) (fun K hK => ?_)
                    go_simp
                    refine (refput_any ojd cjd ljd yv W305 (by omega) hey (row_bytes' HO305.out)).mono ?_
                    rintro ee W306 ⟨v306, rfl, h306, hb306⟩
                    obtain ⟨lc306, hlc⟩ : ∃ lc9, lc9 = ljd ++ uv yv := ⟨_, rfl⟩
                    rw [← hlc] at h306
                    have hn306 : lc306.length ≤ ljd.length + (uv yv).length := by rw [hlc, List.length_append]; exact Nat.le_refl _
                    have HLc306 := Lib.hid hlc
                    clear hlc
                    obtain ⟨a306, m306, c306, rfl⟩ := row_slice h306
                    have hm306 := row_len' h306
                    subst hm306
                    have HBel306 := Lib.hid (HBel305.out.trans (hb306.mono HBel305.out.size))
                    have HO306 : Hid (Own5 W.heap.size W306 (.slice a306 lc306.length c306) lc306) := row_lower h306 HBel305.out.size
                    have HXb306 := Lib.hid ((hb306.block _ (heap_lt HXb305.out)).trans HXb305.out)
                    have HXl306 := Lib.hid ((hb306.block _ (heap_lt HXl305.out)).trans HXl305.out)
                    clear h306 hb306
                    go_wp2_with fail
                    refine hK.out _ _ (⟨heap_cell HXl306.out 0, heap_cell HXl306.out 1, heap_cell HXl306.out 2, heap_cell HXl306.out 3, heap_cell HXl306.out 4, heap_cell HXl306.out 5, heap_cell HXl306.out 6, heap_cell HXl306.out 7⟩) (fun hHeld2 => ?_)
                    clear hK K hHeld
                    have hHeld := hHeld2
                    clear hHeld2
                    try simp only [Act.put, List.setIfInBounds_toArray, List.set_cons_zero, List.set_cons_succ]
                    refine only_at 7 103 (by kernel_rfl) rfl rfl (by rfl) (fun K hK => ?_)
                    go_simp
                    refine (rtruth2_any W.heap.size (.slice a306 lc306.length c306) lc306 yz W306 (by omega) HO306.out HBel306.out.size).mono ?_
                    rintro ee W307 ⟨v307, rfl, h307, hg307⟩
                    unfold Own5 at h307
                    obtain ⟨lc307, hlc⟩ : ∃ lc9, lc9 = lc306 ++ boolE yz := ⟨_, rfl⟩
                    rw [← hlc] at h307
                    have hn307 : lc307.length ≤ lc306.length + (boolE yz).length := by rw [hlc, List.length_append]; exact Nat.le_refl _
                    have HLc307 := Lib.hid hlc
                    clear hlc
                    obtain ⟨a307, m307, c307, rfl⟩ := row_slice h307
                    have hm307 := row_len' h307
                    subst hm307
                    have HBel307 := Lib.hid (Below.own HBel306.out HO306.out (Nat.le_refl _) HBel306.out.size hg307)
                    have HO307 : Hid (Own5 W.heap.size W307 (.slice a307 lc307.length c307) lc307) := h307
                    have HXb307 := Lib.hid (heap_kept HO306.out HXb306.out (by decide) hg307)
                    have HXl307 := Lib.hid (heap_kept HO306.out HXl306.out (by decide) hg307)
                    clear h307 hg307
                    go_wp2_with fail
                    refine hK.out _ _ (⟨heap_cell HXl307.out 0, heap_cell HXl307.out 1, heap_cell HXl307.out 2, heap_cell HXl307.out 3, heap_cell HXl307.out 4, heap_cell HXl307.out 5, heap_cell HXl307.out 6, heap_cell HXl307.out 7⟩) (fun hHeld2 => ?_)
                    clear hK K hHeld
                    have hHeld := hHeld2
                    clear hHeld2
                    try simp only [Act.put, List.setIfInBounds_toArray, List.set_cons_zero, List.set_cons_succ]
                    refine only_at 11 107 (by kernel_rfl) rfl rfl (by rfl) (fun K hK => ?_)
                    go_simp
                    refine (rtuple_any a307 c307 lc307 ya yb yc yd ye yf W307 (by omega) (row_bytes' HO307.out)).mono ?_
                    rintro ee W308 ⟨v308, rfl, h308, hb308⟩
                    obtain ⟨lc308, hlc⟩ : ∃ lc9, lc9 = lc307 ++ sixE ((ya, yb, yc), yd, ye, yf) := ⟨_, rfl⟩
                    rw [← hlc] at h308
                    have hn308 : lc308.length ≤ lc307.length + (sixE ((ya, yb, yc), yd, ye, yf)).length := by rw [hlc, List.length_append]; exact Nat.le_refl _
                    have HLc308 := Lib.hid hlc
                    clear hlc
                    obtain ⟨a308, m308, c308, rfl⟩ := row_slice h308
                    have hm308 := row_len' h308
                    subst hm308
                    have HBel308 := Lib.hid (HBel307.out.trans (hb308.mono HBel307.out.size))
                    have HO308 : Hid (Own5 W.heap.size W308 (.slice a308 lc308.length c308) lc308) := row_lower h308 HBel307.out.size
                    have HXb308 := Lib.hid ((hb308.block _ (heap_lt HXb307.out)).trans HXb307.out)
                    have HXl308 := Lib.hid ((hb308.block _ (heap_lt HXl307.out)).trans HXl307.out)
                    clear h308 hb308
                    go_wp2_with fail
                    refine hK.out _ _ (⟨heap_cell HXl308.out 0, heap_cell HXl308.out 1, heap_cell HXl308.out 2, heap_cell HXl308.out 3, heap_cell HXl308.out 4, heap_cell HXl308.out 5, heap_cell HXl308.out 6, heap_cell HXl308.out 7⟩) (fun hHeld2 => ?_)
                    clear hK K hHeld
                    have hHeld := hHeld2
                    clear hHeld2
                    try simp only [Act.put, List.setIfInBounds_toArray, List.set_cons_zero, List.set_cons_succ]
                    refine take_at 12 3 (v := ?_) rfl rfl (by kernel_rfl) (by kernel_rfl) (by kernel_rfl) (fun _ _ _ h => h) (Or.inl ⟨by rfl, ?_⟩) hHeld ?_
                    rotate_left
                    · (intro w hSw; (try dsimp only at hSw); go_simp; try with_reducible rfl)
                    try simp only [List.setIfInBounds_toArray, List.set_cons_zero, List.set_cons_succ]
                    refine wpAnyH_done (by kernel_rfl) ?_ _
                    try refine NoPanic.normal ?_
                    have HRN : Hid (lc308 = lc304 ++ bodyE evtE (es.take (jd + 1)) ∧ Own5 W.heap.size W308 (.slice a308 lc308.length c308) lc308 ∧ Below W.heap.size W W308 ∧ W308.heap[x]? = some (.cells #[.int .u64 (id : Int), .int .i64 er, .int .u64 (rv : Int), .string tk, .slice fa fs.length fc, .slice ta ts.length tc, .slice oba os.length obc, .slice (some ⟨bd, offd, none⟩) es.length ec, .slice sa ss.length sc, .int .i64 nk, .string nt, .string ni, .string nr, .slice nsa nss.length nsc, .slice na nps.length nc] 36 (0, 0))) := ⟨by
                      rw [HLc308.out, HLc307.out, HLc306.out, HLj.out, HBt.out]
                      simp only [evtE, wrtE, List.append_assoc], HO308.out, HBel308.out, HXb308.out⟩
                    clear hjl hble hble2
                    go_wp2_with fail
                    go_roundw
                    case rel => exact ⟨jd + 1, a308, c308, lc308, rfl, by go_num, by omega, HRN⟩
                    case measure => first | (simp [intOf]; done) | (simp [intOf]; omega)
                  · have hje : jd = es.length := by omega
                    have dj : decide ((jd : Int) < (es.length : Int)) = false := decide_eq_false (by omega)
                    have dj2 : decide (jd < es.length) = false := decide_eq_false (by omega)
                    have HLed : Hid (ljd = lc304 ++ bodyE evtE es) := (by rw [hlj, hje, List.take_length] : ljd = lc304 ++ bodyE evtE es)
                    have hled : ljd.length ≤ lc304.length + (bodyE evtE es).length := Nat.le_trans hljd (Nat.add_le_add_left hble _)
                    have HOed := Lib.hid hown
                    have HBed := Lib.hid hbel
                    have HXed := Lib.hid hbox
                    clear hst hlj hown hbel hbox hje hjl hble hljd
                    have qq8 := heap_cell HXed.out 8
                    simp at qq8
                    have HC := Lib.hid (rmany_any ojd cjd ljd ss.length wr (by omega) (by omega) (row_bytes' HOed.out))
                    go_wp2_with fail
                    refine HC.out.mono ?_
                    clear HC qq8
                    rintro ee W305 ⟨v305, rfl, h305, hb305⟩
                    obtain ⟨lc305, hlc⟩ : ∃ lc9, lc9 = ljd ++ uv ss.length := ⟨_, rfl⟩
                    rw [← hlc] at h305
                    have hn305 : lc305.length ≤ ljd.length + (uv ss.length).length := by rw [hlc, List.length_append]; exact Nat.le_refl _
                    have HLc305 := Lib.hid hlc
                    clear hlc
                    obtain ⟨a305, m305, c305, rfl⟩ := row_slice h305
                    have hm305 := row_len' h305
                    subst hm305
                    have HBel305 := Lib.hid (HBed.out.trans (hb305.mono HBed.out.size))
                    have HO305 : Hid (Own5 W.heap.size W305 (.slice a305 lc305.length c305) lc305) := row_lower h305 HBed.out.size
                    have HXb305 := Lib.hid ((hb305.block _ (heap_lt HXed.out)).trans HXed.out)
                    clear h305 hb305
                    have qq := heap_cell HXb305.out 8
                    simp at qq
                    go_wp2_with fail
                    go_loopw [3, 117] (fun bv iv wr => ∃ (j : Nat) (oa : Option Addr) (oc : Nat) (lj : List UInt8), bv = .slice oa lj.length oc ∧ iv = .int .i64 j ∧ j ≤ ss.length ∧ Hid (lj = lc305 ++ bodyE seE (ss.take j) ∧ Own5 W.heap.size wr (.slice oa lj.length oc) lj ∧ Below W.heap.size W wr ∧ wr.heap[x]? = some (.cells #[.int .u64 (id : Int), .int .i64 er, .int .u64 (rv : Int), .string tk, .slice fa fs.length fc, .slice ta ts.length tc, .slice oba os.length obc, .slice ea es.length ec, .slice sa ss.length sc, .int .i64 nk, .string nt, .string ni, .string nr, .slice nsa nss.length nsc, .slice na nps.length nc] 36 (0, 0)))) (fun _ iv _ => ss.length - (intOf iv).toNat)
                    case atStart => exact ⟨0, a305, c305, lc305, rfl, rfl, Nat.zero_le _, by rw [List.take_zero]; simp [bodyE], HO305.out, HBel305.out, HXb305.out⟩
                    case round =>
                      clear HO305 HBel305 HXb305 qq
                      obtain ⟨je, oje, cje, lje, rfl, rfl, hje, hst⟩ := hrel
                      obtain ⟨hlj, hown, hbel, hbox⟩ := hst.out
                      have hble := body_le seE ss je
                      have hlje : lje.length ≤ lc305.length + (bodyE seE (ss.take je)).length := by rw [hlj, List.length_append]; exact Nat.le_refl _
                      by_cases hjl : je < ss.length
                      · have dj : decide ((je : Int) < (ss.length : Int)) = true := decide_eq_true (by omega)
                        have dj2 : decide (je < ss.length) = true := decide_eq_true (by omega)
                        have hij : (je : Int) < (ss.length : Int) := by omega
                        obtain ⟨be, offe, rfl, hb, hc⟩ := (HSs.out.below hbel) (by omega)
                        have c0 := hc je hjl 0 (by omega)
                        have c1 := hc je hjl 1 (by omega)
                        have c2 := hc je hjl 2 (by omega)
                        have c3 := hc je hjl 3 (by omega)
                        have c4 := hc je hjl 4 (by omega)
                        have c5 := hc je hjl 5 (by omega)
                        have c6 := hc je hjl 6 (by omega)
                        have c7 := hc je hjl 7 (by omega)
                        have c8 := hc je hjl 8 (by omega)
                        have c9 := hc je hjl 9 (by omega)
                        have c10 := hc je hjl 10 (by omega)
                        have hbt := body_take seE ss je hjl
                        have hble2 := body_le seE ss (je + 1)
                        rw [hbt, List.length_append] at hble2
                        have hmem := getD_mem hjl
                        have HBt := Lib.hid hbt
                        have HLj := Lib.hid hlj
                        have HOj := Lib.hid hown
                        have HBj := Lib.hid hbel
                        have HXj := Lib.hid hbox
                        have hsy := HSm.out _ hmem
                        have hky := HSk.out _ hmem
                        clear hst hc hbt hlj hown hbel hbox
                        generalize ss.getD je default = y at *
                        obtain ⟨⟨p1, p2, p3⟩, ⟨rk, rA, rB, ra, rc, rps⟩, ⟨s1, s2, s3⟩, ba, bc, bs⟩ := y
                        simp [seC] at c0 c1 c2 c3 c4 c5 c6 c7 c8 c9 c10
                        have hwe := seE_len (p1, p2, p3) (⟨rk, rA, rB, ra, rc, rps⟩ : RE) (s1, s2, s3) ba bc bs
                        have hbl := list_ge (en := intE) intE_pos' bs
                        have hbi : (listE intE bs).length = (uv bs.length).length + (bodyE intE bs).length := by unfold listE; rw [List.length_append]
                        have HSy := Lib.hid hsy
                        have HKy := Lib.hid hky
                        have HBy : Hid (IsEls intC 1 W ba bs) := hsy.2.2.1
                        have HIy : Hid (∀ x ∈ bs, iok x) := hky.2.2.2.2
                        clear hsy hky
                        have hba306 := (Below.refl wr.heap.size wr).alloc (Nat.le_refl _) (.cells #[.string p1, .string p2, .string p3, .int .i64 rk, .string rA, .string rB, .slice ra rps.length rc, .string s1, .string s2, .string s3, .slice ba bs.length bc] 74)
                        obtain ⟨W306, hV306⟩ : ∃ V9, V9 = (wr.alloc (.cells #[.string p1, .string p2, .string p3, .int .i64 rk, .string rA, .string rB, .slice ra rps.length rc, .string s1, .string s2, .string s3, .slice ba bs.length bc] 74)).drew := ⟨_, rfl⟩
                        have HBel306 : Hid (Below W.heap.size W W306) := (by rw [hV306]; exact (HBj.out.trans (hba306.mono HBj.out.size)).drew : Below W.heap.size W W306)
                        have HO306 : Hid (Own5 W.heap.size W306 (.slice oje lje.length cje) lje) := (by rw [hV306]; exact Below.row hba306.drew HOj.out : Own5 W.heap.size W306 (.slice oje lje.length cje) lje)
                        have HXb306 : Hid (W306.heap[x]? = some (.cells #[.int .u64 (id : Int), .int .i64 er, .int .u64 (rv : Int), .string tk, .slice fa fs.length fc, .slice ta ts.length tc, .slice oba os.length obc, .slice ea es.length ec, .slice (some ⟨be, offe, none⟩) ss.length sc, .int .i64 nk, .string nt, .string ni, .string nr, .slice nsa nss.length nsc, .slice na nps.length nc] 36 (0, 0))) := (by rw [hV306]; exact (hba306.block _ (heap_lt HXj.out)).trans HXj.out : W306.heap[x]? = some (.cells #[.int .u64 (id : Int), .int .i64 er, .int .u64 (rv : Int), .string tk, .slice fa fs.length fc, .slice ta ts.length tc, .slice oba os.length obc, .slice ea es.length ec, .slice (some ⟨be, offe, none⟩) ss.length sc, .int .i64 nk, .string nt, .string ni, .string nr, .slice nsa nss.length nsc, .slice na nps.length nc] 36 (0, 0)))
                        have HXl306 : Hid (W306.heap[wr.heap.size]? = some (.cells #[.string p1, .string p2, .string p3, .int .i64 rk, .string rA, .string rB, .slice ra rps.length rc, .string s1, .string s2, .string s3, .slice ba bs.length bc] 74 (0, 0))) := (by rw [hV306]; exact heap_alloc_new wr _ : W306.heap[wr.heap.size]? = some (.cells #[.string p1, .string p2, .string p3, .int .i64 rk, .string rA, .string rB, .slice ra rps.length rc, .string s1, .string s2, .string s3, .slice ba bs.length bc] 74 (0, 0)))
                        have hS0 : W306.cell? ⟨wr.heap.size, 0, none⟩ = some (.string p1) ∧ W306.cell? ⟨wr.heap.size, 1, none⟩ = some (.string p2) ∧ W306.cell? ⟨wr.heap.size, 2, none⟩ = some (.string p3) ∧ W306.cell? ⟨wr.heap.size, 3, none⟩ = some (.int .i64 rk) ∧ W306.cell? ⟨wr.heap.size, 4, none⟩ = some (.string rA) ∧ W306.cell? ⟨wr.heap.size, 5, none⟩ = some (.string rB) ∧ W306.cell? ⟨wr.heap.size, 6, none⟩ = some (.slice ra rps.length rc) ∧ W306.cell? ⟨wr.heap.size, 7, none⟩ = some (.string s1) ∧ W306.cell? ⟨wr.heap.size, 8, none⟩ = some (.string s2) ∧ W306.cell? ⟨wr.heap.size, 9, none⟩ = some (.string s3) ∧ W306.cell? ⟨wr.heap.size, 10, none⟩ = some (.slice ba bs.length bc) := ⟨heap_cell HXl306.out 0, heap_cell HXl306.out 1, heap_cell HXl306.out 2, heap_cell HXl306.out 3, heap_cell HXl306.out 4, heap_cell HXl306.out 5, heap_cell HXl306.out 6, heap_cell HXl306.out 7, heap_cell HXl306.out 8, heap_cell HXl306.out 9, heap_cell HXl306.out 10⟩
                        go_wp2_with fail
                        try refine wp_region_noPanic ?_
                        refine wp_region_held_drew (S := fun w' => w'.cell? ⟨wr.heap.size, 0, none⟩ = some (.string p1) ∧ w'.cell? ⟨wr.heap.size, 1, none⟩ = some (.string p2) ∧ w'.cell? ⟨wr.heap.size, 2, none⟩ = some (.string p3) ∧ w'.cell? ⟨wr.heap.size, 3, none⟩ = some (.int .i64 rk) ∧ w'.cell? ⟨wr.heap.size, 4, none⟩ = some (.string rA) ∧ w'.cell? ⟨wr.heap.size, 5, none⟩ = some (.string rB) ∧ w'.cell? ⟨wr.heap.size, 6, none⟩ = some (.slice ra rps.length rc) ∧ w'.cell? ⟨wr.heap.size, 7, none⟩ = some (.string s1) ∧ w'.cell? ⟨wr.heap.size, 8, none⟩ = some (.string s2) ∧ w'.cell? ⟨wr.heap.size, 9, none⟩ = some (.string s3) ∧ w'.cell? ⟨wr.heap.size, 10, none⟩ = some (.slice ba bs.length bc)) (by kernel_rfl) (by rw [← hV306]; exact hS0) (fun hHeld => ?_)
                        rw [← hV306] at hHeld ⊢
                        clear hV306 hS0 hba306
                        refine take_at 0 121 (v := ?_) rfl rfl (by kernel_rfl) (by kernel_rfl) (by kernel_rfl) (fun _ _ _ h => h) (Or.inl ⟨by rfl, ?_⟩) hHeld ?_
                        rotate_left
                        · (intro w hSw; (try dsimp only at hSw); go_simp; try with_reducible rfl)
                        try simp only [List.setIfInBounds_toArray, List.set_cons_zero, List.set_cons_succ]
                        refine take_at 1 122 (v := ?_) rfl rfl (by kernel_rfl) (by kernel_rfl) (by kernel_rfl) (fun _ _ _ h => h) (Or.inl ⟨by rfl, ?_⟩) hHeld ?_
                        rotate_left
                        · (intro w hSw; (try dsimp only at hSw); go_simp; try with_reducible rfl)
                        try simp only [List.setIfInBounds_toArray, List.set_cons_zero, List.set_cons_succ]
                        refine take_at 2 123 (v := ?_) rfl rfl (by kernel_rfl) (by kernel_rfl) (by kernel_rfl) (fun _ _ _ h => h) (Or.inl ⟨by rfl, ?_⟩) hHeld ?_
                        rotate_left
                        · (intro w hSw; (try dsimp only at hSw); go_simp; try with_reducible rfl)
                        try simp only [List.setIfInBounds_toArray, List.set_cons_zero, List.set_cons_succ]
                        refine take_at 4 125 (v := ?_) rfl rfl (by kernel_rfl) (by kernel_rfl) (by kernel_rfl) (fun _ _ _ h => h) (Or.inl ⟨by rfl, ?_⟩) hHeld ?_
                        rotate_left
                        · (intro w hSw; (try dsimp only at hSw); go_simp; try with_reducible rfl)
                        try simp only [List.setIfInBounds_toArray, List.set_cons_zero, List.set_cons_succ]
                        refine take_at 5 126 (v := ?_) rfl rfl (by kernel_rfl) (by kernel_rfl) (by kernel_rfl) (fun _ _ _ h => h) (Or.inl ⟨by rfl, ?_⟩) hHeld ?_
                        rotate_left
                        · (intro w hSw; (try dsimp only at hSw); go_simp; try with_reducible rfl)
                        try simp only [List.setIfInBounds_toArray, List.set_cons_zero, List.set_cons_succ]
                        refine take_at 7 128 (v := ?_) rfl rfl (by kernel_rfl) (by kernel_rfl) (by kernel_rfl) (fun _ _ _ h => h) (Or.inl ⟨by rfl, ?_⟩) hHeld ?_
                        rotate_left
                        · (intro w hSw; (try dsimp only at hSw); go_simp; try with_reducible rfl)
                        try simp only [List.setIfInBounds_toArray, List.set_cons_zero, List.set_cons_succ]
                        refine take_at 8 129 (v := ?_) rfl rfl (by kernel_rfl) (by kernel_rfl) (by kernel_rfl) (fun _ _ _ h => h) (Or.inl ⟨by rfl, ?_⟩) hHeld ?_
                        rotate_left
                        · (intro w hSw; (try dsimp only at hSw); go_simp; try with_reducible rfl)
                        try simp only [List.setIfInBounds_toArray, List.set_cons_zero, List.set_cons_succ]
                        refine take_at 10 131 (v := ?_) rfl rfl (by kernel_rfl) (by kernel_rfl) (by kernel_rfl) (fun _ _ _ h => h) (Or.inl ⟨by rfl, ?_⟩) hHeld ?_
                        rotate_left
                        · (intro w hSw; (try dsimp only at hSw); go_simp; try with_reducible rfl)
                        try simp only [List.setIfInBounds_toArray, List.set_cons_zero, List.set_cons_succ]
                        refine take_at 11 132 (v := ?_) rfl rfl (by kernel_rfl) (by kernel_rfl) (by kernel_rfl) (fun _ _ _ h => h) (Or.inl ⟨by rfl, ?_⟩) hHeld ?_
                        rotate_left
                        · (intro w hSw; (try dsimp only at hSw); go_simp; try with_reducible rfl)
                        try simp only [List.setIfInBounds_toArray, List.set_cons_zero, List.set_cons_succ]
                        refine take_at 12 133 (v := ?_) rfl rfl (by kernel_rfl) (by kernel_rfl) (by kernel_rfl) (fun _ _ _ h => h) (Or.inl ⟨by rfl, ?_⟩) hHeld ?_
                        rotate_left
                        · (intro w hSw; (try dsimp only at hSw); go_simp; try with_reducible rfl)
                        try simp only [List.setIfInBounds_toArray, List.set_cons_zero, List.set_cons_succ]
                        refine only_at 3 124 (by kernel_rfl) rfl rfl (by rfl) (fun K hK => ?_)
                        go_simp
                        refine (rpoint_any oje cje lje p1 p2 p3 W306 (by omega) (row_bytes' HO306.out)).mono ?_
                        rintro ee W307 ⟨v307, rfl, h307, hb307⟩
                        obtain ⟨lc307, hlc⟩ : ∃ lc9, lc9 = lje ++ triE (p1, p2, p3) := ⟨_, rfl⟩
                        rw [← hlc] at h307
                        have hn307 : lc307.length ≤ lje.length + (triE (p1, p2, p3)).length := by rw [hlc, List.length_append]; exact Nat.le_refl _
                        have HLc307 := Lib.hid hlc
                        clear hlc
                        obtain ⟨a307, m307, c307, rfl⟩ := row_slice h307
                        have hm307 := row_len' h307
                        subst hm307
                        have HBel307 := Lib.hid (HBel306.out.trans (hb307.mono HBel306.out.size))
                        have HO307 : Hid (Own5 W.heap.size W307 (.slice a307 lc307.length c307) lc307) := row_lower h307 HBel306.out.size
                        have HXb307 := Lib.hid ((hb307.block _ (heap_lt HXb306.out)).trans HXb306.out)
                        have HXl307 := Lib.hid ((hb307.block _ (heap_lt HXl306.out)).trans HXl306.out)
                        clear h307 hb307
                        go_wp2_with fail
                        refine hK.out _ _ (⟨heap_cell HXl307.out 0, heap_cell HXl307.out 1, heap_cell HXl307.out 2, heap_cell HXl307.out 3, heap_cell HXl307.out 4, heap_cell HXl307.out 5, heap_cell HXl307.out 6, heap_cell HXl307.out 7, heap_cell HXl307.out 8, heap_cell HXl307.out 9, heap_cell HXl307.out 10⟩) (fun hHeld2 => ?_)
                        clear hK K hHeld
                        have hHeld := hHeld2
                        clear hHeld2
                        try simp only [Act.put, List.setIfInBounds_toArray, List.set_cons_zero, List.set_cons_succ]
                        refine only_at 6 127 (by kernel_rfl) rfl rfl (by rfl) (fun K hK => ?_)
                        go_simp
                        refine (rrule_enc dm S W307 (⟨rk, rA, rB, ra, rc, rps⟩ : RE) a307 c307 lc307 (HSy.out.1.2.stays (Stays.below HBel307.out)) HKy.out.2.1 (by omega) (row_bytes' HO307.out)).mono ?_
                        rintro ee W308 ⟨v308, rfl, h308, hb308⟩
                        obtain ⟨lc308, hlc⟩ : ∃ lc9, lc9 = lc307 ++ reE (⟨rk, rA, rB, ra, rc, rps⟩ : RE) := ⟨_, rfl⟩
                        rw [← hlc] at h308
                        have hn308 : lc308.length ≤ lc307.length + (reE (⟨rk, rA, rB, ra, rc, rps⟩ : RE)).length := by rw [hlc, List.length_append]; exact Nat.le_refl _
                        have HLc308 := Lib.hid hlc
                        clear hlc
                        obtain ⟨a308, m308, c308, rfl⟩ := row_slice h308
                        have hm308 := row_len' h308
                        subst hm308
                        have HBel308 := Lib.hid (HBel307.out.trans (hb308.mono HBel307.out.size))
                        have HO308 : Hid (Own5 W.heap.size W308 (.slice a308 lc308.length c308) lc308) := row_lower h308 HBel307.out.size
                        have HXb308 := Lib.hid ((hb308.block _ (heap_lt HXb307.out)).trans HXb307.out)
                        have HXl308 := Lib.hid ((hb308.block _ (heap_lt HXl307.out)).trans HXl307.out)
                        clear h308 hb308
                        go_wp2_with fail
                        refine hK.out _ _ (⟨heap_cell HXl308.out 0, heap_cell HXl308.out 1, heap_cell HXl308.out 2, heap_cell HXl308.out 3, heap_cell HXl308.out 4, heap_cell HXl308.out 5, heap_cell HXl308.out 6, heap_cell HXl308.out 7, heap_cell HXl308.out 8, heap_cell HXl308.out 9, heap_cell HXl308.out 10⟩) (fun hHeld2 => ?_)
                        clear hK K hHeld
                        have hHeld := hHeld2
                        clear hHeld2
                        try simp only [Act.put, List.setIfInBounds_toArray, List.set_cons_zero, List.set_cons_succ]
                        refine only_at 9 130 (by kernel_rfl) rfl rfl (by rfl) (fun K hK => ?_)
                        go_simp
                        refine (rsub_any a308 c308 lc308 s1 s2 s3 W308 (by omega) (row_bytes' HO308.out)).mono ?_
                        rintro ee W309 ⟨v309, rfl, h309, hb309⟩
                        obtain ⟨lc309, hlc⟩ : ∃ lc9, lc9 = lc308 ++ triE (s1, s2, s3) := ⟨_, rfl⟩
                        rw [← hlc] at h309
                        have hn309 : lc309.length ≤ lc308.length + (triE (s1, s2, s3)).length := by rw [hlc, List.length_append]; exact Nat.le_refl _
                        have HLc309 := Lib.hid hlc
                        clear hlc
                        obtain ⟨a309, m309, c309, rfl⟩ := row_slice h309
                        have hm309 := row_len' h309
                        subst hm309
                        have HBel309 := Lib.hid (HBel308.out.trans (hb309.mono HBel308.out.size))
                        have HO309 : Hid (Own5 W.heap.size W309 (.slice a309 lc309.length c309) lc309) := row_lower h309 HBel308.out.size
                        have HXb309 := Lib.hid ((hb309.block _ (heap_lt HXb308.out)).trans HXb308.out)
                        have HXl309 := Lib.hid ((hb309.block _ (heap_lt HXl308.out)).trans HXl308.out)
                        clear h309 hb309
                        go_wp2_with fail
                        refine hK.out _ _ (⟨heap_cell HXl309.out 0, heap_cell HXl309.out 1, heap_cell HXl309.out 2, heap_cell HXl309.out 3, heap_cell HXl309.out 4, heap_cell HXl309.out 5, heap_cell HXl309.out 6, heap_cell HXl309.out 7, heap_cell HXl309.out 8, heap_cell HXl309.out 9, heap_cell HXl309.out 10⟩) (fun hHeld2 => ?_)
                        clear hK K hHeld
                        have hHeld := hHeld2
                        clear hHeld2
                        try simp only [Act.put, List.setIfInBounds_toArray, List.set_cons_zero, List.set_cons_succ]
                        refine only_at 13 134 (by kernel_rfl) rfl rfl (by rfl) (fun K hK => ?_)
                        go_simp
                        refine (rmany_any a309 c309 lc309 bs.length W309 (by omega) (by omega) (row_bytes' HO309.out)).mono ?_
                        rintro ee W310 ⟨v310, rfl, h310, hb310⟩
                        obtain ⟨lc310, hlc⟩ : ∃ lc9, lc9 = lc309 ++ uv bs.length := ⟨_, rfl⟩
                        rw [← hlc] at h310
                        have hn310 : lc310.length ≤ lc309.length + (uv bs.length).length := by rw [hlc, List.length_append]; exact Nat.le_refl _
                        have HLc310 := Lib.hid hlc
                        clear hlc
                        obtain ⟨a310, m310, c310, rfl⟩ := row_slice h310
                        have hm310 := row_len' h310
                        subst hm310
                        have HBel310 := Lib.hid (HBel309.out.trans (hb310.mono HBel309.out.size))
                        have HO310 : Hid (Own5 W.heap.size W310 (.slice a310 lc310.length c310) lc310) := row_lower h310 HBel309.out.size
                        have HXb310 := Lib.hid ((hb310.block _ (heap_lt HXb309.out)).trans HXb309.out)
                        have HXl310 := Lib.hid ((hb310.block _ (heap_lt HXl309.out)).trans HXl309.out)
                        clear h310 hb310
                        go_wp2_with fail
                        refine hK.out _ _ (⟨heap_cell HXl310.out 0, heap_cell HXl310.out 1, heap_cell HXl310.out 2, heap_cell HXl310.out 3, heap_cell HXl310.out 4, heap_cell HXl310.out 5, heap_cell HXl310.out 6, heap_cell HXl310.out 7, heap_cell HXl310.out 8, heap_cell HXl310.out 9, heap_cell HXl310.out 10⟩) (fun hHeld2 => ?_)
                        clear hK K hHeld
                        have hHeld := hHeld2
                        clear hHeld2
                        try simp only [Act.put, List.setIfInBounds_toArray, List.set_cons_zero, List.set_cons_succ]
                        refine take_at 14 3 (v := ?_) rfl rfl (by kernel_rfl) (by kernel_rfl) (by kernel_rfl) (fun _ _ _ h => h) (Or.inl ⟨by rfl, ?_⟩) hHeld ?_
                        rotate_left
                        · (intro w hSw; (try dsimp only at hSw); go_simp; try with_reducible rfl)
                        try simp only [List.setIfInBounds_toArray, List.set_cons_zero, List.set_cons_succ]
                        refine wpAnyH_done (by kernel_rfl) ?_ _
                        try refine NoPanic.normal ?_
                        have qq := heap_cell HXl310.out 10
                        simp at qq
                        go_wp2_with fail
                        go_loopw [3, 138] (fun bv iv wr => ∃ (j : Nat) (oa : Option Addr) (oc : Nat) (lj : List UInt8), bv = .slice oa lj.length oc ∧ iv = .int .i64 j ∧ j ≤ bs.length ∧ Hid (lj = lc310 ++ bodyE intE (bs.take j) ∧ Own5 W.heap.size wr (.slice oa lj.length oc) lj ∧ Below W.heap.size W wr ∧ wr.heap[x]? = some (.cells #[.int .u64 (id : Int), .int .i64 er, .int .u64 (rv : Int), .string tk, .slice fa fs.length fc, .slice ta ts.length tc, .slice oba os.length obc, .slice ea es.length ec, .slice (some ⟨be, offe, none⟩) ss.length sc, .int .i64 nk, .string nt, .string ni, .string nr, .slice nsa nss.length nsc, .slice na nps.length nc] 36 (0, 0)))) (fun _ iv _ => bs.length - (intOf iv).toNat)
                        case atStart => exact ⟨0, a310, c310, lc310, rfl, rfl, Nat.zero_le _, by rw [List.take_zero]; simp [bodyE], HO310.out, HBel310.out, HXb310.out⟩
                        case round =>
                          clear HO310 HBel310 HXb310 qq
                          obtain ⟨ji, oji, cji, lji, rfl, rfl, hji, hst⟩ := hrel
                          obtain ⟨hlj, hown, hbel, hbox⟩ := hst.out
                          have hble := body_le intE bs ji
                          have hlji : lji.length ≤ lc310.length + (bodyE intE (bs.take ji)).length := by rw [hlj, List.length_append]; exact Nat.le_refl _
                          by_cases hjl : ji < bs.length
                          · have dj : decide ((ji : Int) < (bs.length : Int)) = true := decide_eq_true (by omega)
                            have dj2 : decide (ji < bs.length) = true := decide_eq_true (by omega)
                            have hij : (ji : Int) < (bs.length : Int) := by omega
                            obtain ⟨bi, offi, rfl, hb, hc⟩ := (HBy.out.below hbel) (by omega)
                            have c0 := hc ji hjl 0 (by omega)
                            have hbt := body_take intE bs ji hjl
                            have hble2 := body_le intE bs (ji + 1)
                            rw [hbt, List.length_append] at hble2
                            have hmem := getD_mem hjl
                            have HBt := Lib.hid hbt
                            have HLj := Lib.hid hlj
                            have HOj := Lib.hid hown
                            have HBj := Lib.hid hbel
                            have HXj := Lib.hid hbox
                            have hiy := HIy.out _ hmem
                            clear hst hc hbt hlj hown hbel hbox
                            generalize bs.getD ji default = y at *
                            simp [intC] at c0
                            have HC := Lib.hid (rwhole_any oji cji lji y _ (by omega) hiy (row_bytes' HOj.out))
                            go_wp2_with fail
                            refine HC.out.mono ?_
                            clear HC
                            rintro ee W311 ⟨v311, rfl, h311, hb311⟩
                            obtain ⟨lc311, hlc⟩ : ∃ lc9, lc9 = lji ++ intE y := ⟨_, rfl⟩
                            rw [← hlc] at h311
                            have hn311 : lc311.length ≤ lji.length + (intE y).length := by rw [hlc, List.length_append]; exact Nat.le_refl _
                            have HLc311 := Lib.hid hlc
                            clear hlc
                            obtain ⟨a311, m311, c311, rfl⟩ := row_slice h311
                            have hm311 := row_len' h311
                            subst hm311
                            have HBel311 := Lib.hid (HBj.out.trans (hb311.mono HBj.out.size))
                            have HO311 : Hid (Own5 W.heap.size W311 (.slice a311 lc311.length c311) lc311) := row_lower h311 HBj.out.size
                            have HXb311 := Lib.hid ((hb311.block _ (heap_lt HXj.out)).trans HXj.out)
                            clear h311 hb311
                            have HRN : Hid (lc311 = lc310 ++ bodyE intE (bs.take (ji + 1)) ∧ Own5 W.heap.size W311 (.slice a311 lc311.length c311) lc311 ∧ Below W.heap.size W W311 ∧ W311.heap[x]? = some (.cells #[.int .u64 (id : Int), .int .i64 er, .int .u64 (rv : Int), .string tk, .slice fa fs.length fc, .slice ta ts.length tc, .slice oba os.length obc, .slice ea es.length ec, .slice (some ⟨be, offe, none⟩) ss.length sc, .int .i64 nk, .string nt, .string ni, .string nr, .slice nsa nss.length nsc, .slice na nps.length nc] 36 (0, 0))) := ⟨by
                              rw [HLc311.out, HLj.out, HBt.out]
                              simp only [List.append_assoc], HO311.out, HBel311.out, HXb311.out⟩
                            clear hjl hble hble2
                            go_wp2_with fail
                            go_roundw
                            case rel => exact ⟨ji + 1, a311, c311, lc311, rfl, by go_num, by omega, HRN⟩
                            case measure => first | (simp [intOf]; done) | (simp [intOf]; omega)
                          · have hje : ji = bs.length := by omega
                            have dj : decide ((ji : Int) < (bs.length : Int)) = false := decide_eq_false (by omega)
                            have dj2 : decide (ji < bs.length) = false := decide_eq_false (by omega)
                            have HLei : Hid (lji = lc310 ++ bodyE intE bs) := (by rw [hlj, hje, List.take_length] : lji = lc310 ++ bodyE intE bs)
                            have hlei : lji.length ≤ lc310.length + (bodyE intE bs).length := Nat.le_trans hlji (Nat.add_le_add_left hble _)
                            have HOei := Lib.hid hown
                            have HBei := Lib.hid hbel
                            have HXei := Lib.hid hbox
                            clear hst hlj hown hbel hbox hje hjl hble hlji
                            have HRN : Hid (lji = lc305 ++ bodyE seE (ss.take (je + 1)) ∧ Own5 W.heap.size wr (.slice oji lji.length cji) lji ∧ Below W.heap.size W wr ∧ wr.heap[x]? = some (.cells #[.int .u64 (id : Int), .int .i64 er, .int .u64 (rv : Int), .string tk, .slice fa fs.length fc, .slice ta ts.length tc, .slice oba os.length obc, .slice ea es.length ec, .slice (some ⟨be, offe, none⟩) ss.length sc, .int .i64 nk, .string nt, .string ni, .string nr, .slice nsa nss.length nsc, .slice na nps.length nc] 36 (0, 0))) := ⟨by
                              rw [HLei.out, HLc310.out, HLc309.out, HLc308.out, HLc307.out, HLj.out, HBt.out]
                              simp only [seE_sum, listE, List.append_assoc], HOei.out, HBei.out, HXei.out⟩
                            clear hjl hble hble2
                            go_wp2_with fail
                            go_roundw
                            case rel => exact ⟨je + 1, oji, cji, lji, rfl, by go_num, by omega, HRN⟩
                            case measure => first | (simp [intOf]; done) | (simp [intOf]; omega)
                      · have hje : je = ss.length := by omega
                        have dj : decide ((je : Int) < (ss.length : Int)) = false := decide_eq_false (by omega)
                        have dj2 : decide (je < ss.length) = false := decide_eq_false (by omega)
                        have HLee : Hid (lje = lc305 ++ bodyE seE ss) := (by rw [hlj, hje, List.take_length] : lje = lc305 ++ bodyE seE ss)
                        have hlee : lje.length ≤ lc305.length + (bodyE seE ss).length := Nat.le_trans hlje (Nat.add_le_add_left hble _)
                        have HOee := Lib.hid hown
                        have HBee := Lib.hid hbel
                        have HXee := Lib.hid hbox
                        clear hst hlj hown hbel hbox hje hjl hble hlje
                        have qz9 := heap_cell HXee.out 9
                        have qz10 := heap_cell HXee.out 10
                        have qz11 := heap_cell HXee.out 11
                        have qz12 := heap_cell HXee.out 12
                        have qz13 := heap_cell HXee.out 13
                        have qz14 := heap_cell HXee.out 14
                        simp at qz9 qz10 qz11 qz12 qz13 qz14
                        have HC := Lib.hid (rnode_enc dm S wr (⟨nk, nt, ni, nr, nsa, nsc, nss, na, nc, nps⟩ : NE) oje cje lje ((nemem_ok dm).stays HNd.out (Stays.below HBee.out)) HNk.out (by omega) (row_bytes' HOee.out))
                        go_wp2_with fail
                        refine HC.out.mono ?_
                        clear HC
                        rintro ee W306 ⟨v306, rfl, h306, hb306⟩
                        obtain ⟨lc306, hlc⟩ : ∃ lc9, lc9 = lje ++ neE (⟨nk, nt, ni, nr, nsa, nsc, nss, na, nc, nps⟩ : NE) := ⟨_, rfl⟩
                        rw [← hlc] at h306
                        have hn306 : lc306.length ≤ lje.length + (neE (⟨nk, nt, ni, nr, nsa, nsc, nss, na, nc, nps⟩ : NE)).length := by rw [hlc, List.length_append]; exact Nat.le_refl _
                        have HLc306 := Lib.hid hlc
                        clear hlc
                        obtain ⟨a306, m306, c306, rfl⟩ := row_slice h306
                        have hm306 := row_len' h306
                        subst hm306
                        have HBel306 := Lib.hid (HBee.out.trans (hb306.mono HBee.out.size))
                        have HO306 : Hid (Own5 W.heap.size W306 (.slice a306 lc306.length c306) lc306) := row_lower h306 HBee.out.size
                        have HXb306 := Lib.hid ((hb306.block _ (heap_lt HXee.out)).trans HXee.out)
                        clear h306 hb306
                        clear qz9 qz10 qz11 qz12 qz13 qz14
                        have HE : Hid (RF [] ([112, 49] ++ (uv id ++ (intE er ++ (uv rv ++ (txt tk ++ (listE boolE fs ++ (listE sixE ts ++ (listE duoE os ++ (listE evtE es ++ (listE seE ss ++ neE (⟨nk, nt, ni, nr, nsa, nsc, nss, na, nc, nps⟩ : NE))))))))))) W (.returned (.slice a306 lc306.length c306)) W306) := ⟨_, rfl, by
                          have e1 : [] ++ ([112, 49] ++ (uv id ++ (intE er ++ (uv rv ++ (txt tk ++ (listE boolE fs ++ (listE sixE ts ++ (listE duoE os ++ (listE evtE es ++ (listE seE ss ++ neE (⟨nk, nt, ni, nr, nsa, nsc, nss, na, nc, nps⟩ : NE))))))))))) = lc306 := by
                            rw [HLc306.out, HLee.out, HLc305.out, HLed.out, HLc304.out, HLec.out, HLc303.out, HLeb.out, HLc302.out, HLea.out, HLc301.out, HLQ.out, HLc4.out, HLc3.out]
                            simp only [listE, List.append_assoc, List.nil_append]
                          rw [e1]; exact HO306.out, HBel306.out⟩
                        clear HO306 HBel306 HXb306
                        go_wp2_with fail
                        go_ret
                        exact HE.out
end Go.Proofs.YtacjbgmnoiimbabGreat
