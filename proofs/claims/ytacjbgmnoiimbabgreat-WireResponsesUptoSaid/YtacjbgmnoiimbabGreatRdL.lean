/- A rule, a node read: walked (printed by genWireRl.py). -/
import Derived.Test.YtacjbgmnoiimbabGreatRdK
import Derived.Test.YtacjbgmnoiimbabGreatRdG
namespace Go.Proofs.YtacjbgmnoiimbabGreat
set_option linter.unusedVariables false
set_option linter.unusedSimpArgs false
open Go.RowKit

theorem two_grown {g y : Nat} {W A B : World} (h : W.grownBy A (some g)) (k : Two g y A B) (hy : W.heap.size ≤ y) : W.grownBy B (some g) :=
  ⟨k.os.trans h.os, k.tape.trans h.tape, k.output.trans h.output, Nat.le_trans h.size k.size, fun i hi hr => (k.block i (Nat.lt_of_lt_of_le hi h.size) (fun e => hr (by rw [e])) (by omega)).trans (h.block i hi hr)⟩
theorem nodemem {g y x m : Nat} {W V A B C : World} {ts : LS Tri} {t : LS NE} {k1 : Int} {t1 i1 r1 : ByteArray} (hWA : W.heap.size ≤ A.heap.size) (hxA : x < A.heap.size) (hxV : x < V.heap.size) (hWV : W.heap.size ≤ V.heap.size) (hyW : W.heap.size ≤ y) (hyV : y < V.heap.size)
    (h1 : lsmem triC 3 nomem (fun b => V.heap.size ≤ b) A ts) (htwo : Two g y A B) (hgV : g < V.heap.size) (hg3 : B.grownBy C (some x)) (hlen : t.xs.length ≤ t.c) (hm : NMem (fun b => A.heap.size ≤ b) m B t.a (t.xs.map NE.plain)) : nemem m (fun b => W.heap.size ≤ b) C ⟨k1, t1, i1, r1, ts.a, ts.c, ts.xs, t.a, t.c, t.xs.map NE.plain⟩ := by
  have h1' := h1
  have h2 := (lsmem_ok (cells := triC) (size := 3) nomem_ok).stays h1' (W' := B) ⟨htwo.size, fun b hb hlt => htwo.block b hlt (by omega) (by omega)⟩
  have h3 := (lsmem_ok (cells := triC) (size := 3) nomem_ok).stays h2 (W' := C) ⟨hg3.size, fun b hb hlt => hg3.block b hlt (fun e => by cases e; omega)⟩
  refine ⟨h3.1, by simp only [List.length_map]; exact hlen, h3.2.1, fun h0 p hp => Nat.le_trans hWV (h3.2.2.1 h0 p hp), ?_⟩
  have hm2 := hm.stays (W' := C) ⟨hg3.size, fun b hb hlt => hg3.block b hlt (fun e => by cases e; omega)⟩
  exact hm2.weak (fun b hb => Nat.le_trans hWA hb)
theorem lsr_mem {S : Nat → Prop} {n : Nat} {W : World} {t : LS RE} (h : lsmem reC 4 (remem n) S W t) : RMem S (n + 1) W t.a (t.xs.map RE.plain) := ⟨t.xs, rfl, h.2.1, h.2.2.1, h.2.2.2⟩
theorem lsn_mem {S : Nat → Prop} {n : Nat} {W : World} {t : LS NE} (h : lsmem neC 6 (nemem n) S W t) : NMem S (n + 1) W t.a (t.xs.map NE.plain) := ⟨t.xs, rfl, h.2.1, h.2.2.1, h.2.2.2⟩
set_option maxRecDepth 100000 in
theorem rclosR_any (g bb p y : Nat) (kk : Int) (A B : ByteArray) (k : Nat) (l : List UInt8) (d : Nat) (W : World) (hone : ∀ l2 o2 W2, l2.length ≤ 1000000000 → RAt W2 g bb l2 d o2 → Calls Tryz.prog 102 #[.pointer (some ⟨g, 0, none⟩)] W2 (RD g bb RE.plain encR okR badR reV (remem k) l2 d o2 W2)) (h : RAt W g bb l d false) (hl : l.length ≤ 1000000000) (hyg : y ≠ g) (hyb : y ≠ bb) (hp : W.heap[p]? = some (.cells #[.pointer (some ⟨g, 0, none⟩)] 96 (0, 0))) (hy : W.heap[y]? = some (.cells #[.int .i64 kk, .string A, .string B, .slice none 0 0] 71 (0, 0))) :
    Calls Tryz.prog 113 #[.pointer (some ⟨p, 0, none⟩), .pointer (some ⟨y, 0, none⟩)] W (NRR g bb y kk A B (k + 1) (fun ps d => ∃ x ∈ ps, badR x d) l d false W) := by
  have hyl := heap_lt hy
  have c0 := heap_cell hp 0
  simp at c0
  have HC := Lib.hid (irule_any g bb k W l d false hone hl h)
  have HY := Lib.hid hy
  clear h hone hp hy
  go_enter Tryz.func113, Tryz.ntmps113
  go_wp2_with fail
  refine HC.out.mono ?_
  clear HC
  rintro e W2 ⟨t, l2, o2, rfl, hg, hr, hm, st⟩
  have hy2 := grown_block hg HY.out hyg
  have cy := heap_cell hy2 3
  simp at cy
  have fy := frozen_of_row W2 y 3 _ _ hy2
  have hgs := grown_cell W2 y 3 (.slice t.a t.xs.length t.c)
  have HE : Hid (NRR g bb y kk A B (k + 1) (fun ps d => ∃ x ∈ ps, badR x d) l d false W (.returned (.tuple #[])) (W2.setCell ⟨y, 3, none⟩ (.slice t.a t.xs.length t.c))) :=
    ⟨rfl, (Two.ofg hg).trans (Two.ofy hgs), t, l2, o2, heap_setCell_same W2 y 3 _ 71 _ hy2, hr.other hgs hyg hyb, hm.1, (lsr_mem hm).stays ⟨hgs.size, fun b hb hlt => hgs.block b hlt (fun e => by cases e; exact absurd hyl (Nat.not_lt.2 hb))⟩, st⟩
  clear hg hr hm st hgs hy2
  simp only [lsV]
  go_wp2_with fail
  go_end0
  exact HE.out
set_option maxRecDepth 100000 in
theorem rclosN_any (g bb p y : Nat) (kk : Int) (t0 i0 r0 : ByteArray) (sa : Option Addr) (sn sc : Nat) (k : Nat) (l : List UInt8) (d : Nat) (W : World) (hone : ∀ l2 o2 W2, l2.length ≤ 1000000000 → RAt W2 g bb l2 d o2 → Calls Tryz.prog 48 #[.pointer (some ⟨g, 0, none⟩)] W2 (RD g bb NE.plain encN okN badN neV (nemem k) l2 d o2 W2)) (h : RAt W g bb l d false) (hl : l.length ≤ 1000000000) (hyg : y ≠ g) (hyb : y ≠ bb) (hp : W.heap[p]? = some (.cells #[.pointer (some ⟨g, 0, none⟩)] 96 (0, 0))) (hy : W.heap[y]? = some (.cells #[.int .i64 kk, .string t0, .string i0, .string r0, .slice sa sn sc, .slice none 0 0] 34 (0, 0))) :
    Calls Tryz.prog 106 #[.pointer (some ⟨p, 0, none⟩), .pointer (some ⟨y, 0, none⟩)] W (NRN g bb y kk t0 i0 r0 sa sn sc (k + 1) (fun ps d => ∃ x ∈ ps, badN x d) l d false W) := by
  have hyl := heap_lt hy
  have c0 := heap_cell hp 0
  simp at c0
  have HC := Lib.hid (inode_any g bb k W l d false hone hl h)
  have HY := Lib.hid hy
  clear h hone hp hy
  go_enter Tryz.func106, Tryz.ntmps106
  go_wp2_with fail
  refine HC.out.mono ?_
  clear HC
  rintro e W2 ⟨t, l2, o2, rfl, hg, hr, hm, st⟩
  have hy2 := grown_block hg HY.out hyg
  have cy := heap_cell hy2 5
  simp at cy
  have fy := frozen_of_row W2 y 5 _ _ hy2
  have hgs := grown_cell W2 y 5 (.slice t.a t.xs.length t.c)
  have HE : Hid (NRN g bb y kk t0 i0 r0 sa sn sc (k + 1) (fun ps d => ∃ x ∈ ps, badN x d) l d false W (.returned (.tuple #[])) (W2.setCell ⟨y, 5, none⟩ (.slice t.a t.xs.length t.c))) :=
    ⟨rfl, (Two.ofg hg).trans (Two.ofy hgs), t, l2, o2, heap_setCell_same W2 y 5 _ 34 _ hy2, hr.other hgs hyg hyb, hm.1, (lsn_mem hm).stays ⟨hgs.size, fun b hb hlt => hgs.block b hlt (fun e => by cases e; exact absurd hyl (Nat.not_lt.2 hb))⟩, st⟩
  clear hg hr hm st hgs hy2
  simp only [lsV]
  go_wp2_with fail
  go_end0
  exact HE.out
set_option maxRecDepth 100000 in
set_option maxHeartbeats 2000000 in
theorem rrule_step (g bb m : Nat) (W : World) (l : List UInt8) (d : Nat) (odd : Bool) (hdm : d + m = 64) (hl : l.length ≤ 1000000000) (h : RAt W g bb l d odd)
    (hrec : ∀ k, m = k + 1 → ∀ l2 o2 W2, l2.length ≤ 1000000000 → RAt W2 g bb l2 (d + 1) o2 → Calls Tryz.prog 102 #[.pointer (some ⟨g, 0, none⟩)] W2 (RD g bb RE.plain encR okR badR reV (remem k) l2 (d + 1) o2 W2)) :
    Calls Tryz.prog 102 #[.pointer (some ⟨g, 0, none⟩)] W (RD g bb RE.plain encR okR badR reV (remem m) l d odd W) := by
  have hgl := h.lt
  have hbl := h.bbl
  have HP0 := Lib.hid (heap_alloc_new W (.cells #[.pointer (some ⟨g, 0, none⟩)] 96))
  have hsz1 := alloc_size W (.cells #[.pointer (some ⟨g, 0, none⟩)] 96)
  have HX0 := Lib.hid (heap_alloc_new (W.alloc (.cells #[.pointer (some ⟨g, 0, none⟩)] 96)) (.cells #[.int .i64 0, .string { data := #[] }, .string { data := #[] }, .slice none 0 0] 71))
  rw [hsz1] at HX0
  have HP00 := Lib.hid (((Below.refl (W.alloc (.cells #[.pointer (some ⟨g, 0, none⟩)] 96)).heap.size (W.alloc (.cells #[.pointer (some ⟨g, 0, none⟩)] 96))).alloc (Nat.le_refl _) (.cells #[.int .i64 0, .string { data := #[] }, .string { data := #[] }, .slice none 0 0] 71)).block W.heap.size (by rw [hsz1]; omega) |>.trans HP0.out)
  have HG0 : Hid (W.grownBy ((W.alloc (.cells #[.pointer (some ⟨g, 0, none⟩)] 96)).alloc (.cells #[.int .i64 0, .string { data := #[] }, .string { data := #[] }, .slice none 0 0] 71)) (some g)) := grownBy_trans (World.grownBy_alloc W _ _) (World.grownBy_alloc _ _ _)
  have HC := Lib.hid (rint_any g bb _ l d odd hl ((h.alloc (.cells #[.pointer (some ⟨g, 0, none⟩)] 96)).alloc (.cells #[.int .i64 0, .string { data := #[] }, .string { data := #[] }, .slice none 0 0] 71)))
  have HRec := Lib.hid hrec
  clear h HP0 hsz1 hrec
  go_enter Tryz.func102, Tryz.ntmps102
  go_wp2_with fail
  refine HC.out.mono ?_
  clear HC
  generalize ((W.alloc (.cells #[.pointer (some ⟨g, 0, none⟩)] 96)).alloc (.cells #[.int .i64 0, .string { data := #[] }, .string { data := #[] }, .slice none 0 0] 71)) = W0 at *
  obtain ⟨p, hp⟩ : ∃ p, p = W.heap.size := ⟨_, rfl⟩
  obtain ⟨x, hx⟩ : ∃ x, x = W.heap.size + 1 := ⟨_, rfl⟩
  rw [← hx] at HX0
  rw [← hp] at HP00
  rw [← hx, ← hp]
  have hxg : x ≠ g := by omega
  have hxb : x ≠ bb := by omega
  have hxs : W.heap.size ≤ x := by omega
  have hpg : p ≠ g := by omega
  have hxp : x ≠ p := by omega
  clear hx hp
  rintro e W1 ⟨k1, l1, o1, rfl, hg, hr, hm1, st1⟩
  have HX1 := Lib.hid (grown_block hg HX0.out hxg)
  have HP1 := Lib.hid (grown_block hg HP00.out hpg)
  have HG1 := Lib.hid (grownBy_trans HG0.out hg)
  have HT1 := Lib.hid st1
  have hl1 := st1.len
  obtain ⟨V, hV⟩ : ∃ V, V = W1.alloc (.cells #[.int .i64 k1, .string { data := #[] }, .string { data := #[] }, .slice none 0 0] 71) := ⟨_, rfl⟩
  have HX1s : Hid (V.heap[x]? = some (.cells #[.int .i64 0, .string { data := #[] }, .string { data := #[] }, .slice none 0 0] 71 (0, 0))) := by
    show V.heap[x]? = _
    rw [hV]; exact (((Below.refl W1.heap.size W1).alloc (Nat.le_refl _) (.cells #[.int .i64 k1, .string { data := #[] }, .string { data := #[] }, .slice none 0 0] 71)).block x (heap_lt HX1.out)).trans HX1.out
  have HP1s : Hid (V.heap[p]? = some (.cells #[.pointer (some ⟨g, 0, none⟩)] 96 (0, 0))) := by
    show V.heap[p]? = _
    rw [hV]; exact (((Below.refl W1.heap.size W1).alloc (Nat.le_refl _) (.cells #[.int .i64 k1, .string { data := #[] }, .string { data := #[] }, .slice none 0 0] 71)).block p (heap_lt HP1.out)).trans HP1.out
  have HY1s : Hid (V.heap[W1.heap.size]? = some (.cells #[.int .i64 k1, .string { data := #[] }, .string { data := #[] }, .slice none 0 0] 71 (0, 0))) := by
    show V.heap[W1.heap.size]? = _
    rw [hV]; exact heap_alloc_new W1 (.cells #[.int .i64 k1, .string { data := #[] }, .string { data := #[] }, .slice none 0 0] 71)
  have hrV : RAt V g bb l1 d o1 := by rw [hV]; exact hr.alloc _
  have HG1s : Hid (W.grownBy V (some g)) := by
    show W.grownBy _ _
    rw [hV]; exact grownBy_trans HG1.out (World.grownBy_alloc W1 _ _)
  have HC := Lib.hid (rtxt_any g bb V l1 d o1 (by omega) hrV)
  obtain ⟨y, hy⟩ : ∃ y, y = W1.heap.size := ⟨_, rfl⟩
  have hyx : y ≠ x := by
    have := heap_lt HX1.out
    omega
  have hyp : y ≠ p := by
    have := heap_lt HP1.out
    omega
  have hyg : y ≠ g := by
    have := hr.lt
    omega
  have hyb : y ≠ bb := by
    have := hr.bbl
    omega
  have hyW : W.heap.size ≤ y := by
    have := HG1.out.size
    omega
  have cp := heap_cell HP1.out 0
  simp at cp
  have cpa := heap_cell HP1s.out 0
  simp at cpa
  rw [hV] at cpa
  have HHy := Lib.hid hy
  have HV := Lib.hid hV
  clear hg hr hrV hy hV
  simp only [intV]
  go_wp2_with fail
  rw [← HV.out, ← HHy.out]
  rw [← HHy.out] at HY1s
  clear cp cpa
  refine HC.out.mono ?_
  clear HC
  rintro e W2 ⟨A1, l2, o2, rfl, hg, hr, hm2, st2⟩
  have HX2 := Lib.hid (grown_block hg HX1s.out hxg)
  have HP2 := Lib.hid (grown_block hg HP1s.out hpg)
  have HY2 := Lib.hid (grown_block hg HY1s.out hyg)
  have HG2 := Lib.hid (grownBy_trans HG1s.out hg)
  have HT2 := Lib.hid st2
  have hl2 := st2.len
  have hrs := hr
  have hgs0 := grown_cell W2 y 1 (.string A1)
  have HX2s0 := Lib.hid (grown_block hgs0 HX2.out hyx.symm)
  have HP2s0 := Lib.hid (grown_block hgs0 HP2.out hyp.symm)
  have HY2s0 : Hid ((W2.setCell ⟨y, 1, none⟩ (.string A1)).heap[y]? = some (.cells #[.int .i64 k1, .string A1, .string { data := #[] }, .slice none 0 0] 71 (0, 0))) := heap_setCell_same W2 y 1 _ 71 _ HY2.out
  have HG2s0 := Lib.hid (grown_own HG2.out hgs0 hyW)
  have hrs := hrs.other hgs0 hyg hyb
  have cy0 := heap_cell HY2.out 1
  simp at cy0
  have fy0 := frozen_of_row W2 y 1 _ _ HY2.out
  have HX2s := HX2s0
  have HP2s := HP2s0
  have HY2s := HY2s0
  have HG2s := HG2s0
  have cp := heap_cell HP2.out 0
  simp at cp
  have HC := Lib.hid (rtxt_any g bb _ l2 d o2 (by omega) hrs)
  clear hg hr hrs st2 hm2 hgs0
  simp only [txtV]
  go_wp2_with fail
  clear cp cy0 fy0
  refine HC.out.mono ?_
  clear HC
  rintro e W3 ⟨B1, l3, o3, rfl, hg, hr, hm3, st3⟩
  have HX3 := Lib.hid (grown_block hg HX2s.out hxg)
  have HP3 := Lib.hid (grown_block hg HP2s.out hpg)
  have HY3 := Lib.hid (grown_block hg HY2s.out hyg)
  have HG3 := Lib.hid (grownBy_trans HG2s.out hg)
  have HT3 := Lib.hid st3
  have hl3 := st3.len
  have hrs := hr
  have hgs0 := grown_cell W3 y 2 (.string B1)
  have HX3s0 := Lib.hid (grown_block hgs0 HX3.out hyx.symm)
  have HP3s0 := Lib.hid (grown_block hgs0 HP3.out hyp.symm)
  have HY3s0 : Hid ((W3.setCell ⟨y, 2, none⟩ (.string B1)).heap[y]? = some (.cells #[.int .i64 k1, .string A1, .string B1, .slice none 0 0] 71 (0, 0))) := heap_setCell_same W3 y 2 _ 71 _ HY3.out
  have HG3s0 := Lib.hid (grown_own HG3.out hgs0 hyW)
  have hrs := hrs.other hgs0 hyg hyb
  have cy0 := heap_cell HY3.out 2
  simp at cy0
  have fy0 := frozen_of_row W3 y 2 _ _ HY3.out
  have HX3s := HX3s0
  have HP3s := HP3s0
  have HY3s := HY3s0
  have HG3s := HG3s0
  have cp := heap_cell HP3.out 0
  simp at cp
  have HC := Lib.hid (rnestedR_any g bb p y k1 A1 B1 m l3 d o3 _ hrs hdm hyg hyb HY3s.out (fun W9 k hmk hg9 hr9 => by
    subst hmk
    exact rclosR_any g bb p y k1 A1 B1 k l3 (d + 1) W9 (HRec.out k rfl) hr9 (by omega) hyg hyb (grown_block hg9 HP3s.out hpg) (grown_block hg9 HY3s.out hyg)))
  clear hg hr hrs st3 hm3 hgs0
  simp only [txtV]
  go_wp2_with fail
  clear cp cy0 fy0
  refine HC.out.mono ?_
  clear HC
  rintro e W4 ⟨rfl, htwo, t, l4, o4, hy4, hr, hlen, hmem, st4⟩
  have HX4 := Lib.hid (htwo.keep HX3s.out hxg hyx.symm)
  have HY4 := Lib.hid hy4
  have HGE := Lib.hid (two_grown HG3s.out htwo hyW)
  have HRE := Lib.hid hr
  have HT4 := Lib.hid st4
  have HMem := Lib.hid hmem
  have HLen := Lib.hid hlen
  have HTwo := Lib.hid htwo
  clear htwo hy4 hr hlen hmem st4
  have cy0 := heap_cell HY4.out 0
  have cy1 := heap_cell HY4.out 1
  have cy2 := heap_cell HY4.out 2
  have cy3 := heap_cell HY4.out 3
  simp at cy0 cy1 cy2 cy3
  have h1c : (#[.int .i64 k1, .string A1, .string B1, .slice t.a t.xs.length t.c] : Array Value).all (·.oneCell') = true := by simp [Value.oneCell']
  go_wp2_with (refine wpList_store_arr W4 rfl rfl 71 _ _ rfl x 71 _ #[.int .i64 k1, .string A1, .string B1, .slice t.a t.xs.length t.c] (by rfl) (by rfl) HX4.out (by rfl) (by rfl) h1c ?_; intro w3 hrow3 hg3 hsz3; have HZ := Lib.hid hrow3; have HG3 := Lib.hid hg3; clear hrow3 hg3 hsz3)
  have z0 := heap_cell HZ.out 0
  have z1 := heap_cell HZ.out 1
  have z2 := heap_cell HZ.out 2
  have z3 := heap_cell HZ.out 3
  simp at z0 z1 z2 z3
  go_wp2_with fail
  have hxW : x < W3.heap.size := heap_lt HX3.out
  exact bodyPost_ret (v := .agg #[.int .i64 k1, .string A1, .string B1, .slice t.a t.xs.length t.c]) (by simp [results, Tryz.results102, go_sem, z0, z1, z2, z3]) rfl ⟨⟨k1, A1, B1, t.a, t.c, t.xs.map RE.plain⟩, l4, o4, by simp [reV], grown_own HGE.out HG3.out hxs, HRE.out.other HG3.out hxg hxb, ⟨by simp only [List.length_map]; exact HLen.out, (HMem.out.weak (S' := fun b => W.heap.size ≤ b ∧ x < b) (fun b hb => ⟨Nat.le_trans HG3s.out.size hb, Nat.lt_of_lt_of_le (heap_lt HX3s.out) hb⟩)).stays ⟨HG3.out.size, fun b hb hlt => HG3.out.block b hlt (fun e => by cases e; exact absurd hb.2 (Nat.lt_irrefl _))⟩ |>.weak (fun b hb => hb.1)⟩, rst_rule HT1.out HT2.out HT3.out HT4.out⟩
theorem rrule_any (g bb : Nat) : ∀ (m : Nat) (W : World) (l : List UInt8) (d : Nat) (odd : Bool), d + m = 64 → l.length ≤ 1000000000 → RAt W g bb l d odd →
    Calls Tryz.prog 102 #[.pointer (some ⟨g, 0, none⟩)] W (RD g bb RE.plain encR okR badR reV (remem m) l d odd W)
  | 0, W, l, d, odd, hdm, hl, h => rrule_step g bb 0 W l d odd hdm hl h (fun k hk => by cases hk)
  | m + 1, W, l, d, odd, hdm, hl, h => rrule_step g bb (m + 1) W l d odd hdm hl h (fun k hk l2 o2 W2 h1 h2 => by
    cases hk
    exact rrule_any g bb m W2 l2 (d + 1) o2 (by omega) h1 h2)
set_option maxRecDepth 100000 in
set_option maxHeartbeats 2000000 in
theorem rnode_step (g bb m : Nat) (W : World) (l : List UInt8) (d : Nat) (odd : Bool) (hdm : d + m = 64) (hl : l.length ≤ 1000000000) (h : RAt W g bb l d odd)
    (hrec : ∀ k, m = k + 1 → ∀ l2 o2 W2, l2.length ≤ 1000000000 → RAt W2 g bb l2 (d + 1) o2 → Calls Tryz.prog 48 #[.pointer (some ⟨g, 0, none⟩)] W2 (RD g bb NE.plain encN okN badN neV (nemem k) l2 (d + 1) o2 W2)) :
    Calls Tryz.prog 48 #[.pointer (some ⟨g, 0, none⟩)] W (RD g bb NE.plain encN okN badN neV (nemem m) l d odd W) := by
  have hgl := h.lt
  have hbl := h.bbl
  have HP0 := Lib.hid (heap_alloc_new W (.cells #[.pointer (some ⟨g, 0, none⟩)] 96))
  have hsz1 := alloc_size W (.cells #[.pointer (some ⟨g, 0, none⟩)] 96)
  have HX0 := Lib.hid (heap_alloc_new (W.alloc (.cells #[.pointer (some ⟨g, 0, none⟩)] 96)) (.cells #[.int .i64 0, .string { data := #[] }, .string { data := #[] }, .string { data := #[] }, .slice none 0 0, .slice none 0 0] 34))
  rw [hsz1] at HX0
  have HP00 := Lib.hid (((Below.refl (W.alloc (.cells #[.pointer (some ⟨g, 0, none⟩)] 96)).heap.size (W.alloc (.cells #[.pointer (some ⟨g, 0, none⟩)] 96))).alloc (Nat.le_refl _) (.cells #[.int .i64 0, .string { data := #[] }, .string { data := #[] }, .string { data := #[] }, .slice none 0 0, .slice none 0 0] 34)).block W.heap.size (by rw [hsz1]; omega) |>.trans HP0.out)
  have HG0 : Hid (W.grownBy ((W.alloc (.cells #[.pointer (some ⟨g, 0, none⟩)] 96)).alloc (.cells #[.int .i64 0, .string { data := #[] }, .string { data := #[] }, .string { data := #[] }, .slice none 0 0, .slice none 0 0] 34)) (some g)) := grownBy_trans (World.grownBy_alloc W _ _) (World.grownBy_alloc _ _ _)
  have HC := Lib.hid (rint_any g bb _ l d odd hl ((h.alloc (.cells #[.pointer (some ⟨g, 0, none⟩)] 96)).alloc (.cells #[.int .i64 0, .string { data := #[] }, .string { data := #[] }, .string { data := #[] }, .slice none 0 0, .slice none 0 0] 34)))
  have HRec := Lib.hid hrec
  clear h HP0 hsz1 hrec
  go_enter Tryz.func48, Tryz.ntmps48
  go_wp2_with fail
  refine HC.out.mono ?_
  clear HC
  generalize ((W.alloc (.cells #[.pointer (some ⟨g, 0, none⟩)] 96)).alloc (.cells #[.int .i64 0, .string { data := #[] }, .string { data := #[] }, .string { data := #[] }, .slice none 0 0, .slice none 0 0] 34)) = W0 at *
  obtain ⟨p, hp⟩ : ∃ p, p = W.heap.size := ⟨_, rfl⟩
  obtain ⟨x, hx⟩ : ∃ x, x = W.heap.size + 1 := ⟨_, rfl⟩
  rw [← hx] at HX0
  rw [← hp] at HP00
  rw [← hx, ← hp]
  have hxg : x ≠ g := by omega
  have hxb : x ≠ bb := by omega
  have hxs : W.heap.size ≤ x := by omega
  have hpg : p ≠ g := by omega
  have hxp : x ≠ p := by omega
  clear hx hp
  rintro e W1 ⟨k1, l1, o1, rfl, hg, hr, hm1, st1⟩
  have HX1 := Lib.hid (grown_block hg HX0.out hxg)
  have HP1 := Lib.hid (grown_block hg HP00.out hpg)
  have HG1 := Lib.hid (grownBy_trans HG0.out hg)
  have HT1 := Lib.hid st1
  have hl1 := st1.len
  obtain ⟨V, hV⟩ : ∃ V, V = W1.alloc (.cells #[.int .i64 k1, .string { data := #[] }, .string { data := #[] }, .string { data := #[] }, .slice none 0 0, .slice none 0 0] 34) := ⟨_, rfl⟩
  have HX1s : Hid (V.heap[x]? = some (.cells #[.int .i64 0, .string { data := #[] }, .string { data := #[] }, .string { data := #[] }, .slice none 0 0, .slice none 0 0] 34 (0, 0))) := by
    show V.heap[x]? = _
    rw [hV]; exact (((Below.refl W1.heap.size W1).alloc (Nat.le_refl _) (.cells #[.int .i64 k1, .string { data := #[] }, .string { data := #[] }, .string { data := #[] }, .slice none 0 0, .slice none 0 0] 34)).block x (heap_lt HX1.out)).trans HX1.out
  have HP1s : Hid (V.heap[p]? = some (.cells #[.pointer (some ⟨g, 0, none⟩)] 96 (0, 0))) := by
    show V.heap[p]? = _
    rw [hV]; exact (((Below.refl W1.heap.size W1).alloc (Nat.le_refl _) (.cells #[.int .i64 k1, .string { data := #[] }, .string { data := #[] }, .string { data := #[] }, .slice none 0 0, .slice none 0 0] 34)).block p (heap_lt HP1.out)).trans HP1.out
  have HY1s : Hid (V.heap[W1.heap.size]? = some (.cells #[.int .i64 k1, .string { data := #[] }, .string { data := #[] }, .string { data := #[] }, .slice none 0 0, .slice none 0 0] 34 (0, 0))) := by
    show V.heap[W1.heap.size]? = _
    rw [hV]; exact heap_alloc_new W1 (.cells #[.int .i64 k1, .string { data := #[] }, .string { data := #[] }, .string { data := #[] }, .slice none 0 0, .slice none 0 0] 34)
  have hrV : RAt V g bb l1 d o1 := by rw [hV]; exact hr.alloc _
  have HG1s : Hid (W.grownBy V (some g)) := by
    show W.grownBy _ _
    rw [hV]; exact grownBy_trans HG1.out (World.grownBy_alloc W1 _ _)
  have HC := Lib.hid (robj_any g bb V l1 d o1 (by omega) hrV)
  obtain ⟨y, hy⟩ : ∃ y, y = W1.heap.size := ⟨_, rfl⟩
  have hyx : y ≠ x := by
    have := heap_lt HX1.out
    omega
  have hyp : y ≠ p := by
    have := heap_lt HP1.out
    omega
  have hyg : y ≠ g := by
    have := hr.lt
    omega
  have hyb : y ≠ bb := by
    have := hr.bbl
    omega
  have hyW : W.heap.size ≤ y := by
    have := HG1.out.size
    omega
  have cp := heap_cell HP1.out 0
  simp at cp
  have cpa := heap_cell HP1s.out 0
  simp at cpa
  rw [hV] at cpa
  have HHy := Lib.hid hy
  have HV := Lib.hid hV
  clear hg hr hrV hy hV
  simp only [intV]
  go_wp2_with fail
  rw [← HV.out, ← HHy.out]
  rw [← HHy.out] at HY1s
  clear cp cpa
  refine HC.out.mono ?_
  clear HC
  rintro e W2 ⟨⟨t1, i1⟩, l2, o2, rfl, hg, hr, hm2, st2⟩
  have HX2 := Lib.hid (grown_block hg HX1s.out hxg)
  have HP2 := Lib.hid (grown_block hg HP1s.out hpg)
  have HY2 := Lib.hid (grown_block hg HY1s.out hyg)
  have HG2 := Lib.hid (grownBy_trans HG1s.out hg)
  have HT2 := Lib.hid st2
  have hl2 := st2.len
  have hrs := hr
  have hgs0 := grown_cell W2 y 1 (.string t1)
  have HX2s0 := Lib.hid (grown_block hgs0 HX2.out hyx.symm)
  have HP2s0 := Lib.hid (grown_block hgs0 HP2.out hyp.symm)
  have HY2s0 : Hid ((W2.setCell ⟨y, 1, none⟩ (.string t1)).heap[y]? = some (.cells #[.int .i64 k1, .string t1, .string { data := #[] }, .string { data := #[] }, .slice none 0 0, .slice none 0 0] 34 (0, 0))) := heap_setCell_same W2 y 1 _ 34 _ HY2.out
  have HG2s0 := Lib.hid (grown_own HG2.out hgs0 hyW)
  have hrs := hrs.other hgs0 hyg hyb
  have cy0 := heap_cell HY2.out 1
  simp at cy0
  have fy0 := frozen_of_row W2 y 1 _ _ HY2.out
  have hgs1 := grown_cell (W2.setCell ⟨y, 1, none⟩ (.string t1)) y 2 (.string i1)
  have HX2s1 := Lib.hid (grown_block hgs1 HX2s0.out hyx.symm)
  have HP2s1 := Lib.hid (grown_block hgs1 HP2s0.out hyp.symm)
  have HY2s1 : Hid (((W2.setCell ⟨y, 1, none⟩ (.string t1)).setCell ⟨y, 2, none⟩ (.string i1)).heap[y]? = some (.cells #[.int .i64 k1, .string t1, .string i1, .string { data := #[] }, .slice none 0 0, .slice none 0 0] 34 (0, 0))) := heap_setCell_same (W2.setCell ⟨y, 1, none⟩ (.string t1)) y 2 _ 34 _ HY2s0.out
  have HG2s1 := Lib.hid (grown_own HG2s0.out hgs1 hyW)
  have hrs := hrs.other hgs1 hyg hyb
  have cy1 := heap_cell HY2.out 2
  simp at cy1
  have fy1 := frozen_of_row W2 y 2 _ _ HY2.out
  have HX2s := HX2s1
  have HP2s := HP2s1
  have HY2s := HY2s1
  have HG2s := HG2s1
  have cp := heap_cell HP2.out 0
  simp at cp
  have HC := Lib.hid (rtxt_any g bb _ l2 d o2 (by omega) hrs)
  clear hg hr hrs st2 hm2 hgs0 hgs1
  simp only [duoV]
  go_wp2_with fail
  clear cp cy0 fy0 cy1 fy1
  refine HC.out.mono ?_
  clear HC
  rintro e W3 ⟨r1, l3, o3, rfl, hg, hr, hm3, st3⟩
  have HX3 := Lib.hid (grown_block hg HX2s.out hxg)
  have HP3 := Lib.hid (grown_block hg HP2s.out hpg)
  have HY3 := Lib.hid (grown_block hg HY2s.out hyg)
  have HG3 := Lib.hid (grownBy_trans HG2s.out hg)
  have HT3 := Lib.hid st3
  have hl3 := st3.len
  have hrs := hr
  have hgs0 := grown_cell W3 y 3 (.string r1)
  have HX3s0 := Lib.hid (grown_block hgs0 HX3.out hyx.symm)
  have HP3s0 := Lib.hid (grown_block hgs0 HP3.out hyp.symm)
  have HY3s0 : Hid ((W3.setCell ⟨y, 3, none⟩ (.string r1)).heap[y]? = some (.cells #[.int .i64 k1, .string t1, .string i1, .string r1, .slice none 0 0, .slice none 0 0] 34 (0, 0))) := heap_setCell_same W3 y 3 _ 34 _ HY3.out
  have HG3s0 := Lib.hid (grown_own HG3.out hgs0 hyW)
  have hrs := hrs.other hgs0 hyg hyb
  have cy0 := heap_cell HY3.out 3
  simp at cy0
  have fy0 := frozen_of_row W3 y 3 _ _ HY3.out
  have HX3s := HX3s0
  have HP3s := HP3s0
  have HY3s := HY3s0
  have HG3s := HG3s0
  have cp := heap_cell HP3.out 0
  simp at cp
  have HC := Lib.hid (isub_any g bb _ l3 d o3 (by omega) hrs)
  clear hg hr hrs st3 hm3 hgs0
  simp only [txtV]
  go_wp2_with fail
  clear cp cy0 fy0
  refine HC.out.mono ?_
  clear HC
  rintro e W4 ⟨ts, l4, o4, rfl, hg, hr, hm4, st4⟩
  have HX4 := Lib.hid (grown_block hg HX3s.out hxg)
  have HP4 := Lib.hid (grown_block hg HP3s.out hpg)
  have HY4 := Lib.hid (grown_block hg HY3s.out hyg)
  have HG4 := Lib.hid (grownBy_trans HG3s.out hg)
  have HT4 := Lib.hid st4
  have hl4 := st4.len
  have hrs := hr
  have hgs0 := grown_cell W4 y 4 (.slice ts.a ts.xs.length ts.c)
  have HX4s0 := Lib.hid (grown_block hgs0 HX4.out hyx.symm)
  have HP4s0 := Lib.hid (grown_block hgs0 HP4.out hyp.symm)
  have HY4s0 : Hid ((W4.setCell ⟨y, 4, none⟩ (.slice ts.a ts.xs.length ts.c)).heap[y]? = some (.cells #[.int .i64 k1, .string t1, .string i1, .string r1, .slice ts.a ts.xs.length ts.c, .slice none 0 0] 34 (0, 0))) := heap_setCell_same W4 y 4 _ 34 _ HY4.out
  have HG4s0 := Lib.hid (grown_own HG4.out hgs0 hyW)
  have hrs := hrs.other hgs0 hyg hyb
  have cy0 := heap_cell HY4.out 4
  simp at cy0
  have fy0 := frozen_of_row W4 y 4 _ _ HY4.out
  have HX4s := HX4s0
  have HP4s := HP4s0
  have HY4s := HY4s0
  have HG4s := HG4s0
  have cp := heap_cell HP4.out 0
  simp at cp
  have HM4 := Lib.hid ((lsmem_ok (cells := triC) (size := 3) nomem_ok).stays ((lsmem_ok (cells := triC) (size := 3) nomem_ok).lt hm4) (W' := (W4.setCell ⟨y, 4, none⟩ (.slice ts.a ts.xs.length ts.c))) ⟨hgs0.size, fun b hb hlt => hgs0.block b hlt (fun e => by cases e; exact absurd (heap_lt HY3s.out) (Nat.not_lt.2 hb.1))⟩)
  have HC := Lib.hid (rnestedN_any g bb p y k1 t1 i1 r1 ts.a ts.xs.length ts.c m l4 d o4 _ hrs hdm hyg hyb HY4s.out (fun W9 k hmk hg9 hr9 => by
    subst hmk
    exact rclosN_any g bb p y k1 t1 i1 r1 ts.a ts.xs.length ts.c k l4 (d + 1) W9 (HRec.out k rfl) hr9 (by omega) hyg hyb (grown_block hg9 HP4s.out hpg) (grown_block hg9 HY4s.out hyg)))
  clear hg hr hrs st4 hm4 hgs0
  simp only [lsV]
  go_wp2_with fail
  clear cp cy0 fy0
  refine HC.out.mono ?_
  clear HC
  rintro e W5 ⟨rfl, htwo, t, l5, o5, hy5, hr, hlen, hmem, st5⟩
  have HX5 := Lib.hid (htwo.keep HX4s.out hxg hyx.symm)
  have HY5 := Lib.hid hy5
  have HGE := Lib.hid (two_grown HG4s.out htwo hyW)
  have HRE := Lib.hid hr
  have HT5 := Lib.hid st5
  have HMem := Lib.hid hmem
  have HLen := Lib.hid hlen
  have HTwo := Lib.hid htwo
  clear htwo hy5 hr hlen hmem st5
  have cy0 := heap_cell HY5.out 0
  have cy1 := heap_cell HY5.out 1
  have cy2 := heap_cell HY5.out 2
  have cy3 := heap_cell HY5.out 3
  have cy4 := heap_cell HY5.out 4
  have cy5 := heap_cell HY5.out 5
  simp at cy0 cy1 cy2 cy3 cy4 cy5
  have h1c : (#[.int .i64 k1, .string t1, .string i1, .string r1, .slice ts.a ts.xs.length ts.c, .slice t.a t.xs.length t.c] : Array Value).all (·.oneCell') = true := by simp [Value.oneCell']
  go_wp2_with (refine wpList_store_arr W5 rfl rfl 34 _ _ rfl x 34 _ #[.int .i64 k1, .string t1, .string i1, .string r1, .slice ts.a ts.xs.length ts.c, .slice t.a t.xs.length t.c] (by rfl) (by rfl) HX5.out (by rfl) (by rfl) h1c ?_; intro w3 hrow3 hg3 hsz3; have HZ := Lib.hid hrow3; have HG3 := Lib.hid hg3; clear hrow3 hg3 hsz3)
  have z0 := heap_cell HZ.out 0
  have z1 := heap_cell HZ.out 1
  have z2 := heap_cell HZ.out 2
  have z3 := heap_cell HZ.out 3
  have z4 := heap_cell HZ.out 4
  have z5 := heap_cell HZ.out 5
  simp at z0 z1 z2 z3 z4 z5
  go_wp2_with fail
  have hxW : x < W4.heap.size := heap_lt HX4.out
  exact bodyPost_ret (v := .agg #[.int .i64 k1, .string t1, .string i1, .string r1, .slice ts.a ts.xs.length ts.c, .slice t.a t.xs.length t.c]) (by simp [results, Tryz.results48, go_sem, z0, z1, z2, z3, z4, z5]) rfl ⟨⟨k1, t1, i1, r1, ts.a, ts.c, ts.xs, t.a, t.c, t.xs.map NE.plain⟩, l5, o5, by simp [neV], grown_own HGE.out HG3.out hxs, HRE.out.other HG3.out hxg hxb, nodemem HG4s.out.size (heap_lt HX4s.out) (heap_lt HX3s.out) HG3s.out.size hyW (heap_lt HY3s.out) ((lsmem_ok (cells := triC) (size := 3) nomem_ok).weak (fun b hb => hb.1) HM4.out) HTwo.out (Nat.lt_of_lt_of_le hgl HG3s.out.size) HG3.out HLen.out HMem.out, rst_node HT1.out HT2.out HT3.out HT4.out HT5.out⟩
theorem rnode_any (g bb : Nat) : ∀ (m : Nat) (W : World) (l : List UInt8) (d : Nat) (odd : Bool), d + m = 64 → l.length ≤ 1000000000 → RAt W g bb l d odd →
    Calls Tryz.prog 48 #[.pointer (some ⟨g, 0, none⟩)] W (RD g bb NE.plain encN okN badN neV (nemem m) l d odd W)
  | 0, W, l, d, odd, hdm, hl, h => rnode_step g bb 0 W l d odd hdm hl h (fun k hk => by cases hk)
  | m + 1, W, l, d, odd, hdm, hl, h => rnode_step g bb (m + 1) W l d odd hdm hl h (fun k hk l2 o2 W2 h1 h2 => by
    cases hk
    exact rnode_any g bb m W2 l2 (d + 1) o2 (by omega) h1 h2)
end Go.Proofs.YtacjbgmnoiimbabGreat
