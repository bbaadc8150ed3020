/- The law WireDeep: walked (printed by genWireLd.py). -/
import Derived.Test.YtacjbgmnoiimbabDeep
namespace Go.Proofs.Ytacjbgmnoiimbab
set_option linter.unusedVariables false
set_option linter.unusedSimpArgs false
open Go.RowKit

theorem stays_on {g : Nat} {B : Nat} {W W' : World} (h : W.grownBy W' (some g)) : Stays (fun b => g < b ∧ b < B) W W' := ⟨h.size, fun b hb hl => h.block b hl (fun e => by cases e; exact absurd hb.1 (Nat.lt_irrefl _))⟩
theorem stays_alloc {S : Nat → Prop} (W : World) (o : Obj) : Stays S W (W.alloc o) := Stays.below ((Below.refl W.heap.size W).alloc (Nat.le_refl _) o)
def DInvR (W : World) (P R : Nat) (j : Nat) (wr : World) : Prop := Below W.heap.size W wr ∧ W.heap.size ≤ P ∧ P < R ∧ R < wr.heap.size ∧ wr.heap[P]? = some (.cells #[.int .u64 0, .int .i64 0, .int .u64 0, .string { data := #[] }, .slice none 0 0, .slice none 0 0, .slice none 0 0, .slice none 0 0, .slice none 0 0, .int .i64 0, .string { data := #[] }, .string { data := #[] }, .string { data := #[] }, .slice none 0 0, .slice none 0 0] 54 (0, 0)) ∧ ∃ (k : Int) (A B : ByteArray) (a : Option Addr) (c : Nat) (ps : List PR), wr.heap[R]? = some (.cells #[.int .i64 k, .string A, .string B, .slice a ps.length c] 61 (0, 0)) ∧ ChR R wr.heap.size j wr ⟨k, A, B, a, c, ps⟩
theorem dinvR_next {W wr : World} {P R j : Nat} {k : Int} {A B : ByteArray} {a : Option Addr} {c : Nat} {ps : List PR} (hb : Below W.heap.size W wr) (h1 : W.heap.size ≤ P) (h2 : P < R) (h3 : R < wr.heap.size) (h4 : wr.heap[P]? = some (.cells #[.int .u64 0, .int .i64 0, .int .u64 0, .string { data := #[] }, .slice none 0 0, .slice none 0 0, .slice none 0 0, .slice none 0 0, .slice none 0 0, .int .i64 0, .string { data := #[] }, .string { data := #[] }, .string { data := #[] }, .slice none 0 0, .slice none 0 0] 54 (0, 0))) (h5 : wr.heap[R]? = some (.cells #[.int .i64 k, .string A, .string B, .slice a ps.length c] 61 (0, 0))) (h6 : ChR R wr.heap.size j wr ⟨k, A, B, a, c, ps⟩) :
    DInvR W P R (j + 1) ((((((wr).setCell ⟨R, 0, none⟩ (.int .i64 4)).setCell ⟨R, 1, none⟩ (.string { data := #[] })).setCell ⟨R, 2, none⟩ (.string { data := #[] })).setCell ⟨R, 3, none⟩ (.slice (some ⟨wr.heap.size, 0, none⟩) 1 1)).alloc (.cells #[.int .i64 k, .string A, .string B, .slice a ps.length c] 61)) := by
  have e0 := heap_setCell_same wr R 0 _ 61 (.int .i64 4) h5
  have g0 := grown_cell wr R 0 (.int .i64 4)
  have e1 := heap_setCell_same ((wr).setCell ⟨R, 0, none⟩ (.int .i64 4)) R 1 _ 61 (.string { data := #[] }) e0
  have g1 := grown_cell ((wr).setCell ⟨R, 0, none⟩ (.int .i64 4)) R 1 (.string { data := #[] })
  have e2 := heap_setCell_same (((wr).setCell ⟨R, 0, none⟩ (.int .i64 4)).setCell ⟨R, 1, none⟩ (.string { data := #[] })) R 2 _ 61 (.string { data := #[] }) e1
  have g2 := grown_cell (((wr).setCell ⟨R, 0, none⟩ (.int .i64 4)).setCell ⟨R, 1, none⟩ (.string { data := #[] })) R 2 (.string { data := #[] })
  have e3 := heap_setCell_same ((((wr).setCell ⟨R, 0, none⟩ (.int .i64 4)).setCell ⟨R, 1, none⟩ (.string { data := #[] })).setCell ⟨R, 2, none⟩ (.string { data := #[] })) R 3 _ 61 (.slice (some ⟨wr.heap.size, 0, none⟩) 1 1) e2
  have g3 := grown_cell ((((wr).setCell ⟨R, 0, none⟩ (.int .i64 4)).setCell ⟨R, 1, none⟩ (.string { data := #[] })).setCell ⟨R, 2, none⟩ (.string { data := #[] })) R 3 (.slice (some ⟨wr.heap.size, 0, none⟩) 1 1)
  have hg := (grownBy_trans (grownBy_trans (grownBy_trans g0 g1) g2) g3)
  have hs : (((((wr).setCell ⟨R, 0, none⟩ (.int .i64 4)).setCell ⟨R, 1, none⟩ (.string { data := #[] })).setCell ⟨R, 2, none⟩ (.string { data := #[] })).setCell ⟨R, 3, none⟩ (.slice (some ⟨wr.heap.size, 0, none⟩) 1 1)).heap.size = wr.heap.size := by simp [World.setCell]
  have hR := e3
  have hP := grown_block hg h4 (by omega)
  have hst : Stays (fun b => R < b ∧ b < wr.heap.size) wr (((((wr).setCell ⟨R, 0, none⟩ (.int .i64 4)).setCell ⟨R, 1, none⟩ (.string { data := #[] })).setCell ⟨R, 2, none⟩ (.string { data := #[] })).setCell ⟨R, 3, none⟩ (.slice (some ⟨wr.heap.size, 0, none⟩) 1 1)) := stays_on hg
  have hbel := below_on hb hg hb.size (by omega)
  generalize (((((wr).setCell ⟨R, 0, none⟩ (.int .i64 4)).setCell ⟨R, 1, none⟩ (.string { data := #[] })).setCell ⟨R, 2, none⟩ (.string { data := #[] })).setCell ⟨R, 3, none⟩ (.slice (some ⟨wr.heap.size, 0, none⟩) 1 1)) = wx at *
  have hN := heap_alloc_new wx (.cells #[.int .i64 k, .string A, .string B, .slice a ps.length c] 61)
  have hlt := heap_lt hN
  rw [hs] at hN hlt
  refine ⟨hbel.alloc hbel.size _, h1, h2, Nat.lt_trans h3 hlt, (heap_alloc_old wx _ (heap_lt hP)).trans hP, 4, ⟨#[]⟩, ⟨#[]⟩, some ⟨wr.heap.size, 0, none⟩, 1, [PR.mk k A B ps], (heap_alloc_old wx _ (heap_lt hR)).trans hR, ?_⟩
  exact chR_next (x := ⟨k, A, B, a, c, ps⟩) h6 h3 hN (hst.trans (stays_alloc _ _)) hlt
def DInvN (W : World) (P : Nat) (j : Nat) (wr : World) : Prop := Below W.heap.size W wr ∧ W.heap.size ≤ P ∧ P < wr.heap.size ∧ ∃ (k : Int) (t i r : ByteArray) (sa : Option Addr) (sc : Nat) (ss : List Tri) (a : Option Addr) (c : Nat) (ps : List PN), wr.heap[P]? = some (.cells #[.int .u64 0, .int .i64 0, .int .u64 0, .string { data := #[] }, .slice none 0 0, .slice none 0 0, .slice none 0 0, .slice none 0 0, .slice none 0 0, .int .i64 k, .string t, .string i, .string r, .slice sa ss.length sc, .slice a ps.length c] 54 (0, 0)) ∧ ChN P wr.heap.size j wr ⟨k, t, i, r, sa, sc, ss, a, c, ps⟩
theorem dinvN_next {W wr : World} {P j : Nat} {k : Int} {t i r : ByteArray} {sa : Option Addr} {sc : Nat} {ss : List Tri} {a : Option Addr} {c : Nat} {ps : List PN} (hb : Below W.heap.size W wr) (h1 : W.heap.size ≤ P) (h3 : P < wr.heap.size) (h5 : wr.heap[P]? = some (.cells #[.int .u64 0, .int .i64 0, .int .u64 0, .string { data := #[] }, .slice none 0 0, .slice none 0 0, .slice none 0 0, .slice none 0 0, .slice none 0 0, .int .i64 k, .string t, .string i, .string r, .slice sa ss.length sc, .slice a ps.length c] 54 (0, 0))) (h6 : ChN P wr.heap.size j wr ⟨k, t, i, r, sa, sc, ss, a, c, ps⟩) :
    DInvN W P (j + 1) ((((((((wr).setCell ⟨P, 9, none⟩ (.int .i64 4)).setCell ⟨P, 10, none⟩ (.string { data := #[] })).setCell ⟨P, 11, none⟩ (.string { data := #[] })).setCell ⟨P, 12, none⟩ (.string { data := #[] })).setCell ⟨P, 13, none⟩ (.slice none 0 0)).setCell ⟨P, 14, none⟩ (.slice (some ⟨wr.heap.size, 0, none⟩) 1 1)).alloc (.cells #[.int .i64 k, .string t, .string i, .string r, .slice sa ss.length sc, .slice a ps.length c] 52)) := by
  have e0 := heap_setCell_same wr P 9 _ 54 (.int .i64 4) h5
  have g0 := grown_cell wr P 9 (.int .i64 4)
  have e1 := heap_setCell_same ((wr).setCell ⟨P, 9, none⟩ (.int .i64 4)) P 10 _ 54 (.string { data := #[] }) e0
  have g1 := grown_cell ((wr).setCell ⟨P, 9, none⟩ (.int .i64 4)) P 10 (.string { data := #[] })
  have e2 := heap_setCell_same (((wr).setCell ⟨P, 9, none⟩ (.int .i64 4)).setCell ⟨P, 10, none⟩ (.string { data := #[] })) P 11 _ 54 (.string { data := #[] }) e1
  have g2 := grown_cell (((wr).setCell ⟨P, 9, none⟩ (.int .i64 4)).setCell ⟨P, 10, none⟩ (.string { data := #[] })) P 11 (.string { data := #[] })
  have e3 := heap_setCell_same ((((wr).setCell ⟨P, 9, none⟩ (.int .i64 4)).setCell ⟨P, 10, none⟩ (.string { data := #[] })).setCell ⟨P, 11, none⟩ (.string { data := #[] })) P 12 _ 54 (.string { data := #[] }) e2
  have g3 := grown_cell ((((wr).setCell ⟨P, 9, none⟩ (.int .i64 4)).setCell ⟨P, 10, none⟩ (.string { data := #[] })).setCell ⟨P, 11, none⟩ (.string { data := #[] })) P 12 (.string { data := #[] })
  have e4 := heap_setCell_same (((((wr).setCell ⟨P, 9, none⟩ (.int .i64 4)).setCell ⟨P, 10, none⟩ (.string { data := #[] })).setCell ⟨P, 11, none⟩ (.string { data := #[] })).setCell ⟨P, 12, none⟩ (.string { data := #[] })) P 13 _ 54 (.slice none 0 0) e3
  have g4 := grown_cell (((((wr).setCell ⟨P, 9, none⟩ (.int .i64 4)).setCell ⟨P, 10, none⟩ (.string { data := #[] })).setCell ⟨P, 11, none⟩ (.string { data := #[] })).setCell ⟨P, 12, none⟩ (.string { data := #[] })) P 13 (.slice none 0 0)
  have e5 := heap_setCell_same ((((((wr).setCell ⟨P, 9, none⟩ (.int .i64 4)).setCell ⟨P, 10, none⟩ (.string { data := #[] })).setCell ⟨P, 11, none⟩ (.string { data := #[] })).setCell ⟨P, 12, none⟩ (.string { data := #[] })).setCell ⟨P, 13, none⟩ (.slice none 0 0)) P 14 _ 54 (.slice (some ⟨wr.heap.size, 0, none⟩) 1 1) e4
  have g5 := grown_cell ((((((wr).setCell ⟨P, 9, none⟩ (.int .i64 4)).setCell ⟨P, 10, none⟩ (.string { data := #[] })).setCell ⟨P, 11, none⟩ (.string { data := #[] })).setCell ⟨P, 12, none⟩ (.string { data := #[] })).setCell ⟨P, 13, none⟩ (.slice none 0 0)) P 14 (.slice (some ⟨wr.heap.size, 0, none⟩) 1 1)
  have hg := (grownBy_trans (grownBy_trans (grownBy_trans (grownBy_trans (grownBy_trans g0 g1) g2) g3) g4) g5)
  have hs : (((((((wr).setCell ⟨P, 9, none⟩ (.int .i64 4)).setCell ⟨P, 10, none⟩ (.string { data := #[] })).setCell ⟨P, 11, none⟩ (.string { data := #[] })).setCell ⟨P, 12, none⟩ (.string { data := #[] })).setCell ⟨P, 13, none⟩ (.slice none 0 0)).setCell ⟨P, 14, none⟩ (.slice (some ⟨wr.heap.size, 0, none⟩) 1 1)).heap.size = wr.heap.size := by simp [World.setCell]
  have hR := e5
  have hst : Stays (fun b => P < b ∧ b < wr.heap.size) wr (((((((wr).setCell ⟨P, 9, none⟩ (.int .i64 4)).setCell ⟨P, 10, none⟩ (.string { data := #[] })).setCell ⟨P, 11, none⟩ (.string { data := #[] })).setCell ⟨P, 12, none⟩ (.string { data := #[] })).setCell ⟨P, 13, none⟩ (.slice none 0 0)).setCell ⟨P, 14, none⟩ (.slice (some ⟨wr.heap.size, 0, none⟩) 1 1)) := stays_on hg
  have hbel := below_on hb hg hb.size h1
  generalize (((((((wr).setCell ⟨P, 9, none⟩ (.int .i64 4)).setCell ⟨P, 10, none⟩ (.string { data := #[] })).setCell ⟨P, 11, none⟩ (.string { data := #[] })).setCell ⟨P, 12, none⟩ (.string { data := #[] })).setCell ⟨P, 13, none⟩ (.slice none 0 0)).setCell ⟨P, 14, none⟩ (.slice (some ⟨wr.heap.size, 0, none⟩) 1 1)) = wx at *
  have hN := heap_alloc_new wx (.cells #[.int .i64 k, .string t, .string i, .string r, .slice sa ss.length sc, .slice a ps.length c] 52)
  have hlt := heap_lt hN
  rw [hs] at hN hlt
  refine ⟨hbel.alloc hbel.size _, h1, Nat.lt_trans h3 hlt, 4, ⟨#[]⟩, ⟨#[]⟩, ⟨#[]⟩, none, 0, [], some ⟨wr.heap.size, 0, none⟩, 1, [PN.mk k (t, i) r ss ps], (heap_alloc_old wx _ (heap_lt hR)).trans hR, ?_⟩
  exact chN_next (x := ⟨k, t, i, r, sa, sc, ss, a, c, ps⟩) h6 h3 hN (hst.trans (stays_alloc _ _)) hlt
def DReady (W : World) (P K : Nat) (wc : World) : Prop := Below W.heap.size W wc ∧ ∃ (za : Option Addr) (zc : Nat) (zs : List SE) (nd : NE), wc.heap[P]? = some (.cells #[.int .u64 0, .int .i64 0, .int .u64 0, .string { data := #[] }, .slice none 0 0, .slice none 0 0, .slice none 0 0, .slice none 0 0, .slice za zs.length zc, .int .i64 nd.k, .string nd.t, .string nd.i, .string nd.r, .slice nd.sa nd.ss.length nd.sc, .slice nd.a nd.ps.length nd.c] 54 (0, 0)) ∧ DeepOk K wc za zs nd
theorem deepR_done {W wr : World} {P K : Nat} (hK : K < 100) {k : Int} {A B : ByteArray} {a : Option Addr} {c : Nat} {ps : List PR} (hb : Below W.heap.size W wr) (h1 : W.heap.size ≤ P) (h2 : P < P + 1) (h3 : P + 1 < wr.heap.size) (h4 : wr.heap[P]? = some (.cells #[.int .u64 0, .int .i64 0, .int .u64 0, .string { data := #[] }, .slice none 0 0, .slice none 0 0, .slice none 0 0, .slice none 0 0, .slice none 0 0, .int .i64 0, .string { data := #[] }, .string { data := #[] }, .string { data := #[] }, .slice none 0 0, .slice none 0 0] 54 (0, 0))) (h6 : ChR (P + 1) wr.heap.size K wr ⟨k, A, B, a, c, ps⟩) :
    DReady W P K ((wr.setCell ⟨P, 8, none⟩ (.slice (some ⟨wr.heap.size, 0, none⟩) 1 1)).alloc (.cells #[.string { data := #[] }, .string { data := #[] }, .string { data := #[] }, .int .i64 k, .string A, .string B, .slice a ps.length c, .string { data := #[] }, .string { data := #[] }, .string { data := #[] }, .slice none 0 0] 67)) := by
  have e0 := heap_setCell_same wr P 8 _ 54 (.slice (some ⟨wr.heap.size, 0, none⟩) 1 1) h4
  have hg := grown_cell wr P 8 (.slice (some ⟨wr.heap.size, 0, none⟩) 1 1)
  have hs : (wr.setCell ⟨P, 8, none⟩ (.slice (some ⟨wr.heap.size, 0, none⟩) 1 1)).heap.size = wr.heap.size := by simp [World.setCell]
  have hst : Stays (fun b => P + 1 < b ∧ b < wr.heap.size) wr (wr.setCell ⟨P, 8, none⟩ (.slice (some ⟨wr.heap.size, 0, none⟩) 1 1)) := ⟨hg.size, fun b hb hl => hg.block b hl (fun e => by cases e; omega)⟩
  have hbel := below_on hb hg hb.size h1
  generalize (wr.setCell ⟨P, 8, none⟩ (.slice (some ⟨wr.heap.size, 0, none⟩) 1 1)) = wx at *
  have hN := heap_alloc_new wx (.cells #[.string { data := #[] }, .string { data := #[] }, .string { data := #[] }, .int .i64 k, .string A, .string B, .slice a ps.length c, .string { data := #[] }, .string { data := #[] }, .string { data := #[] }, .slice none 0 0] 67)
  have hlt := heap_lt hN
  rw [hs] at hN hlt
  refine ⟨hbel.alloc hbel.size _, some ⟨wr.heap.size, 0, none⟩, 1, [⟨(⟨#[]⟩, ⟨#[]⟩, ⟨#[]⟩), ⟨k, A, B, a, c, ps⟩, (⟨#[]⟩, ⟨#[]⟩, ⟨#[]⟩), none, 0, []⟩], ndZ, (heap_alloc_old wx _ (heap_lt e0)).trans e0, ?_⟩
  exact deep_rule (x := ⟨k, A, B, a, c, ps⟩) hK h6 (hst.trans (stays_alloc _ _)) hlt hN
theorem deepN_done {W wr : World} {P K : Nat} (hK : K < 100) {k : Int} {t i r : ByteArray} {sa : Option Addr} {sc : Nat} {ss : List Tri} {a : Option Addr} {c : Nat} {ps : List PN} (hb : Below W.heap.size W wr) (h5 : wr.heap[P]? = some (.cells #[.int .u64 0, .int .i64 0, .int .u64 0, .string { data := #[] }, .slice none 0 0, .slice none 0 0, .slice none 0 0, .slice none 0 0, .slice none 0 0, .int .i64 k, .string t, .string i, .string r, .slice sa ss.length sc, .slice a ps.length c] 54 (0, 0))) (h6 : ChN P wr.heap.size K wr ⟨k, t, i, r, sa, sc, ss, a, c, ps⟩) : DReady W P K wr :=
  ⟨hb, none, 0, [], ⟨k, t, i, r, sa, sc, ss, a, c, ps⟩, h5, deep_node hK h6⟩
set_option maxRecDepth 100000 in
set_option maxHeartbeats 8000000 in
theorem lawDeep (n : Nat) (rule : Bool) (W : World) (hn : n < 256) : Calls Try.prog 5 #[.int .u8 (n : Int), .bool rule] W fun e W' => e = .returned (.bool true) ∧ Below W.heap.size W W' := by
  obtain ⟨K, hK⟩ : ∃ K, K = n % 100 := ⟨_, rfl⟩
  have hK100 : K < 100 := by omega
  have hrem : ((n : Int)).tmod 100 = (K : Int) := by
    rw [Int.tmod_eq_emod_of_nonneg (by omega)]; omega
  have hwu : IntKind.u8.wrap (K : Int) = (K : Int) := by rw [IntKind.wrap_u8]; omega
  have hwi : IntKind.i64.wrap (K : Int) = (K : Int) := by rw [IntKind.wrap_i64]; omega
  clear hK
  have HC := Lib.hid (fixed_any W)
  go_enter Try.func5, Try.ntmps5
  go_wp2_with fail
  refine HC.out.mono ?_
  clear HC
  rintro ee W0 ⟨rfl, hb0⟩
  have HB0 := Lib.hid hb0
  have HBP := Lib.hid (HB0.out.alloc HB0.out.size (.cells #[.int .u64 0, .int .i64 0, .int .u64 0, .string { data := #[] }, .slice none 0 0, .slice none 0 0, .slice none 0 0, .slice none 0 0, .slice none 0 0, .int .i64 0, .string { data := #[] }, .string { data := #[] }, .string { data := #[] }, .slice none 0 0, .slice none 0 0] 54))
  have HP0 := Lib.hid (heap_alloc_new W0 (.cells #[.int .u64 0, .int .i64 0, .int .u64 0, .string { data := #[] }, .slice none 0 0, .slice none 0 0, .slice none 0 0, .slice none 0 0, .slice none 0 0, .int .i64 0, .string { data := #[] }, .string { data := #[] }, .string { data := #[] }, .slice none 0 0, .slice none 0 0] 54))
  have hPl := HB0.out.size
  clear hb0
  obtain ⟨P, hP⟩ : ∃ P, P = W0.heap.size := ⟨_, rfl⟩
  rw [← hP] at HP0 hPl
  have hPe := Lib.hid hP
  clear hP
  go_upto_if 19 with (fail)
  rw [← hPe.out]
  go_cut [7] (fun v wc => Hid (DReady W P K wc))
  case first =>
    cases rule with
    | true =>
      have HBR := Lib.hid (HBP.out.alloc HBP.out.size (.cells #[.int .i64 1, .string { data := #[] }, .string { data := #[] }, .slice none 0 0] 61))
      have HR0 := Lib.hid (heap_alloc_new (W0.alloc (.cells #[.int .u64 0, .int .i64 0, .int .u64 0, .string { data := #[] }, .slice none 0 0, .slice none 0 0, .slice none 0 0, .slice none 0 0, .slice none 0 0, .int .i64 0, .string { data := #[] }, .string { data := #[] }, .string { data := #[] }, .slice none 0 0, .slice none 0 0] 54)) (.cells #[.int .i64 1, .string { data := #[] }, .string { data := #[] }, .slice none 0 0] 61))
      have HPR := Lib.hid ((heap_alloc_old (W0.alloc (.cells #[.int .u64 0, .int .i64 0, .int .u64 0, .string { data := #[] }, .slice none 0 0, .slice none 0 0, .slice none 0 0, .slice none 0 0, .slice none 0 0, .int .i64 0, .string { data := #[] }, .string { data := #[] }, .string { data := #[] }, .slice none 0 0, .slice none 0 0] 54)) (.cells #[.int .i64 1, .string { data := #[] }, .string { data := #[] }, .slice none 0 0] 61) (heap_lt HP0.out)).trans HP0.out)
      have hPR := heap_lt HP0.out
      go_upto_region 7 with (fail)
      try rw [← hPe.out]
      generalize (W0.alloc (.cells #[.int .u64 0, .int .i64 0, .int .u64 0, .string { data := #[] }, .slice none 0 0, .slice none 0 0, .slice none 0 0, .slice none 0 0, .slice none 0 0, .int .i64 0, .string { data := #[] }, .string { data := #[] }, .string { data := #[] }, .slice none 0 0, .slice none 0 0] 54)).alloc (.cells #[.int .i64 1, .string { data := #[] }, .string { data := #[] }, .slice none 0 0] 61) = W1 at *
      have hRP : (W0.alloc (.cells #[.int .u64 0, .int .i64 0, .int .u64 0, .string { data := #[] }, .slice none 0 0, .slice none 0 0, .slice none 0 0, .slice none 0 0, .slice none 0 0, .int .i64 0, .string { data := #[] }, .string { data := #[] }, .string { data := #[] }, .slice none 0 0, .slice none 0 0] 54)).heap.size = P + 1 := by rw [alloc_size, hPe.out]
      rw [hRP] at hPR HR0
      clear hRP
      have hRl := heap_lt HR0.out
      go_wp2_with fail
      go_loopw [23] (fun iv wr => ∃ j : Nat, iv = .int .i64 j ∧ j ≤ K ∧ Hid (DInvR W P (P + 1) j wr)) (fun iv _ => K - (intOf iv).toNat)
      case atStart => exact ⟨0, rfl, Nat.zero_le _, ⟨HBR.out, hPl, hPR, hRl, HPR.out, 1, ⟨#[]⟩, ⟨#[]⟩, none, 0, [], HR0.out, chR_start _ _ _⟩⟩
      case round =>
        clear HBR HR0 HPR HBP HP0 hRl
        obtain ⟨j, rfl, hj, hst⟩ := hrel
        obtain ⟨hbel, _, _, hRl, hp, k, A, B, a, c, ps, hr, hch⟩ := hst.out
        have HBl := Lib.hid hbel
        have HPl := Lib.hid hp
        have HRl := Lib.hid hr
        have HCh := Lib.hid hch
        clear hst hbel hp hr hch
        have q0 := heap_cell HRl.out 0
        have q1 := heap_cell HRl.out 1
        have q2 := heap_cell HRl.out 2
        have q3 := heap_cell HRl.out 3
        simp at q0 q1 q2 q3
        have f0 := frozen_of_row wr (P + 1) 0 _ _ HRl.out
        have f1 := frozen_of_row wr (P + 1) 1 _ _ HRl.out
        have f2 := frozen_of_row wr (P + 1) 2 _ _ HRl.out
        have f3 := frozen_of_row wr (P + 1) 3 _ _ HRl.out
        by_cases hjk : j < K
        · have dj : decide ((j : Int) < (K : Int)) = true := decide_eq_true (by omega)
          have dj2 : decide (j < K) = true := decide_eq_true hjk
          have HN := Lib.hid (dinvR_next HBl.out hPl hPR hRl HPl.out HRl.out HCh.out)
          go_wp2_with fail
          go_roundw
          case rel => exact ⟨j + 1, by go_num, by omega, HN.out⟩
          case measure => first | (simp [intOf]; done) | (simp [intOf]; omega)
        · obtain rfl : j = K := by omega
          have dj : decide ((j : Int) < (j : Int)) = false := by simp
          have dj2 : decide (j < j) = false := by simp
          have HN := Lib.hid (deepR_done hK100 HBl.out hPl hPR hRl HPl.out HCh.out)
          have p8 := heap_cell HPl.out 8
          have pf := frozen_of_row wr P 8 _ _ HPl.out
          simp at p8
          have hPw : P < wr.heap.size := by omega
          go_wp2_with fail
          go_meet
          case rel => exact HN.out
    | false =>
      go_upto_region 12 with (fail)
      generalize (W0.alloc (.cells #[.int .u64 0, .int .i64 0, .int .u64 0, .string { data := #[] }, .slice none 0 0, .slice none 0 0, .slice none 0 0, .slice none 0 0, .slice none 0 0, .int .i64 0, .string { data := #[] }, .string { data := #[] }, .string { data := #[] }, .slice none 0 0, .slice none 0 0] 54)) = W1 at *
      have hRl := heap_lt HP0.out
      go_wp2_with fail
      go_loopw [35] (fun iv wr => ∃ j : Nat, iv = .int .i64 j ∧ j ≤ K ∧ Hid (DInvN W P j wr)) (fun iv _ => K - (intOf iv).toNat)
      case atStart => exact ⟨0, rfl, Nat.zero_le _, ⟨HBP.out, hPl, hRl, 0, ⟨#[]⟩, ⟨#[]⟩, ⟨#[]⟩, none, 0, [], none, 0, [], HP0.out, chN_start _ _ _⟩⟩
      case round =>
        clear HBP HP0 hRl
        obtain ⟨j, rfl, hj, hst⟩ := hrel
        obtain ⟨hbel, _, hRl, k, t, i, r, sa, sc, ss, a, c, ps, hr, hch⟩ := hst.out
        have HBl := Lib.hid hbel
        have HRl := Lib.hid hr
        have HCh := Lib.hid hch
        clear hst hbel hr hch
        have q9 := heap_cell HRl.out 9
        have f9 := frozen_of_row wr P 9 _ _ HRl.out
        have q10 := heap_cell HRl.out 10
        have f10 := frozen_of_row wr P 10 _ _ HRl.out
        have q11 := heap_cell HRl.out 11
        have f11 := frozen_of_row wr P 11 _ _ HRl.out
        have q12 := heap_cell HRl.out 12
        have f12 := frozen_of_row wr P 12 _ _ HRl.out
        have q13 := heap_cell HRl.out 13
        have f13 := frozen_of_row wr P 13 _ _ HRl.out
        have q14 := heap_cell HRl.out 14
        have f14 := frozen_of_row wr P 14 _ _ HRl.out
        simp at q9 q10 q11 q12 q13 q14
        by_cases hjk : j < K
        · have dj : decide ((j : Int) < (K : Int)) = true := decide_eq_true (by omega)
          have dj2 : decide (j < K) = true := decide_eq_true hjk
          have HN := Lib.hid (dinvN_next HBl.out hPl hRl HRl.out HCh.out)
          go_wp2_with fail
          go_roundw
          case rel => exact ⟨j + 1, by go_num, by omega, HN.out⟩
          case measure => first | (simp [intOf]; done) | (simp [intOf]; omega)
        · obtain rfl : j = K := by omega
          have dj : decide ((j : Int) < (j : Int)) = false := by simp
          have dj2 : decide (j < j) = false := by simp
          have HN := Lib.hid (deepN_done hK100 HBl.out HRl.out HCh.out)
          go_wp2_with fail
          go_meet
          case rel => exact HN.out
  case rest =>
    obtain ⟨HBz0, za, zc, zs, nd, HP0', HD0⟩ := hcut.out
    have HBz := Lib.hid HBz0
    have HP := Lib.hid HP0'
    have HD := Lib.hid HD0
    clear hcut HBz0 HP0' HD0 HBP HP0
    have HC := Lib.hid (deep_put zc HD.out)
    have q0 := heap_cell HP.out 0
    have q1 := heap_cell HP.out 1
    have q2 := heap_cell HP.out 2
    have q3 := heap_cell HP.out 3
    have q4 := heap_cell HP.out 4
    have q5 := heap_cell HP.out 5
    have q6 := heap_cell HP.out 6
    have q7 := heap_cell HP.out 7
    have q8 := heap_cell HP.out 8
    have q9 := heap_cell HP.out 9
    have q10 := heap_cell HP.out 10
    have q11 := heap_cell HP.out 11
    have q12 := heap_cell HP.out 12
    have q13 := heap_cell HP.out 13
    have q14 := heap_cell HP.out 14
    simp at q0 q1 q2 q3 q4 q5 q6 q7 q8 q9 q10 q11 q12 q13 q14
    go_wp2_with fail
    clear q0 q1 q2 q3 q4 q5 q6 q7 q8 q9 q10 q11 q12 q13 q14
    refine HC.out.mono ?_
    clear HC
    rintro ee W1 ⟨hb1, hy1, hn1⟩
    have HB1 := Lib.hid (HBz.out.trans (hb1.mono HBz.out.size))
    have HP1 := Lib.hid ((hb1.block _ (heap_lt HP.out)).trans HP.out)
    have HD1 := Lib.hid (HD.out.below hb1)
    clear hb1
    by_cases h64 : K + 1 ≤ 64
    · obtain ⟨pa, pm, pc, rfl⟩ := hy1 h64
      have d64 : decide ((64 : Int) < 1 + (K : Int)) = false := decide_eq_false (by omega)
      clear hy1 hn1
      have HC := Lib.hid (deep_enc zc HD1.out)
      have q0 := heap_cell HP1.out 0
      have q1 := heap_cell HP1.out 1
      have q2 := heap_cell HP1.out 2
      have q3 := heap_cell HP1.out 3
      have q4 := heap_cell HP1.out 4
      have q5 := heap_cell HP1.out 5
      have q6 := heap_cell HP1.out 6
      have q7 := heap_cell HP1.out 7
      have q8 := heap_cell HP1.out 8
      have q9 := heap_cell HP1.out 9
      have q10 := heap_cell HP1.out 10
      have q11 := heap_cell HP1.out 11
      have q12 := heap_cell HP1.out 12
      have q13 := heap_cell HP1.out 13
      have q14 := heap_cell HP1.out 14
      simp at q0 q1 q2 q3 q4 q5 q6 q7 q8 q9 q10 q11 q12 q13 q14
      go_wp2_with fail
      clear q0 q1 q2 q3 q4 q5 q6 q7 q8 q9 q10 q11 q12 q13 q14
      refine HC.out.mono ?_
      clear HC
      rintro ee W2 ⟨a2, c2, rfl, hib, hb2⟩
      have HB2 := Lib.hid (HB1.out.trans (hb2.mono HB1.out.size))
      have HC := Lib.hid (deep_get HD1.out a2 c2 _ W2 rfl hib)
      generalize ([112, 49] ++ respE (dp zs nd)) = E at *
      clear hb2 hib
      go_wp2_with fail
      refine HC.out.mono ?_
      clear HC
      rintro ee W3 ⟨hb3, hy3, hn3⟩
      have HB3 := Lib.hid (HB2.out.trans (hb3.mono HB2.out.size))
      clear hb3
      obtain ⟨x, rfl⟩ := hy3 h64
      clear hy3 hn3
      simp only [rpV, lsV]
      have HB4 := Lib.hid (HB3.out.alloc HB3.out.size (.cells #[.int .u64 (x.id : Int), .int .i64 x.er, .int .u64 (x.rv : Int), .string x.tk, .slice x.fs.a x.fs.xs.length x.fs.c, .slice x.ts.a x.ts.xs.length x.ts.c, .slice x.os.a x.os.xs.length x.os.c, .slice x.es.a x.es.xs.length x.es.c, .slice x.ss.a x.ss.xs.length x.ss.c, .int .i64 x.nd.k, .string x.nd.t, .string x.nd.i, .string x.nd.r, .slice x.nd.sa x.nd.ss.length x.nd.sc, .slice x.nd.a x.nd.ps.length x.nd.c] 54))
      go_wp2_with fail
      go_ret
      exact ⟨rfl, HB4.out⟩
    · obtain rfl := hn1 (by omega)
      have d64 : decide ((64 : Int) < 1 + (K : Int)) = true := decide_eq_true (by omega)
      clear hy1 hn1
      have HC := Lib.hid (deep_enc zc HD1.out)
      have q0 := heap_cell HP1.out 0
      have q1 := heap_cell HP1.out 1
      have q2 := heap_cell HP1.out 2
      have q3 := heap_cell HP1.out 3
      have q4 := heap_cell HP1.out 4
      have q5 := heap_cell HP1.out 5
      have q6 := heap_cell HP1.out 6
      have q7 := heap_cell HP1.out 7
      have q8 := heap_cell HP1.out 8
      have q9 := heap_cell HP1.out 9
      have q10 := heap_cell HP1.out 10
      have q11 := heap_cell HP1.out 11
      have q12 := heap_cell HP1.out 12
      have q13 := heap_cell HP1.out 13
      have q14 := heap_cell HP1.out 14
      simp at q0 q1 q2 q3 q4 q5 q6 q7 q8 q9 q10 q11 q12 q13 q14
      go_wp2_with fail
      clear q0 q1 q2 q3 q4 q5 q6 q7 q8 q9 q10 q11 q12 q13 q14
      refine HC.out.mono ?_
      clear HC
      rintro ee W2 ⟨a2, c2, rfl, hib, hb2⟩
      have HB2 := Lib.hid (HB1.out.trans (hb2.mono HB1.out.size))
      have HC := Lib.hid (deep_get HD1.out a2 c2 _ W2 rfl hib)
      generalize ([112, 49] ++ respE (dp zs nd)) = E at *
      clear hb2 hib
      go_wp2_with fail
      refine HC.out.mono ?_
      clear HC
      rintro ee W3 ⟨hb3, hy3, hn3⟩
      have HB3 := Lib.hid (HB2.out.trans (hb3.mono HB2.out.size))
      clear hb3
      obtain rfl := hn3 (by omega)
      clear hy3 hn3
      simp only [rpZ]
      have HB4 := Lib.hid (HB3.out.alloc HB3.out.size (.cells #[.int .u64 0, .int .i64 0, .int .u64 0, .string { data := #[] }, .slice none 0 0, .slice none 0 0, .slice none 0 0, .slice none 0 0, .slice none 0 0, .int .i64 0, .string { data := #[] }, .string { data := #[] }, .string { data := #[] }, .slice none 0 0, .slice none 0 0] 54))
      go_wp2_with fail
      go_ret
      exact ⟨rfl, HB4.out⟩
theorem lawDeepI (n : Int) (rule : Bool) (W : World) (hn : (Lit.int .u8 n).wf = true) : Calls Try.prog 5 #[.int .u8 n, .bool rule] W fun e W' => e = .returned (.bool true) ∧ Below W.heap.size W W' := by
  have hb := bounds_u8 hn
  obtain ⟨k, rfl, hk⟩ : ∃ k : Nat, n = k ∧ k < 256 := ⟨n.toNat, by omega, by omega⟩
  exact lawDeep k rule W hk
end Go.Proofs.Ytacjbgmnoiimbab
