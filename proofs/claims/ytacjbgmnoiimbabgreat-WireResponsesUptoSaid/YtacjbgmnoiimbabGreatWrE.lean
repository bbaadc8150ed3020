/- A rule written: walked. -/
import Derived.Test.YtacjbgmnoiimbabGreatWrD
namespace Go.Proofs.YtacjbgmnoiimbabGreat
set_option linter.unusedVariables false
set_option linter.unusedSimpArgs false
open Go.RowKit

/-- a list of rules can be written from W on, whatever the writer's state -/
def RListOk (g : Nat) (W : World) (a : Option Addr) (c : Nat) (ps : List PR) : Prop := ∀ (l1 : List UInt8) (d1 : Nat) (o1 : Bool) (W1 : World), SAt 78 W1 g l1 d1 o1 → W.grownBy W1 (some g) → l1.length + (listE encR ps).length ≤ 1000000000 → d1 + 2 * (listE encR ps).length ≤ 2000000000 →
    Calls Tryz.prog 111 #[.pointer (some ⟨g, 0, none⟩), .slice a ps.length c, .func (.func 89) #[.pointer (some ⟨g, 0, none⟩)] #[]] W1 (WD g l1 d1 o1 (listE encR ps) (fun d => ∃ x ∈ ps, badR x d) W1)
set_option maxRecDepth 100000 in
theorem wruleC_any (g x2 x3 : Nat) (k : Int) (A B : ByteArray) (a : Option Addr) (c : Nat) (ps : List PR) (l : List UInt8) (d : Nat) (odd : Bool) (W : World) (h : SAt 78 W g l d odd) (h2 : W.heap[x2]? = some (.cells #[.pointer (some ⟨g, 0, none⟩)] 76 (0, 0))) (h3 : W.heap[x3]? = some (.cells #[.int .i64 k, .string A, .string B, .slice a ps.length c] 71 (0, 0)))
    (hl : l.length + (listE encR ps).length ≤ 1000000000) (hd : d + 2 * (listE encR ps).length ≤ 2000000000) (hlist : RListOk g W a c ps) :
    Calls Tryz.prog 110 #[.pointer (some ⟨x2, 0, none⟩), .pointer (some ⟨x3, 0, none⟩)] W (WD g l d odd (listE encR ps) (fun d => ∃ x ∈ ps, badR x d) W) := by
  have p2 := heap_cell h2 0
  have p3 := heap_cell h3 3
  simp at p2 p3
  have HC := Lib.hid (hlist l d odd W h (grown_refl W g) hl hd)
  clear h h2 h3 hlist
  go_enter Tryz.func110, Tryz.ntmps110
  go_wp2_with fail
  refine HC.out.mono ?_
  clear HC
  intro e w1 hw
  obtain ⟨rfl, _⟩ := id hw
  have HE := Lib.hid hw
  clear hw
  go_wp2_with fail
  go_end0
  exact HE.out
theorem listE_pos {T : Type} (en : T → List UInt8) (xs : List T) : 1 ≤ (listE en xs).length := by
  unfold listE
  rw [List.length_append]
  have := uv_pos xs.length
  omega
set_option maxRecDepth 100000 in
set_option maxHeartbeats 1000000 in
theorem wrule_any (g : Nat) (k : Int) (A B : ByteArray) (a : Option Addr) (c : Nat) (ps : List PR) (l : List UInt8) (d : Nat) (odd : Bool) (W : World) (h : SAt 78 W g l d odd) (hk : iok k) (hl : l.length + (encR (.mk k A B ps)).length ≤ 1000000000) (hd : d + 2 * (encR (.mk k A B ps)).length ≤ 2000000000) (hlist : RListOk g W a c ps) :
    Calls Tryz.prog 89 #[.pointer (some ⟨g, 0, none⟩), .agg #[.int .i64 k, .string A, .string B, .slice a ps.length c]] W (WD g l d odd (encR (.mk k A B ps)) (badR (.mk k A B ps)) W) := by
  have hL := hl
  have hD := hd
  rw [encR_eq] at hL hD
  simp only [List.length_append] at hL hD
  have hpos := listE_pos encR ps
  have hip : 1 ≤ (intE k).length := uv_pos _
  have HB1 := Lib.hid ((Below.refl W.heap.size W).alloc (Nat.le_refl _) (.cells #[.pointer (some ⟨g, 0, none⟩)] 76))
  have HX2 := Lib.hid (heap_alloc_new W (.cells #[.pointer (some ⟨g, 0, none⟩)] 76))
  have hgx := h.lt
  have hxx : W.heap.size < (W.alloc (.cells #[.pointer (some ⟨g, 0, none⟩)] 76)).heap.size := by rw [alloc_size]; omega
  have HX3 := Lib.hid (heap_alloc_new (W.alloc (.cells #[.pointer (some ⟨g, 0, none⟩)] 76)) (.cells #[.int .i64 k, .string A, .string B, .slice a ps.length c] 71))
  have HB2 := Lib.hid ((Below.refl (W.alloc (.cells #[.pointer (some ⟨g, 0, none⟩)] 76)).heap.size (W.alloc (.cells #[.pointer (some ⟨g, 0, none⟩)] 76))).alloc (Nat.le_refl _) (.cells #[.int .i64 k, .string A, .string B, .slice a ps.length c] 71))
  have HX2' := Lib.hid ((HB2.out.block _ hxx).trans HX2.out)
  have HS0 := Lib.hid ((h.below HB1.out).below HB2.out)
  have HG0 : Hid (W.grownBy ((W.alloc (.cells #[.pointer (some ⟨g, 0, none⟩)] 76)).alloc (.cells #[.int .i64 k, .string A, .string B, .slice a ps.length c] 71)) (some g)) := grownBy_trans (World.grownBy_alloc W _ _) (World.grownBy_alloc _ _ _)
  have HList := Lib.hid hlist
  have hsz1 := alloc_size W (.cells #[.pointer (some ⟨g, 0, none⟩)] 76)
  rw [hsz1] at HX3
  clear h hlist hxx HX2 HB1 HB2
  go_enter Tryz.func89, Tryz.ntmps89
  go_upto_region 1 with (fail)
  generalize ((W.alloc (.cells #[.pointer (some ⟨g, 0, none⟩)] 76)).alloc (.cells #[.int .i64 k, .string A, .string B, .slice a ps.length c] 71)) = W0 at *
  clear hsz1
  obtain ⟨x2, hx2⟩ : ∃ x2, x2 = W.heap.size := ⟨_, rfl⟩
  obtain ⟨x3, hx3⟩ : ∃ x3, x3 = W.heap.size + 1 := ⟨_, rfl⟩
  rw [← hx2] at hgx
  have hx2g : x2 ≠ g := by omega
  have hx3g : x3 ≠ g := by omega
  rw [← hx3] at HX3
  rw [← hx2] at HX2'
  have HE2 := Lib.hid hx2
  have HE3 := Lib.hid hx3
  rw [← hx3, ← hx2]
  clear hx2 hx3
  have p2 := heap_cell HX2'.out 0
  have q0 := heap_cell HX3.out 0
  have q1 := heap_cell HX3.out 1
  have q2 := heap_cell HX3.out 2
  have q3 := heap_cell HX3.out 3
  simp at p2 q0 q1 q2 q3
  have HC := Lib.hid (wint_any g k l d odd W0 HS0.out hk (by omega))
  go_wp2_with fail
  refine HC.out.mono ?_
  clear HC
  rintro e W1 ⟨rfl, hg, l1, d1, o1, hs, st⟩
  have HX2_1 := Lib.hid (grown_block hg HX2'.out hx2g)
  have HX3_1 := Lib.hid (grown_block hg HX3.out hx3g)
  have HG1 := Lib.hid (grownBy_trans HG0.out hg)
  have HS1 := Lib.hid hs
  have HT1 := Lib.hid st
  have hz1 := st.1
  have hy1 := st.2.1
  clear hg hs st p2 q0 q1 q2 q3
  have p2 := heap_cell HX2_1.out 0
  have q0 := heap_cell HX3_1.out 0
  have q1 := heap_cell HX3_1.out 1
  have q2 := heap_cell HX3_1.out 2
  have q3 := heap_cell HX3_1.out 3
  simp at p2 q0 q1 q2 q3
  have HC := Lib.hid (wtxt_any g A l1 d1 o1 W1 HS1.out (by omega))
  go_wp2_with fail
  refine HC.out.mono ?_
  clear HC
  rintro e W2 ⟨rfl, hg, l2, d2, o2, hs, st⟩
  have HX2_2 := Lib.hid (grown_block hg HX2_1.out hx2g)
  have HX3_2 := Lib.hid (grown_block hg HX3_1.out hx3g)
  have HG2 := Lib.hid (grownBy_trans HG1.out hg)
  have HS2 := Lib.hid hs
  have HT2 := Lib.hid st
  have hz2 := st.1
  have hy2 := st.2.1
  clear hg hs st p2 q0 q1 q2 q3
  have p2 := heap_cell HX2_2.out 0
  have q0 := heap_cell HX3_2.out 0
  have q1 := heap_cell HX3_2.out 1
  have q2 := heap_cell HX3_2.out 2
  have q3 := heap_cell HX3_2.out 3
  simp at p2 q0 q1 q2 q3
  have HC := Lib.hid (wtxt_any g B l2 d2 o2 W2 HS2.out (by omega))
  go_wp2_with fail
  refine HC.out.mono ?_
  clear HC
  rintro e W3 ⟨rfl, hg, l3, d3, o3, hs, st⟩
  have HX2_3 := Lib.hid (grown_block hg HX2_2.out hx2g)
  have HX3_3 := Lib.hid (grown_block hg HX3_2.out hx3g)
  have HG3 := Lib.hid (grownBy_trans HG2.out hg)
  have HS3 := Lib.hid hs
  have HT3 := Lib.hid st
  have hz3 := st.1
  have hy3 := st.2.1
  clear hg hs st p2 q0 q1 q2 q3
  have p2 := heap_cell HX2_3.out 0
  simp at p2
  have HC := Lib.hid (wnestedR_any g x2 x3 (listE encR ps) (fun d => ∃ x ∈ ps, badR x d) l3 d3 o3 W3 HS3.out (by omega) hpos (by omega) (fun W1 hg1 hs1 => wruleC_any g x2 x3 k A B a c ps l3 (d3 + 1) o3 W1 hs1 (grown_block hg1 HX2_3.out hx2g) (grown_block hg1 HX3_3.out hx3g) (by omega) (by omega) (fun l1 d1 o1 W2 a1 a2 a3 a4 => HList.out l1 d1 o1 W2 a1 (grownBy_trans HG3.out (grownBy_trans hg1 a2)) a3 a4)))
  go_wp2_with fail
  refine HC.out.mono ?_
  clear HC
  rintro e W4 ⟨rfl, hg, l4, d4, o4, hs, st⟩
  have HE : Hid (WD g l d odd (encR (.mk k A B ps)) (badR (.mk k A B ps)) W (.returned (.tuple #[])) W4) := ⟨rfl, grownBy_trans HG3.out hg, l4, d4, o4, hs, (HT1.out.trans (HT2.out.trans (HT3.out.trans st))).to (by rw [encR_eq]) (fun d => by rw [badR_parts]; simp)⟩
  clear hg hs st
  go_wp2_with fail
  go_end0
  exact HE.out
end Go.Proofs.YtacjbgmnoiimbabGreat
