/- A node written: walked (printed by genWireF.py). -/
import Derived.Test.YtacjbgmnoiimbabGreatWrE
namespace Go.Proofs.YtacjbgmnoiimbabGreat
set_option linter.unusedVariables false
set_option linter.unusedSimpArgs false
open Go.RowKit

/-- a list of nodes can be written from W on -/
def NListOk (g : Nat) (W : World) (a : Option Addr) (c : Nat) (ps : List PN) : Prop := ∀ (l1 : List UInt8) (d1 : Nat) (o1 : Bool) (W1 : World), SAt 78 W1 g l1 d1 o1 → W.grownBy W1 (some g) → l1.length + (listE encN ps).length ≤ 1000000000 → d1 + 2 * (listE encN ps).length ≤ 2000000000 →
    Calls Tryz.prog 94 #[.pointer (some ⟨g, 0, none⟩), .slice a ps.length c, .func (.func 30) #[.pointer (some ⟨g, 0, none⟩)] #[]] W1 (WD g l1 d1 o1 (listE encN ps) (fun d => ∃ x ∈ ps, badN x d) W1)
set_option maxRecDepth 100000 in
theorem wnodeC_any (g x2 x3 : Nat) (k : Int) (t i r : ByteArray) (sa : Option Addr) (sc : Nat) (ss : List Tri) (a : Option Addr) (c : Nat) (ps : List PN) (l : List UInt8) (d : Nat) (odd : Bool) (W : World) (h : SAt 78 W g l d odd) (h2 : W.heap[x2]? = some (.cells #[.pointer (some ⟨g, 0, none⟩)] 76 (0, 0))) (h3 : W.heap[x3]? = some (.cells #[.int .i64 k, .string t, .string i, .string r, .slice sa ss.length sc, .slice a ps.length c] 34 (0, 0)))
    (hl : l.length + (listE encN ps).length ≤ 1000000000) (hd : d + 2 * (listE encN ps).length ≤ 2000000000) (hlist : NListOk g W a c ps) :
    Calls Tryz.prog 93 #[.pointer (some ⟨x2, 0, none⟩), .pointer (some ⟨x3, 0, none⟩)] W (WD g l d odd (listE encN ps) (fun d => ∃ x ∈ ps, badN x d) W) := by
  have p2 := heap_cell h2 0
  have p3 := heap_cell h3 5
  simp at p2 p3
  have HC := Lib.hid (hlist l d odd W h (grown_refl W g) hl hd)
  clear h h2 h3 hlist
  go_enter Tryz.func93, Tryz.ntmps93
  go_wp2_with fail
  refine HC.out.mono ?_
  clear HC
  intro e w1 hw
  obtain ⟨rfl, _⟩ := id hw
  have HE := Lib.hid hw
  clear hw
  go_wp2_with fail
  go_end0
  exact HE.out
set_option maxRecDepth 100000 in
set_option maxHeartbeats 1000000 in
theorem wnode_any (g : Nat) (k : Int) (t i r : ByteArray) (sa : Option Addr) (sc : Nat) (ss : List Tri) (a : Option Addr) (c : Nat) (ps : List PN) (l : List UInt8) (d : Nat) (odd : Bool) (W : World) (h : SAt 78 W g l d odd) (hk : iok k) (hl : l.length + (encN (.mk k (t, i) r ss ps)).length ≤ 1000000000) (hd : d + 2 * (encN (.mk k (t, i) r ss ps)).length ≤ 2000000000) (hss : IsEls triC 3 W sa ss) (hne : 0 < ss.length → ∀ p, sa = some p → p.block ≠ g) (hn : ss.length ≤ 1000000000) (hlist : NListOk g W a c ps) :
    Calls Tryz.prog 30 #[.pointer (some ⟨g, 0, none⟩), .agg #[.int .i64 k, .string t, .string i, .string r, .slice sa ss.length sc, .slice a ps.length c]] W (WD g l d odd (encN (.mk k (t, i) r ss ps)) (badN (.mk k (t, i) r ss ps)) W) := by
  have hL := hl
  have hD := hd
  rw [encN_eq] at hL hD
  simp only [List.length_append] at hL hD
  have hpos := listE_pos encN ps
  have hip : 1 ≤ (intE k).length := uv_pos _
  have HB1 := Lib.hid ((Below.refl W.heap.size W).alloc (Nat.le_refl _) (.cells #[.pointer (some ⟨g, 0, none⟩)] 76))
  have HX2 := Lib.hid (heap_alloc_new W (.cells #[.pointer (some ⟨g, 0, none⟩)] 76))
  have hgx := h.lt
  have hxx : W.heap.size < (W.alloc (.cells #[.pointer (some ⟨g, 0, none⟩)] 76)).heap.size := by rw [alloc_size]; omega
  have HX3 := Lib.hid (heap_alloc_new (W.alloc (.cells #[.pointer (some ⟨g, 0, none⟩)] 76)) (.cells #[.int .i64 k, .string t, .string i, .string r, .slice sa ss.length sc, .slice a ps.length c] 34))
  have HB2 := Lib.hid ((Below.refl (W.alloc (.cells #[.pointer (some ⟨g, 0, none⟩)] 76)).heap.size (W.alloc (.cells #[.pointer (some ⟨g, 0, none⟩)] 76))).alloc (Nat.le_refl _) (.cells #[.int .i64 k, .string t, .string i, .string r, .slice sa ss.length sc, .slice a ps.length c] 34))
  have HX2' := Lib.hid ((HB2.out.block _ hxx).trans HX2.out)
  have HS0 := Lib.hid ((h.below HB1.out).below HB2.out)
  have HG0 : Hid (W.grownBy ((W.alloc (.cells #[.pointer (some ⟨g, 0, none⟩)] 76)).alloc (.cells #[.int .i64 k, .string t, .string i, .string r, .slice sa ss.length sc, .slice a ps.length c] 34)) (some g)) := grownBy_trans (World.grownBy_alloc W _ _) (World.grownBy_alloc _ _ _)
  have HList := Lib.hid hlist
  have HSs := Lib.hid hss
  have HNe := Lib.hid hne
  have hsz1 := alloc_size W (.cells #[.pointer (some ⟨g, 0, none⟩)] 76)
  rw [hsz1] at HX3
  clear h hlist hxx HX2 HB1 HB2 hss hne
  go_enter Tryz.func30, Tryz.ntmps30
  go_upto_region 1 with (fail)
  generalize ((W.alloc (.cells #[.pointer (some ⟨g, 0, none⟩)] 76)).alloc (.cells #[.int .i64 k, .string t, .string i, .string r, .slice sa ss.length sc, .slice a ps.length c] 34)) = W0 at *
  clear hsz1
  obtain ⟨x2, hx2⟩ : ∃ x2, x2 = W.heap.size := ⟨_, rfl⟩
  obtain ⟨x3, hx3⟩ : ∃ x3, x3 = W.heap.size + 1 := ⟨_, rfl⟩
  rw [← hx2] at hgx
  have hx2g : x2 ≠ g := by omega
  have hx3g : x3 ≠ g := by omega
  rw [← hx3] at HX3
  rw [← hx2] at HX2'
  have HE2 := Lib.hid hx2
  have HE3 := Lib.hid hx3
  rw [← hx3, ← hx2]
  clear hx2 hx3
  have p2 := heap_cell HX2'.out 0
  have q0 := heap_cell HX3.out 0
  have q1 := heap_cell HX3.out 1
  have q2 := heap_cell HX3.out 2
  have q3 := heap_cell HX3.out 3
  have q4 := heap_cell HX3.out 4
  have q5 := heap_cell HX3.out 5
  simp at p2 q0 q1 q2 q3 q4 q5
  have HC := Lib.hid (wint_any g k l d odd W0 HS0.out hk (by omega))
  go_wp2_with fail
  refine HC.out.mono ?_
  clear HC
  rintro e W1 ⟨rfl, hg, l1, d1, o1, hs, st⟩
  have HX2_1 := Lib.hid (grown_block hg HX2'.out hx2g)
  have HX3_1 := Lib.hid (grown_block hg HX3.out hx3g)
  have HG1 := Lib.hid (grownBy_trans HG0.out hg)
  have HS1 := Lib.hid hs
  have HT1 := Lib.hid st
  have hz1 := st.1
  have hy1 := st.2.1
  clear hg hs st p2 q0 q1 q2 q3 q4 q5
  have p2 := heap_cell HX2_1.out 0
  have q0 := heap_cell HX3_1.out 0
  have q1 := heap_cell HX3_1.out 1
  have q2 := heap_cell HX3_1.out 2
  have q3 := heap_cell HX3_1.out 3
  have q4 := heap_cell HX3_1.out 4
  have q5 := heap_cell HX3_1.out 5
  simp at p2 q0 q1 q2 q3 q4 q5
  have HC := Lib.hid (wobj_any g t i l1 d1 o1 W1 HS1.out (by omega))
  go_wp2_with fail
  refine HC.out.mono ?_
  clear HC
  rintro e W2 ⟨rfl, hg, l2, d2, o2, hs, st⟩
  have HX2_2 := Lib.hid (grown_block hg HX2_1.out hx2g)
  have HX3_2 := Lib.hid (grown_block hg HX3_1.out hx3g)
  have HG2 := Lib.hid (grownBy_trans HG1.out hg)
  have HS2 := Lib.hid hs
  have HT2 := Lib.hid st
  have hz2 := st.1
  have hy2 := st.2.1
  clear hg hs st p2 q0 q1 q2 q3 q4 q5
  have p2 := heap_cell HX2_2.out 0
  have q0 := heap_cell HX3_2.out 0
  have q1 := heap_cell HX3_2.out 1
  have q2 := heap_cell HX3_2.out 2
  have q3 := heap_cell HX3_2.out 3
  have q4 := heap_cell HX3_2.out 4
  have q5 := heap_cell HX3_2.out 5
  simp at p2 q0 q1 q2 q3 q4 q5
  have HC := Lib.hid (wtxt_any g r l2 d2 o2 W2 HS2.out (by omega))
  go_wp2_with fail
  refine HC.out.mono ?_
  clear HC
  rintro e W3 ⟨rfl, hg, l3, d3, o3, hs, st⟩
  have HX2_3 := Lib.hid (grown_block hg HX2_2.out hx2g)
  have HX3_3 := Lib.hid (grown_block hg HX3_2.out hx3g)
  have HG3 := Lib.hid (grownBy_trans HG2.out hg)
  have HS3 := Lib.hid hs
  have HT3 := Lib.hid st
  have hz3 := st.1
  have hy3 := st.2.1
  clear hg hs st p2 q0 q1 q2 q3 q4 q5
  have p2 := heap_cell HX2_3.out 0
  have q0 := heap_cell HX3_3.out 0
  have q1 := heap_cell HX3_3.out 1
  have q2 := heap_cell HX3_3.out 2
  have q3 := heap_cell HX3_3.out 3
  have q4 := heap_cell HX3_3.out 4
  have q5 := heap_cell HX3_3.out 5
  simp at p2 q0 q1 q2 q3 q4 q5
  have HC := Lib.hid (lsub_any g sa sc ss l3 d3 o3 W3 HS3.out (HSs.out.grown HNe.out HG3.out) HNe.out (by omega) hn)
  go_wp2_with fail
  refine HC.out.mono ?_
  clear HC
  rintro e W4 ⟨rfl, hg, l4, d4, o4, hs, st⟩
  have HX2_4 := Lib.hid (grown_block hg HX2_3.out hx2g)
  have HX3_4 := Lib.hid (grown_block hg HX3_3.out hx3g)
  have HG4 := Lib.hid (grownBy_trans HG3.out hg)
  have HS4 := Lib.hid hs
  have HT4 := Lib.hid st
  have hz4 := st.1
  have hy4 := st.2.1
  clear hg hs st p2 q0 q1 q2 q3 q4 q5
  have p2 := heap_cell HX2_4.out 0
  simp at p2
  have HC := Lib.hid (wnestedN_any g x2 x3 (listE encN ps) (fun d => ∃ x ∈ ps, badN x d) l4 d4 o4 W4 HS4.out (by omega) hpos (by omega) (fun W1 hg1 hs1 => wnodeC_any g x2 x3 k t i r sa sc ss a c ps l4 (d4 + 1) o4 W1 hs1 (grown_block hg1 HX2_4.out hx2g) (grown_block hg1 HX3_4.out hx3g) (by omega) (by omega) (fun l1 d1 o1 W2 a1 a2 a3 a4 => HList.out l1 d1 o1 W2 a1 (grownBy_trans HG4.out (grownBy_trans hg1 a2)) a3 a4)))
  go_wp2_with fail
  refine HC.out.mono ?_
  clear HC
  rintro e W5 ⟨rfl, hg, l5, d5, o5, hs, st⟩
  have HE : Hid (WD g l d odd (encN (.mk k (t, i) r ss ps)) (badN (.mk k (t, i) r ss ps)) W (.returned (.tuple #[])) W5) := ⟨rfl, grownBy_trans HG4.out hg, l5, d5, o5, hs, (HT1.out.trans (HT2.out.trans (HT3.out.trans (HT4.out.trans st)))).to (by rw [encN_eq]) (fun d => by rw [badN_parts]; simp)⟩
  clear hg hs st
  go_wp2_with fail
  go_end0
  exact HE.out
theorem body_ge {T : Type} {en : T → List UInt8} (hp : ∀ x, 1 ≤ (en x).length) : ∀ xs : List T, xs.length ≤ (bodyE en xs).length
  | [] => Nat.zero_le _
  | x :: r => by
    rw [body_cons, List.length_append, List.length_cons]
    have := hp x
    have := body_ge hp r
    omega
theorem list_ge {T : Type} {en : T → List UInt8} (hp : ∀ x, 1 ≤ (en x).length) (xs : List T) : xs.length ≤ (listE en xs).length := by
  unfold listE
  rw [List.length_append]
  have := body_ge hp xs
  omega
theorem encR_pos (x : PR) : 1 ≤ (encR x).length := by
  cases x with
  | mk k A B ps =>
    rw [encR_eq, List.length_append]
    have : 1 ≤ (intE k).length := uv_pos _
    omega
theorem encN_pos (x : PN) : 1 ≤ (encN x).length := by
  cases x with
  | mk k o r ss ps =>
    rw [encN_eq, List.length_append]
    have : 1 ≤ (intE k).length := uv_pos _
    omega
theorem triE_pos (x : Tri) : 1 ≤ (triE x).length := by
  unfold triE
  rw [List.length_append, txt_len]
  have := uv_pos x.1.size
  omega
theorem RListOk.grown {g : Nat} {W W1 : World} {a : Option Addr} {c : Nat} {ps : List PR} (h : RListOk g W a c ps) (hg : W.grownBy W1 (some g)) : RListOk g W1 a c ps := fun l1 d1 o1 W2 a1 a2 a3 a4 => h l1 d1 o1 W2 a1 (grownBy_trans hg a2) a3 a4
theorem NListOk.grown {g : Nat} {W W1 : World} {a : Option Addr} {c : Nat} {ps : List PN} (h : NListOk g W a c ps) (hg : W.grownBy W1 (some g)) : NListOk g W1 a c ps := fun l1 d1 o1 W2 a1 a2 a3 a4 => h l1 d1 o1 W2 a1 (grownBy_trans hg a2) a3 a4
/-- a list of rules in memory can be written -/
theorem rlist_ok (g : Nat) : ∀ (n : Nat) (W : World) (a : Option Addr) (c : Nat) (ps : List PR), RMem (· ≠ g) n W a ps → okRs ps → RListOk g W a c ps
  | 0, W, a, c, ps, h, hok => fun l1 d1 o1 W1 hs hg hl hd => by
    have hnil : ps = [] := List.eq_nil_of_length_eq_zero h
    subst hnil
    exact (lrule_any g a c [] l1 d1 o1 W1 hs (fun h => absurd h (Nat.lt_irrefl 0)) (fun h => absurd h (Nat.lt_irrefl 0)) hd (fun x hx => by cases hx) hl (Nat.zero_le _)).mono fun e w' hw => hw.to rfl (fun d => by simp)
  | n + 1, W, a, c, ps, h, hok => fun l1 d1 o1 W1 hs hg hl hd => by
    obtain ⟨xs, h1, h2, h3, h4⟩ := h
    have hlen : ps.length = xs.length := by rw [← h1, List.length_map]
    rw [← reE_list h1] at hl hd
    have hge := list_ge (en := reE) (fun x => encR_pos _) xs
    have := lrule_any g a c xs l1 d1 o1 W1 hs (h2.grown h3 hg) h3 hd (fun x hx l2 d2 o2 W2 b1 b2 b3 b4 => by
      have hx4 := h4 x hx
      have hokx : okR x.plain := (okRs_iff.1 hok) _ (by rw [← h1]; exact List.mem_map_of_mem hx)
      have hokx' := (okR_eq _ _ _ _).1 hokx
      exact wrule_any g x.k x.A x.B x.a x.c x.ps l2 d2 o2 W2 b1 hokx'.1 b3 b4 ((rlist_ok g n W x.a x.c x.ps hx4.2 hokx'.2.2.2.2).grown (grownBy_trans hg b2))) hl (by omega)
    rw [hlen]
    exact this.mono fun e w' hw => hw.to (reE_list h1) (fun d => reB_list h1 d)
theorem nlist_ok (g : Nat) : ∀ (n : Nat) (W : World) (a : Option Addr) (c : Nat) (ps : List PN), NMem (· ≠ g) n W a ps → okNs ps → NListOk g W a c ps
  | 0, W, a, c, ps, h, hok => fun l1 d1 o1 W1 hs hg hl hd => by
    have hnil : ps = [] := List.eq_nil_of_length_eq_zero h
    subst hnil
    exact (lnode_any g a c [] l1 d1 o1 W1 hs (fun h => absurd h (Nat.lt_irrefl 0)) (fun h => absurd h (Nat.lt_irrefl 0)) hd (fun x hx => by cases hx) hl (Nat.zero_le _)).mono fun e w' hw => hw.to rfl (fun d => by simp)
  | n + 1, W, a, c, ps, h, hok => fun l1 d1 o1 W1 hs hg hl hd => by
    obtain ⟨xs, h1, h2, h3, h4⟩ := h
    have hlen : ps.length = xs.length := by rw [← h1, List.length_map]
    rw [← neE_list h1] at hl hd
    have hge := list_ge (en := neE) (fun x => encN_pos _) xs
    have := lnode_any g a c xs l1 d1 o1 W1 hs (h2.grown h3 hg) h3 hd (fun x hx l2 d2 o2 W2 b1 b2 b3 b4 => by
      have hx4 := h4 x hx
      have hokx : okN x.plain := (okNs_iff.1 hok) _ (by rw [← h1]; exact List.mem_map_of_mem hx)
      have hokx' := (okN_eq _ _ _ _ _).1 hokx
      have hsl : x.ss.length ≤ 1000000000 := by
        have e1 := list_ge (en := triE) triE_pos x.ss
        have e2 : (neE x).length = (encN (.mk x.k (x.t, x.i) x.r x.ss x.ps)).length := rfl
        rw [encN_eq] at e2
        simp only [List.length_append] at e2
        omega
      exact wnode_any g x.k x.t x.i x.r x.sa x.sc x.ss x.a x.c x.ps l2 d2 o2 W2 b1 hokx'.1 b3 b4 (hx4.2.2.1.grown hx4.2.2.2.1 (grownBy_trans hg b2)) hx4.2.2.2.1 hsl ((nlist_ok g n W x.a x.c x.ps hx4.2.2.2.2 hokx'.2.2.2.2.2).grown (grownBy_trans hg b2))) hl (by omega)
    rw [hlen]
    exact this.mono fun e w' hw => hw.to (neE_list h1) (fun d => neB_list h1 d)
end Go.Proofs.YtacjbgmnoiimbabGreat
