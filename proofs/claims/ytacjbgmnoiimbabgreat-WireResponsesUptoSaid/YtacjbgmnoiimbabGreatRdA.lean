/- The reader's state; numbers, texts, yes or no read: walked. -/
import Derived.Test.YtacjbgmnoiimbabGreatMem
import Derived.Test.YtacjbgmnoiimbabGreatRdP
namespace Go.Proofs.YtacjbgmnoiimbabGreat
set_option linter.unusedVariables false
set_option linter.unusedSimpArgs false
open Go.RowKit

/-- the reader at g, its bytes in block bb -/
def RAt (W : World) (g bb : Nat) (l : List UInt8) (d : Nat) (odd : Bool) : Prop :=
  ∃ a c, W.heap[g]? = some (.cells #[.slice a l.length c, .int .i64 (d : Int), .bool odd] 168 (0, 0)) ∧ l.length ≤ c ∧ IsBytes W a l ∧ (0 < l.length → ∃ off, a = some ⟨bb, off, none⟩) ∧ bb ≠ g ∧ bb < W.heap.size
theorem RAt.lt {W : World} {g bb : Nat} {l : List UInt8} {d : Nat} {odd : Bool} (h : RAt W g bb l d odd) : g < W.heap.size := by
  obtain ⟨a, c, h1, _⟩ := h
  exact heap_lt h1
theorem RAt.kept {W W' : World} {g bb : Nat} {l : List UInt8} {d : Nat} {odd : Bool} (h : RAt W g bb l d odd) (hs : W.heap.size ≤ W'.heap.size) (hg : W'.heap[g]? = W.heap[g]?) (hb : W'.heap[bb]? = W.heap[bb]?) : RAt W' g bb l d odd := by
  obtain ⟨a, c, h1, h2, h3, h4, h5, h6⟩ := h
  refine ⟨a, c, hg.trans h1, h2, fun h0 => ?_, h4, h5, by omega⟩
  obtain ⟨b, off, ha, hbl, hc⟩ := h3 h0
  obtain ⟨off', ha'⟩ := h4 h0
  rw [ha] at ha'
  cases ha'
  exact ⟨_, _, ha, by omega, fun k hk => by rw [← hc k hk]; simp only [World.cell?, hb]⟩
theorem RAt.below {W W' : World} {g bb : Nat} {l : List UInt8} {d : Nat} {odd : Bool} (h : RAt W g bb l d odd) (hb : Below W.heap.size W W') : RAt W' g bb l d odd :=
  h.kept hb.size (hb.block g h.lt) (hb.block bb (by obtain ⟨_, _, _, _, _, _, _, h6⟩ := h; exact h6))
theorem RAt.other {W W' : World} {g bb o : Nat} {l : List UInt8} {d : Nat} {odd : Bool} (h : RAt W g bb l d odd) (hg : W.grownBy W' (some o)) (h1 : o ≠ g) (h2 : o ≠ bb) : RAt W' g bb l d odd :=
  h.kept hg.size (hg.block g h.lt (fun e => h1 (by cases e; rfl))) (hg.block bb (by obtain ⟨_, _, _, _, _, _, _, h6⟩ := h; exact h6) (fun e => h2 (by cases e; rfl)))
theorem RAt.alloc {W : World} {g bb : Nat} {l : List UInt8} {d : Nat} {odd : Bool} (h : RAt W g bb l d odd) (o : Obj) : RAt (W.alloc o) g bb l d odd := h.below ((Below.refl _ _).alloc (Nat.le_refl _) o)
/-- what a call that reads does -/
def RD {T U : Type} (g bb : Nat) (pl : T → U) (en : U → List UInt8) (ok : U → Prop) (bad : U → Nat → Prop) (val : T → Value) (mem : (Nat → Prop) → World → T → Prop) (l : List UInt8) (d : Nat) (odd : Bool) (W : World) (e : Ending) (W' : World) : Prop :=
  ∃ x l' odd', e = .returned (val x) ∧ W.grownBy W' (some g) ∧ RAt W' g bb l' d odd' ∧ mem (fun b => W.heap.size ≤ b) W' x ∧ RSt en ok bad l d odd (pl x) l' odd'
def nomem {T : Type} : (Nat → Prop) → World → T → Prop := fun _ _ _ => True
abbrev RDf {T : Type} (g bb : Nat) (en : T → List UInt8) (ok : T → Prop) (val : T → Value) (l : List UInt8) (d : Nat) (odd : Bool) (W : World) (e : Ending) (W' : World) : Prop := RD g bb id en ok nobad val nomem l d odd W e W'
theorem rat_odd {W : World} {g n c d : Nat} {a : Option Addr} {odd : Bool} (h : W.heap[g]? = some (.cells #[.slice a n c, .int .i64 (d : Int), .bool odd] 168 (0, 0))) (o2 : Bool) :
    (W.setCell ⟨g, 2, none⟩ (.bool o2)).heap[g]? = some (.cells #[.slice a n c, .int .i64 (d : Int), .bool o2] 168 (0, 0)) := heap_setCell_same _ g 2 _ 168 (.bool o2) h
theorem rat_cut {W : World} {g n c d : Nat} {a : Option Addr} {odd : Bool} (h : W.heap[g]? = some (.cells #[.slice a n c, .int .i64 (d : Int), .bool odd] 168 (0, 0))) (v : Value) :
    (W.setCell ⟨g, 0, none⟩ v).heap[g]? = some (.cells #[v, .int .i64 (d : Int), .bool odd] 168 (0, 0)) := heap_setCell_same _ g 0 _ 168 v h
theorem isbytes_cell {W : World} {g i bb : Nat} {a : Option Addr} {l : List UInt8} {x : Value} (h : IsBytes W a l) (h4 : 0 < l.length → ∃ off, a = some ⟨bb, off, none⟩) (h5 : bb ≠ g) : IsBytes (W.setCell ⟨g, i, none⟩ x) a l :=  fun h0 => by
  obtain ⟨b, off, ha, hb, hc⟩ := h h0
  obtain ⟨off', ha'⟩ := h4 h0
  rw [ha] at ha'
  cases ha'
  refine ⟨_, _, ha, ?_, fun k hk => (cell_kept (grown_cell W g i x) hb h5 _).trans (hc k hk)⟩
  exact Nat.lt_of_lt_of_le hb (grown_cell W g i x).size
theorem cutA_at {a : Option Addr} {bb cap n : Nat} (h : ∃ off, a = some ⟨bb, off, none⟩) : ∃ off, cutA a cap n = some ⟨bb, off, none⟩ := by
  obtain ⟨off, rfl⟩ := h
  exact cutA_some bb off cap n
set_option maxHeartbeats 1000000 in
theorem took_any (g bb n e d : Nat) (W : World) (l : List UInt8) (odd : Bool) (he : e ≤ 1000) (hn : odd = false → e = 0 → n ≤ l.length) (hl : l.length ≤ 1000000000) (h : RAt W g bb l d odd) :
    Calls Tryz.prog 97 #[.pointer (some ⟨g, 0, none⟩), .int .i64 (n : Int), .int .i64 (e : Int)] W fun x W' => x = .returned (.tuple #[]) ∧ W.grownBy W' (some g) ∧ RAt W' g bb (stepL odd e n l) d (stepO odd e) := by
  obtain ⟨i5, hi5, hy0, hy1, hy2⟩ := info_parts Tryz.info5
  obtain ⟨a, c, hh, hc, hb, ha, hne, hbl⟩ := h
  have c0 := heap_cell hh 0
  have c2 := heap_cell hh 2
  simp at c0 c2
  have f0 := frozen_of_row W g 0 _ _ hh
  have f2 := frozen_of_row W g 2 _ _ hh
  have hgl := heap_lt hh
  have HH := Lib.hid hh
  have HB := Lib.hid hb
  have HA := Lib.hid ha
  clear hb hh ha
  cases odd with
  | true =>
    go_enter Tryz.func97, Tryz.ntmps97
    go_wp2_with fail
    go_end0
    exact ⟨rfl, grown_cell W g 2 _, a, c, rat_odd HH.out true, hc, isbytes_cell HB.out HA.out hne, HA.out, hne, Nat.lt_of_lt_of_le hbl (grown_cell W g 2 _).size⟩
  | false =>
    by_cases h0 : e = 0
    · subst h0
      have hnl := hn rfl rfl
      have hs1 : ∀ W, (Instr.slice 39 (.slice a l.length c) (some (.int .i64 (n : Int))) none none).run Tryz.prog W = .ok (.slice (cutA a c n) (l.length - n) (c - n)) W := fun W => run_slice_l1 (P := Tryz.prog) W 39 5 i5 Tryz.underlying39 hi5 hy1 a l.length c n .i64 hnl
      have hcb := cutA_bytes HB.out (lo := n) (hi := l.length) (Nat.le_refl _) hc
      rw [List.take_length] at hcb
      have HCB := Lib.hid hcb
      have HCA : Hid (0 < (l.drop n).length → ∃ off, cutA a c n = some ⟨bb, off, none⟩) := fun h0 => cutA_at (HA.out (by rw [List.length_drop] at h0; omega))
      generalize cutA a c n = A at *
      clear hcb
      go_enter Tryz.func97, Tryz.ntmps97
      go_wp2_with fail
      go_end0
      refine ⟨rfl, grownBy_trans (grown_cell W g 2 _) (grown_cell _ g 0 _), A, c - n, ?_, ?_, ?_, ?_, hne, Nat.lt_of_lt_of_le hbl (grownBy_trans (grown_cell W g 2 _) (grown_cell _ g 0 _)).size⟩
      · have := rat_cut (rat_odd HH.out false) (.slice A (l.length - n) (c - n))
        rw [stepL, if_pos ⟨rfl, rfl⟩, List.length_drop]
        exact this
      · rw [stepL, if_pos ⟨rfl, rfl⟩, List.length_drop]; omega
      · rw [stepL, if_pos ⟨rfl, rfl⟩]; exact isbytes_cell (isbytes_cell HCB.out HCA.out hne) HCA.out hne
      · rw [stepL, if_pos ⟨rfl, rfl⟩]; exact HCA.out
    · have hneq : ((e : Int) != 0) = true := by rw [bne_iff_ne]; omega
      have HS1 : Hid (stepL false e n l = l) := by show _ = _; rw [stepL, if_neg (fun h => h0 h.2)]
      have HS2 : Hid (stepO false e = true) := by show _ = _; simp [stepO, h0]
      go_enter Tryz.func97, Tryz.ntmps97
      go_wp2_with fail
      go_end0
      rw [HS1.out, HS2.out]
      exact ⟨rfl, grown_cell W g 2 _, a, c, rat_odd HH.out true, hc, isbytes_cell HB.out HA.out hne, HA.out, hne, Nat.lt_of_lt_of_le hbl (grown_cell W g 2 _).size⟩
theorem getE_le (l : List UInt8) : getE l ≤ 1000 := by
  unfold getE
  split
  · omega
  · split
    · omega
    · split <;> omega
theorem textN_le (l : List UInt8) : textN l ≤ 1000 := by
  have := getE_le l
  unfold textN
  split
  · split <;> omega
  · exact this
def nummem : (Nat → Prop) → World → Nat → Prop := fun _ _ v => v < 18446744073709551616
def intmem : (Nat → Prop) → World → Int → Prop := fun _ _ n => iok n
abbrev RDn (g bb : Nat) (val : Nat → Value) (l : List UInt8) (d : Nat) (odd : Bool) (W : World) (e : Ending) (W' : World) : Prop := RD g bb id uv (fun v => v < 18446744073709551616) nobad val nummem l d odd W e W'
abbrev RDi (g bb : Nat) (val : Int → Value) (l : List UInt8) (d : Nat) (odd : Bool) (W : World) (e : Ending) (W' : World) : Prop := RD g bb id intE iok nobad val intmem l d odd W e W'
def numV (v : Nat) : Value := .int .u64 (v : Int)
def txtV (s : ByteArray) : Value := .string s
def intV (n : Int) : Value := .int .i64 n
def boolV (b : Bool) : Value := .bool b
set_option maxHeartbeats 1000000 in
theorem rnum_any (g bb : Nat) (W : World) (l : List UInt8) (d : Nat) (odd : Bool) (hl : l.length ≤ 1000000000) (h : RAt W g bb l d odd) :
    Calls Tryz.prog 35 #[.pointer (some ⟨g, 0, none⟩)] W (RDn g bb numV l d odd W) := by
  have HR := Lib.hid (rst_num l d odd)
  have HVl := Lib.hid (getV_lt l)
  obtain ⟨a, c, hh, hc, hib, ha, hne, hbl⟩ := id h
  have c0 := heap_cell hh 0
  simp at c0
  have HGet := Lib.hid (get_any a c l W hl hib)
  have HT := Lib.hid (took_any g bb (getN l) (getE l) d W l odd (getE_le l) (fun _ _ => getN_le l) hl h)
  clear h hh hib ha
  unfold GetIs at HGet
  generalize stepL odd (getE l) (getN l) l = L2 at *
  generalize stepO odd (getE l) = O2 at *
  generalize getV l = V at *
  generalize getN l = N at *
  generalize getE l = E at *
  go_enter Tryz.func35, Tryz.ntmps35
  go_wp2_with fail
  refine HGet.out.mono ?_
  rintro e w1 ⟨rfl, rfl⟩
  go_wp2_with fail
  refine HT.out.mono ?_
  rintro e w2 ⟨rfl, hg2, hr2⟩
  go_wp2_with fail
  go_ret
  exact ⟨V, L2, O2, rfl, hg2, hr2, HVl.out, HR.out⟩
set_option maxHeartbeats 1000000 in
theorem rtxt_any (g bb : Nat) (W : World) (l : List UInt8) (d : Nat) (odd : Bool) (hl : l.length ≤ 1000000000) (h : RAt W g bb l d odd) :
    Calls Tryz.prog 37 #[.pointer (some ⟨g, 0, none⟩)] W (RDf g bb txt tok txtV l d odd W) := by
  have HR := Lib.hid (rst_txt l d odd)
  obtain ⟨a, c, hh, hc, hib, ha, hne, hbl⟩ := id h
  have c0 := heap_cell hh 0
  simp at c0
  have HGet := Lib.hid (gettext_any a c l W hl hc hib)
  have HT := Lib.hid (took_any g bb (usedT l) (textN l) d W l odd (textN_le l) (fun _ _ => usedT_le l) hl h)
  clear h hh hib ha
  unfold GetTextIs at HGet
  generalize stepL odd (textN l) (usedT l) l = L2 at *
  generalize stepO odd (textN l) = O2 at *
  generalize gotT l = V at *
  generalize usedT l = N at *
  generalize textN l = E at *
  go_enter Tryz.func37, Tryz.ntmps37
  go_wp2_with fail
  refine HGet.out.mono ?_
  rintro e w1 ⟨rfl, rfl⟩
  go_wp2_with fail
  refine HT.out.mono ?_
  rintro e w2 ⟨rfl, hg2, hr2⟩
  go_wp2_with fail
  go_ret
  exact ⟨_, L2, O2, rfl, hg2, hr2, trivial, HR.out⟩
end Go.Proofs.YtacjbgmnoiimbabGreat
