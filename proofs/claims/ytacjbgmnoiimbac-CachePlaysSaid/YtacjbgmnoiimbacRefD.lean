/- The document's Put: walked. -/
import Derived.Test.YtacjbgmnoiimbacRefC
namespace Go.Proofs.Ytacjbgmnoiimbac
set_option linter.unusedVariables false
set_option linter.unusedSimpArgs false
open Go.RowKit

theorem takeIs_put {B r : Nat} {room : Int} {v : Value} {its : List It} {f b : Int} {w : World} {e : Ending} {w' : World} (h : TakeIs B r room v its f b w e w') : ∃ tv its1 v1, e = .returned tv ∧ Without f b its its1 ∧ RefAt B w' r room v1 its1 ∧ Below B w w' ∧ KeepR w w' := by
  obtain ⟨hb, hk, ⟨i, v', hi, h1, h2, rfl, hr⟩ | ⟨hno, rfl, hr⟩⟩ := h
  · exact ⟨_, _, _, rfl, .inl ⟨i, hi, h1, h2, rfl⟩, hr, hb, hk⟩
  · exact ⟨_, _, _, rfl, .inr ⟨hno, rfl⟩, hr, hb, hk⟩
theorem slab_other {w w' : World} {B r : Nat} {v : Value} {n : Nat} {xs : List Value} {cs : Array Value} (hs : Slab w B 57 3 v n xs) (h : w.heap[r]? = some (.cells cs 42 (0, 0))) (hg : w.grownBy w' v.ownBlock) : w'.heap[r]? = some (.cells cs 42 (0, 0)) := by
  refine (hg.block r (heap_lt h) (fun e => ?_)).trans h
  obtain ⟨_, cur, h4⟩ := hs.lt e.symm
  rw [h4] at h
  simp at h
theorem refAt_turn {B r : Nat} {room : Int} {w : World} {v v' : Value} {its' : List It} (hB : B ≤ r) (h : w.heap[r]? = some (.cells #[.int .i64 room, v] 42 (0, 0))) (hs : Slab w B 57 3 v' its'.length (itemsV its')) : RefAt B (w.setCell ⟨r, 1, none⟩ v') r room v' its' := by
  refine ⟨hB, heap_setCell_same w r 1 _ 42 v' h, hs.same (fun g cur _ hg => heap_setCell_other w ⟨r, 1, none⟩ g v' ?_)⟩
  intro e
  simp only at e
  subst e
  rw [hg] at h
  simp at h
theorem three_at (w : World) (x0 x1 x2 : Value) (t : TypeId) : ∀ j u, [x0, x1, x2][j]? = some u → (w.alloc (.cells #[x0, x1, x2] t)).cell? ((⟨w.heap.size, 0, none⟩ : Addr).add j) = some u := by
  intro j u hj
  rw [Addr.add_lit, Nat.zero_add, heap_cell (heap_alloc_new w _)]
  simpa using hj
theorem size_three (x0 x1 x2 : Value) : [x0, x1, x2].length = 1 * 3 := rfl
theorem one_item (f b : Int) (a : Option Addr) (cap : Nat) (keys : List ByteArray) : ∀ u ∈ [Value.int .i64 f, .int .i64 b, .slice a keys.length cap], u.oneCell' = true := itemsV_one [⟨0, f, b, a, cap, keys⟩]
theorem itemsOk_without {W : World} {f b : Int} {its its1 : List It} (h : ItemsOk W its) (hw : Without f b its its1) : ItemsOk W its1 := fun x hx => by
  rcases hw with ⟨i, _, _, _, rfl⟩ | ⟨_, rfl⟩
  · exact h x (List.mem_of_mem_eraseIdx hx)
  · exact h x hx
theorem without_len {f b : Int} {its its1 : List It} (hw : Without f b its its1) : its1.length ≤ its.length ∧ total its1 ≤ total its := by
  rcases hw with ⟨i, hi, _, _, rfl⟩ | ⟨_, rfl⟩
  · exact ⟨by rw [erase_len its i hi]; omega, by have := total_erase its i hi; omega⟩
  · exact ⟨Nat.le_refl _, Nat.le_refl _⟩
/-- Items between rounds of Put -/
def PutR (B r : Nat) (room : Int) (w0 : World) (its2 : List It) (w wr : World) (v : Value) (its' : List It) : Prop := RefAt B wr r room v its' ∧ Below B w wr ∧ KeepR w wr ∧ evict room its' = evict room its2 ∧ ItemsOk w0 its' ∧ its'.length ≤ its2.length ∧ total its' ≤ total its2
def PutE (B r : Nat) (room : Int) (w0 : World) (its2 : List It) (w wr : World) : Prop := ∃ a n c its', n = List.length its' ∧ PutR B r room w0 its2 w wr (.slice a n c) its'
def lenAt (r : Nat) (w : World) : Nat := match w.cell? ⟨r, 1, none⟩ with | some (.slice _ n _) => n | _ => 0
theorem PutR.next {B r : Nat} {room : Int} {w0 w wr w3 : World} {its2 tl : List It} {x : It} {a : Option Addr} {c : Nat} (h : PutR B r room w0 its2 w wr (.slice a (tl.length + 1) c) (x :: tl)) (hB : B ≤ w.heap.size) (hlt : room < (total (x :: tl) : Int)) (h3 : Below wr.heap.size wr w3) :
    PutR B r room w0 its2 w (w3.setCell ⟨r, 1, none⟩ (.slice (cutS a c 1 3) (tl.length + 1 - 1) (c - 1))) (.slice (cutS a c 1 3) (tl.length + 1 - 1) (c - 1)) tl := by
  obtain ⟨hr, hb, hk, he, ho, hl, ht⟩ := h
  have hr3 := hr.below h3
  have hbs := hb.size
  have hd := hr3.2.2.drop 1 (by simp)
  have hd' : Slab w3 B 57 3 (.slice (cutS a c 1 3) (tl.length + 1 - 1) (c - 1)) tl.length (itemsV tl) := by
    have e : (itemsV (x :: tl)).drop (1 * 3) = itemsV tl := by rw [itemsV_drop]; rfl
    rw [e] at hd
    exact hd
  refine ⟨refAt_turn hr.1 hr3.2.1 hd', (hb.trans (h3.mono (Nat.le_trans hB hbs))).setCell (p := ⟨r, 1, none⟩) hr.1 _, (hk.trans (KeepR.of h3)).set hr3.2.1 1 _, ?_, fun y hy => ho y (List.mem_cons_of_mem _ hy), by simp at hl; omega, by rw [total_cons] at ht; omega⟩
  rw [← he, evict_step hlt]
set_option maxRecDepth 100000 in
set_option maxHeartbeats 4000000 in
theorem putref_any (W0 : World) (r : Nat) (room : Int) (v : Value) (its : List It) (w : World) (hW : Below W0.heap.size W0 w) (h : RefAt W0.heap.size w r room v its) (h0 : 0 ≤ room) (hok : ItemsOk W0 its) (hl : its.length ≤ 10000) (ht : total its ≤ 100000000) (f b : Int) (a : Option Addr) (cap : Nat) (keys : List ByteArray) (hk : keys.length ≤ 20) (hs : ∀ i, (keys.getD i ByteArray.empty).size ≤ 100) (hc : keys.length ≤ cap) (hstr : IsStrs W0 a keys) :
    Calls Try.prog 14 #[.pointer (some ⟨r, 0, none⟩), .int .i64 f, .int .i64 b, .slice a keys.length cap] w fun e w' => e = .returned (.tuple #[]) ∧ ∃ its1 v', Without f b its its1 ∧ RefAt W0.heap.size w' r room v' (evict room (its1 ++ [⟨0, f, b, a, cap, keys⟩])) ∧ Below W0.heap.size w w' ∧ KeepR w w' := by
  obtain ⟨i57, hi, hz0, hz1, hz2⟩ := info_parts Try.info57
  have HTk := Lib.hid (take_any W0.heap.size r room v its w hW.size h (by omega) f b)
  have HOk := Lib.hid hok
  have hzk : sizeK keys ≤ 1 + 1000 * keys.length := by
    have := sizeK_le keys (fun i => by have := hs i; omega) keys.length (Nat.le_refl _)
    rw [List.take_length] at this; exact this
  have HX : Hid (ItemsOk W0 [⟨0, f, b, a, cap, keys⟩]) := fun x hx => by
    simp only [List.mem_cons, List.not_mem_nil, or_false] at hx
    subst hx; exact ⟨hk, hs, hc, hstr⟩
  have HW := Lib.hid hW
  clear h hok hs hstr hW
  go_enter Try.func14, Try.ntmps14
  go_wp2_with fail
  refine HTk.out.mono ?_
  clear HTk
  rintro e w1 hpost
  obtain ⟨tv, its1, v1, rfl, hwo, hr1, hb1, hk1⟩ := takeIs_put hpost
  have HWo := Lib.hid hwo
  obtain ⟨a1, c1, rfl⟩ := hr1.2.2.slice
  have p1 := (row42 hr1.2.1).2
  have HR1 := Lib.hid hr1
  have HB1 := Lib.hid hb1
  have HK1 := Lib.hid hk1
  have hwl := without_len hwo
  have hA := (Below.refl w1.heap.size w1).alloc (Nat.le_refl _) (.cells #[.int .i64 f, .int .i64 b, .slice a keys.length cap] 57)
  have HA := Lib.hid hA
  have HSA := Lib.hid (hr1.2.2.below hA)
  have HRA := Lib.hid ((hA.block r (heap_lt hr1.2.1)).trans hr1.2.1)
  have HSZ : Hid (W0.heap.size ≤ w1.heap.size) := Nat.le_trans HW.out.size hb1.size
  clear hpost hwo hr1 hb1 hk1 hA
  go_wp2_with (at_builtin; refine wpList_append_slab rfl (.tmp 16) (.tmp 21) 40 rfl W0.heap.size 57 i57 _ 3 40 Try.underlying40 hi hz0 hz1 hz2 rfl (by decide) (.slice a1 its1.length c1) its1.length _ (by rfl) HSA.out ⟨w1.heap.size, 0, none⟩ 1 1 [.int .i64 f, .int .i64 b, .slice a keys.length cap] (by rfl) (size_three _ _ _) (three_at w1 _ _ _ 57) (one_item f b a cap keys) (by unfold maxLen; omega) (by omega) (Nat.le_trans HSZ.out HA.out.size) ?_; intro v2 w2 hs2 hg2; have HR2 := Lib.hid (slab_other HSA.out HRA.out hg2); have HB2 := Lib.hid (Below.slab (HB1.out.trans (HA.out.mono HSZ.out)) HSA.out (Nat.le_trans HSZ.out HA.out.size) hg2); have HK2 := Lib.hid ((HK1.out.trans (KeepR.of HA.out)).grown HSA.out hg2); have hp2 := (row42 HR2.out).2; have hf2 := frozen_of_row w2 r 1 _ _ HR2.out; obtain ⟨a2, m2, hv2⟩ := hs2.slice; subst hv2; have HS2 := Lib.hid hs2; clear hs2 hg2)
  have htx : total (its1 ++ [(⟨0, f, b, a, cap, keys⟩ : It)]) = total its1 + sizeK keys := total_snoc _ _
  have hlx : (its1 ++ [(⟨0, f, b, a, cap, keys⟩ : It)]).length = its1.length + 1 := by simp
  have HL2 : Hid ((its1 ++ [(⟨0, f, b, a, cap, keys⟩ : It)]).length ≤ 10001 ∧ total (its1 ++ [(⟨0, f, b, a, cap, keys⟩ : It)]) ≤ 200000000) := ⟨by omega, by omega⟩
  have HRel : Hid (PutE W0.heap.size r room W0 (its1 ++ [⟨0, f, b, a, cap, keys⟩]) w (w2.setCell ⟨r, 1, none⟩ (.slice a2 (its1.length + 1) m2))) := by
    refine ⟨a2, its1.length + 1, m2, its1 ++ [⟨0, f, b, a, cap, keys⟩], hlx.symm, refAt_turn HR1.out.1 HR2.out ?_, HB2.out.setCell (p := ⟨r, 1, none⟩) HR1.out.1 _, HK2.out.set HR2.out 1 _, rfl, fun x hx => ?_, Nat.le_refl _, Nat.le_refl _⟩
    · rw [hlx, itemsV_append]; exact HS2.out
    · rcases List.mem_append.1 hx with hx | hx
      · exact itemsOk_without HOk.out HWo.out x hx
      · exact HX.out x hx
  clear htx hlx hp2 hf2 p1 hwl hzk
  generalize (w2.setCell ⟨r, 1, none⟩ (.slice a2 (its1.length + 1) m2)) = w4 at *
  go_loopw [] (fun wr => Hid (PutE W0.heap.size r room W0 (its1 ++ [⟨0, f, b, a, cap, keys⟩]) w wr)) (fun wr => lenAt r wr)
  case atStart => exact HRel
  case round =>
    clear HRel
    obtain ⟨a5, n5, c5, its5, hn5, hp⟩ := hrel.out
    have hr5 := hp.1
    have hb5 := hp.2.1
    have HU := Lib.hid (usedref_any W0.heap.size r room _ its5 wr.drew (hr5.below (Below.drew (Below.refl _ _))) (hp.2.2.2.2.1.below ((HW.out.trans hb5).drew)) (by have := hp.2.2.2.2.2.1; have := HL2.out.1; omega) (by have := hp.2.2.2.2.2.2; have := HL2.out.2; omega))
    have r0 := (row42 hr5.2.1).1
    have r1 := (row42 hr5.2.1).2
    have HR5 := Lib.hid hr5
    have HP := Lib.hid hp
    have hlen : lenAt r wr = n5 := by unfold lenAt; rw [r1]
    have HLen := Lib.hid hlen
    clear hrel hr5 hb5 hp hlen
    by_cases hlt : room < (total its5 : Int)
    · have dlt : decide (room < (total its5 : Int)) = true := decide_eq_true hlt
      have HLt := Lib.hid hlt
      cases its5 with
      | nil =>
        exfalso
        have : total ([] : List It) = 0 := rfl
        omega
      | cons x tl =>
        obtain rfl : n5 = tl.length + 1 := hn5
        have hs1 : ∀ W, (Instr.slice 40 (.slice a5 (tl.length + 1) c5) (some (.int .i64 1)) none none).run Try.prog W = .ok (.slice (cutS a5 c5 1 3) (tl.length + 1 - 1) (c5 - 1)) W := fun W => run_slice_lS (P := Try.prog) W 40 57 i57 3 Try.underlying40 hi hz1 _ _ _ 1 .i64 (by omega)
        have HNxF := Lib.hid (fun w3 (h3 : Below wr.heap.size wr w3) => HP.out.next (w3 := w3) HW.out.size hlt h3)
        clear hlt
        generalize total (x :: tl) = T at *
        go_wp2_with fail
        go_region_with (go_at_call 19; refine HU.out.mono ?_; rintro e w6 ⟨rfl, hb6⟩; have HB6 := Lib.hid ((Below.drew (Below.refl _ _)).trans hb6); have hr6 := HR5.out.below HB6.out; have s0 := (row42 hr6.2.1).1; have s1 := (row42 hr6.2.1).2; have sf := frozen_of_row w6 r 1 _ _ hr6.2.1; clear hr6 hb6)
        all_goals
          have HNx := Lib.hid (HNxF.out w6 HB6.out)
          go_wp2_with fail
          go_roundw
          case rel => exact ⟨_, _, _, tl, by simp, HNx.out⟩
          case measure =>
            have h := (row42 HNx.out.1.2.1).2
            rw [Nat.add_sub_cancel] at h
            have e2 := HLen.out
            rw [e2]
            unfold lenAt
            rw [h]
            simp
    · have dlt : decide (room < (total its5 : Int)) = false := decide_eq_false hlt
      have HLt := Lib.hid hlt
      clear hlt
      go_wp2_with fail
      go_region_with (go_at_call 19; refine HU.out.mono ?_; rintro e w6 ⟨rfl, hb6⟩; have HB6 := Lib.hid ((Below.drew (Below.refl _ _)).trans hb6); have hr6 := HR5.out.below HB6.out; have s0 := (row42 hr6.2.1).1; have s1 := (row42 hr6.2.1).2; have sf := frozen_of_row w6 r 1 _ _ hr6.2.1; clear hr6 hb6)
      all_goals
        go_wp2_with fail
        go_end0
        have hpo := HP.out
        have hst := evict_stop (room := room) (ys := its5) (by have := HLt.out; omega)
        refine ⟨rfl, its1, .slice a5 n5 c5, HWo.out, ?_, hpo.2.1.trans (HB6.out.mono (Nat.le_trans HW.out.size hpo.2.1.size)), hpo.2.2.1.trans (KeepR.of HB6.out)⟩
        rw [← hpo.2.2.2.1, hst]
        exact hpo.1.below HB6.out
end Go.Proofs.Ytacjbgmnoiimbac
