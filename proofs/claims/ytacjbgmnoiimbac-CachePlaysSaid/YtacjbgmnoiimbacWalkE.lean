/- Put: walked. -/
import Derived.Test.YtacjbgmnoiimbacPlainb
namespace Go.Proofs.Ytacjbgmnoiimbac
set_option linter.unusedVariables false
set_option linter.unusedSimpArgs false
open Go.RowKit

theorem sizeK_take (keys : List ByteArray) (j : Nat) (h : j < keys.length) : sizeK (keys.take (j + 1)) = sizeK (keys.take j) + (keys.getD j ByteArray.empty).size := by
  have e : keys.take (j + 1) = keys.take j ++ [keys.getD j ByteArray.empty] := by
    rw [List.take_add_one, List.getElem?_eq_getElem h, List.getD_eq_getElem?_getD, List.getElem?_eq_getElem h]; rfl
  unfold sizeK
  rw [e, List.map_append, List.sum_append]
  simp only [List.map_cons, List.map_nil, List.sum_cons, List.sum_nil]
  omega
theorem sizeK_le (keys : List ByteArray) (hs : ∀ i, (keys.getD i ByteArray.empty).size ≤ 1000) : ∀ j, j ≤ keys.length → sizeK (keys.take j) ≤ 1 + 1000 * j
  | 0, _ => by simp [sizeK]
  | j + 1, h => by
    rw [sizeK_take keys j h]
    have := sizeK_le keys hs j (by omega)
    have := hs j
    omega
theorem Ca.bounds {W : World} {g bm rb : Nat} {room used : Int} {its : List It} (h : Ca W g bm rb room used its) : g < W.heap.size ∧ bm < W.heap.size ∧ rb < W.heap.size ∧ ∀ i, i < its.length → (its.getD i default).b < W.heap.size := by
  obtain ⟨L, ⟨es, clock, hm, _⟩, _⟩ := h.map
  obtain ⟨cs, hr, _⟩ := h.root
  refine ⟨heap_lt h.head, heap_lt hm, heap_lt hr, fun i hi => ?_⟩
  obtain ⟨cs', hx, _⟩ := (h.item i hi).1
  exact heap_lt hx
theorem row_turnedC {w w' : World} {B g bm rb : Nat} {its : List It} {n : Nat} {v : Value} {xs : List Value} (h : w.ownsRow B 9 1 v n xs) (h1 : g < B) (h2 : bm < B) (h3 : rb < B) (h4 : ∀ i, i < its.length → (its.getD i default).b < B) (hU : TurnedC g bm rb its w w') : w'.ownsRow B 9 1 v n xs := by
  refine ⟨h.1, ?_⟩
  rcases h.2 with h0 | ⟨gb, cap, cur, hv, hb, hg, r⟩
  · exact .inl h0
  · refine .inr ⟨gb, cap, cur, hv, hb, ?_, r⟩
    rw [hU.2.2.2.2 gb (heap_lt hg) (by omega) (by omega) (by omega) (fun i hi => by have := h4 i hi; omega)]
    exact hg
theorem grown_cell' (w : World) (g i : Nat) (x : Value) : w.grownBy (w.setCell ⟨g, i, none⟩ x) (some g) :=
  ⟨rfl, rfl, rfl, by simp, fun k _ hk => heap_setCell_other w ⟨g, i, none⟩ k x (fun e => hk (by simp [e]))⟩
theorem row_not' {w : World} {B g : Nat} {e t : TypeId} {size n : Nat} {v : Value} {xs : List Value} {cs : Array Value} (hown : w.ownsRow B e size v n xs) (h : w.heap[g]? = some (.cells cs t (0, 0))) (hne : e ≠ t) : v.ownBlock = none ∨ v.ownBlock ≠ some g := by
  rcases hown.2 with ⟨rfl, _⟩ | ⟨g', cap', cur, rfl, _, hg, _⟩
  · exact .inl rfl
  · right
    intro e
    simp only [Value.ownBlock, Option.some.injEq] at e
    subst e
    rw [hg] at h
    simp only [Option.some.injEq, Obj.cells.injEq] at h
    exact hne h.2.1
/-- behind the new item, ahead of the map -/
def PA (w : World) (xb : Nat) (f b : Int) (a' : Option Addr) (kc' : Nat) (keys : List ByteArray) (z : Nat) (wr : World) : Prop :=
  wr.heap[xb]? = some (.cells #[.int .i64 f, .int .i64 b, .slice a' keys.length kc', .int .i64 (z : Int), .pointer none, .pointer none] 49 (0, 0)) ∧ wr.ownsRow w.heap.size 9 1 (.slice a' keys.length kc') keys.length (strsV keys) ∧ Below w.heap.size w wr
theorem Ca.drewN {W : World} {g bm rb : Nat} {room used : Int} {its : List It} (h : Ca W g bm rb room used its) (n : Nat) : Ca (W.drewN n) g bm rb room used its := ⟨h.head, h.map, h.root, h.item, h.ring, h.apart, h.names⟩
theorem OwnC.drewN {B : Nat} {W : World} {g bm rb : Nat} {room used : Int} {its : List It} (h : OwnC B W g bm rb room used its) (n : Nat) : OwnC B (W.drewN n) g bm rb room used its := ⟨h.1.drewN n, h.2⟩
theorem below_map {B : Nat} {w W : World} (h : Below B w W) {bm : Nat} (hb : B ≤ bm) (es : Array MapEntry) (clock : Nat) : Below B w (withMap W bm es clock) :=
  ⟨h.os, h.tape, h.output, by simpa [withMap] using h.size, fun k hk => by
    unfold withMap
    rw [Array.getElem?_setIfInBounds_ne (by omega)]
    exact h.block k hk⟩
theorem evict_nil (room : Int) : evict room [] = [] := rfl
theorem evict_step {room : Int} {x : It} {r : List It} (h : room < (total (x :: r) : Int)) : evict room (x :: r) = evict room r := by rw [evict, if_pos h]
theorem evict_stop {room : Int} {ys : List It} (h : ¬ room < (total ys : Int)) : evict room ys = ys := by
  cases ys with
  | nil => rfl
  | cons x r => rw [evict, if_neg h]
theorem mem_total {x : It} {its : List It} (h : x ∈ its) : sizeK x.keys ≤ total its := by
  induction its with
  | nil => cases h
  | cons y r ih =>
    rw [total_cons]
    rcases List.mem_cons.1 h with rfl | h
    · omega
    · have := ih h; omega
/-- what isn't the cache's kind stays -/
def KeepT (w w' : World) : Prop := ∀ (k : Nat) (cs : Array Value) (t : TypeId), t ≠ 49 → t ≠ 52 → w.heap[k]? = some (.cells cs t (0, 0)) → w'.heap[k]? = some (.cells cs t (0, 0))
theorem KeepT.trans {a b c : World} (h : KeepT a b) (k : KeepT b c) : KeepT a c := fun i cs t h1 h2 h3 => k i cs t h1 h2 (h i cs t h1 h2 h3)
theorem KeepT.of {w w' : World} (h : Below w.heap.size w w') : KeepT w w' := fun k cs t _ _ hk => (h.block k (heap_lt hk)).trans hk
theorem KeepT.drewN {a b : World} (h : KeepT a b) (n : Nat) : KeepT a (b.drewN n) := h
theorem KeepT.set {a b : World} (h : KeepT a b) {k : Nat} {cs : Array Value} {t : TypeId} (hk : b.heap[k]? = some (.cells cs t (0, 0))) (ht : t = 49 ∨ t = 52) (o : Nat) (v : Value) : KeepT a (b.setCell ⟨k, o, none⟩ v) := fun i cs' t' h1 h2 h3 => by
  have h4 := h i cs' t' h1 h2 h3
  rw [heap_setCell_other b ⟨k, o, none⟩ i v (by
    rintro rfl
    rw [hk] at h4
    simp only [Option.some.injEq, Obj.cells.injEq] at h4
    rcases ht with rfl | rfl
    · exact h1 h4.2.1.symm
    · exact h2 h4.2.1.symm)]
  exact h4
theorem KeepT.item {a b : World} (h : KeepT a b) {k : Nat} (hk : ItemRow b k) (o : Nat) (v : Value) : KeepT a (b.setCell ⟨k, o, none⟩ v) := by
  obtain ⟨cs, h1, _⟩ := hk
  exact h.set h1 (.inl rfl) o v
theorem KeepT.turn {a b : World} (h : KeepT a b) {bm : Nat} {es0 : Array MapEntry} {c0 : Nat} (hm : b.heap[bm]? = some (.map es0 c0)) (es : Array MapEntry) (clock : Nat) : KeepT a (withMap b bm es clock) := fun i cs' t' h1 h2 h3 => by
  have h4 := h i cs' t' h1 h2 h3
  unfold withMap
  show (b.heap.setIfInBounds bm _)[i]? = _
  rw [Array.getElem?_setIfInBounds_ne (by rintro rfl; rw [hm] at h4; simp at h4)]
  exact h4
theorem keep_turned {w w' : World} {g bm rb : Nat} {room used : Int} {its : List It} (h : Ca w g bm rb room used its) (hU : TurnedC g bm rb its w w') : KeepT w w' := fun k cs t h1 h2 hk => by
  obtain ⟨L, ⟨es, clock, hm, _⟩, _⟩ := h.map
  obtain ⟨rc, hr, _⟩ := h.root
  rw [hU.2.2.2.2 k (heap_lt hk) (by
    rintro rfl
    rw [h.head] at hk
    simp only [Option.some.injEq, Obj.cells.injEq] at hk
    exact h2 hk.2.1.symm) (by
    rintro rfl
    rw [hm] at hk; simp at hk) (by
    rintro rfl
    rw [hr] at hk
    simp only [Option.some.injEq, Obj.cells.injEq] at hk
    exact h1 hk.2.1.symm) (fun i hi e => by
    obtain ⟨ic, hx, _⟩ := (h.item i hi).1
    subst e
    rw [hx] at hk
    simp only [Option.some.injEq, Obj.cells.injEq] at hk
    exact h1 hk.2.1.symm)]
  exact hk
/-- the loop of 'Put' -/
def EvRel (B g bm rb : Nat) (room : Int) (w : World) (all : List It) (wr : World) : Prop := ∃ ys, evict room ys = evict room all ∧ OwnC B wr g bm rb room (total ys : Int) ys ∧ Below B w wr ∧ KeepT w wr ∧ (∀ x ∈ ys, sizeK x.keys ≤ 1000000000) ∧ total ys ≤ 100000000000
def usedOf (g : Nat) (w : World) : Nat := match w.cell? ⟨g, 1, none⟩ with | some (.int _ u) => u.toNat | _ => 0
set_option maxRecDepth 100000 in
set_option maxHeartbeats 4000000 in
theorem put_any (B g bm rb : Nat) (room : Int) (its : List It) (w : World) (h : OwnC B w g bm rb room (total its : Int) its) (hB : B ≤ w.heap.size) (h0 : 0 ≤ room) (f b : Int) (a : Option Addr) (cap : Nat) (keys : List ByteArray) (hk : keys.length ≤ 1000) (hs : ∀ i, (keys.getD i ByteArray.empty).size ≤ 1000) (hc : keys.length ≤ cap) (ht : total its ≤ 1000000000) (hstr : IsStrs w a keys) :
    Calls Try.prog 9 #[.pointer (some ⟨g, 0, none⟩), .int .i64 f, .int .i64 b, .slice a keys.length cap] w fun e w' => e = .returned (.tuple #[]) ∧ ∃ its1 xb a' kc', Without f b its its1 ∧ (w.heap.size ≤ xb ∧ ∀ p, a' = some p → w.heap.size ≤ p.block) ∧ OwnC B w' g bm rb room (total (evict room (its1 ++ [⟨xb, f, b, a', kc', keys⟩])) : Int) (evict room (its1 ++ [⟨xb, f, b, a', kc', keys⟩])) ∧ Below B w w' ∧ KeepT w w' := by
  have HO := Lib.hid h
  have HS := Lib.hid hs
  have HStr := Lib.hid hstr
  have HC := Lib.hid (clone_any a cap keys w (by omega) hc hstr)
  have hzk := sizeK_le keys hs
  have HZK := Lib.hid hzk
  clear h hs hstr hzk
  go_enter Try.func9, Try.ntmps9
  go_wp2_with fail
  refine HC.out.mono ?_
  clear HC
  rintro e w1 ⟨a', kc', rfl, hrow, hb1⟩
  have hPA : Hid (PA w w1.heap.size f b a' kc' keys (sizeK (keys.take 0)) (w1.alloc (.cells #[.int .i64 f, .int .i64 b, .slice a' keys.length kc', .int .i64 1, .pointer none, .pointer none] 49))) :=
    ⟨heap_alloc_new w1 _, hrow.alloc _, hb1.alloc hb1.size _⟩
  have HXB : Hid (w.heap.size ≤ w1.heap.size) := hb1.size
  have HAP : Hid (∀ p, a' = some p → w.heap.size ≤ p.block) := fun p hp => (hrow.lt p.block (by rw [hp]; rfl)).1
  clear hrow hb1
  go_upto_region 2 with (fail)
  generalize (w1.alloc (.cells #[.int .i64 f, .int .i64 b, .slice a' keys.length kc', .int .i64 1, .pointer none, .pointer none] 49)) = w2 at *
  generalize w1.heap.size = xb at *
  go_wp2_with fail
  go_loopw [24] (fun i wr => ∃ j : Nat, i = .int .i64 j ∧ j ≤ keys.length ∧ Hid (PA w xb f b a' kc' keys (sizeK (keys.take j)) wr)) (fun i _ => keys.length - (intOf i).toNat)
  case atStart => exact ⟨0, rfl, Nat.zero_le _, hPA⟩
  case round =>
    clear hPA
    obtain ⟨j, rfl, hj, hst⟩ := hrel
    obtain ⟨hx, hrow, hb⟩ := hst.out
    clear hst
    by_cases hjk : j < keys.length
    · have dj : decide ((j : Int) < (keys.length : Int)) = true := decide_eq_true (by omega)
      have hij : (j : Int) < (keys.length : Int) := by omega
      obtain ⟨kb, ko, rfl, _, hkc⟩ := (HStr.out.below hb) (by omega)
      have c1 := hkc j hjk
      have hks := HS.out j
      have hzz := sizeK_take keys j hjk
      have hz1 := HZK.out j (by omega)
      have cx := heap_cell hx 3
      have fx := frozen_of_row wr xb 3 _ _ hx
      simp at cx
      have HX := Lib.hid hx
      have HRow := Lib.hid hrow
      have HB := Lib.hid hb
      have HZ := Lib.hid hzz
      generalize keys.getD j ByteArray.empty = key at *
      generalize sizeK (keys.take j) = Z at *
      have hw : IntKind.i64.wrap ((Z : Int) + (key.size : Int)) = (Z : Int) + (key.size : Int) := by rw [IntKind.wrap_i64]; omega
      clear hkc hx hrow hb hzz
      go_wp2_with fail
      go_roundw
      case rel =>
        refine ⟨j + 1, by go_num, by omega, ⟨?_, HRow.out.kept (grown_cell' wr xb 3 _) (row_not' HRow.out HX.out (by decide)), HB.out.setCell (p := ⟨xb, 3, none⟩) HXB.out _⟩⟩
        have := heap_setCell_same wr xb 3 _ 49 (.int .i64 ((Z : Int) + (key.size : Int))) HX.out
        rw [HZ.out]
        exact this
      case measure => simp [intOf]; omega
    · obtain rfl : j = keys.length := by omega
      have dj : decide ((keys.length : Int) < (keys.length : Int)) = false := by simp
      rw [List.take_length] at hx
      have hz1 := HZK.out keys.length (Nat.le_refl _)
      rw [List.take_length] at hz1
      have hca := HO.out.1.below hb
      have hbd := HO.out.1.bounds
      obtain ⟨L, hy, hL⟩ := hca.cy
      obtain ⟨hh, ⟨es, clock, hm, hes⟩, _, _⟩ := hy
      have g2 := heap_cell hh 2
      simp at g2
      have x0 := heap_cell hx 0
      have x1 := heap_cell hx 1
      simp at x0 x1
      have hlk : ∀ n, (Instr.lookup 50 (.map (some bm)) (.agg #[.int .i64 f, .int .i64 b]) true).run Try.prog (wr.drewN n) = .ok (.tuple #[match findL f b L 0 with | some p => ptrV p.2 | none => .pointer none, .bool (findL f b L 0).isSome]) (wr.drewN n) := fun n => run_lookup f b (wr.drewN n) bm L ⟨es, clock, hm, hes⟩
      have HX := Lib.hid hx
      have HRow := Lib.hid hrow
      have HB := Lib.hid hb
      have HCA := Lib.hid hca
      have HBD := Lib.hid hbd
      have HLP := Lib.hid hL
      by_cases hyes : ∃ i, i < its.length ∧ (its.getD i default).file = f ∧ (its.getD i default).blk = b
      · obtain ⟨i, hi, hif, hib⟩ := hyes
        obtain ⟨k, hf, _⟩ := find_yes hL HO.out.1.names hi
        rw [hif, hib] at hf
        have hlk1 : (Instr.lookup 50 (.map (some bm)) (.agg #[.int .i64 f, .int .i64 b]) true).run Try.prog wr.drew = .ok (.tuple #[.pointer (some ⟨(its.getD i default).b, 0, none⟩), .bool true]) wr.drew := by
          have := hlk 1
          rw [hf] at this
          exact this
        have hts := total_erase its i hi
        have HRem := Lib.hid (fun W (hW : Ca W g bm rb room (total its : Int) its) => remove_any g bm rb room (total its : Int) its W hW i hi (by omega) (by omega))
        have HWo : Hid (Without f b its (its.eraseIdx i)) := .inl ⟨i, hi, hif, hib, rfl⟩
        generalize (its.getD i default).b = ob at *
        clear hlk hf hif hib hx hrow hb hca hbd hL hh hm hes
        go_wp2_with fail
        go_region
        go_wp2_with fail
        have HCA1 := Lib.hid (HCA.out.drewN 1)
        refine (HRem.out _ HCA1.out).mono ?_
        clear HRem
        rintro e wT ⟨rfl, hca2, hU, _⟩
        have hte : (total its : Int) - (sizeK (its.getD i default).keys : Int) = (total (its.eraseIdx i) : Int) := by omega
        rw [hte] at hca2
        have hXT : wT.heap[xb]? = some (.cells #[.int .i64 f, .int .i64 b, .slice a' keys.length kc', .int .i64 (sizeK keys : Int), .pointer none, .pointer none] 49 (0, 0)) := by
          have hb1 := HBD.out
          have hx1 := HXB.out
          rw [hU.2.2.2.2 xb (heap_lt HX.out) (by omega) (by omega) (by omega) (fun j hj => by have := hb1.2.2.2 j hj; omega)]
          exact HX.out
        have hRT := row_turnedC (w := wr.drew) HRow.out HBD.out.1 HBD.out.2.1 HBD.out.2.2.1 HBD.out.2.2.2 hU
        have hBT : Below B w wT := (Below.drewN (HB.out.mono hB) 1).trans (hU.below HO.out.2.1 HO.out.2.2.1 HO.out.2.2.2.1 HO.out.2.2.2.2 (Nat.le_trans hB HB.out.size))
        have hOT : OwnC B wT g bm rb room (total (its.eraseIdx i) : Int) (its.eraseIdx i) := OwnC.erase HO.out i hi hca2
        have HBB : Hid (∀ j, j < (its.eraseIdx i).length → ((its.eraseIdx i).getD j default).b < w.heap.size) := fun j hj => by
          rw [erase_len its i hi] at hj
          rw [erase_at]
          split
          · exact HBD.out.2.2.2 j (by omega)
          · exact HBD.out.2.2.2 (j + 1) (by omega)
        have htu : total (its.eraseIdx i) ≤ 1000000000 := by omega
        have hKT : KeepT w wT := ((KeepT.of HB.out).drewN 1).trans (keep_turned HCA1.out hU)
        generalize its.eraseIdx i = its1 at *
        clear hca2 hU hte hts HCA1 HCA HX HRow HB hi hlk1
        have HKT := Lib.hid hKT
        clear hKT
        have HXT := Lib.hid hXT
        have HRT := Lib.hid hRT
        have HBT := Lib.hid hBT
        have HOT := Lib.hid hOT
        obtain ⟨L1, hy1, hL1⟩ := hOT.1.cy
        obtain ⟨hh1, ⟨es1, clock1, hm1, hes1⟩, hrt1, hit1⟩ := hy1
        obtain ⟨hn1, hnn⟩ := without_names HWo.out HO.out.1.names
        have hnf := find_no hL1 hnn
        have hxi : ItemAt wT ⟨xb, f, b, a', kc', keys⟩ := ⟨⟨_, hXT, rfl⟩, heap_cell hXT 0, heap_cell hXT 1, heap_cell hXT 2, heap_cell hXT 3, row_cap hRT, row_keys hRT⟩
        have hcy : Cy wT g bm rb room (total its1 : Int) L1 (its1 ++ [⟨xb, f, b, a', kc', keys⟩]) := ⟨hh1, ⟨es1, clock1, hm1, hes1⟩, hrt1, fun x hx => by
          rcases List.mem_append.1 hx with hx | hx
          · exact hit1 x hx
          · simp only [List.mem_cons, List.not_mem_nil, or_false] at hx
            subst hx; exact hxi⟩
        have HCY := Lib.hid hcy
        have hput1 : (Instr.mapUpdate 50 (.map (some bm)) (.agg #[.int .i64 f, .int .i64 b]) (.pointer (some ⟨xb, 0, none⟩))).run Try.prog wT.drew = .ok () (withMap wT.drew bm (es1.push { key := nameV f b, val := ptrV xb, born := clock1 }) (clock1 + 1)) := run_put_at f b xb wT.drew bm L1 es1 clock1 hm1 hes1 hnf
        have y2 := heap_cell hh1 2
        simp at y2
        have z0 := heap_cell hXT 0
        have z1 := heap_cell hXT 1
        simp at z0 z1
        have HES1 := Lib.hid hes1
        have HL1 := Lib.hid hL1
        have HN1 := Lib.hid hn1
        have HNN := Lib.hid hnn
        clear hXT hRT hBT hOT hh1 hm1 hrt1 hit1 hnf hxi hcy hes1 hL1 hn1 hnn
        go_wp2_with fail
        go_region
        have hes2 : (es1.push { key := nameV f b, val := ptrV xb, born := clock1 }).toList.map (fun e => (e.key, e.val)) = (L1 ++ [(f, b, xb)]).map entK := by simp [HES1.out, entK]
        have HCU := Lib.hid ((HCY.out.drewN 1).turn (es1.push { key := nameV f b, val := ptrV xb, born := clock1 }) (clock1 + 1) hes2)
        have HBU := Lib.hid (below_map (Below.drewN HBT.out 1) HOT.out.2.2.1 (es1.push { key := nameV f b, val := ptrV xb, born := clock1 }) (clock1 + 1))
        have hwd0 : wT.drewN 1 = wT.drew := rfl
        rw [hwd0] at HCU HBU
        have HKU : Hid (KeepT w (withMap wT.drew bm (es1.push { key := nameV f b, val := ptrV xb, born := clock1 }) (clock1 + 1))) := by
          obtain ⟨_, ⟨e0, c0, q0, _⟩, _⟩ := HCY.out
          exact (HKT.out.drewN 1).turn (bm := bm) (es0 := e0) (c0 := c0) q0 _ _
        have hmm : ∃ e0 c0, wT.heap[bm]? = some (.map e0 c0) := by obtain ⟨_, ⟨e0, c0, q0, _⟩, _⟩ := HCY.out; exact ⟨e0, c0, q0⟩
        have hrw : ∀ j, ItemRow wT j → (withMap wT.drew bm (es1.push { key := nameV f b, val := ptrV xb, born := clock1 }) (clock1 + 1)).heap[j]? = wT.heap[j]? := fun j ⟨cs, hj, _⟩ => by
          obtain ⟨e0, c0, q0⟩ := hmm
          unfold withMap
          show (wT.heap.setIfInBounds bm _)[j]? = _
          rw [Array.getElem?_setIfInBounds_ne (by rintro rfl; rw [q0] at hj; simp at hj)]
        have HRU : Hid (Ring (withMap wT.drew bm (es1.push { key := nameV f b, val := ptrV xb, born := clock1 }) (clock1 + 1)) rb its1) := HOT.out.1.ring.same (fun j hj => hrw _ (HOT.out.1.posRow j hj))
        clear hmm hrw hput1 y2 z0 z1 hes2
        generalize withMap wT.drew bm (es1.push { key := nameV f b, val := ptrV xb, born := clock1 }) (clock1 + 1) = wU at *
        obtain ⟨cgu, _, _, ciu⟩ := HCU.out
        obtain ⟨hrx, _, _, _, i3, _, _⟩ := ciu ⟨xb, f, b, a', kc', keys⟩ (by simp)
        have g1 := heap_cell cgu 1
        simp at g1
        have fg := frozen_of_row wU g 1 _ _ cgu
        simp only at i3
        generalize hZK : sizeK keys = ZK at *
        have HZKe := Lib.hid hZK
        generalize hTT : total its1 = TT at *
        have HTT := Lib.hid hTT
        have hwr : IntKind.i64.wrap ((TT : Int) + (ZK : Int)) = (TT : Int) + (ZK : Int) := by rw [IntKind.wrap_i64]; omega
        clear cgu ciu hrx hZK hTT
        go_wp2_with fail
        go_region
        have HCV := Lib.hid ((HCU.out.use ((TT : Int) + (ZK : Int))).drewN 1)
        have HKV : Hid (KeepT w (wU.setCell ⟨g, 1, none⟩ (.int .i64 ((TT : Int) + (ZK : Int)))).drew) := (HKU.out.set HCU.out.1 (.inr rfl) 1 _).drewN 1
        have HBV := Lib.hid (Below.drewN (HBU.out.setCell (p := ⟨g, 1, none⟩) HOT.out.2.1 (.int .i64 ((TT : Int) + (ZK : Int)))) 1)
        have hgu : ∀ j, ItemRow wU j → (wU.setCell ⟨g, 1, none⟩ (.int .i64 ((TT : Int) + (ZK : Int)))).heap[j]? = wU.heap[j]? := fun j ⟨cs, hj, _⟩ => heap_setCell_other wU ⟨g, 1, none⟩ j _ (by
          rintro rfl
          have := HCU.out.1
          rw [this] at hj; simp at hj)
        have hpu : ∀ j, j ≤ its1.length → ItemRow wU (posC rb its1 j) := fun j hj => by
          unfold posC
          by_cases h0 : j = 0
          · rw [if_pos h0]; exact HCU.out.2.2.1
          · rw [if_neg h0]
            exact (HCU.out.2.2.2 _ (List.mem_append.2 (.inl (getD_mem (by omega))))).1
        have HRV : Hid (Ring ((wU.setCell ⟨g, 1, none⟩ (.int .i64 ((TT : Int) + (ZK : Int)))).drewN 1) rb its1) := HRU.out.same (fun j hj => hgu _ (hpu j hj))
        have hwd : (wU.setCell ⟨g, 1, none⟩ (.int .i64 ((TT : Int) + (ZK : Int)))).drewN 1 = (wU.setCell ⟨g, 1, none⟩ (.int .i64 ((TT : Int) + (ZK : Int)))).drew := rfl
        rw [hwd] at HCV HBV HRV
        clear hgu hpu g1 fg i3 hwr hwd
        generalize (wU.setCell ⟨g, 1, none⟩ (.int .i64 ((TT : Int) + (ZK : Int)))).drew = wV at *
        have hbd := HBD.out
        have hxb := HXB.out
        have hxr : xb ≠ rb := by omega
        have hxn : ∀ i, i < its1.length → (its1.getD i default).b ≠ xb := fun i hi => by
          have h1 := HBB.out i hi
          omega
        obtain ⟨l1, l2, l3, l4⟩ := HCV.out.lasted (its := its1) (x := ⟨xb, f, b, a', kc', keys⟩) (by simp) (fun y hy => List.mem_append.2 (.inl hy)) HRV.out HOT.out.1.apart hxr hxn
        have HLast := Lib.hid (last_any g xb (posC rb its1 its1.length) rb bm room ((TT : Int) + (ZK : Int)) wV HCV.out.1 (HCV.out.2.2.2 (⟨xb, f, b, a', kc', keys⟩ : It) (by simp)).1 l3 HCV.out.2.2.1 (HRV.out 0 (Nat.zero_le _)).2 l4 (fun e => hxr e.symm))
        have HKW := Lib.hid ((((HKV.out.item (HCV.out.2.2.2 (⟨xb, f, b, a', kc', keys⟩ : It) (by simp)).1 4 (ptrV (posC rb its1 its1.length))).item ((HCV.out.2.2.2 (⟨xb, f, b, a', kc', keys⟩ : It) (by simp)).1.set _ _ _) 5 (ptrV rb)).item ((l3.set _ _ _).set _ _ _) 5 (ptrV xb)).item (((HCV.out.2.2.1.set _ _ _).set _ _ _).set _ _ _) 4 (ptrV xb))
        simp only at HKW
        have HL1' := Lib.hid l1
        have HL2' := Lib.hid l2
        have HAp := Lib.hid (apart_snoc (x := ⟨xb, f, b, a', kc', keys⟩) HOT.out.1.apart hxr hxn)
        have HNm := Lib.hid (names_snoc (x := ⟨xb, f, b, a', kc', keys⟩) HN1.out HNN.out)
        have HPB : Hid (B ≤ posC rb its1 its1.length) := by
          show B ≤ posC rb its1 its1.length
          unfold posC
          by_cases h0 : its1.length = 0
          · rw [if_pos h0]; exact HOT.out.2.2.2.1
          · rw [if_neg h0]; exact HOT.out.2.2.2.2 _ (by omega)
        simp only at HL1' HL2'
        generalize posC rb its1 its1.length = PP at *
        clear l1 l2 l3 l4 hxr hxn hbd
        go_wp2_with fail
        refine HLast.out.mono ?_
        clear HLast
        rintro e wW ⟨rfl, kk, hwW⟩
        have HEv : Hid (EvRel B g bm rb room w (its1 ++ [(⟨xb, f, b, a', kc', keys⟩ : It)]) wW) := by
          have hperm : (L1 ++ [(f, b, xb)]).Perm ((its1 ++ [(⟨xb, f, b, a', kc', keys⟩ : It)]).map tri) := by
            rw [List.map_append]
            exact HL1.out.append_right _
          have htot : (TT : Int) + (ZK : Int) = (total (its1 ++ [(⟨xb, f, b, a', kc', keys⟩ : It)]) : Int) := by
            rw [total_snoc, HTT.out]
            show _ = ((TT + sizeK keys : Nat) : Int)
            rw [HZKe.out]; omega
          have hca := Ca.mk' (HL1'.out.drewN kk) hperm (fun x hx => hx) (HL2'.out.drewN kk) HAp.out HNm.out
          rw [← hwW, htot] at hca
          have hB1 : B ≤ xb := Nat.le_trans hB hxb
          show EvRel B g bm rb room w (its1 ++ [⟨xb, f, b, a', kc', keys⟩]) wW
          refine ⟨its1 ++ [⟨xb, f, b, a', kc', keys⟩], rfl, ⟨hca, HOT.out.2.1, HOT.out.2.2.1, HOT.out.2.2.2.1, fun j hj => ?_⟩, ?_, ?_, fun x hx => ?_, ?_⟩
          · simp only [List.length_append, List.length_cons, List.length_nil] at hj
            rw [snoc_getD _ _ j (by omega)]
            split
            · exact HOT.out.2.2.2.2 j (by omega)
            · exact hB1
          · rw [hwW]
            exact Below.drewN ((((HBV.out.setCell (p := ⟨xb, 4, none⟩) hB1 _).setCell (p := ⟨xb, 5, none⟩) hB1 _).setCell (p := ⟨PP, 5, none⟩) HPB.out _).setCell (p := ⟨rb, 4, none⟩) HOT.out.2.2.2.1 _) kk
          · rw [hwW]
            exact HKW.out.drewN kk
          · rcases List.mem_append.1 hx with hx | hx
            · have := mem_total hx
              rw [HTT.out] at this
              omega
            · simp only [List.mem_cons, List.not_mem_nil, or_false] at hx
              subst hx
              show sizeK keys ≤ _
              rw [HZKe.out]; omega
          · rw [total_snoc, HTT.out]
            show TT + sizeK keys ≤ _
            rw [HZKe.out]; omega
        clear HL1' HL2' HAp HNm HPB HBV HCV HRV HCU HBU HRU HCY HOT HBT HXT HRT hwW HKT HKU HKV HKW
        go_wp2_with fail
        go_loopw [] (fun wr => Hid (EvRel B g bm rb room w (its1 ++ [⟨xb, f, b, a', kc', keys⟩]) wr)) (fun wr => usedOf g wr)
        case atStart => exact HEv
        case round =>
          obtain ⟨ys, hev, hown, hbw, hkt, hzs, htt⟩ := hrel.out
          have HKT := Lib.hid hkt
          clear hkt
          clear hrel
          have cg := heap_cell hown.1.head 0
          have cg1 := heap_cell hown.1.head 1
          have cg3 := heap_cell hown.1.head 3
          simp at cg cg1 cg3
          unfold ptrV at cg3
          have HOW := Lib.hid hown
          have HBW := Lib.hid hbw
          have HEV := Lib.hid hev
          by_cases hgo : room < (total ys : Int)
          · have dgo : decide (room < (total ys : Int)) = true := decide_eq_true hgo
            cases ys with
            | nil =>
              exfalso
              have : total ([] : List It) = 0 := rfl
              rw [this] at hgo
              omega
            | cons y r =>
              have hrt := (hown.1.ring 0 (Nat.zero_le _)).1
              have hnx : nxI (y :: r).length 0 = 1 := by unfold nxI; rw [if_neg (by simp)]
              rw [hnx] at hrt
              have hp1 : posC rb (y :: r) 1 = y.b := rfl
              have hp0 : posC rb (y :: r) 0 = rb := rfl
              rw [hp1, hp0] at hrt
              unfold ptrV at hrt
              have hes := evict_step hgo
              have hsz := hzs y (by simp)
              have htc := total_cons y r
              have hsp : 1 ≤ sizeK y.keys := by unfold sizeK; omega
              have HRem := Lib.hid (remove_any g bm rb room (total (y :: r) : Int) (y :: r) (wr.drewN 1) (hown.1.drewN 1) 0 (by simp) (by omega) hsz)
              have hy0 : (y :: r).getD 0 default = y := rfl
              have he0 : (y :: r).eraseIdx 0 = r := rfl
              rw [hy0, he0] at HRem
              have hwd2 : wr.drewN 1 = wr.drew := rfl
              rw [hwd2] at HRem
              have HES := Lib.hid (hev.symm.trans hes)
              have HTC := Lib.hid htc
              have HSP := Lib.hid hsp
              have HZS : Hid (∀ x ∈ r, sizeK x.keys ≤ 1000000000) := fun x hx => hzs x (List.mem_cons_of_mem _ hx)
              have HU0 : Hid (usedOf g wr = total (y :: r)) := by
                show usedOf g wr = _
                unfold usedOf
                rw [cg1]
                simp
              have HTT2 : Hid (total (y :: r) ≤ 100000000000) := htt
              generalize hyb : y.b = yb at *
              clear hown hbw hev hgo hzs hes hsz htc hsp hp1 hp0 hnx hy0 he0 hwd2 htt hyb
              go_wp2_with fail
              go_region
              go_wp2_with fail
              refine HRem.out.mono ?_
              clear HRem
              rintro e wX ⟨rfl, hcx, hux, _⟩
              have htr : (total (y :: r) : Int) - (sizeK y.keys : Int) = (total r : Int) := by have := HTC.out; omega
              rw [htr] at hcx
              have HCX := Lib.hid hcx
              have HUX := Lib.hid hux
              clear hcx hux htr
              go_wp2_with fail
              go_roundw
              case rel =>
                refine ⟨r, HES.out.symm, ⟨HCX.out, HOW.out.2.1, HOW.out.2.2.1, HOW.out.2.2.2.1, fun j hj => ?_⟩, (Below.drewN HBW.out 1).trans (HUX.out.below HOW.out.2.1 HOW.out.2.2.1 HOW.out.2.2.2.1 HOW.out.2.2.2.2 (Nat.le_trans hB HBW.out.size)), (HKT.out.drewN 1).trans (keep_turned (HOW.out.1.drewN 1) HUX.out), HZS.out, ?_⟩
                · have := HOW.out.2.2.2.2 (j + 1) (by simp; omega)
                  simpa using this
                · have := HTT2.out
                  have := HTC.out
                  omega
              case measure =>
                have hu1 : usedOf g wX = total r := by
                  unfold usedOf
                  have := heap_cell HCX.out.head 1
                  simp at this
                  rw [this]
                  simp
                rw [hu1, HU0.out]
                have := HTC.out
                have := HSP.out
                omega
          · have dgo : decide (room < (total ys : Int)) = false := decide_eq_false hgo
            have HSt := Lib.hid (evict_stop hgo)
            clear hown hbw hev hgo hzs
            go_wp2_with fail
            go_region
            go_wp2_with fail
            go_end0
            refine ⟨rfl, its1, xb, a', kc', HWo.out, ⟨hxb, HAP.out⟩, ?_, Below.drewN HBW.out 1, HKT.out.drewN 1⟩
            rw [← HEV.out, HSt.out]
            exact HOW.out.drewN 1
      · have hno : ∀ i, i < its.length → ¬ ((its.getD i default).file = f ∧ (its.getD i default).blk = b) := fun i hi h => hyes ⟨i, hi, h.1, h.2⟩
        have hf := find_no hL hno
        have hlk1 : (Instr.lookup 50 (.map (some bm)) (.agg #[.int .i64 f, .int .i64 b]) true).run Try.prog wr.drew = .ok (.tuple #[.pointer none, .bool false]) wr.drew := by
          have := hlk 1
          rw [hf] at this
          exact this
        have HWo : Hid (Without f b its its) := .inr ⟨hno, rfl⟩
        clear hlk hf hyes hno hx hrow hb hca hbd hL hh hm hes
        go_wp2_with fail
        go_region
        have hXT : wr.drew.heap[xb]? = some (.cells #[.int .i64 f, .int .i64 b, .slice a' keys.length kc', .int .i64 (sizeK keys : Int), .pointer none, .pointer none] 49 (0, 0)) := HX.out
        have hRT : wr.drew.ownsRow w.heap.size 9 1 (.slice a' keys.length kc') keys.length (strsV keys) := HRow.out
        have hBT : Below B w wr.drew := Below.drewN (HB.out.mono hB) 1
        have hOT : OwnC B wr.drew g bm rb room (total its : Int) its := ⟨HCA.out.drewN 1, HO.out.2⟩
        have HBB : Hid (∀ j, j < its.length → (its.getD j default).b < w.heap.size) := fun j hj => HBD.out.2.2.2 j hj
        have htu : total its ≤ 1000000000 := ht
        have hKT : KeepT w wr.drew := (KeepT.of HB.out).drewN 1
        clear HCA HX HRow HB hlk1 g2 x0 x1
        generalize wr.drew = wT at *
        obtain ⟨its1, hits⟩ : ∃ its1, its1 = its := ⟨_, rfl⟩
        rw [← hits] at hOT HBB htu
        have HWo' : Hid (Without f b its its1) := by rw [hits]; exact HWo.out
        clear HWo hits
        have HWo := HWo'
        clear HWo'
        have HKT := Lib.hid hKT
        clear hKT
        have HXT := Lib.hid hXT
        have HRT := Lib.hid hRT
        have HBT := Lib.hid hBT
        have HOT := Lib.hid hOT
        obtain ⟨L1, hy1, hL1⟩ := hOT.1.cy
        obtain ⟨hh1, ⟨es1, clock1, hm1, hes1⟩, hrt1, hit1⟩ := hy1
        obtain ⟨hn1, hnn⟩ := without_names HWo.out HO.out.1.names
        have hnf := find_no hL1 hnn
        have hxi : ItemAt wT ⟨xb, f, b, a', kc', keys⟩ := ⟨⟨_, hXT, rfl⟩, heap_cell hXT 0, heap_cell hXT 1, heap_cell hXT 2, heap_cell hXT 3, row_cap hRT, row_keys hRT⟩
        have hcy : Cy wT g bm rb room (total its1 : Int) L1 (its1 ++ [⟨xb, f, b, a', kc', keys⟩]) := ⟨hh1, ⟨es1, clock1, hm1, hes1⟩, hrt1, fun x hx => by
          rcases List.mem_append.1 hx with hx | hx
          · exact hit1 x hx
          · simp only [List.mem_cons, List.not_mem_nil, or_false] at hx
            subst hx; exact hxi⟩
        have HCY := Lib.hid hcy
        have hput1 : (Instr.mapUpdate 50 (.map (some bm)) (.agg #[.int .i64 f, .int .i64 b]) (.pointer (some ⟨xb, 0, none⟩))).run Try.prog wT.drew = .ok () (withMap wT.drew bm (es1.push { key := nameV f b, val := ptrV xb, born := clock1 }) (clock1 + 1)) := run_put_at f b xb wT.drew bm L1 es1 clock1 hm1 hes1 hnf
        have y2 := heap_cell hh1 2
        simp at y2
        have z0 := heap_cell hXT 0
        have z1 := heap_cell hXT 1
        simp at z0 z1
        have HES1 := Lib.hid hes1
        have HL1 := Lib.hid hL1
        have HN1 := Lib.hid hn1
        have HNN := Lib.hid hnn
        clear hXT hRT hBT hOT hh1 hm1 hrt1 hit1 hnf hxi hcy hes1 hL1 hn1 hnn
        go_wp2_with fail
        go_region
        have hes2 : (es1.push { key := nameV f b, val := ptrV xb, born := clock1 }).toList.map (fun e => (e.key, e.val)) = (L1 ++ [(f, b, xb)]).map entK := by simp [HES1.out, entK]
        have HCU := Lib.hid ((HCY.out.drewN 1).turn (es1.push { key := nameV f b, val := ptrV xb, born := clock1 }) (clock1 + 1) hes2)
        have HBU := Lib.hid (below_map (Below.drewN HBT.out 1) HOT.out.2.2.1 (es1.push { key := nameV f b, val := ptrV xb, born := clock1 }) (clock1 + 1))
        have hwd0 : wT.drewN 1 = wT.drew := rfl
        rw [hwd0] at HCU HBU
        have HKU : Hid (KeepT w (withMap wT.drew bm (es1.push { key := nameV f b, val := ptrV xb, born := clock1 }) (clock1 + 1))) := by
          obtain ⟨_, ⟨e0, c0, q0, _⟩, _⟩ := HCY.out
          exact (HKT.out.drewN 1).turn (bm := bm) (es0 := e0) (c0 := c0) q0 _ _
        have hmm : ∃ e0 c0, wT.heap[bm]? = some (.map e0 c0) := by obtain ⟨_, ⟨e0, c0, q0, _⟩, _⟩ := HCY.out; exact ⟨e0, c0, q0⟩
        have hrw : ∀ j, ItemRow wT j → (withMap wT.drew bm (es1.push { key := nameV f b, val := ptrV xb, born := clock1 }) (clock1 + 1)).heap[j]? = wT.heap[j]? := fun j ⟨cs, hj, _⟩ => by
          obtain ⟨e0, c0, q0⟩ := hmm
          unfold withMap
          show (wT.heap.setIfInBounds bm _)[j]? = _
          rw [Array.getElem?_setIfInBounds_ne (by rintro rfl; rw [q0] at hj; simp at hj)]
        have HRU : Hid (Ring (withMap wT.drew bm (es1.push { key := nameV f b, val := ptrV xb, born := clock1 }) (clock1 + 1)) rb its1) := HOT.out.1.ring.same (fun j hj => hrw _ (HOT.out.1.posRow j hj))
        clear hmm hrw hput1 y2 z0 z1 hes2
        generalize withMap wT.drew bm (es1.push { key := nameV f b, val := ptrV xb, born := clock1 }) (clock1 + 1) = wU at *
        obtain ⟨cgu, _, _, ciu⟩ := HCU.out
        obtain ⟨hrx, _, _, _, i3, _, _⟩ := ciu ⟨xb, f, b, a', kc', keys⟩ (by simp)
        have g1 := heap_cell cgu 1
        simp at g1
        have fg := frozen_of_row wU g 1 _ _ cgu
        simp only at i3
        generalize hZK : sizeK keys = ZK at *
        have HZKe := Lib.hid hZK
        generalize hTT : total its1 = TT at *
        have HTT := Lib.hid hTT
        have hwr : IntKind.i64.wrap ((TT : Int) + (ZK : Int)) = (TT : Int) + (ZK : Int) := by rw [IntKind.wrap_i64]; omega
        clear cgu ciu hrx hZK hTT
        go_wp2_with fail
        go_region
        have HCV := Lib.hid ((HCU.out.use ((TT : Int) + (ZK : Int))).drewN 1)
        have HKV : Hid (KeepT w (wU.setCell ⟨g, 1, none⟩ (.int .i64 ((TT : Int) + (ZK : Int)))).drew) := (HKU.out.set HCU.out.1 (.inr rfl) 1 _).drewN 1
        have HBV := Lib.hid (Below.drewN (HBU.out.setCell (p := ⟨g, 1, none⟩) HOT.out.2.1 (.int .i64 ((TT : Int) + (ZK : Int)))) 1)
        have hgu : ∀ j, ItemRow wU j → (wU.setCell ⟨g, 1, none⟩ (.int .i64 ((TT : Int) + (ZK : Int)))).heap[j]? = wU.heap[j]? := fun j ⟨cs, hj, _⟩ => heap_setCell_other wU ⟨g, 1, none⟩ j _ (by
          rintro rfl
          have := HCU.out.1
          rw [this] at hj; simp at hj)
        have hpu : ∀ j, j ≤ its1.length → ItemRow wU (posC rb its1 j) := fun j hj => by
          unfold posC
          by_cases h0 : j = 0
          · rw [if_pos h0]; exact HCU.out.2.2.1
          · rw [if_neg h0]
            exact (HCU.out.2.2.2 _ (List.mem_append.2 (.inl (getD_mem (by omega))))).1
        have HRV : Hid (Ring ((wU.setCell ⟨g, 1, none⟩ (.int .i64 ((TT : Int) + (ZK : Int)))).drewN 1) rb its1) := HRU.out.same (fun j hj => hgu _ (hpu j hj))
        have hwd : (wU.setCell ⟨g, 1, none⟩ (.int .i64 ((TT : Int) + (ZK : Int)))).drewN 1 = (wU.setCell ⟨g, 1, none⟩ (.int .i64 ((TT : Int) + (ZK : Int)))).drew := rfl
        rw [hwd] at HCV HBV HRV
        clear hgu hpu g1 fg i3 hwr hwd
        generalize (wU.setCell ⟨g, 1, none⟩ (.int .i64 ((TT : Int) + (ZK : Int)))).drew = wV at *
        have hbd := HBD.out
        have hxb := HXB.out
        have hxr : xb ≠ rb := by omega
        have hxn : ∀ i, i < its1.length → (its1.getD i default).b ≠ xb := fun i hi => by
          have h1 := HBB.out i hi
          omega
        obtain ⟨l1, l2, l3, l4⟩ := HCV.out.lasted (its := its1) (x := ⟨xb, f, b, a', kc', keys⟩) (by simp) (fun y hy => List.mem_append.2 (.inl hy)) HRV.out HOT.out.1.apart hxr hxn
        have HLast := Lib.hid (last_any g xb (posC rb its1 its1.length) rb bm room ((TT : Int) + (ZK : Int)) wV HCV.out.1 (HCV.out.2.2.2 (⟨xb, f, b, a', kc', keys⟩ : It) (by simp)).1 l3 HCV.out.2.2.1 (HRV.out 0 (Nat.zero_le _)).2 l4 (fun e => hxr e.symm))
        have HKW := Lib.hid ((((HKV.out.item (HCV.out.2.2.2 (⟨xb, f, b, a', kc', keys⟩ : It) (by simp)).1 4 (ptrV (posC rb its1 its1.length))).item ((HCV.out.2.2.2 (⟨xb, f, b, a', kc', keys⟩ : It) (by simp)).1.set _ _ _) 5 (ptrV rb)).item ((l3.set _ _ _).set _ _ _) 5 (ptrV xb)).item (((HCV.out.2.2.1.set _ _ _).set _ _ _).set _ _ _) 4 (ptrV xb))
        simp only at HKW
        have HL1' := Lib.hid l1
        have HL2' := Lib.hid l2
        have HAp := Lib.hid (apart_snoc (x := ⟨xb, f, b, a', kc', keys⟩) HOT.out.1.apart hxr hxn)
        have HNm := Lib.hid (names_snoc (x := ⟨xb, f, b, a', kc', keys⟩) HN1.out HNN.out)
        have HPB : Hid (B ≤ posC rb its1 its1.length) := by
          show B ≤ posC rb its1 its1.length
          unfold posC
          by_cases h0 : its1.length = 0
          · rw [if_pos h0]; exact HOT.out.2.2.2.1
          · rw [if_neg h0]; exact HOT.out.2.2.2.2 _ (by omega)
        simp only at HL1' HL2'
        generalize posC rb its1 its1.length = PP at *
        clear l1 l2 l3 l4 hxr hxn hbd
        go_wp2_with fail
        refine HLast.out.mono ?_
        clear HLast
        rintro e wW ⟨rfl, kk, hwW⟩
        have HEv : Hid (EvRel B g bm rb room w (its1 ++ [(⟨xb, f, b, a', kc', keys⟩ : It)]) wW) := by
          have hperm : (L1 ++ [(f, b, xb)]).Perm ((its1 ++ [(⟨xb, f, b, a', kc', keys⟩ : It)]).map tri) := by
            rw [List.map_append]
            exact HL1.out.append_right _
          have htot : (TT : Int) + (ZK : Int) = (total (its1 ++ [(⟨xb, f, b, a', kc', keys⟩ : It)]) : Int) := by
            rw [total_snoc, HTT.out]
            show _ = ((TT + sizeK keys : Nat) : Int)
            rw [HZKe.out]; omega
          have hca := Ca.mk' (HL1'.out.drewN kk) hperm (fun x hx => hx) (HL2'.out.drewN kk) HAp.out HNm.out
          rw [← hwW, htot] at hca
          have hB1 : B ≤ xb := Nat.le_trans hB hxb
          show EvRel B g bm rb room w (its1 ++ [⟨xb, f, b, a', kc', keys⟩]) wW
          refine ⟨its1 ++ [⟨xb, f, b, a', kc', keys⟩], rfl, ⟨hca, HOT.out.2.1, HOT.out.2.2.1, HOT.out.2.2.2.1, fun j hj => ?_⟩, ?_, ?_, fun x hx => ?_, ?_⟩
          · simp only [List.length_append, List.length_cons, List.length_nil] at hj
            rw [snoc_getD _ _ j (by omega)]
            split
            · exact HOT.out.2.2.2.2 j (by omega)
            · exact hB1
          · rw [hwW]
            exact Below.drewN ((((HBV.out.setCell (p := ⟨xb, 4, none⟩) hB1 _).setCell (p := ⟨xb, 5, none⟩) hB1 _).setCell (p := ⟨PP, 5, none⟩) HPB.out _).setCell (p := ⟨rb, 4, none⟩) HOT.out.2.2.2.1 _) kk
          · rw [hwW]
            exact HKW.out.drewN kk
          · rcases List.mem_append.1 hx with hx | hx
            · have := mem_total hx
              rw [HTT.out] at this
              omega
            · simp only [List.mem_cons, List.not_mem_nil, or_false] at hx
              subst hx
              show sizeK keys ≤ _
              rw [HZKe.out]; omega
          · rw [total_snoc, HTT.out]
            show TT + sizeK keys ≤ _
            rw [HZKe.out]; omega
        clear HL1' HL2' HAp HNm HPB HBV HCV HRV HCU HBU HRU HCY HOT HBT HXT HRT hwW HKT HKU HKV HKW
        go_wp2_with fail
        go_loopw [] (fun wr => Hid (EvRel B g bm rb room w (its1 ++ [⟨xb, f, b, a', kc', keys⟩]) wr)) (fun wr => usedOf g wr)
        case atStart => exact HEv
        case round =>
          obtain ⟨ys, hev, hown, hbw, hkt, hzs, htt⟩ := hrel.out
          have HKT := Lib.hid hkt
          clear hkt
          clear hrel
          have cg := heap_cell hown.1.head 0
          have cg1 := heap_cell hown.1.head 1
          have cg3 := heap_cell hown.1.head 3
          simp at cg cg1 cg3
          unfold ptrV at cg3
          have HOW := Lib.hid hown
          have HBW := Lib.hid hbw
          have HEV := Lib.hid hev
          by_cases hgo : room < (total ys : Int)
          · have dgo : decide (room < (total ys : Int)) = true := decide_eq_true hgo
            cases ys with
            | nil =>
              exfalso
              have : total ([] : List It) = 0 := rfl
              rw [this] at hgo
              omega
            | cons y r =>
              have hrt := (hown.1.ring 0 (Nat.zero_le _)).1
              have hnx : nxI (y :: r).length 0 = 1 := by unfold nxI; rw [if_neg (by simp)]
              rw [hnx] at hrt
              have hp1 : posC rb (y :: r) 1 = y.b := rfl
              have hp0 : posC rb (y :: r) 0 = rb := rfl
              rw [hp1, hp0] at hrt
              unfold ptrV at hrt
              have hes := evict_step hgo
              have hsz := hzs y (by simp)
              have htc := total_cons y r
              have hsp : 1 ≤ sizeK y.keys := by unfold sizeK; omega
              have HRem := Lib.hid (remove_any g bm rb room (total (y :: r) : Int) (y :: r) (wr.drewN 1) (hown.1.drewN 1) 0 (by simp) (by omega) hsz)
              have hy0 : (y :: r).getD 0 default = y := rfl
              have he0 : (y :: r).eraseIdx 0 = r := rfl
              rw [hy0, he0] at HRem
              have hwd2 : wr.drewN 1 = wr.drew := rfl
              rw [hwd2] at HRem
              have HES := Lib.hid (hev.symm.trans hes)
              have HTC := Lib.hid htc
              have HSP := Lib.hid hsp
              have HZS : Hid (∀ x ∈ r, sizeK x.keys ≤ 1000000000) := fun x hx => hzs x (List.mem_cons_of_mem _ hx)
              have HU0 : Hid (usedOf g wr = total (y :: r)) := by
                show usedOf g wr = _
                unfold usedOf
                rw [cg1]
                simp
              have HTT2 : Hid (total (y :: r) ≤ 100000000000) := htt
              generalize hyb : y.b = yb at *
              clear hown hbw hev hgo hzs hes hsz htc hsp hp1 hp0 hnx hy0 he0 hwd2 htt hyb
              go_wp2_with fail
              go_region
              go_wp2_with fail
              refine HRem.out.mono ?_
              clear HRem
              rintro e wX ⟨rfl, hcx, hux, _⟩
              have htr : (total (y :: r) : Int) - (sizeK y.keys : Int) = (total r : Int) := by have := HTC.out; omega
              rw [htr] at hcx
              have HCX := Lib.hid hcx
              have HUX := Lib.hid hux
              clear hcx hux htr
              go_wp2_with fail
              go_roundw
              case rel =>
                refine ⟨r, HES.out.symm, ⟨HCX.out, HOW.out.2.1, HOW.out.2.2.1, HOW.out.2.2.2.1, fun j hj => ?_⟩, (Below.drewN HBW.out 1).trans (HUX.out.below HOW.out.2.1 HOW.out.2.2.1 HOW.out.2.2.2.1 HOW.out.2.2.2.2 (Nat.le_trans hB HBW.out.size)), (HKT.out.drewN 1).trans (keep_turned (HOW.out.1.drewN 1) HUX.out), HZS.out, ?_⟩
                · have := HOW.out.2.2.2.2 (j + 1) (by simp; omega)
                  simpa using this
                · have := HTT2.out
                  have := HTC.out
                  omega
              case measure =>
                have hu1 : usedOf g wX = total r := by
                  unfold usedOf
                  have := heap_cell HCX.out.head 1
                  simp at this
                  rw [this]
                  simp
                rw [hu1, HU0.out]
                have := HTC.out
                have := HSP.out
                omega
          · have dgo : decide (room < (total ys : Int)) = false := decide_eq_false hgo
            have HSt := Lib.hid (evict_stop hgo)
            clear hown hbw hev hgo hzs
            go_wp2_with fail
            go_region
            go_wp2_with fail
            go_end0
            refine ⟨rfl, its1, xb, a', kc', HWo.out, ⟨hxb, HAP.out⟩, ?_, Below.drewN HBW.out 1, HKT.out.drewN 1⟩
            rw [← HEV.out, HSt.out]
            exact HOW.out.drewN 1
end Go.Proofs.Ytacjbgmnoiimbac
