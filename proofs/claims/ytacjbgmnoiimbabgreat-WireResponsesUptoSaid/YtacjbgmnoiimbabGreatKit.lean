/- Small laws beside the guide's own: slices of bytes and of texts, rows of the call's own, cuts, appends. -/
import Derived.WalkKit
import Derived.ProofKit
import Derived.OpenShut
import Derived.ShutString
import Derived.ChangeOld
import Derived.Below
import Derived.SliceStrings
import Derived.WalkLawsBesides
import Derived.Lib.Hide
import Derived.Maps.AppendAt
import Derived.Deep.QuietTactic
import Derived.BigQuiet
import Derived.Deep.DeepCutAuto
import Derived.Deep.RegionWith
namespace Go.Proofs.YtacjbgmnoiimbabGreat
open Go.ChangeShapes Go.WideShapes Go.ChangeAt Go.RowKit
open Go.ChangeMaps (open_string shut_string)

theorem grownBy_trans {a b c : World} {r : Option Nat} (h : a.grownBy b r) (k : b.grownBy c r) : a.grownBy c r :=
  ⟨k.os.trans h.os, k.tape.trans h.tape, k.output.trans h.output, Nat.le_trans h.size k.size, fun i hi hr => (k.block i (Nat.lt_of_lt_of_le hi h.size) hr).trans (h.block i hi hr)⟩
/-- 'append(out, u)': out nil or the call's own, u one cell, laid just before in a block of its own. -/
theorem wpList_append_one {P : Program} (w : World) {ops : Array Oper} {rest : List Oper} {o : Oper} {a : Act} {Q : Exit → Act → World → Prop} (hgd : o.guard = none) (s x : Operand) (t : TypeId)
    (ho : o.op = .call { callee := .builtin .append, args := #[s, x], argTypes := #[t, t] })
    (base : Nat) (e : TypeId) (i : TypeInfo) (z : Value) (bytes : Nat) (ht : P.underlying t = some (.slice e)) (hi : P.info? e = some i) (hz : i.zero = some z)
    (hsize : i.size = 1) (hby : i.bytes = bytes) (hzs : z.cells.size = 1)
    (v : Value) (n : Nat) (xs : List Value) (hs : a.eval s = v) (hown : w.ownsRow base e 1 v n xs)
    (u : Value) (c : Nat) (hx : a.eval x = .slice (some ⟨w.heap.size, 0, none⟩) 1 c) (hu : u.oneCell' = true)
    (h63 : n + 1 ≤ 9223372036854775807) (hbytes : (n + 1) * bytes ≤ 140737488355328) (hbase : base ≤ w.heap.size)
    (h : ∀ v' w', w'.ownsRow base e 1 v' (n + 1) (xs ++ [u]) → w.grownBy w' v.ownBlock → v' ≠ .slice none 0 0 → wpList P ops Q rest (a.put o.dst v') w') :
    wpList P ops Q (o :: rest) a (w.alloc (.cells #[u] e)) := by
  refine wpList_append_own _ hgd s x t ho base e i z 1 bytes ht hi hz hsize hby hzs (by decide) v n xs hs (hown.alloc _) ⟨w.heap.size, 0, none⟩ 1 c [u] hx rfl (cell_one_new _ _ _) (by simpa using hu) (by unfold maxLen; omega) hbytes (by simp; omega) ?_
  intro v' w' h1 h2 h3
  exact h v' w' h1 (grownBy_trans (World.grownBy_alloc w _ _) h2) (fun e => by simp [h3] at e)

/-- 'make([]T, l, c)' of one-cell elements: l zero elements are owned, there is room for c. -/
theorem wpList_make_cap {P : Program} (w : World) {ops : Array Oper} {rest : List Oper} {o : Oper} {a : Act} {Q : Exit → Act → World → Prop}
    (hg : o.guard = none) (l c : Operand) (t : TypeId) (hop : o.op = Op.makeSlice t l c)
    (base : Nat) (e : TypeId) (i : TypeInfo) (z : Value) (h1 : P.underlying t = some (.slice e)) (h2 : P.info? e = some i) (h3 : i.zero = some z) (h4 : i.size = 1) (hzc : z.cells = #[z])
    (kl kc : IntKind) (L C : Int) (n m : Nat) (hl : a.eval l = .int kl L) (hc : a.eval c = .int kc C) (hL : L = (n : Int)) (hC : C = (m : Int)) (hnm : n ≤ m) (b2 : i.bytes * m ≤ 281474976710656) (b3 : m ≤ 9223372036854775807) (b4 : base ≤ w.heap.size)
    (hK : ∀ w', w'.ownsRow base e 1 (.slice (some ⟨w.heap.size, 0, none⟩) n m) n (List.replicate n z) → w.grownBy w' none → wpList P ops Q rest (a.put o.dst (.slice (some ⟨w.heap.size, 0, none⟩) n m)) w') :
    wpList P ops Q (o :: rest) a w := by
  refine wpList_plain hg fun K hK' => ?_
  have hb' : (i.bytes : Int) * (m : Int) ≤ 281474976710656 := by
    have h : ((i.bytes * m : Nat) : Int) ≤ 281474976710656 := by omega
    rwa [Int.natCast_mul] at h
  have hr := run_make (P := P) w t e i z h1 h2 h3 kl kc n m (by omega) (by omega) hb' (by omega)
  simp only [Int.toNat_natCast, h4, Nat.mul_one, hzc] at hr
  subst hL hC
  unfold Oper.wp
  simp [execOp, hop, hl, hc, hr, Result.andThen]
  refine hK' _ _ (hK _ ⟨by simp, .inr ⟨w.heap.size, m, _, rfl, b4, heap_alloc_new w _, hnm, by unfold maxLen; omega, by rw [Nat.mul_one]; exact size_madeCells _ _, ?_⟩⟩ (World.grownBy_alloc w _ _))
  rw [toList_madeCells_one, Nat.mul_one, List.take_replicate, Nat.min_eq_left hnm]

theorem Below.drewN {B : Nat} {a w : World} (h : Below B a w) (n : Nat) : Below B a (w.drewN n) := ⟨h.os, h.tape, h.output, h.size, h.block⟩
theorem Below.own {B B' : Nat} {a w w' : World} {e : TypeId} {size : Nat} {v : Value} {n : Nat} {xs : List Value} (h : Below B a w) (hown : w.ownsRow B' e size v n xs) (hB : B ≤ B') (hBw : B ≤ w.heap.size)
    (hg : w.grownBy w' v.ownBlock) : Below B a w' :=
  h.grown hg hBw (fun k hk => Nat.le_trans hB (hown.lt k hk).1)
theorem Below.none {B : Nat} {a w w' : World} (h : Below B a w) (hBw : B ≤ w.heap.size) (hg : w.grownBy w' none) : Below B a w' :=
  h.grown hg hBw (fun k hk => by cases hk)
/-- what a row owns stays owned while nothing below the heap's end turns -/
theorem Below.row {w w' : World} {base : Nat} {e : TypeId} {size : Nat} {v : Value} {n : Nat} {xs : List Value} (h : Below w.heap.size w w') (hown : w.ownsRow base e size v n xs) : w'.ownsRow base e size v n xs :=
  hown.kept (row := Option.none) ⟨h.os, h.tape, h.output, h.size, fun k hk _ => h.block k hk⟩ (by cases v.ownBlock <;> simp)
theorem row_shape {w : World} {base : Nat} {e : TypeId} {size : Nat} {v : Value} {n : Nat} {xs : List Value} (h : w.ownsRow base e size v n xs) (hn : 0 < n) :
    ∃ g cap, v = .slice (some ⟨g, 0, none⟩) n cap ∧ base ≤ g ∧ g < w.heap.size ∧ n ≤ cap := by
  rcases h.2 with ⟨_, h0⟩ | ⟨g, cap, cur, hv, hb, hg, hc, _⟩
  · omega
  · exact ⟨g, cap, hv, hb, (Array.getElem?_eq_some_iff.1 hg).1, hc⟩

theorem row_base {w : World} {base : Nat} {e : TypeId} {size g n cap : Nat} {xs : List Value} (h : w.ownsRow base e size (.slice (some ⟨g, 0, none⟩) n cap) n xs) {b : Nat} (hb : b ≤ g) : w.ownsRow b e size (.slice (some ⟨g, 0, none⟩) n cap) n xs := by
  refine ⟨h.1, ?_⟩
  rcases h.2 with ⟨h0, _⟩ | ⟨g', cap', cur, hv, _, r⟩
  · cases h0
  · cases hv
    exact .inr ⟨_, _, cur, rfl, hb, r⟩
theorem ret_i64 {a b : Int} (h : a = b) : Ending.returned (.int .i64 a) = .returned (.int .i64 b) := by rw [h]
theorem ret_bool {a b : Bool} (h : a = b) : Ending.returned (.bool a) = .returned (.bool b) := by rw [h]
/-- v is a slice of texts, and they are l. -/
def IsStrs (w : World) (a : Option Addr) (l : List ByteArray) : Prop :=
  0 < l.length → ∃ b off, a = some ⟨b, off, none⟩ ∧ b < w.heap.size ∧ ∀ k, k < l.length → w.cell? ⟨b, off + k, none⟩ = some (.string (l.getD k ByteArray.empty))
/-- v is a slice of bytes, and they are l. -/
def IsBytes (w : World) (a : Option Addr) (l : List UInt8) : Prop :=
  0 < l.length → ∃ b off, a = some ⟨b, off, none⟩ ∧ b < w.heap.size ∧ ∀ k, k < l.length → w.cell? ⟨b, off + k, none⟩ = some (.int .u8 ((l.getD k 0).toNat : Int))

theorem IsBytes.below {w w' : World} {a : Option Addr} {l : List UInt8} (h : IsBytes w a l) (hb : Below w.heap.size w w') : IsBytes w' a l := by
  intro h0
  obtain ⟨b, off, ha, hbw, hc⟩ := h h0
  exact ⟨b, off, ha, Nat.lt_of_lt_of_le hbw hb.size, fun k hk => (hb.cell (p := ⟨b, off + k, none⟩) hbw).trans (hc k hk)⟩
theorem IsStrs.below {w w' : World} {a : Option Addr} {l : List ByteArray} (h : IsStrs w a l) (hb : Below w.heap.size w w') : IsStrs w' a l := by
  intro h0
  obtain ⟨b, off, ha, hbw, hc⟩ := h h0
  exact ⟨b, off, ha, Nat.lt_of_lt_of_le hbw hb.size, fun k hk => (hb.cell (p := ⟨b, off + k, none⟩) hbw).trans (hc k hk)⟩

def bytesV (l : List UInt8) : List Value := l.map fun c => .int .u8 (c.toNat : Int)
theorem length_bytesV (l : List UInt8) : (bytesV l).length = l.length := by simp [bytesV]
theorem bytesV_get (l : List UInt8) (i : Nat) (h : i < l.length) : (bytesV l)[i]? = some (.int .u8 ((l.getD i 0).toNat : Int)) := by simp [bytesV, h]
theorem bytesV_set (l : List UInt8) (i : Nat) (c : UInt8) : (bytesV l).set i (.int .u8 (c.toNat : Int)) = bytesV (l.set i c) := by simp [bytesV, List.map_set]
theorem bytesV_append (l r : List UInt8) : bytesV (l ++ r) = bytesV l ++ bytesV r := by simp [bytesV]
theorem bytesV_one (l : List UInt8) : ∀ u ∈ bytesV l, u.oneCell' = true := by
  intro u hu
  obtain ⟨_, _, rfl⟩ := List.mem_map.1 hu
  rfl
theorem isBytes_row {w : World} {base : Nat} {g n cap : Nat} {l : List UInt8} (h : w.ownsRow base 5 1 (.slice (some ⟨g, 0, none⟩) n cap) n (bytesV l)) : IsBytes w (some ⟨g, 0, none⟩) l := by
  intro _
  have hn : l.length = n := by have := h.1; rw [length_bytesV] at this; omega
  refine ⟨g, 0, rfl, (h.lt g rfl).2, fun k hk => ?_⟩
  rw [Nat.zero_add]
  exact (h.cellAt k (by omega)).trans (bytesV_get l k hk)

theorem push_fold (l : List UInt8) : ∀ s : ByteArray, (l.map (fun c : UInt8 => (c.toNat : Int))).foldl (fun r n => r.push (UInt8.ofNat n.toNat)) s = ⟨s.data ++ l.toArray⟩ := by
  induction l with
  | nil => intro s; cases s; simp
  | cons c r ih =>
    intro s
    rw [List.map_cons, List.foldl_cons, ih]
    cases s
    simp [ByteArray.push]
theorem run_string_of_bytes {P : Program} (w : World) (src dst e : TypeId) (a : Option Addr) (n cap : Nat) (l : List UInt8) (hn : l.length = n)
    (hs : P.underlying src = some (.slice e)) (he : P.underlying e = some (.int .u8)) (hd : P.underlying dst = some .string) (h : IsBytes w a l) :
    (convert src dst (.slice a n cap)).run P w = .ok (.string ⟨l.toArray⟩) w := by
  subst hn
  rw [run_convert_bytes_string w src dst e a _ cap hs he hd]
  cases a with
  | none =>
    have : l = [] := by
      cases l with
      | nil => rfl
      | cons c r => obtain ⟨b, off, h0, _⟩ := h (by simp); cases h0
    subst this
    rfl
  | some ad =>
    have hl : (loadCells ad l.length).run P w = .ok ((l.map (fun c : UInt8 => (c.toNat : Int))).map (Value.int .u8)).toArray w := by
      have hc : ∀ j v, (bytesV l)[j]? = some v → w.cell? (ad.add j) = some v := by
        intro j v hv
        have hj : j < l.length := by have := (List.getElem?_eq_some_iff.1 hv).1; rwa [length_bytesV] at this
        obtain ⟨b, off, h0, _, hc⟩ := h (by omega)
        cases h0
        rw [bytesV_get l j hj] at hv
        cases hv
        rw [← hc j hj, Addr.add_lit]
      have := run_loadCells_list (P := P) (w := w) ad (bytesV l) hc
      rw [length_bytesV] at this
      rw [this]
      simp [bytesV]
    rw [run_bytesToString w ad _ cap _ hl, push_fold]
    simp
theorem bytes_of_ints {w : World} {x : Addr} {len : Nat} {zs : List Int} (hl : len ≤ zs.length) (hc : ∀ i, i < zs.length → w.cell? (x.add i) = some (.int .u8 (zs.getD i 0))) (hw : ∀ n ∈ zs, (Lit.int .u8 n).wf = true) :
    ∃ l : List UInt8, l.length = len ∧ IsBytes w (some x) l := by
  refine ⟨(zs.take len).map (fun n => UInt8.ofNat n.toNat), by simp; omega, ?_⟩
  intro h0
  have h0' : 0 < len := by simpa [Nat.min_eq_left hl] using h0
  obtain ⟨b, off, spot⟩ := x
  have hc0 := hc 0 (by omega)
  have hspot : spot = none := by simpa [Addr.add] using World.cell?_spot hc0
  subst hspot
  refine ⟨b, off, rfl, ?_, ?_⟩
  · have := World.block_lt_of_cell? w _ hc0
    simpa [Addr.add] using this
  · intro k hk
    have hk' : k < len := by simpa [Nat.min_eq_left hl] using hk
    have h := hc k (by omega)
    rw [Addr.add_lit] at h
    rw [h]
    have hz : zs.getD k 0 ∈ zs := by simp only [List.getD, show k < zs.length by omega, List.getElem?_eq_getElem, Option.getD_some, List.getElem_mem]
    have hb := bounds_u8 (hw _ hz)
    congr 2
    simp only [List.getD, List.getElem?_map, List.getElem?_take, hk', ↓reduceIte, show k < zs.length by omega, List.getElem?_eq_getElem, Option.map_some, Option.getD_some]
    simp only [List.getD, show k < zs.length by omega, List.getElem?_eq_getElem, Option.getD_some] at hb
    rw [UInt8.toNat_ofNat']
    omega

theorem strs_of_cells {w : World} {x : Addr} {len : Nat} {ss : List ByteArray} (hl : len ≤ ss.length) (hc : ∀ i, i < ss.length → w.cell? (x.add i) = some (.string (ss.getD i ByteArray.empty))) :
    ∃ l : List ByteArray, l.length = len ∧ (∀ s ∈ l, s ∈ ss) ∧ IsStrs w (some x) l := by
  refine ⟨ss.take len, by simp; omega, fun s hs => List.mem_of_mem_take hs, ?_⟩
  intro h0
  have h0' : 0 < len := by simpa [Nat.min_eq_left hl] using h0
  obtain ⟨b, off, spot⟩ := x
  have hc0 := hc 0 (by omega)
  have hspot : spot = none := by simpa [Addr.add] using World.cell?_spot hc0
  subst hspot
  refine ⟨b, off, rfl, ?_, ?_⟩
  · have := World.block_lt_of_cell? w _ hc0
    simpa [Addr.add] using this
  · intro k hk
    have hk' : k < len := by simpa [Nat.min_eq_left hl] using hk
    have h := hc k (by omega)
    rw [Addr.add_lit] at h
    rw [h]
    simp [List.getD, hk']

/-- an argument of a type of slices of bytes -/
theorem view_bytes {H : Type} {enc : TypeId × Value → H} {P : Program} {W : World} {t e : TypeId} {a : Option Addr} {len cap : Nat} {d : DataW H} {p : List MemPlace}
    (ht : P.underlying t = some (.slice e)) (he : P.underlying e = some (.int .u8)) (hc : P.cellsOf e = 1) (h : DataW.Trod enc P W 0 (fun _ => true) true t (.slice a len cap) d p) :
    ∃ l : List UInt8, l.length = len ∧ len ≤ 9223372036854775807 ∧ len ≤ cap ∧ IsBytes W a l := by
  obtain ⟨fuel, hf⟩ := h
  rcases open_ints ht he hc hf with ⟨hcs, _⟩ | ⟨x, l, c, zs, hcs, _, hl, hm, hz, _, hcell, hwz⟩
  · simp [Value.cells] at hcs
    obtain ⟨rfl, rfl, rfl⟩ := hcs
    exact ⟨[], rfl, by omega, by omega, fun h => by cases h⟩
  · simp [Value.cells] at hcs
    obtain ⟨rfl, rfl, rfl⟩ := hcs
    simp only [if_true] at hz
    obtain ⟨y, hy, hv⟩ := bytes_of_ints (len := len) (by omega) hcell hwz
    unfold maxLen at hm
    exact ⟨y, hy, by omega, hl, hv⟩
/-- an argument of a type of slices of texts -/
theorem view_strs {H : Type} {enc : TypeId × Value → H} {P : Program} {W : World} {t e : TypeId} {a : Option Addr} {len cap : Nat} {d : DataW H} {p : List MemPlace}
    (ht : P.underlying t = some (.slice e)) (he : P.underlying e = some .string) (hc : P.cellsOf e = 1) (h : DataW.Trod enc P W 0 (fun _ => true) true t (.slice a len cap) d p) :
    ∃ l : List ByteArray, l.length = len ∧ len ≤ 9223372036854775807 ∧ len ≤ cap ∧ (∀ s ∈ l, s.size ≤ 9223372036854775807) ∧ IsStrs W a l := by
  obtain ⟨fuel, hf⟩ := h
  rcases open_strings ht he hc hf with ⟨hcs, _⟩ | ⟨x, l, c, ss, hcs, _, hl, hm, hz, _, hcell, hws⟩
  · simp [Value.cells] at hcs
    obtain ⟨rfl, rfl, rfl⟩ := hcs
    exact ⟨[], rfl, by omega, by omega, (fun s h => (by cases h)), (fun h => (by cases h))⟩
  · simp [Value.cells] at hcs
    obtain ⟨rfl, rfl, rfl⟩ := hcs
    simp only [if_true] at hz
    obtain ⟨y, hy, hin, hv⟩ := strs_of_cells (len := len) (by omega) hcell
    unfold maxLen at hm hws
    exact ⟨y, hy, by omega, hl, fun s h => by have := hws s (hin s h); omega, hv⟩
end Go.Proofs.YtacjbgmnoiimbabGreat
namespace Go.Proofs.YtacjbgmnoiimbabGreat
set_option linter.unusedVariables false
set_option linter.unusedSimpArgs false
open Go.RowKit

/-- where a cut of a slice of one-cell elements begins -/
def cutA (a : Option Addr) (cap lo : Nat) : Option Addr := if cap = lo then a else a.map (·.add lo)
theorem cutA_bytes {w : World} {a : Option Addr} {l : List UInt8} {cap lo hi : Nat} (h : IsBytes w a l) (hl : hi ≤ l.length) (hc : l.length ≤ cap) : IsBytes w (cutA a cap lo) ((l.take hi).drop lo) := by
  intro h0
  have hlen : ((l.take hi).drop lo).length = hi - lo := by rw [List.length_drop, List.length_take]; omega
  obtain ⟨b, off, rfl, hb, hcell⟩ := h (by omega)
  refine ⟨b, off + lo, ?_, hb, ?_⟩
  · unfold cutA
    rw [if_neg (by omega)]
    simp [Addr.add_lit]
  · intro k hk
    have := hcell (lo + k) (by omega)
    rw [Nat.add_assoc, this]
    have e : ((l.take hi).drop lo).getD k 0 = l.getD (lo + k) 0 := by
      rw [List.getD_eq_getElem?_getD, List.getElem?_drop, List.getElem?_take, if_pos (by omega), ← List.getD_eq_getElem?_getD]
    rw [e]
theorem cutA_some (b off cap lo : Nat) : ∃ off', cutA (some ⟨b, off, none⟩) cap lo = some ⟨b, off', none⟩ := by
  unfold cutA
  split
  · exact ⟨_, rfl⟩
  · exact ⟨off + lo, by simp [Addr.add_lit]⟩

section
variable {P : Program} (w : World) {ops : Array Oper} {rest : List Oper} {o : Oper} {A : Act} {Q : Exit → Act → World → Prop}
theorem run_slice_lh1 (T e : TypeId) (i : TypeInfo) (ht : P.underlying T = some (.slice e)) (hi : P.info? e = some i) (hz : i.size = 1) (a : Option Addr) (len cap L H : Nat) (kl kh : IntKind) (h1 : L ≤ H) (h2 : H ≤ cap) :
    (Instr.slice T (.slice a len cap) (some (.int kl (L : Int))) (some (.int kh (H : Int))) none).run P w = .ok (.slice (cutA a cap L) (H - L) (cap - L)) w := by
  simp [Instr.slice, run_underlying ht, Instr.sliceBounds, run_sliceBound, cutA, sizeOf, typeInfo, hi, hz, h1, h2]
theorem run_slice_h1 (T e : TypeId) (i : TypeInfo) (ht : P.underlying T = some (.slice e)) (hi : P.info? e = some i) (hz : i.size = 1) (a : Option Addr) (len cap H : Nat) (kh : IntKind) (h2 : H ≤ cap) :
    (Instr.slice T (.slice a len cap) none (some (.int kh (H : Int))) none).run P w = .ok (.slice (cutA a cap 0) H cap) w := by
  simp [Instr.slice, run_underlying ht, Instr.sliceBounds, run_sliceBound, cutA, sizeOf, typeInfo, hi, hz, h2]
theorem run_slice_l1 (T e : TypeId) (i : TypeInfo) (ht : P.underlying T = some (.slice e)) (hi : P.info? e = some i) (hz : i.size = 1) (a : Option Addr) (len cap L : Nat) (kl : IntKind) (h1 : L ≤ len) :
    (Instr.slice T (.slice a len cap) (some (.int kl (L : Int))) none none).run P w = .ok (.slice (cutA a cap L) (len - L) (cap - L)) w := by
  simp [Instr.slice, run_underlying ht, Instr.sliceBounds, run_sliceBound, cutA, sizeOf, typeInfo, hi, hz, h1]
theorem wpList_slice_lh (hgd : o.guard = none) (x lo hi : Operand) (T : TypeId) (ho : o.op = .slice T x (some lo) (some hi) none) (e : TypeId) (i : TypeInfo) (ht : P.underlying T = some (.slice e)) (hi' : P.info? e = some i) (hz : i.size = 1)
    (a : Option Addr) (len cap L H : Nat) (hx : A.eval x = .slice a len cap) (kl kh : IntKind) (li hiI : Int) (hl : A.eval lo = .int kl li) (hh : A.eval hi = .int kh hiI) (el : li = L) (eh : hiI = H) (h1 : L ≤ H) (h2 : H ≤ cap)
    (h : ∀ a', a' = cutA a cap L → wpList P ops Q rest (A.put o.dst (.slice a' (H - L) (cap - L))) w) : wpList P ops Q (o :: rest) A w := by
  refine wpList_plain hgd fun K hK => ?_
  subst el eh
  have hr := run_slice_lh1 (P := P) w T e i ht hi' hz a len cap L H kl kh h1 h2
  unfold Oper.wp
  simp [execOp, ho, Instr.sliceAt, run_underlying ht, hx, hl, hh, hr, Result.andThen]
  exact hK _ _ (h _ rfl)
theorem wpList_slice_h (hgd : o.guard = none) (x hi : Operand) (T : TypeId) (ho : o.op = .slice T x none (some hi) none) (e : TypeId) (i : TypeInfo) (ht : P.underlying T = some (.slice e)) (hi' : P.info? e = some i) (hz : i.size = 1)
    (a : Option Addr) (len cap H : Nat) (hx : A.eval x = .slice a len cap) (kh : IntKind) (hiI : Int) (hh : A.eval hi = .int kh hiI) (eh : hiI = H) (h2 : H ≤ cap)
    (h : ∀ a', a' = cutA a cap 0 → wpList P ops Q rest (A.put o.dst (.slice a' H cap)) w) : wpList P ops Q (o :: rest) A w := by
  refine wpList_plain hgd fun K hK => ?_
  subst eh
  have hr := run_slice_h1 (P := P) w T e i ht hi' hz a len cap H kh h2
  unfold Oper.wp
  simp [execOp, ho, Instr.sliceAt, run_underlying ht, hx, hh, hr, Result.andThen]
  exact hK _ _ (h _ rfl)
theorem wpList_slice_l (hgd : o.guard = none) (x lo : Operand) (T : TypeId) (ho : o.op = .slice T x (some lo) none none) (e : TypeId) (i : TypeInfo) (ht : P.underlying T = some (.slice e)) (hi' : P.info? e = some i) (hz : i.size = 1)
    (a : Option Addr) (len cap L : Nat) (hx : A.eval x = .slice a len cap) (kl : IntKind) (li : Int) (hl : A.eval lo = .int kl li) (el : li = L) (h1 : L ≤ len)
    (h : ∀ a', a' = cutA a cap L → wpList P ops Q rest (A.put o.dst (.slice a' (len - L) (cap - L))) w) : wpList P ops Q (o :: rest) A w := by
  refine wpList_plain hgd fun K hK => ?_
  subst el
  have hr := run_slice_l1 (P := P) w T e i ht hi' hz a len cap L kl h1
  unfold Oper.wp
  simp [execOp, ho, Instr.sliceAt, run_underlying ht, hx, hl, hr, Result.andThen]
  exact hK _ _ (h _ rfl)

/-- 'append(out, x...)': out nil or the call's own, x bytes (nil, empty or not). -/
theorem wpList_append_bytes (hgd : o.guard = none) (s x : Operand) (t : TypeId) (ho : o.op = .call { callee := .builtin .append, args := #[s, x], argTypes := #[t, t] })
    (base : Nat) (e : TypeId) (i : TypeInfo) (z : Value) (ht : P.underlying t = some (.slice e)) (hi : P.info? e = some i) (hz : i.zero = some z) (hsize : i.size = 1) (hby : i.bytes = 1) (hzs : z.cells.size = 1)
    (v : Value) (n : Nat) (xs : List Value) (hs : A.eval s = v) (hown : w.ownsRow base e 1 v n xs) (ad : Option Addr) (m c : Nat) (l : List UInt8) (hx : A.eval x = .slice ad m c) (hm : l.length = m) (hb : IsBytes w ad l)
    (hbd : n + m ≤ 140737488355328) (hbase : base ≤ w.heap.size)
    (h : ∀ v' w', w'.ownsRow base e 1 v' (n + m) (xs ++ bytesV l) → w.grownBy w' v.ownBlock → (v' = .slice none 0 0 → v = .slice none 0 0 ∧ m = 0) → wpList P ops Q rest (A.put o.dst v') w') : wpList P ops Q (o :: rest) A w := by
  subst hm
  cases ad with
  | some ad =>
    refine wpList_append_own w hgd s x t ho base e i z 1 1 ht hi hz hsize hby hzs (by decide) v n xs hs hown ad l.length c (bytesV l) hx (by rw [length_bytesV, Nat.mul_one]) ?_ (bytesV_one l) (by unfold maxLen; omega) (by omega) hbase (fun v' w' h1 h2 h3 => h v' w' h1 h2 (fun e => h3.1 e))
    intro j u hj
    have hjl : j < l.length := by have := (List.getElem?_eq_some_iff.1 hj).1; rwa [length_bytesV] at this
    obtain ⟨b, off, h0, _, hc⟩ := hb (by omega)
    cases h0
    rw [bytesV_get l j hjl] at hj
    cases hj
    rw [Addr.add_lit]
    exact hc j hjl
  | none =>
    have hl : l = [] := by
      cases l with
      | nil => rfl
      | cons c r => obtain ⟨b, off, h0, _⟩ := hb (by simp); cases h0
    subst hl
    have hr : (Builtin.append_ #[t, t] o.type #[v, .slice none 0 c]).run P w = .ok v w := by
      rcases hown.2 with ⟨rfl, rfl⟩ | ⟨g, cap, cur, rfl, _, _, hnc, _⟩
      · simp [Builtin.append_, run_underlying ht, sizeOf, typeInfo, hi, Builtin.lenOf, Builtin.firstCells]
      · simp [Builtin.append_, run_underlying ht, sizeOf, typeInfo, hi, Builtin.lenOf, Builtin.firstCells, hnc, storeCells]
    refine wpList_plain hgd fun K hK => ?_
    unfold Oper.wp execOp
    simp only [ho, resolve, invoke, builtin, Sem.run_bind, Sem.run_pure, Result.andThen_ok, List.map_toArray, List.map_cons, List.map_nil, hs, hx]
    simp only [List.length_nil]
    rw [hr]
    exact hK _ _ (h v w (by simpa [bytesV] using hown) (World.grownBy.refl _ _) (fun e => ⟨e, rfl⟩))
/-- 'append(out, a, b, c, d)': four bytes, laid just before in a block of their own -/
theorem wpList_append_four (hgd : o.guard = none) (s x : Operand) (t : TypeId) (ho : o.op = .call { callee := .builtin .append, args := #[s, x], argTypes := #[t, t] })
    (base : Nat) (e : TypeId) (i : TypeInfo) (z : Value) (ht : P.underlying t = some (.slice e)) (hi : P.info? e = some i) (hz : i.zero = some z) (hsize : i.size = 1) (hby : i.bytes = 1) (hzs : z.cells.size = 1)
    (v : Value) (n : Nat) (xs : List Value) (hs : A.eval s = v) (hown : w.ownsRow base e 1 v n xs) (x1 x2 x3 x4 : Int) (c : Nat) (hx : A.eval x = .slice (some ⟨w.heap.size, 0, none⟩) 4 c)
    (hbd : n + 4 ≤ 140737488355328) (hbase : base ≤ w.heap.size)
    (h : ∀ v' w', w'.ownsRow base e 1 v' (n + 4) (xs ++ [.int .u8 x1, .int .u8 x2, .int .u8 x3, .int .u8 x4]) → w.grownBy w' v.ownBlock → wpList P ops Q rest (A.put o.dst v') w') :
    wpList P ops Q (o :: rest) A (w.alloc (.cells #[.int .u8 x1, .int .u8 x2, .int .u8 x3, .int .u8 x4] e)) := by
  refine wpList_append_own _ hgd s x t ho base e i z 1 1 ht hi hz hsize hby hzs (by decide) v n xs hs (hown.alloc _) ⟨w.heap.size, 0, none⟩ 4 c [.int .u8 x1, .int .u8 x2, .int .u8 x3, .int .u8 x4] hx rfl ?_ ?_ (by unfold maxLen; omega) (by omega) (by simp; omega) (fun v' w' h1 h2 _ => h v' w' h1 (grownBy_trans (World.grownBy_alloc w _ _) h2))
  · intro j u hj
    rw [Addr.add_lit, Nat.zero_add]
    match j, hj with
    | 0, hj => simp at hj; subst hj; simp
    | 1, hj => simp at hj; subst hj; simp
    | 2, hj => simp at hj; subst hj; simp
    | 3, hj => simp at hj; subst hj; simp
  · intro u hu
    simp only [List.mem_cons, List.not_mem_nil, or_false] at hu
    rcases hu with rfl | rfl | rfl | rfl <;> rfl
/-- a variable of a type of many cells -/
theorem wpList_alloc_row (hgd : o.guard = none) (t : TypeId) (ho : o.op = .alloc t) (i : TypeInfo) (z : Value) (hi : P.info? t = some i) (hz : i.zero = some z)
    (h : ∀ w', w'.heap[w.heap.size]? = some (.cells z.cells t (0, 0)) → w.grownBy w' none → w'.heap.size = w.heap.size + 1 → wpList P ops Q rest (A.put o.dst (.pointer (some ⟨w.heap.size, 0, none⟩))) w') : wpList P ops Q (o :: rest) A w := by
  refine wpList_plain hgd fun K hK => ?_
  have hr : (Instr.alloc t true (.tuple #[])).run P w = .ok (.pointer (some ⟨w.heap.size, 0, none⟩)) (w.alloc (.cells z.cells t)) := by
    simp [Instr.alloc, zeroValue, typeInfo, hi, hz, newVar, newRow]
  unfold Oper.wp execOp
  simp only [ho, Sem.run_bind, Sem.run_pure, hr, Result.andThen_ok]
  exact hK _ _ (h _ (heap_alloc_new w _) (World.grownBy_alloc w _ _) (by simp))
/-- a whole array is stored -/
theorem wpList_store_arr (hgd : o.guard = none) (hds : o.dst = none) (ty : TypeId) (x v : Operand) (ho : o.op = .store ty x v) (g : Nat) (t : TypeId) (old cells : Array Value) (hx : A.eval x = .pointer (some ⟨g, 0, none⟩)) (hv : A.eval v = .agg cells)
    (hg : w.heap[g]? = some (.cells old t (0, 0))) (hi : (P.info? ty).map (·.size) = some cells.size) (hsz : old.size = cells.size) (h1 : cells.all (·.oneCell') = true)
    (h : ∀ w', w'.heap[g]? = some (.cells cells t (0, 0)) → w.grownBy w' (some g) → w'.heap.size = w.heap.size → wpList P ops Q rest A w') : wpList P ops Q (o :: rest) A w := by
  refine wpList_store_row hgd ty x v ho g cells hx hv t old hg hi hsz h1 ?_
  rw [hds]
  exact h (w.setRow g cells) (setRow_heap w g old cells t _ hg) ⟨rfl, rfl, rfl, by simp, fun k _ hk => setRow_other w g k _ (fun e => hk (by simp [e]))⟩ (by simp)
end
end Go.Proofs.YtacjbgmnoiimbabGreat
