/- Small laws beside the guide's own: slices of bytes and of texts, rows of the call's own, cuts, appends. -/
import Derived.WalkKit
import Derived.ProofKit
import Derived.OpenShut
import Derived.ShutString
import Derived.ChangeOld
import Derived.Below
import Derived.SliceStrings
import Derived.WalkLawsBesides
import Derived.Lib.Hide
import Derived.Maps.AppendAt
import Derived.Deep.QuietTactic
import Derived.BigQuiet
import Derived.Deep.DeepCutAuto
import Derived.Deep.RegionWith
namespace Go.Proofs.Ytacjbgmnoiimbab
open Go.ChangeShapes Go.WideShapes Go.ChangeAt Go.RowKit
open Go.ChangeMaps (open_string shut_string)

theorem grownBy_trans {a b c : World} {r : Option Nat} (h : a.grownBy b r) (k : b.grownBy c r) : a.grownBy c r :=
  ⟨k.os.trans h.os, k.tape.trans h.tape, k.output.trans h.output, Nat.le_trans h.size k.size, fun i hi hr => (k.block i (Nat.lt_of_lt_of_le hi h.size) hr).trans (h.block i hi hr)⟩
/-- 'append(out, u)': out nil or the call's own, u one cell, laid just before in a block of its own. -/
theorem wpList_append_one {P : Program} (w : World) {ops : Array Oper} {rest : List Oper} {o : Oper} {a : Act} {Q : Exit → Act → World → Prop} (hgd : o.guard = none) (s x : Operand) (t : TypeId)
    (ho : o.op = .call { callee := .builtin .append, args := #[s, x], argTypes := #[t, t] })
    (base : Nat) (e : TypeId) (i : TypeInfo) (z : Value) (bytes : Nat) (ht : P.underlying t = some (.slice e)) (hi : P.info? e = some i) (hz : i.zero = some z)
    (hsize : i.size = 1) (hby : i.bytes = bytes) (hzs : z.cells.size = 1)
    (v : Value) (n : Nat) (xs : List Value) (hs : a.eval s = v) (hown : w.ownsRow base e 1 v n xs)
    (u : Value) (c : Nat) (hx : a.eval x = .slice (some ⟨w.heap.size, 0, none⟩) 1 c) (hu : u.oneCell' = true)
    (h63 : n + 1 ≤ 9223372036854775807) (hbytes : (n + 1) * bytes ≤ 140737488355328) (hbase : base ≤ w.heap.size)
    (h : ∀ v' w', w'.ownsRow base e 1 v' (n + 1) (xs ++ [u]) → w.grownBy w' v.ownBlock → v' ≠ .slice none 0 0 → wpList P ops Q rest (a.put o.dst v') w') :
    wpList P ops Q (o :: rest) a (w.alloc (.cells #[u] e)) := by
  refine wpList_append_own _ hgd s x t ho base e i z 1 bytes ht hi hz hsize hby hzs (by decide) v n xs hs (hown.alloc _) ⟨w.heap.size, 0, none⟩ 1 c [u] hx rfl (cell_one_new _ _ _) (by simpa using hu) (by unfold maxLen; omega) hbytes (by simp; omega) ?_
  intro v' w' h1 h2 h3
  exact h v' w' h1 (grownBy_trans (World.grownBy_alloc w _ _) h2) (fun e => by simp [h3] at e)

/-- 'make([]T, l, c)' of one-cell elements: l zero elements are owned, there is room for c. -/
theorem wpList_make_cap {P : Program} (w : World) {ops : Array Oper} {rest : List Oper} {o : Oper} {a : Act} {Q : Exit → Act → World → Prop}
    (hg : o.guard = none) (l c : Operand) (t : TypeId) (hop : o.op = Op.makeSlice t l c)
    (base : Nat) (e : TypeId) (i : TypeInfo) (z : Value) (h1 : P.underlying t = some (.slice e)) (h2 : P.info? e = some i) (h3 : i.zero = some z) (h4 : i.size = 1) (hzc : z.cells = #[z])
    (kl kc : IntKind) (L C : Int) (n m : Nat) (hl : a.eval l = .int kl L) (hc : a.eval c = .int kc C) (hL : L = (n : Int)) (hC : C = (m : Int)) (hnm : n ≤ m) (b2 : i.bytes * m ≤ 281474976710656) (b3 : m ≤ 9223372036854775807) (b4 : base ≤ w.heap.size)
    (hK : ∀ w', w'.ownsRow base e 1 (.slice (some ⟨w.heap.size, 0, none⟩) n m) n (List.replicate n z) → w.grownBy w' none → wpList P ops Q rest (a.put o.dst (.slice (some ⟨w.heap.size, 0, none⟩) n m)) w') :
    wpList P ops Q (o :: rest) a w := by
  refine wpList_plain hg fun K hK' => ?_
  have hb' : (i.bytes : Int) * (m : Int) ≤ 281474976710656 := by
    have h : ((i.bytes * m : Nat) : Int) ≤ 281474976710656 := by omega
    rwa [Int.natCast_mul] at h
  have hr := run_make (P := P) w t e i z h1 h2 h3 kl kc n m (by omega) (by omega) hb' (by omega)
  simp only [Int.toNat_natCast, h4, Nat.mul_one, hzc] at hr
  subst hL hC
  unfold Oper.wp
  simp [execOp, hop, hl, hc, hr, Result.andThen]
  refine hK' _ _ (hK _ ⟨by simp, .inr ⟨w.heap.size, m, _, rfl, b4, heap_alloc_new w _, hnm, by unfold maxLen; omega, by rw [Nat.mul_one]; exact size_madeCells _ _, ?_⟩⟩ (World.grownBy_alloc w _ _))
  rw [toList_madeCells_one, Nat.mul_one, List.take_replicate, Nat.min_eq_left hnm]

theorem Below.drewN {B : Nat} {a w : World} (h : Below B a w) (n : Nat) : Below B a (w.drewN n) := ⟨h.os, h.tape, h.output, h.size, h.block⟩
theorem Below.own {B B' : Nat} {a w w' : World} {e : TypeId} {size : Nat} {v : Value} {n : Nat} {xs : List Value} (h : Below B a w) (hown : w.ownsRow B' e size v n xs) (hB : B ≤ B') (hBw : B ≤ w.heap.size)
    (hg : w.grownBy w' v.ownBlock) : Below B a w' :=
  h.grown hg hBw (fun k hk => Nat.le_trans hB (hown.lt k hk).1)
theorem Below.none {B : Nat} {a w w' : World} (h : Below B a w) (hBw : B ≤ w.heap.size) (hg : w.grownBy w' none) : Below B a w' :=
  h.grown hg hBw (fun k hk => by cases hk)
/-- what a row owns stays owned while nothing below the heap's end turns -/
theorem Below.row {w w' : World} {base : Nat} {e : TypeId} {size : Nat} {v : Value} {n : Nat} {xs : List Value} (h : Below w.heap.size w w') (hown : w.ownsRow base e size v n xs) : w'.ownsRow base e size v n xs :=
  hown.kept (row := Option.none) ⟨h.os, h.tape, h.output, h.size, fun k hk _ => h.block k hk⟩ (by cases v.ownBlock <;> simp)
theorem row_shape {w : World} {base : Nat} {e : TypeId} {size : Nat} {v : Value} {n : Nat} {xs : List Value} (h : w.ownsRow base e size v n xs) (hn : 0 < n) :
    ∃ g cap, v = .slice (some ⟨g, 0, none⟩) n cap ∧ base ≤ g ∧ g < w.heap.size ∧ n ≤ cap := by
  rcases h.2 with ⟨_, h0⟩ | ⟨g, cap, cur, hv, hb, hg, hc, _⟩
  · omega
  · exact ⟨g, cap, hv, hb, (Array.getElem?_eq_some_iff.1 hg).1, hc⟩

theorem row_base {w : World} {base : Nat} {e : TypeId} {size g n cap : Nat} {xs : List Value} (h : w.ownsRow base e size (.slice (some ⟨g, 0, none⟩) n cap) n xs) {b : Nat} (hb : b ≤ g) : w.ownsRow b e size (.slice (some ⟨g, 0, none⟩) n cap) n xs := by
  refine ⟨h.1, ?_⟩
  rcases h.2 with ⟨h0, _⟩ | ⟨g', cap', cur, hv, _, r⟩
  · cases h0
  · cases hv
    exact .inr ⟨_, _, cur, rfl, hb, r⟩
theorem ret_i64 {a b : Int} (h : a = b) : Ending.returned (.int .i64 a) = .returned (.int .i64 b) := by rw [h]
theorem ret_bool {a b : Bool} (h : a = b) : Ending.returned (.bool a) = .returned (.bool b) := by rw [h]
/-- v is a slice of texts, and they are l. -/
def IsStrs (w : World) (a : Option Addr) (l : List ByteArray) : Prop :=
  0 < l.length → ∃ b off, a = some ⟨b, off, none⟩ ∧ b < w.heap.size ∧ ∀ k, k < l.length → w.cell? ⟨b, off + k, none⟩ = some (.string (l.getD k ByteArray.empty))
/-- v is a slice of bytes, and they are l. -/
def IsBytes (w : World) (a : Option Addr) (l : List UInt8) : Prop :=
  0 < l.length → ∃ b off, a = some ⟨b, off, none⟩ ∧ b < w.heap.size ∧ ∀ k, k < l.length → w.cell? ⟨b, off + k, none⟩ = some (.int .u8 ((l.getD k 0).toNat : Int))

theorem IsBytes.below {w w' : World} {a : Option Addr} {l : List UInt8} (h : IsBytes w a l) (hb : Below w.heap.size w w') : IsBytes w' a l := by
  intro h0
  obtain ⟨b, off, ha, hbw, hc⟩ := h h0
  exact ⟨b, off, ha, Nat.lt_of_lt_of_le hbw hb.size, fun k hk => (hb.cell (p := ⟨b, off + k, none⟩) hbw).trans (hc k hk)⟩
theorem IsStrs.below {w w' : World} {a : Option Addr} {l : List ByteArray} (h : IsStrs w a l) (hb : Below w.heap.size w w') : IsStrs w' a l := by
  intro h0
  obtain ⟨b, off, ha, hbw, hc⟩ := h h0
  exact ⟨b, off, ha, Nat.lt_of_lt_of_le hbw hb.size, fun k hk => (hb.cell (p := ⟨b, off + k, none⟩) hbw).trans (hc k hk)⟩

def bytesV (l : List UInt8) : List Value := l.map fun c => .int .u8 (c.toNat : Int)
theorem length_bytesV (l : List UInt8) : (bytesV l).length = l.length := by simp [bytesV]
theorem bytesV_get (l : List UInt8) (i : Nat) (h : i < l.length) : (bytesV l)[i]? = some (.int .u8 ((l.getD i 0).toNat : Int)) := by simp [bytesV, h]
theorem bytesV_set (l : List UInt8) (i : Nat) (c : UInt8) : (bytesV l).set i (.int .u8 (c.toNat : Int)) = bytesV (l.set i c) := by simp [bytesV, List.map_set]
theorem bytesV_append (l r : List UInt8) : bytesV (l ++ r) = bytesV l ++ bytesV r := by simp [bytesV]
theorem bytesV_one (l : List UInt8) : ∀ u ∈ bytesV l, u.oneCell' = true := by
  intro u hu
  obtain ⟨_, _, rfl⟩ := List.mem_map.1 hu
  rfl
theorem isBytes_row {w : World} {base : Nat} {g n cap : Nat} {l : List UInt8} (h : w.ownsRow base 5 1 (.slice (some ⟨g, 0, none⟩) n cap) n (bytesV l)) : IsBytes w (some ⟨g, 0, none⟩) l := by
  intro _
  have hn : l.length = n := by have := h.1; rw [length_bytesV] at this; omega
  refine ⟨g, 0, rfl, (h.lt g rfl).2, fun k hk => ?_⟩
  rw [Nat.zero_add]
  exact (h.cellAt k (by omega)).trans (bytesV_get l k hk)

theorem push_fold (l : List UInt8) : ∀ s : ByteArray, (l.map (fun c : UInt8 => (c.toNat : Int))).foldl (fun r n => r.push (UInt8.ofNat n.toNat)) s = ⟨s.data ++ l.toArray⟩ := by
  induction l with
  | nil => intro s; cases s; simp
  | cons c r ih =>
    intro s
    rw [List.map_cons, List.foldl_cons, ih]
    cases s
    simp [ByteArray.push]
theorem run_string_of_bytes {P : Program} (w : World) (src dst e : TypeId) (a : Option Addr) (n cap : Nat) (l : List UInt8) (hn : l.length = n)
    (hs : P.underlying src = some (.slice e)) (he : P.underlying e = some (.int .u8)) (hd : P.underlying dst = some .string) (h : IsBytes w a l) :
    (convert src dst (.slice a n cap)).run P w = .ok (.string ⟨l.toArray⟩) w := by
  subst hn
  rw [run_convert_bytes_string w src dst e a _ cap hs he hd]
  cases a with
  | none =>
    have : l = [] := by
      cases l with
      | nil => rfl
      | cons c r => obtain ⟨b, off, h0, _⟩ := h (by simp); cases h0
    subst this
    rfl
  | some ad =>
    have hl : (loadCells ad l.length).run P w = .ok ((l.map (fun c : UInt8 => (c.toNat : Int))).map (Value.int .u8)).toArray w := by
      have hc : ∀ j v, (bytesV l)[j]? = some v → w.cell? (ad.add j) = some v := by
        intro j v hv
        have hj : j < l.length := by have := (List.getElem?_eq_some_iff.1 hv).1; rwa [length_bytesV] at this
        obtain ⟨b, off, h0, _, hc⟩ := h (by omega)
        cases h0
        rw [bytesV_get l j hj] at hv
        cases hv
        rw [← hc j hj, Addr.add_lit]
      have := run_loadCells_list (P := P) (w := w) ad (bytesV l) hc
      rw [length_bytesV] at this
      rw [this]
      simp [bytesV]
    rw [run_bytesToString w ad _ cap _ hl, push_fold]
    simp
theorem bytes_of_ints {w : World} {x : Addr} {len : Nat} {zs : List Int} (hl : len ≤ zs.length) (hc : ∀ i, i < zs.length → w.cell? (x.add i) = some (.int .u8 (zs.getD i 0))) (hw : ∀ n ∈ zs, (Lit.int .u8 n).wf = true) :
    ∃ l : List UInt8, l.length = len ∧ IsBytes w (some x) l := by
  refine ⟨(zs.take len).map (fun n => UInt8.ofNat n.toNat), by simp; omega, ?_⟩
  intro h0
  have h0' : 0 < len := by simpa [Nat.min_eq_left hl] using h0
  obtain ⟨b, off, spot⟩ := x
  have hc0 := hc 0 (by omega)
  have hspot : spot = none := by simpa [Addr.add] using World.cell?_spot hc0
  subst hspot
  refine ⟨b, off, rfl, ?_, ?_⟩
  · have := World.block_lt_of_cell? w _ hc0
    simpa [Addr.add] using this
  · intro k hk
    have hk' : k < len := by simpa [Nat.min_eq_left hl] using hk
    have h := hc k (by omega)
    rw [Addr.add_lit] at h
    rw [h]
    have hz : zs.getD k 0 ∈ zs := by simp only [List.getD, show k < zs.length by omega, List.getElem?_eq_getElem, Option.getD_some, List.getElem_mem]
    have hb := bounds_u8 (hw _ hz)
    congr 2
    simp only [List.getD, List.getElem?_map, List.getElem?_take, hk', ↓reduceIte, show k < zs.length by omega, List.getElem?_eq_getElem, Option.map_some, Option.getD_some]
    simp only [List.getD, show k < zs.length by omega, List.getElem?_eq_getElem, Option.getD_some] at hb
    rw [UInt8.toNat_ofNat']
    omega

theorem strs_of_cells {w : World} {x : Addr} {len : Nat} {ss : List ByteArray} (hl : len ≤ ss.length) (hc : ∀ i, i < ss.length → w.cell? (x.add i) = some (.string (ss.getD i ByteArray.empty))) :
    ∃ l : List ByteArray, l.length = len ∧ (∀ s ∈ l, s ∈ ss) ∧ IsStrs w (some x) l := by
  refine ⟨ss.take len, by simp; omega, fun s hs => List.mem_of_mem_take hs, ?_⟩
  intro h0
  have h0' : 0 < len := by simpa [Nat.min_eq_left hl] using h0
  obtain ⟨b, off, spot⟩ := x
  have hc0 := hc 0 (by omega)
  have hspot : spot = none := by simpa [Addr.add] using World.cell?_spot hc0
  subst hspot
  refine ⟨b, off, rfl, ?_, ?_⟩
  · have := World.block_lt_of_cell? w _ hc0
    simpa [Addr.add] using this
  · intro k hk
    have hk' : k < len := by simpa [Nat.min_eq_left hl] using hk
    have h := hc k (by omega)
    rw [Addr.add_lit] at h
    rw [h]
    simp [List.getD, hk']

/-- an argument of a type of slices of bytes -/
theorem view_bytes {H : Type} {enc : TypeId × Value → H} {P : Program} {W : World} {t e : TypeId} {a : Option Addr} {len cap : Nat} {d : DataW H} {p : List MemPlace}
    (ht : P.underlying t = some (.slice e)) (he : P.underlying e = some (.int .u8)) (hc : P.cellsOf e = 1) (h : DataW.Trod enc P W 0 (fun _ => true) true t (.slice a len cap) d p) :
    ∃ l : List UInt8, l.length = len ∧ len ≤ 9223372036854775807 ∧ len ≤ cap ∧ IsBytes W a l := by
  obtain ⟨fuel, hf⟩ := h
  rcases open_ints ht he hc hf with ⟨hcs, _⟩ | ⟨x, l, c, zs, hcs, _, hl, hm, hz, _, hcell, hwz⟩
  · simp [Value.cells] at hcs
    obtain ⟨rfl, rfl, rfl⟩ := hcs
    exact ⟨[], rfl, by omega, by omega, fun h => by cases h⟩
  · simp [Value.cells] at hcs
    obtain ⟨rfl, rfl, rfl⟩ := hcs
    simp only [if_true] at hz
    obtain ⟨y, hy, hv⟩ := bytes_of_ints (len := len) (by omega) hcell hwz
    unfold maxLen at hm
    exact ⟨y, hy, by omega, hl, hv⟩
/-- an argument of a type of slices of texts -/
theorem view_strs {H : Type} {enc : TypeId × Value → H} {P : Program} {W : World} {t e : TypeId} {a : Option Addr} {len cap : Nat} {d : DataW H} {p : List MemPlace}
    (ht : P.underlying t = some (.slice e)) (he : P.underlying e = some .string) (hc : P.cellsOf e = 1) (h : DataW.Trod enc P W 0 (fun _ => true) true t (.slice a len cap) d p) :
    ∃ l : List ByteArray, l.length = len ∧ len ≤ 9223372036854775807 ∧ len ≤ cap ∧ (∀ s ∈ l, s.size ≤ 9223372036854775807) ∧ IsStrs W a l := by
  obtain ⟨fuel, hf⟩ := h
  rcases open_strings ht he hc hf with ⟨hcs, _⟩ | ⟨x, l, c, ss, hcs, _, hl, hm, hz, _, hcell, hws⟩
  · simp [Value.cells] at hcs
    obtain ⟨rfl, rfl, rfl⟩ := hcs
    exact ⟨[], rfl, by omega, by omega, (fun s h => (by cases h)), (fun h => (by cases h))⟩
  · simp [Value.cells] at hcs
    obtain ⟨rfl, rfl, rfl⟩ := hcs
    simp only [if_true] at hz
    obtain ⟨y, hy, hin, hv⟩ := strs_of_cells (len := len) (by omega) hcell
    unfold maxLen at hm hws
    exact ⟨y, hy, by omega, hl, fun s h => by have := hws s (hin s h); omega, hv⟩
end Go.Proofs.Ytacjbgmnoiimbab
