/- The document's cache in memory; New, size: walked. -/
import Derived.Test.YtacjbgmnoiimbacSlab
namespace Go.Proofs.Ytacjbgmnoiimbac
set_option linter.unusedVariables false
set_option linter.unusedSimpArgs false
open Go.RowKit

/-- what isn't the document's kind stays -/
def KeepR (w w' : World) : Prop := ∀ (k : Nat) (o : Obj), w.heap[k]? = some o → (∀ cs, o ≠ .cells cs 42 (0, 0) ∧ o ≠ .cells cs 57 (0, 0)) → w'.heap[k]? = some o
theorem KeepR.refl (w : World) : KeepR w w := fun _ _ h _ => h
theorem KeepR.trans {a b c : World} (h : KeepR a b) (k : KeepR b c) : KeepR a c := fun i o h1 h2 => k i o (h i o h1 h2) h2
theorem KeepR.of {w w' : World} (h : Below w.heap.size w w') : KeepR w w' := fun k o hk _ => (h.block k (Array.getElem?_eq_some_iff.1 hk).1).trans hk
theorem KeepR.drewN {a b : World} (h : KeepR a b) (n : Nat) : KeepR a (b.drewN n) := h
theorem KeepR.grown {a b c : World} {B : Nat} {v : Value} {n : Nat} {xs : List Value} (h : KeepR a b) (hs : Slab b B 57 3 v n xs) (hg : b.grownBy c v.ownBlock) : KeepR a c := fun k o h1 h2 => by
  have h3 := h k o h1 h2
  refine (hg.block k (Array.getElem?_eq_some_iff.1 h3).1 (fun e => ?_)).trans h3
  obtain ⟨_, cur, h4⟩ := hs.lt e.symm
  rw [h4] at h3
  exact (h2 cur).2 (Option.some.inj h3).symm
theorem KeepR.set {a b : World} (h : KeepR a b) {r : Nat} {cs : Array Value} (hr : b.heap[r]? = some (.cells cs 42 (0, 0))) (i : Nat) (v : Value) : KeepR a (b.setCell ⟨r, i, none⟩ v) := fun k o h1 h2 => by
  have h3 := h k o h1 h2
  rw [heap_setCell_other b ⟨r, i, none⟩ k v (by
    rintro rfl
    rw [hr] at h3
    exact (h2 cs).1 (Option.some.inj h3).symm)]
  exact h3
theorem Below.slab {B : Nat} {a w w' : World} {e : TypeId} {size : Nat} {v : Value} {n : Nat} {xs : List Value} (h : Below B a w) (hs : Slab w B e size v n xs) (hBw : B ≤ w.heap.size) (hg : w.grownBy w' v.ownBlock) : Below B a w' :=
  h.grown hg hBw (fun k hk => (hs.lt hk).1)
/-- the cache's blocks stay, so the cache does -/
theorem Ca.rows {W W' : World} {g bm rb : Nat} {room used : Int} {its : List It} (h : Ca W g bm rb room used its) (hk : ∀ (k : Nat) (o : Obj), W.heap[k]? = some o → (∀ cs t, o = .cells cs t (0, 0) → t = 49 ∨ t = 52) → W'.heap[k]? = some o) (hs : ∀ i, i < its.length → KeysAt W' (its.getD i default).a (its.getD i default).keys) : Ca W' g bm rb room used its := by
  have hrow : ∀ j, ItemRow W j → W'.heap[j]? = W.heap[j]? := fun j ⟨cs, hj, _⟩ => (hk j _ hj (fun cs t e => by cases e; exact .inl rfl)).trans hj.symm
  obtain ⟨L, ⟨es, clock, hm, hes⟩, hL⟩ := h.map
  refine ⟨hk g _ h.head (fun cs t e => by cases e; exact .inr rfl), ⟨L, ⟨es, clock, hk bm _ hm (fun cs t e => by cases e), hes⟩, hL⟩, ?_, fun i hi => ?_, h.ring.same (fun i hi => hrow _ (h.posRow i hi)), h.apart, h.names⟩
  · obtain ⟨cs, h1, h2⟩ := h.root
    exact ⟨cs, (hrow rb h.root).trans h1, h2⟩
  · have hi' := h.item i hi
    obtain ⟨cs, h1, h2⟩ := hi'.1
    have hc : ∀ o, W'.cell? ⟨(its.getD i default).b, o, none⟩ = W.cell? ⟨(its.getD i default).b, o, none⟩ := fun o => cell_heap (hrow _ hi'.1) o
    exact ⟨⟨cs, (hrow _ hi'.1).trans h1, h2⟩, (hc 0).trans hi'.2.1, (hc 1).trans hi'.2.2.1, (hc 2).trans hi'.2.2.2.1, (hc 3).trans hi'.2.2.2.2.1, hi'.2.2.2.2.2.1, hs i hi⟩
theorem OwnC.keepR {B : Nat} {W W' : World} {g bm rb : Nat} {room used : Int} {its : List It} (h : OwnC B W g bm rb room used its) (hk : KeepR W W') : OwnC B W' g bm rb room used its := by
  refine ⟨h.1.rows (fun k o h1 h2 => hk k o h1 (fun cs => ⟨fun e => ?_, fun e => ?_⟩)) (fun i hi => (h.1.item i hi).2.2.2.2.2.2.same (fun k cs hc => (hk k (.cells cs 9 (0, 0)) hc (fun cs' => ⟨(fun e => by cases e), (fun e => by cases e)⟩)).trans hc.symm)), h.2⟩
  · rcases h2 cs 42 e with h | h <;> cases h
  · rcases h2 cs 57 e with h | h <;> cases h
/-- a row of texts that is none of the cache's is turned -/
theorem OwnC.apart9 {B : Nat} {W W' : World} {g bm rb : Nat} {room used : Int} {its : List It} (h : OwnC B W g bm rb room used its) {ob : Nat} {cs : Array Value} (ho : W.heap[ob]? = some (.cells cs 9 (0, 0))) (hne : ∀ x ∈ its, 0 < x.keys.length → ∀ p, x.a = some p → p.block ≠ ob) (hs : ∀ k, k ≠ ob → k < W.heap.size → W'.heap[k]? = W.heap[k]?) : OwnC B W' g bm rb room used its := by
  refine ⟨h.1.rows (fun k o h1 h2 => (hs k (fun e => ?_) (Array.getElem?_eq_some_iff.1 h1).1).trans h1) (fun i hi => ?_), h.2⟩
  · subst e
    rw [ho] at h1
    rcases h2 cs 9 (Option.some.inj h1).symm with h | h <;> cases h
  · intro h0
    obtain ⟨b, off, cs', ha, hb, hc⟩ := (h.1.item i hi).2.2.2.2.2.2 h0
    exact ⟨b, off, cs', ha, (hs b (hne _ (getD_mem hi) h0 _ ha) (heap_lt hb)).trans hb, hc⟩
theorem OwnC.keysLt {B : Nat} {W : World} {g bm rb : Nat} {room used : Int} {its : List It} (h : OwnC B W g bm rb room used its) : ∀ x ∈ its, 0 < x.keys.length → ∀ p, x.a = some p → p.block < W.heap.size := by
  intro x hx h0 p hp
  obtain ⟨i, hi, hxi⟩ := List.getElem_of_mem hx
  have e : its.getD i default = x := by rw [List.getD_eq_getElem?_getD, List.getElem?_eq_getElem hi, Option.getD_some, hxi]
  have := (h.1.item i hi).2.2.2.2.2.2
  rw [e] at this
  obtain ⟨b, off, cs', ha, hb, hc⟩ := this h0
  rw [ha] at hp; cases hp
  exact heap_lt hb
/-- the document's cache -/
def RefAt (B : Nat) (w : World) (r : Nat) (room : Int) (v : Value) (its : List It) : Prop := B ≤ r ∧ w.heap[r]? = some (.cells #[.int .i64 room, v] 42 (0, 0)) ∧ Slab w B 57 3 v its.length (itemsV its)
def ItemsOk (w : World) (its : List It) : Prop := ∀ x ∈ its, x.keys.length ≤ 20 ∧ (∀ i, (x.keys.getD i ByteArray.empty).size ≤ 100) ∧ x.keys.length ≤ x.kc ∧ IsStrs w x.a x.keys
theorem ItemsOk.below {w w' : World} {its : List It} (h : ItemsOk w its) (hb : Below w.heap.size w w') : ItemsOk w' its := fun x hx => ⟨(h x hx).1, (h x hx).2.1, (h x hx).2.2.1, (h x hx).2.2.2.below hb⟩
theorem RefAt.below {B : Nat} {w w' : World} {r : Nat} {room : Int} {v : Value} {its : List It} (h : RefAt B w r room v its) (hb : Below w.heap.size w w') : RefAt B w' r room v its := ⟨h.1, (hb.block r (heap_lt h.2.1)).trans h.2.1, h.2.2.below hb⟩
theorem RefAt.keepT {B : Nat} {w w' : World} {r : Nat} {room : Int} {v : Value} {its : List It} (h : RefAt B w r room v its) (hk : KeepT w w') : RefAt B w' r room v its :=
  ⟨h.1, hk r _ 42 (by decide) (by decide) h.2.1, h.2.2.same (fun g cur _ hg => (hk g _ 57 (by decide) (by decide) hg).trans hg.symm)⟩
theorem newref_any (room : Int) (w : World) : Calls Try.prog 13 #[.int .i64 room] w fun e w' => ∃ r, e = .returned (.pointer (some ⟨r, 0, none⟩)) ∧ RefAt w.heap.size w' r (max room 0) (.slice none 0 0) [] ∧ Below w.heap.size w w' := by
  go_enter Try.func13, Try.ntmps13
  go_wp2_with fail
  go_ret
  exact ⟨_, rfl, ⟨Nat.le_refl _, heap_alloc_new w _, slab_nil _ _ _ _⟩, (Below.refl _ _).alloc (Nat.le_refl _) _⟩
set_option maxRecDepth 100000 in
set_option maxHeartbeats 1000000 in
theorem size_any (f b : Int) (a : Option Addr) (kc : Nat) (keys : List ByteArray) (w : World) (hk : keys.length ≤ 1000) (hs : ∀ i, (keys.getD i ByteArray.empty).size ≤ 1000) (hstr : IsStrs w a keys) :
    Calls Try.prog 25 #[.agg #[.int .i64 f, .int .i64 b, .slice a keys.length kc]] w fun e w' => e = .returned (.int .i64 (sizeK keys : Int)) ∧ Below w.heap.size w w' := by
  have HS := Lib.hid hs
  have HA := Lib.hid ((Below.refl w.heap.size w).alloc (Nat.le_refl _) (.cells #[.int .i64 f, .int .i64 b, .slice a keys.length kc] 57))
  have HStr := Lib.hid (hstr.below HA.out)
  have HZK := Lib.hid (sizeK_le keys hs)
  have hx0 := heap_alloc_new w (.cells #[.int .i64 f, .int .i64 b, .slice a keys.length kc] 57)
  have p2 := heap_cell hx0 2
  simp at p2
  clear hs hstr hx0
  go_enter Try.func25, Try.ntmps25
  go_wp2_with fail
  generalize (w.alloc (.cells #[.int .i64 f, .int .i64 b, .slice a keys.length kc] 57)) = wA at *
  go_loopw [3, 9] (fun z i wr => ∃ j : Nat, i = .int .i64 j ∧ z = .int .i64 (sizeK (keys.take j) : Int) ∧ j ≤ keys.length ∧ wr = wA) (fun _ i _ => keys.length - (intOf i).toNat)
  case atStart => exact ⟨0, rfl, by simp [sizeK], Nat.zero_le _, rfl⟩
  case round =>
    obtain ⟨j, rfl, rfl, hj, rfl⟩ := hrel
    by_cases hjk : j < keys.length
    · have dj : decide ((j : Int) < (keys.length : Int)) = true := decide_eq_true (by omega)
      have hij : (j : Int) < (keys.length : Int) := by omega
      obtain ⟨kb, ko, rfl, _, hkc⟩ := HStr.out (by omega)
      have c1 := hkc j hjk
      have hks := HS.out j
      have hzz := sizeK_take keys j hjk
      have hz1 := HZK.out j (by omega)
      have HZ := Lib.hid hzz
      generalize keys.getD j ByteArray.empty = key at *
      generalize sizeK (keys.take j) = Z at *
      have hw : IntKind.i64.wrap ((Z : Int) + (key.size : Int)) = (Z : Int) + (key.size : Int) := by rw [IntKind.wrap_i64]; omega
      clear hkc hzz
      go_wp2_with fail
      go_roundw
      case rel => exact ⟨j + 1, by go_num, by rw [HZ.out]; rfl, by omega, by first | rfl | trivial⟩
      case measure => simp [intOf]; omega
    · obtain rfl : j = keys.length := by omega
      have dj : decide ((keys.length : Int) < (keys.length : Int)) = false := by simp
      go_wp2_with fail
      go_ret
      exact ⟨by rw [List.take_length]; rfl, HA.out⟩
end Go.Proofs.Ytacjbgmnoiimbac
