/- New: walked. -/
import Derived.Test.YtacjbgmnoiimbaaWalkI
import Derived.Deep.RegionLaw
namespace Go.Proofs.Ytacjbgmnoiimbaa
set_option linter.unusedVariables false
set_option linter.unusedSimpArgs false
open Go.RowKit

theorem row_empty (w : World) (B : Nat) (e : TypeId) (size : Nat) (h : B ≤ w.heap.size) : (w.alloc (.cells #[] e)).ownsRow B e size (.slice (some ⟨w.heap.size, 0, none⟩) 0 0) 0 [] :=
  ⟨by simp, .inr ⟨w.heap.size, 0, #[], rfl, h, heap_alloc_new w _, Nat.le_refl _, by unfold maxLen; omega, by simp, by simp⟩⟩
theorem row_keys {w : World} {B m c : Nat} {a : Option Addr} {l : List ByteArray} {n : Nat} (h : w.ownsRow B 9 1 (.slice a m c) n (strsV l)) : KeysAt w a l := by
  intro h0
  have hl := h.1
  rw [length_strsV, Nat.mul_one] at hl
  rcases h.2 with ⟨hv, h1⟩ | ⟨g, cap, cur, hv, _, hg, _, _, _, htake⟩
  · omega
  · cases hv
    refine ⟨g, 0, cur, rfl, hg, fun k hk => ?_⟩
    have hc := strsV_get l k hk
    rw [← htake, List.getElem?_take, if_pos (by omega)] at hc
    rw [Nat.zero_add, ← Array.getElem?_toList]
    exact hc
section
variable {P : Program}
theorem step_append_vals {w : World} {ops : Array Oper} {o : Oper} {A : Act} {K : Act → World → Prop} {Q : Exit → Act → World → Prop} {E : Prop} (hgd : o.guard = none) (s x : Operand) (t : TypeId)
    (ho : o.op = .call { callee := .builtin .append, args := #[s, x], argTypes := #[t, t] })
    (base : Nat) (e : TypeId) (i : TypeInfo) (z : Value) (size bytes : Nat) (ht : P.underlying t = some (.slice e)) (hi : P.info? e = some i) (hz : i.zero = some z) (hsize : i.size = size) (hby : i.bytes = bytes) (hzs : z.cells.size = size) (hsz : 0 < size)
    (v : Value) (n : Nat) (xs : List Value) (hs : A.eval s = v) (hown : w.ownsRow base e size v n xs) (ad : Option Addr) (m c : Nat) (news : List Value) (hx : A.eval x = .slice ad m c) (hm : news.length = m * size) (hb : IsVals w ad news) (h1 : ∀ u ∈ news, u.oneCell' = true)
    (hbd : n + m ≤ maxLen) (hbytes : (n + m) * bytes ≤ 140737488355328) (hbase : base ≤ w.heap.size)
    (h : ∀ v' w', w'.ownsRow base e size v' (n + m) (xs ++ news) → w.grownBy w' v.ownBlock → K (A.put o.dst v') w') : if Region.wanted o (yielded ops A.tmps) = true then Oper.wp P o A w K Q else E := by
  have hw : Region.wanted o (yielded ops A.tmps) = true := by simp [Region.wanted, hgd]
  rw [if_pos hw]
  exact wp_append_vals w s x t ho base e i z size bytes ht hi hz hsize hby hzs hsz v n xs hs hown ad m c news hx hm hb h1 hbd hbytes hbase h
end
/-- rows as the caller hands them in -/
def IsRows (w : World) (a : Option Addr) (L : List RR) : Prop :=
  0 < L.length → ∃ b off, a = some ⟨b, off, none⟩ ∧ b < w.heap.size ∧ ∀ k, k < L.length → w.cell? ⟨b, off + k, none⟩ = some (rowV (at_ L k)) ∧ (at_ L k).keys.length ≤ (at_ L k).kc ∧ IsStrs w (at_ L k).a (at_ L k).keys
theorem IsRows.below {w w' : World} {a : Option Addr} {L : List RR} (h : IsRows w a L) (hb : Below w.heap.size w w') : IsRows w' a L := fun h0 => by
  obtain ⟨b, off, ha, hlt, hc⟩ := h h0
  exact ⟨b, off, ha, Nat.lt_of_lt_of_le hlt hb.size, fun k hk => ⟨(hb.cell hlt).trans (hc k hk).1, (hc k hk).2.1, (hc k hk).2.2.below hb⟩⟩
def full (L : List RR) : List RR := L.filter fun x => decide (0 < x.keys.length)
theorem full_take (L : List RR) (j : Nat) (h : j < L.length) : full (L.take (j + 1)) = full (L.take j) ++ (if 0 < (at_ L j).keys.length then [at_ L j] else []) := by
  have e : L.take (j + 1) = L.take j ++ [at_ L j] := by
    rw [List.take_add_one]
    unfold at_
    rw [List.getElem?_eq_getElem h, List.getD_eq_getElem?_getD, List.getElem?_eq_getElem h]; rfl
  rw [e]
  unfold full
  rw [List.filter_append]
  congr 1
  by_cases h0 : 0 < (at_ L j).keys.length
  · rw [if_pos h0, List.filter_cons_of_pos (by simpa using h0)]; rfl
  · rw [if_neg h0, List.filter_cons_of_neg (by simpa using h0)]; rfl
def keysR (L : List RR) : List (List ByteArray) := L.map (·.keys)
theorem keysR_append (a b : List RR) : keysR (a ++ b) = keysR a ++ keysR b := by unfold keysR; exact List.map_append
def PRel (L : List RR) (w : World) (m : Nat) (j : Nat) (wr : World) : Prop := ∃ v rs, wr.heap[m]? = some (.cells #[v] 44 (0, 0)) ∧ w.heap.size ≤ m ∧ wr.ownsRow w.heap.size 26 1 v rs.length (rs.map rowV) ∧ (∀ x ∈ rs, x.keys.length ≤ x.kc ∧ KeysAt wr x.a x.keys) ∧ keysR rs = keysR (full (L.take j)) ∧ Below w.heap.size w wr ∧ (∀ i, i < j → RisesK (at_ L i).keys) ∧ rs.length ≤ j
def NewIs (L : List RR) (w : World) (e : Ending) (w' : World) : Prop :=
  ((∃ i, i < L.length ∧ ¬ RisesK (at_ L i).keys) → e = .returned (.tuple #[.pointer none, .int .i64 11]) ∧ Below w.heap.size w w') ∧
  ((∀ i, i < L.length → RisesK (at_ L i).keys) → ∃ m v rs, e = .returned (.tuple #[.pointer (some ⟨m, 0, none⟩), .int .i64 0]) ∧ PileAt w.heap.size w' m v rs ∧ GoodP rs ∧ Below w.heap.size w w' ∧ rs.length = (full L).length ∧ tot rs = tot L ∧ ∀ k, HasK rs k ↔ HasK L k)
theorem keysR_len {a b : List RR} (h : keysR a = keysR b) : a.length = b.length := by have := congrArg List.length h; simpa [keysR] using this
theorem keysR_at {a b : List RR} (h : keysR a = keysR b) (i : Nat) : (at_ a i).keys = (at_ b i).keys := by
  have h1 : (keysR a)[i]? = (keysR b)[i]? := by rw [h]
  unfold keysR at h1
  rw [List.getElem?_map, List.getElem?_map] at h1
  unfold at_
  rw [List.getD_eq_getElem?_getD, List.getD_eq_getElem?_getD]
  cases ha : a[i]? with
  | none => rw [ha] at h1; cases hb : b[i]? with
    | none => rfl
    | some y => rw [hb] at h1; cases h1
  | some x => rw [ha] at h1; cases hb : b[i]? with
    | none => rw [hb] at h1; cases h1
    | some y => rw [hb] at h1; exact Option.some.inj h1
theorem hasK_keys {a : List RR} {k : Text} : HasK a k ↔ ∃ ks ∈ keysR a, k ∈ keysOf ks := by
  unfold HasK keysR
  constructor
  · rintro ⟨x, hx, hk⟩; exact ⟨_, List.mem_map_of_mem hx, hk⟩
  · rintro ⟨ks, hks, hk⟩
    obtain ⟨x, hx, rfl⟩ := List.mem_map.1 hks
    exact ⟨x, hx, hk⟩
theorem hasK_full (L : List RR) (k : Text) : HasK (full L) k ↔ HasK L k := by
  unfold full
  constructor
  · rintro ⟨x, hx, hk⟩
    exact ⟨x, (List.mem_filter.1 hx).1, hk⟩
  · rintro ⟨x, hx, hk⟩
    refine ⟨x, List.mem_filter.2 ⟨hx, ?_⟩, hk⟩
    cases hkk : x.keys with
    | nil => rw [hkk] at hk; cases hk
    | cons y r => simp
theorem tot_keys (a : List RR) : tot a = ((keysR a).map List.length).sum := by
  unfold tot keysR
  rw [List.map_map]; rfl
theorem tot_full (L : List RR) : tot (full L) = tot L := by
  induction L with
  | nil => rfl
  | cons x r ih =>
    unfold full at *
    by_cases h : 0 < x.keys.length
    · rw [List.filter_cons_of_pos (by simpa using h)]
      show x.keys.length + tot _ = x.keys.length + tot r
      rw [ih]
    · rw [List.filter_cons_of_neg (by simpa using h)]
      show tot _ = x.keys.length + tot r
      omega
theorem full_mem {L : List RR} {x : RR} (h : x ∈ full L) : x ∈ L ∧ 0 < x.keys.length := by
  unfold full at h
  have := List.mem_filter.1 h
  exact ⟨this.1, by simpa using this.2⟩
/-- what stands when all rows are in -/
theorem prel_end {L : List RR} {w : World} {m : Nat} {wr : World} (h : PRel L w m L.length wr) : ∃ v rs, PileAt w.heap.size wr m v rs ∧ Below w.heap.size w wr ∧ keysR rs = keysR (full L) ∧ (∀ i, i < rs.length → 0 < (at_ rs i).keys.length ∧ RisesK (at_ rs i).keys) ∧ rs.length ≤ L.length := by
  obtain ⟨v, rs, h1, h2, h3, h4, h5, h6, h7, h8⟩ := h
  rw [List.take_length] at h5
  refine ⟨v, rs, ⟨h1, h2, ?_, h4⟩, h6, h5, fun i hi => ?_, h8⟩
  · rcases h3.2 with ⟨e1, e2⟩ | ⟨g, cap, cur, e1, e2, e3, e4, _, _, e7⟩
    · exact .inl ⟨e1, List.eq_nil_of_length_eq_zero e2⟩
    · refine .inr ⟨g, cap, cur, e1, e2, e3, e4, fun i hi => ?_⟩
      have : (rs.map rowV)[i]? = some (rowV (at_ rs i)) := by
        unfold at_
        rw [List.getElem?_map, List.getElem?_eq_getElem hi, List.getD_eq_getElem?_getD, List.getElem?_eq_getElem hi]; rfl
      rw [← e7, List.getElem?_take, if_pos (by omega), Array.getElem?_toList] at this
      exact this
  · have hk := keysR_at h5 i
    have hi' : i < (full L).length := by rw [← keysR_len h5]; exact hi
    obtain ⟨f1, f2⟩ := full_mem (at_mem hi')
    obtain ⟨i2, hi2, e⟩ := mem_at f1
    rw [hk]
    exact ⟨f2, by rw [← e]; exact h7 i2 hi2⟩
theorem new_end {L : List RR} {w w1 w2 : World} {m : Nat} {v : Value} {rs rs' : List RR} (hk : keysR rs = keysR (full L)) (hgr : ∀ i, i < rs.length → 0 < (at_ rs i).keys.length ∧ RisesK (at_ rs i).keys) (hb : Below w.heap.size w w1)
    (hp : PileAt w.heap.size w2 m v rs') (hs : SameR rs.length rs rs') (hh : HeapFrom rs' rs.length 0) (hb2 : Below w.heap.size w1 w2) (hall : ∀ i, i < L.length → RisesK (at_ L i).keys) : NewIs L w (.returned (.tuple #[.pointer (some ⟨m, 0, none⟩), .int .i64 0])) w2 := by
  refine ⟨fun ⟨i, hi, hn⟩ => absurd (hall i hi) hn, fun _ => ⟨m, v, rs', rfl, hp, ⟨fun x hx => ?_, by rw [hs.1]; exact hh⟩, hb.trans hb2, by rw [hs.1, keysR_len hk], by rw [hs.2.2.2.2, tot_keys, hk, ← tot_keys, tot_full], fun k => ?_⟩⟩
  · obtain ⟨i, hi, rfl⟩ := mem_at hx
    rw [hs.1] at hi
    obtain ⟨i', hi', e⟩ := hs.2.2.1 i hi
    rw [e]; exact hgr i' hi'
  · rw [← hasK_full L, hasK_keys (a := full L), ← hk, ← hasK_keys]
    constructor
    · rintro ⟨x, hx, hk1⟩
      obtain ⟨i, hi, rfl⟩ := mem_at hx
      rw [hs.1] at hi
      obtain ⟨i', hi', e⟩ := hs.2.2.1 i hi
      exact ⟨_, at_mem hi', by rw [← e]; exact hk1⟩
    · rintro ⟨x, hx, hk1⟩
      obtain ⟨i, hi, rfl⟩ := mem_at hx
      obtain ⟨i', hi', e⟩ := hs.2.2.2.1 i hi
      exact ⟨_, at_mem (by rw [hs.1]; exact hi'), by rw [← e]; exact hk1⟩
end Go.Proofs.Ytacjbgmnoiimbaa
