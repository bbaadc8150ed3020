/- Left, step: walked. -/
import Derived.Test.YtacjbgmnoiimbaaWalkF
namespace Go.Proofs.Ytacjbgmnoiimbaa
set_option linter.unusedVariables false
set_option linter.unusedSimpArgs false
open Go.RowKit

theorem left_nil (w : World) : Calls Try.prog 14 #[.pointer none] w fun e w' => e = .returned (.int .i64 0) ∧ w' = w := by
  go_enter Try.func14, Try.ntmps14
  go_wp2_with fail
  go_ret
  first | trivial | exact ⟨rfl, rfl⟩
theorem left_any (B m : Nat) (v : Value) (rs : List RR) (w : World) (h : PileAt B w m v rs) : Calls Try.prog 14 #[.pointer (some ⟨m, 0, none⟩)] w fun e w' => e = .returned (.int .i64 (rs.length : Int)) ∧ w' = w := by
  obtain ⟨a, c, rfl⟩ := h.shape
  have p0 := heap_cell h.1 0
  simp at p0
  clear h
  go_enter Try.func14, Try.ntmps14
  go_wp2_with fail
  go_ret
  first | trivial | exact ⟨rfl, rfl⟩
/-- a row without its first key -/
def tailR (x : RR) : RR := ⟨cutA x.a x.kc 1, x.kc - 1, x.keys.drop 1⟩
theorem tail_keys {W : World} {x : RR} (h1 : x.keys.length ≤ x.kc) (h : KeysAt W x.a x.keys) : (tailR x).keys.length ≤ (tailR x).kc ∧ KeysAt W (tailR x).a (tailR x).keys := by
  refine ⟨by show (x.keys.drop 1).length ≤ x.kc - 1; rw [List.length_drop]; omega, fun h0 => ?_⟩
  have hl : (x.keys.drop 1).length = x.keys.length - 1 := List.length_drop ..
  have h0' : 0 < (x.keys.drop 1).length := h0
  obtain ⟨b, off, cs, ha, hb, hc⟩ := h (by omega)
  refine ⟨b, off + 1, cs, ?_, hb, fun k hk => ?_⟩
  · show cutA x.a x.kc 1 = _
    unfold cutA
    rw [if_neg (by omega), ha]
    simp [Addr.add_lit]
  · have hk' : k < (x.keys.drop 1).length := hk
    have := hc (1 + k) (by omega)
    rw [Nat.add_assoc, this]
    show _ = some (Value.string ((x.keys.drop 1).getD k ByteArray.empty))
    rw [List.getD_eq_getElem?_getD, List.getD_eq_getElem?_getD, List.getElem?_drop]
def RisesK (keys : List ByteArray) : Prop := Rises (keysOf keys)
def GoodP (rs : List RR) : Prop := (∀ x ∈ rs, 0 < x.keys.length ∧ RisesK x.keys) ∧ HeapFrom rs rs.length 0
def HasK (rs : List RR) (k : Text) : Prop := ∃ x ∈ rs, k ∈ keysOf x.keys
theorem keysOf_drop (l : List ByteArray) (n : Nat) : keysOf (l.drop n) = (keysOf l).drop n := by unfold keysOf; rw [List.map_drop]
theorem rises_drop {ks : List Text} (h : Rises ks) (n : Nat) : Rises (ks.drop n) := fun i hi => by
  rw [List.length_drop] at hi
  have := h (n + i) (by omega)
  rw [List.getD_eq_getElem?_getD, List.getD_eq_getElem?_getD, List.getElem?_drop, List.getElem?_drop, ← List.getD_eq_getElem?_getD, ← List.getD_eq_getElem?_getD]
  exact this
theorem keysOf_cons {l : List ByteArray} (h : 0 < l.length) : keysOf l = (l.getD 0 ByteArray.empty).data.toList :: (keysOf l).drop 1 := by
  cases l with
  | nil => simp at h
  | cons a r => rfl
theorem at_of_mem {rs : List RR} {x : RR} (h : x ∈ rs) : ∃ i, i < rs.length ∧ at_ rs i = x := mem_at h
/-- each row lies in a block in which one lay before -/
def SubB (rs rs' : List RR) : Prop := ∀ x ∈ rs', ∃ y ∈ rs, ∀ p, x.a = some p → ∃ q, y.a = some q ∧ p.block = q.block
theorem SubB.refl (rs : List RR) : SubB rs rs := fun x hx => ⟨x, hx, fun p hp => ⟨p, hp, rfl⟩⟩
theorem SubB.trans {a b c : List RR} (h : SubB a b) (k : SubB b c) : SubB a c := fun x hx => by
  obtain ⟨y, hy, e⟩ := k x hx
  obtain ⟨z, hz, e2⟩ := h y hy
  refine ⟨z, hz, fun p hp => ?_⟩
  obtain ⟨q, hq, e3⟩ := e p hp
  obtain ⟨r, hr, e4⟩ := e2 q hq
  exact ⟨r, hr, e3.trans e4⟩
theorem tail_blk (x : RR) : ∀ p, (tailR x).a = some p → ∃ q, x.a = some q ∧ p.block = q.block := fun p hp => by
  have hp' : cutA x.a x.kc 1 = some p := hp
  unfold cutA at hp'
  split at hp'
  · exact ⟨p, hp', rfl⟩
  · cases ha : x.a with
    | none => rw [ha] at hp'; cases hp'
    | some q =>
      rw [ha] at hp'
      refine ⟨q, rfl, ?_⟩
      have := Option.some.inj hp'
      rw [← this]; rfl
theorem subB_set {rs : List RR} (h0 : 0 < rs.length) : SubB rs (rs.set 0 (tailR (at_ rs 0))) := fun x hx => by
  obtain ⟨i, hi, rfl⟩ := mem_at hx
  rw [List.length_set] at hi
  rw [at_set rs 0 i _ h0]
  split
  · exact ⟨at_ rs 0, at_mem h0, tail_blk _⟩
  · exact ⟨at_ rs i, at_mem hi, fun p hp => ⟨p, hp, rfl⟩⟩
theorem subB_at {rs rs' : List RR} (h : ∀ i, i < rs'.length → ∃ i', i' < rs.length ∧ at_ rs' i = at_ rs i') : SubB rs rs' := fun x hx => by
  obtain ⟨i, hi, rfl⟩ := mem_at hx
  obtain ⟨i', hi', e⟩ := h i hi
  exact ⟨at_ rs i', at_mem hi', fun p hp => ⟨p, by rw [← e]; exact hp, rfl⟩⟩
def StepIs (B m : Nat) (rs : List RR) (w : World) (e : Ending) (w' : World) : Prop :=
  e = .returned (.tuple #[]) ∧ ∃ v' rs', PileAt B w' m v' rs' ∧ GoodP rs' ∧ rs'.length ≤ rs.length ∧ tot rs' + 1 = tot rs ∧ (∀ k, k ≠ hd (at_ rs 0) → (HasK rs' k ↔ HasK rs k)) ∧ (∀ k, HasK rs' k → HasK rs k) ∧ SubB rs rs' ∧ Below B w w' ∧ KeepM w w'
/-- what stands behind the cut of the first row: the first row is empty, or none is -/
theorem hasK_set {rs : List RR} (h0 : 0 < rs.length) (hk0 : 0 < (at_ rs 0).keys.length) (k : Text) (hne : k ≠ hd (at_ rs 0)) : HasK (rs.set 0 (tailR (at_ rs 0))) k ↔ HasK rs k := by
  constructor
  · rintro ⟨x, hx, hk⟩
    obtain ⟨i, hi, rfl⟩ := mem_at hx
    rw [List.length_set] at hi
    rw [at_set rs 0 i _ h0] at hk
    by_cases e : 0 = i
    · subst e
      rw [if_pos rfl] at hk
      have hk' : k ∈ keysOf ((at_ rs 0).keys.drop 1) := hk
      rw [keysOf_drop] at hk'
      exact ⟨at_ rs 0, at_mem h0, List.mem_of_mem_drop hk'⟩
    · rw [if_neg e] at hk
      exact ⟨at_ rs i, at_mem hi, hk⟩
  · rintro ⟨x, hx, hk⟩
    obtain ⟨i, hi, rfl⟩ := mem_at hx
    have hl : (rs.set 0 (tailR (at_ rs 0))).length = rs.length := List.length_set
    refine ⟨at_ (rs.set 0 (tailR (at_ rs 0))) i, at_mem (by rw [hl]; exact hi), ?_⟩
    rw [at_set rs 0 i _ h0]
    by_cases e : 0 = i
    · subst e
      rw [if_pos rfl]
      show k ∈ keysOf ((at_ rs 0).keys.drop 1)
      rw [keysOf_drop]
      rw [keysOf_cons hk0] at hk
      rcases List.mem_cons.1 hk with e | hk
      · exact absurd e hne
      · exact hk
    · rw [if_neg e]; exact hk
theorem hasK_set' {rs : List RR} (h0 : 0 < rs.length) (k : Text) (h : HasK (rs.set 0 (tailR (at_ rs 0))) k) : HasK rs k := by
  obtain ⟨x, hx, hk⟩ := h
  obtain ⟨i, hi, rfl⟩ := mem_at hx
  rw [List.length_set] at hi
  rw [at_set rs 0 i _ h0] at hk
  by_cases e : 0 = i
  · subst e
    rw [if_pos rfl] at hk
    have hk' : k ∈ keysOf ((at_ rs 0).keys.drop 1) := hk
    rw [keysOf_drop] at hk'
    exact ⟨at_ rs 0, at_mem h0, List.mem_of_mem_drop hk'⟩
  · rw [if_neg e] at hk
    exact ⟨at_ rs i, at_mem hi, hk⟩
theorem good_at {rs : List RR} (h : GoodP rs) {i : Nat} (hi : i < rs.length) : 0 < (at_ rs i).keys.length ∧ RisesK (at_ rs i).keys := h.1 _ (at_mem hi)
theorem heap_set {rs : List RR} (h0 : 0 < rs.length) (h : HeapFrom rs rs.length 0) (x : RR) : HeapFrom (rs.set 0 x) rs.length 1 := fun i j h1 h2 h3 => by
  rw [at_set rs 0 i _ h0, at_set rs 0 j _ h0, if_neg (by omega), if_neg (by omega)]
  exact h i j (Nat.zero_le _) h2 h3
theorem step_fix {rs rs' : List RR} (h0 : 0 < rs.length) (hg : GoodP rs) (ht : 0 < (tailR (at_ rs 0)).keys.length) (hs : SameR (rs.set 0 (tailR (at_ rs 0))).length (rs.set 0 (tailR (at_ rs 0))) rs') (hh : HeapFrom rs' (rs.set 0 (tailR (at_ rs 0))).length 0) :
    GoodP rs' ∧ rs'.length ≤ rs.length ∧ tot rs' + 1 = tot rs ∧ (∀ k, k ≠ hd (at_ rs 0) → (HasK rs' k ↔ HasK rs k)) ∧ (∀ k, HasK rs' k → HasK rs k) ∧ SubB rs rs' := by
  have hl : (rs.set 0 (tailR (at_ rs 0))).length = rs.length := List.length_set
  have g0 := good_at hg h0
  have htl : (tailR (at_ rs 0)).keys.length = (at_ rs 0).keys.length - 1 := List.length_drop ..
  rw [hl] at hs hh
  have hK : ∀ k, HasK rs' k ↔ HasK (rs.set 0 (tailR (at_ rs 0))) k := fun k => by
    constructor
    · rintro ⟨x, hx, hk⟩
      obtain ⟨i, hi, rfl⟩ := mem_at hx
      rw [hs.1, hl] at hi
      obtain ⟨i', hi', e⟩ := hs.2.2.1 i hi
      exact ⟨_, at_mem (i := i') (by rw [hl]; exact hi'), by rw [← e]; exact hk⟩
    · rintro ⟨x, hx, hk⟩
      obtain ⟨i, hi, rfl⟩ := mem_at hx
      rw [hl] at hi
      obtain ⟨i', hi', e⟩ := hs.2.2.2.1 i hi
      exact ⟨_, at_mem (i := i') (by rw [hs.1, hl]; exact hi'), by rw [← e]; exact hk⟩
  refine ⟨⟨fun x hx => ?_, by rw [hs.1, hl]; exact hh⟩, by rw [hs.1, hl]; exact Nat.le_refl _, ?_, fun k hk => (hK k).trans (hasK_set h0 g0.1 k hk), fun k hk => hasK_set' h0 k ((hK k).1 hk), (subB_set h0).trans (subB_at (fun i hi => by
    rw [hs.1, hl] at hi
    obtain ⟨i', hi', e⟩ := hs.2.2.1 i hi
    exact ⟨i', by rw [hl]; exact hi', e⟩))⟩
  · obtain ⟨i, hi, rfl⟩ := mem_at hx
    rw [hs.1, hl] at hi
    obtain ⟨i', hi', e⟩ := hs.2.2.1 i hi
    rw [e, at_set rs 0 i' _ h0]
    split
    · refine ⟨ht, ?_⟩
      show Rises (keysOf ((at_ rs 0).keys.drop 1))
      rw [keysOf_drop]
      exact rises_drop g0.2 1
    · exact good_at hg hi'
  · rw [hs.2.2.2.2]
    have := tot_set rs 0 (tailR (at_ rs 0)) h0
    omega
theorem step_pop {rs rs' : List RR} {n : Nat} (hn : rs.length = n + 1) (hg : GoodP rs) (ht : (tailR (at_ rs 0)).keys.length = 0) (hl' : rs'.length = n) (hh : HeapFrom rs' n 0) (h1 : ∀ i, i < n → ∃ i', 0 < i' ∧ i' < n + 1 ∧ at_ rs' i = at_ (rs.set 0 (tailR (at_ rs 0))) i') (h2 : ∀ i', 0 < i' → i' < n + 1 → ∃ i, i < n ∧ at_ (rs.set 0 (tailR (at_ rs 0))) i' = at_ rs' i)
    (hT : tot rs' + (at_ (rs.set 0 (tailR (at_ rs 0))) 0).keys.length = tot (rs.set 0 (tailR (at_ rs 0)))) :
    GoodP rs' ∧ rs'.length ≤ rs.length ∧ tot rs' + 1 = tot rs ∧ (∀ k, k ≠ hd (at_ rs 0) → (HasK rs' k ↔ HasK rs k)) ∧ (∀ k, HasK rs' k → HasK rs k) ∧ SubB rs rs' := by
  have h0 : 0 < rs.length := by omega
  have hl : (rs.set 0 (tailR (at_ rs 0))).length = rs.length := List.length_set
  have g0 := good_at hg h0
  have htl : (tailR (at_ rs 0)).keys.length = (at_ rs 0).keys.length - 1 := List.length_drop ..
  have hK : ∀ k, HasK rs' k ↔ HasK (rs.set 0 (tailR (at_ rs 0))) k := fun k => by
    constructor
    · rintro ⟨x, hx, hk⟩
      obtain ⟨i, hi, rfl⟩ := mem_at hx
      rw [hl'] at hi
      obtain ⟨i', _, hi', e⟩ := h1 i hi
      exact ⟨_, at_mem (i := i') (by rw [hl]; omega), by rw [← e]; exact hk⟩
    · rintro ⟨x, hx, hk⟩
      obtain ⟨i, hi, rfl⟩ := mem_at hx
      rw [hl] at hi
      by_cases e0 : i = 0
      · subst e0
        rw [at_set rs 0 0 _ h0, if_pos rfl] at hk
        have hz : (tailR (at_ rs 0)).keys = [] := List.eq_nil_of_length_eq_zero ht
        rw [hz] at hk
        cases hk
      · obtain ⟨i', hi', e⟩ := h2 i (by omega) (by omega)
        exact ⟨_, at_mem (i := i') (by rw [hl']; exact hi'), by rw [← e]; exact hk⟩
  refine ⟨⟨fun x hx => ?_, by rw [hl']; exact hh⟩, by omega, ?_, fun k hk => (hK k).trans (hasK_set h0 g0.1 k hk), fun k hk => hasK_set' h0 k ((hK k).1 hk), (subB_set h0).trans (subB_at (fun i hi => by
    rw [hl'] at hi
    obtain ⟨i', _, hi', e⟩ := h1 i hi
    exact ⟨i', by rw [hl]; omega, e⟩))⟩
  · obtain ⟨i, hi, rfl⟩ := mem_at hx
    rw [hl'] at hi
    obtain ⟨i', hp, hi', e⟩ := h1 i hi
    rw [e, at_set rs 0 i' _ h0, if_neg (by omega)]
    exact good_at hg (by omega)
  · rw [at_set rs 0 0 _ h0, if_pos rfl] at hT
    have := tot_set rs 0 (tailR (at_ rs 0)) h0
    omega
set_option maxRecDepth 100000 in
set_option maxHeartbeats 1000000 in
theorem step_any (B m : Nat) (v : Value) (rs : List RR) (w : World) (h : PileAt B w m v rs) (hg : GoodP rs) (h0 : 0 < rs.length) (hl : rs.length ≤ 100000) :
    Calls Try.prog 19 #[.pointer (some ⟨m, 0, none⟩)] w (StepIs B m rs w) := by
  obtain ⟨i26, hi26, hz0, hz1, hz2⟩ := info_parts Try.info26
  obtain ⟨i9, hi9, _, h91, _⟩ := info_parts Try.info9
  obtain ⟨g, cap, cs, rfl, h1, h2, h3, h4⟩ := h.rows h0
  obtain ⟨n, hn⟩ : ∃ n, rs.length = n + 1 := ⟨rs.length - 1, by omega⟩
  have g0 := good_at hg h0
  obtain ⟨hkc, hka⟩ := h.2.2.2 _ (at_mem h0)
  have c0 := (heap_cell h2 0).trans (h4 0 h0)
  have p0 := heap_cell h.1 0
  have f0 := frozen_of_row w g 0 _ _ h2
  have hle : 1 ≤ (at_ rs 0).keys.length := g0.1
  have htl : (tailR (at_ rs 0)).keys.length = (at_ rs 0).keys.length - 1 := List.length_drop ..
  have hsl : ∀ W : World, (Instr.slice 26 (.slice (at_ rs 0).a (at_ rs 0).keys.length (at_ rs 0).kc) (some (.int .i64 1)) none none).run Try.prog W = .ok (rowV (tailR (at_ rs 0))) W := fun W => by
    have := run_slice_l1 (P := Try.prog) W 26 9 i9 Try.underlying26 hi9 h91 (at_ rs 0).a (at_ rs 0).keys.length (at_ rs 0).kc 1 .i64 hle
    unfold rowV
    rw [htl]
    exact this
  have HFix := Lib.hid (fun (ht : 0 < (tailR (at_ rs 0)).keys.length) rs' => step_fix (rs' := rs') h0 hg ht)
  have HPop := Lib.hid (fun (ht : (tailR (at_ rs 0)).keys.length = 0) rs' => step_pop (rs' := rs') hn hg ht)
  have htk := tail_keys hkc hka
  have HRT : Hid (0 < (tailR (at_ rs 0)).keys.length → True) := fun _ => trivial
  generalize tailR (at_ rs 0) = xt at *
  obtain ⟨s1, s2, s3⟩ := h.set 0 xt htk h0
  have hl1 : (rs.set 0 xt).length = n + 1 := by rw [List.length_set]; exact hn
  have hhs := heap_set h0 hg.2 xt
  rw [hn] at s1 hhs p0
  obtain ⟨W1, hW1⟩ : ∃ W1, W1 = w.setCell ⟨g, 0, none⟩ (rowV xt) := ⟨_, rfl⟩
  rw [← hW1] at s1 s2 s3
  obtain ⟨g', cap', cs1, e, j1, j2, j3, j4⟩ := (show PileAt B W1 m (.slice (some ⟨g, 0, none⟩) (rs.set 0 xt).length cap) _ from by rw [hl1]; exact s1).rows (by omega)
  simp only [Value.slice.injEq, Option.some.injEq, Addr.mk.injEq, and_true, true_and] at e
  obtain ⟨rfl, rfl⟩ := e
  have c2 := (heap_cell j2 0).trans (j4 0 (by omega))
  have c1 := heap_cell s1.1 0
  have hat0 : at_ (rs.set 0 xt) 0 = xt := by rw [at_set rs 0 0 _ h0, if_pos rfl]
  rw [hat0] at c2
  have HNe : Hid (∀ i, 0 < i → i < n + 1 → 0 < (at_ (rs.set 0 xt) i).keys.length) := fun i hi1 hi2 => by
    rw [at_set rs 0 i _ h0, if_neg (by omega)]
    exact (good_at hg (by omega)).1
  have HS1 := Lib.hid s1
  have HB1 := Lib.hid s2
  have HK1 := Lib.hid s3
  have HHs := Lib.hid hhs
  have HAt := Lib.hid hat0
  have HL1 := Lib.hid hl1
  have HN := Lib.hid hn
  have e0 : (0 : Int) < ((n : Int) + 1) := by omega
  have e1 : (1 : Int) ≤ ((at_ rs 0).keys.length : Int) := by omega
  simp at p0 c1
  unfold rowV at c0 c2 hsl hW1
  clear h h2 h3 h4 htl htk hkc hka g0 hg s1 s2 s3 hhs hat0 hl1 hn j1 j2 j3 j4 HRT hz0 hz2 hi26 hz1 h91
  generalize (at_ rs 0).keys.length = K0 at *
  generalize (at_ rs 0).a = A0 at *
  generalize (at_ rs 0).kc = C0 at *
  go_enter Try.func19, Try.ntmps19
  go_upto_region 1 with (go_region)
  rw [← hW1]
  have c1' : W1.drew.cell? ⟨m, 0, none⟩ = some (.slice (some ⟨g, 0, none⟩) (n + 1) cap) := c1
  have c2' : W1.drew.cell? ⟨g, 0, none⟩ = some (.slice xt.a xt.keys.length xt.kc) := c2
  have HS2 : Hid (PileAt B W1.drew m (.slice (some ⟨g, 0, none⟩) (n + 1) cap) (rs.set 0 xt)) := HS1.out
  have HB2 : Hid (Below B w W1.drew) := HB1.out.drew
  have HK2 : Hid (KeepM w W1.drew) := HK1.out
  clear c1 c2 hW1 HS1 HB1 HK1 f0 p0 c0
  generalize W1.drew = W2 at *
  by_cases ht : xt.keys.length = 0
  · have HT := Lib.hid ht
    have b0 : ((xt.keys.length : Int) == 0) = true := by rw [ht]; rfl
    have HPp := Lib.hid (heapPop_any B m g n cap (rs.set 0 xt) W2 HL1.out HS2.out (by have := HN.out; omega) HNe.out HHs.out)
    generalize xt.keys.length = KL at *
    subst ht
    go_wp2_with fail
    refine HPp.out.mono ?_
    clear HPp
    rintro e w3 ⟨⟨x, rfl⟩, rs', hp, hl', hh, k1, k2, k3, hb, hk⟩
    rw [HAt.out] at k3
    have hres := HPop.out HT.out rs' hl' hh k1 k2 (by rw [HAt.out]; exact k3)
    have HE : Hid (StepIs B m rs w (.returned (.tuple #[])) w3) := ⟨rfl, _, rs', hp, hres.1, hres.2.1, hres.2.2.1, hres.2.2.2.1, hres.2.2.2.2.1, hres.2.2.2.2.2, HB2.out.trans hb, HK2.out.trans hk⟩
    clear hp hl' hh k1 k2 k3 hb hk hres
    go_wp2_with fail
    go_end0
    exact HE.out
  · have b0 : ((xt.keys.length : Int) == 0) = false := by rw [beq_eq_false_iff_ne]; omega
    have HT : Hid (0 < xt.keys.length) := Nat.pos_of_ne_zero ht
    have HFx := Lib.hid (fix_any B m (.slice (some ⟨g, 0, none⟩) (n + 1) cap) (rs.set 0 xt) W2 HS2.out (by rw [HL1.out, ← HN.out]; omega) (fun i hi => by
      rw [HL1.out] at hi
      by_cases e : i = 0
      · subst e; rw [HAt.out]; exact HT.out
      · exact HNe.out i (by omega) hi) (by rw [HL1.out]; exact HHs.out))
    generalize hKL : xt.keys.length = KL at *
    have HKL := Lib.hid hKL
    clear hKL
    go_wp2_with fail
    refine HFx.out.mono ?_
    clear HFx
    rintro e w3 ⟨rs', rfl, hp, hs, hh, hb, hk⟩
    have hres := HFix.out HT.out rs' hs hh
    have HE : Hid (StepIs B m rs w (.returned (.tuple #[])) w3) := ⟨rfl, _, rs', hp, hres.1, hres.2.1, hres.2.2.1, hres.2.2.2.1, hres.2.2.2.2.1, hres.2.2.2.2.2, HB2.out.trans hb, HK2.out.trans hk⟩
    clear hp hs hh hb hk hres
    go_wp2_with fail
    go_end0
    exact HE.out
end Go.Proofs.Ytacjbgmnoiimbaa
