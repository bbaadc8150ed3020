/- Next: walked. -/
import Derived.Test.YtacjbgmnoiimbaaWalkG
namespace Go.Proofs.Ytacjbgmnoiimbaa
set_option linter.unusedVariables false
set_option linter.unusedSimpArgs false
open Go.RowKit

theorem heap_min {rs : List RR} {n : Nat} (h : HeapFrom rs n 0) : ∀ (d i : Nat), i ≤ d → i < n → ¬ hd (at_ rs i) < hd (at_ rs 0)
  | 0, i, h1, _ => by
    obtain rfl : i = 0 := by omega
    exact text_irr _
  | d + 1, i, h1, h2 => by
    by_cases e : i = 0
    · subst e; exact text_irr _
    · have hp := heap_min h d ((i - 1) / 2) (by omega) (by omega)
      have hc := h ((i - 1) / 2) i (Nat.zero_le _) (by omega) h2
      exact not_lt_trans hp hc
theorem min_key {rs : List RR} (hg : GoodP rs) {k : Text} (h : HasK rs k) : ¬ k < hd (at_ rs 0) := by
  obtain ⟨x, hx, hk⟩ := h
  obtain ⟨i, hi, rfl⟩ := mem_at hx
  have h1 := heap_min hg.2 i i (Nat.le_refl _) hi
  have g := good_at hg hi
  obtain ⟨j, hj, e⟩ := List.getElem_of_mem hk
  have e2 : (keysOf (at_ rs i).keys).getD j [] = k := by rw [List.getD_eq_getElem?_getD, List.getElem?_eq_getElem hj]; exact e
  have e3 : (keysOf (at_ rs i).keys).getD 0 [] = hd (at_ rs i) := keysOf_at _ 0
  refine not_lt_trans h1 (fun hlt => ?_)
  by_cases e0 : j = 0
  · subst e0; rw [← e2, e3] at hlt; exact text_irr _ hlt
  · have := rises_lt g.2 0 j (by omega) hj
    rw [e2, e3] at this
    exact less_asym this hlt
theorem hd_has {rs : List RR} (hg : GoodP rs) (h0 : 0 < rs.length) : HasK rs (hd (at_ rs 0)) := by
  refine ⟨_, at_mem h0, ?_⟩
  rw [keysOf_cons (good_at hg h0).1]
  exact List.mem_cons_self
def totAt (W : World) (m : Nat) : Nat := match W.cell? ⟨m, 0, none⟩ with
  | some (.slice (some a) n _) => ((List.range n).map fun i => match W.cell? ⟨a.block, i, none⟩ with | some (.slice _ l _) => l | _ => 0).sum
  | _ => 0
theorem tot_range (rs : List RR) : tot rs = ((List.range rs.length).map fun i => (at_ rs i).keys.length).sum := by
  unfold tot
  congr 1
  apply List.ext_getElem
  · simp
  · intro i h1 h2
    have hi : i < rs.length := by simpa using h1
    simp only [List.getElem_map, List.getElem_range]
    unfold at_
    rw [List.getD_eq_getElem?_getD, List.getElem?_eq_getElem hi]; rfl
theorem totAt_pile {B : Nat} {W : World} {m : Nat} {v : Value} {rs : List RR} (h : PileAt B W m v rs) : totAt W m = tot rs := by
  unfold totAt
  rw [heap_cell h.1 0]
  rcases h.2.2.1 with ⟨e, e2⟩ | ⟨g, cap, cs, e, h1, h2, h3, h4⟩
  · subst e e2; rfl
  · subst e
    rw [tot_range]
    show ((List.range rs.length).map _).sum = _
    congr 1
    apply List.map_congr_left
    intro i hi
    rw [List.mem_range] at hi
    rw [heap_cell h2 i, h4 i hi]; rfl
def NextIs (B m : Nat) (rs : List RR) (w : World) (e : Ending) (w' : World) : Prop :=
  (rs.length = 0 → e = .returned (.tuple #[.string ⟨#[]⟩, .bool false]) ∧ w' = w) ∧
  (0 < rs.length → ∃ key v' rs', e = .returned (.tuple #[.string key, .bool true]) ∧ PileAt B w' m v' rs' ∧ GoodP rs' ∧ rs'.length ≤ rs.length ∧ tot rs' < tot rs ∧ HasK rs key.data.toList ∧ (∀ k, HasK rs k → ¬ k < key.data.toList) ∧ (∀ k, HasK rs' k ↔ HasK rs k ∧ k ≠ key.data.toList) ∧ SubB rs rs' ∧ Below B w w' ∧ KeepM w w')
def NRel (B m : Nat) (rs : List RR) (key : Text) (w wr : World) : Prop := ∃ v rs1, PileAt B wr m v rs1 ∧ GoodP rs1 ∧ rs1.length ≤ rs.length ∧ (rs1 = rs ∨ tot rs1 < tot rs) ∧ (∀ k, k ≠ key → (HasK rs1 k ↔ HasK rs k)) ∧ (∀ k, HasK rs1 k → HasK rs k) ∧ SubB rs rs1 ∧ Below B w wr ∧ KeepM w wr
/-- what a way out of the loop gives -/
theorem next_out {B m : Nat} {rs : List RR} {key : ByteArray} {w wr : World} (hg : GoodP rs) (h0 : 0 < rs.length) (hk : key.data.toList = hd (at_ rs 0)) {v : Value} {rs1 : List RR} (hp : PileAt B wr m v rs1) (hg1 : GoodP rs1) (hl : rs1.length ≤ rs.length) (ht : rs1 = rs ∨ tot rs1 < tot rs) (h1 : ∀ k, k ≠ key.data.toList → (HasK rs1 k ↔ HasK rs k)) (h2 : ∀ k, HasK rs1 k → HasK rs k) (h3 : SubB rs rs1) (hb : Below B w wr) (hm : KeepM w wr)
    (hout : rs1.length = 0 ∨ (0 < rs1.length ∧ hd (at_ rs1 0) ≠ key.data.toList)) : NextIs B m rs w (.returned (.tuple #[.string key, .bool true])) wr := by
  refine ⟨fun h => by omega, fun _ => ⟨key, v, rs1, rfl, hp, hg1, hl, ?_, by rw [hk]; exact hd_has hg h0, fun k hk1 => by rw [hk]; exact min_key hg hk1, fun k => ?_, h3, hb, hm⟩⟩
  · rcases ht with rfl | ht
    · rcases hout with e | ⟨_, e⟩
      · omega
      · exact absurd hk.symm e
    · exact ht
  · constructor
    · intro hk1
      refine ⟨h2 k hk1, ?_⟩
      rcases hout with e | ⟨e0, e⟩
      · obtain ⟨x, hx, _⟩ := hk1
        have := List.eq_nil_of_length_eq_zero e
        subst this; cases hx
      · rintro rfl
        have a1 := min_key hg1 hk1
        have a2 := min_key hg (h2 _ (hd_has hg1 e0))
        rw [← hk] at a2
        rcases text_tri (hd (at_ rs1 0)) key.data.toList with c | c | c
        · exact a2 c
        · exact e c
        · exact a1 c
    · rintro ⟨hk1, hne⟩
      exact (h1 k hne).2 hk1
theorem next_nil (w : World) : Calls Try.prog 15 #[.pointer none] w fun e w' => e = .returned (.tuple #[.string ⟨#[]⟩, .bool false]) ∧ w' = w := by
  have HL := Lib.hid (fun W => left_nil W)
  go_enter Try.func15, Try.ntmps15
  go_wp2_with fail
  refine (HL.out _).mono ?_
  rintro e w1 ⟨rfl, rfl⟩
  go_wp2_with fail
  go_ret2
  first | trivial | exact ⟨rfl, rfl⟩
set_option maxRecDepth 100000 in
set_option maxHeartbeats 2000000 in
theorem next_any (B m : Nat) (v : Value) (rs : List RR) (w : World) (h : PileAt B w m v rs) (hg : GoodP rs) (hl : rs.length ≤ 100000) :
    Calls Try.prog 15 #[.pointer (some ⟨m, 0, none⟩)] w (NextIs B m rs w) := by
  have HLf := Lib.hid (left_any B m v rs w h)
  by_cases h0 : rs.length = 0
  · have HE : Hid (NextIs B m rs w (.returned (.tuple #[.string ⟨#[]⟩, .bool false])) w) := ⟨fun _ => ⟨rfl, rfl⟩, fun h => by omega⟩
    rw [h0] at HLf
    clear h hg h0
    go_enter Try.func15, Try.ntmps15
    go_wp2_with fail
    refine HLf.out.mono ?_
    clear HLf
    rintro e w1 ⟨rfl, rfl⟩
    go_wp2_with fail
    go_ret2
    exact HE.out
  · have h0' : 0 < rs.length := by omega
    obtain ⟨g, cap, cs, rfl, _, _, _, _⟩ := h.rows h0'
    obtain ⟨b, o, l, c, x, c1, c2, c3, c4⟩ := h.two 0 h0' (good_at hg h0').1
    have p0 := heap_cell h.1 0
    simp at p0
    have HRel0 : Hid (NRel B m rs x.data.toList w w) := ⟨_, rs, h, hg, Nat.le_refl _, .inl rfl, fun k _ => Iff.rfl, fun k h => h, SubB.refl _, Below.refl _ _, KeepM.refl _⟩
    have HOut := Lib.hid (fun wr v rs1 => next_out (B := B) (m := m) (w := w) (wr := wr) (v := v) (rs1 := rs1) hg h0' c4)
    have b0 : ((rs.length : Int) == 0) = false := by rw [beq_eq_false_iff_ne]; omega
    have e0 : (0 : Int) < (rs.length : Int) := by omega
    have e1 : (0 : Int) < (l : Int) := by omega
    clear h hg c4
    go_enter Try.func15, Try.ntmps15
    go_wp2_with fail
    refine HLf.out.mono ?_
    clear HLf
    rintro e w1 ⟨rfl, rfl⟩
    go_wp2_with fail
    go_loopw [] (fun wr => Hid (NRel B m rs x.data.toList w1 wr)) (fun wr => totAt wr m)
    case atStart => exact HRel0
    case round =>
      clear HRel0 p0 c1 c2 c3 e0 e1 b0
      have hst := hrel
      clear hrel
      obtain ⟨v, rs1, hp, hg1, hl1, ht, k1, k2, k3, hb, hk⟩ := hst.out
      have HL1 := Lib.hid (left_any B m v rs1 wr hp)
      have HM := Lib.hid (totAt_pile hp)
      by_cases hz : rs1.length = 0
      · have HE := Lib.hid (HOut.out wr v rs1 hp hg1 hl1 ht k1 k2 k3 hb hk (.inl hz))
        rw [hz] at HL1
        clear hst hp hg1 hl1 ht k1 k2 k3 hb hk hz
        go_wp2_with fail
        refine HL1.out.mono ?_
        clear HL1
        rintro e w2 ⟨rfl, rfl⟩
        go_wp2_with fail
        go_ret2
        exact HE.out
      · have hz' : 0 < rs1.length := by omega
        obtain ⟨g, cap, cs, rfl, _, _, _, _⟩ := hp.rows hz'
        obtain ⟨b, o, l, c, y, c1, c2, c3, c4⟩ := hp.two 0 hz' (good_at hg1 hz').1
        have p0 := heap_cell hp.1 0
        simp at p0
        have e0 : (0 : Int) < (rs1.length : Int) := by omega
        have e1 : (0 : Int) < (l : Int) := by omega
        have d0 : decide ((0 : Int) < (rs1.length : Int)) = true := decide_eq_true e0
        by_cases hxy : y = x
        · have ht2 := text_eq_yes y x hxy
          have HSt := Lib.hid (step_any B m _ rs1 wr hp hg1 hz' (by omega))
          have HA : Hid (rs1.length ≤ rs.length ∧ (rs1 = rs ∨ tot rs1 < tot rs) ∧ (∀ k, k ≠ x.data.toList → (HasK rs1 k ↔ HasK rs k)) ∧ (∀ k, HasK rs1 k → HasK rs k) ∧ SubB rs rs1 ∧ Below B w1 wr ∧ KeepM w1 wr ∧ hd (at_ rs1 0) = x.data.toList) := ⟨hl1, ht, k1, k2, k3, hb, hk, by rw [← c4, hxy]⟩
          clear hst hp hg1 hl1 ht k1 k2 k3 hb hk hz hz' c4 hxy
          go_wp2_with fail
          refine HL1.out.mono ?_
          clear HL1
          rintro e w2 ⟨rfl, rfl⟩
          go_wp2_with fail
          refine HSt.out.mono ?_
          clear HSt
          rintro e w3 ⟨rfl, v', rs', hp', hg', hl', htt, j1, j2, j3, hb', hk'⟩
          have HM' := Lib.hid (totAt_pile hp')
          have HTT := Lib.hid htt
          obtain ⟨q1, q2, q3, q4, q8, q5, q6, q7⟩ := HA.out
          rw [q7] at j1
          have HRN : Hid (NRel B m rs x.data.toList w1 w3) := ⟨v', rs', hp', hg', Nat.le_trans hl' q1, .inr (by rcases q2 with rfl | q2 <;> omega), fun k hk => (j1 k hk).trans (q3 k hk), fun k hk => q4 k (j2 k hk), q8.trans j3, q5.trans hb', q6.trans hk'⟩
          clear hp' hg' hl' htt j1 j2 j3 hb' hk' q1 q2 q3 q4 q5 q6 q7 q8 HA
          go_wp2_with fail
          go_roundw
          case rel => exact HRN
          case measure =>
            show totAt _ m < totAt _ m
            rw [HM.out, HM'.out]
            have := HTT.out
            omega
        · have ht2 := text_eq_no y x hxy
          have HE := Lib.hid (HOut.out wr _ rs1 hp hg1 hl1 ht k1 k2 k3 hb hk (.inr ⟨hz', fun e => hxy (bytes_ext (c4.trans e))⟩))
          clear hst hp hg1 hl1 ht k1 k2 k3 hb hk hz hz' c4 hxy
          go_wp2_with fail
          refine HL1.out.mono ?_
          clear HL1
          rintro e w2 ⟨rfl, rfl⟩
          go_wp2_with fail
          go_ret2
          exact HE.out
end Go.Proofs.Ytacjbgmnoiimbaa
