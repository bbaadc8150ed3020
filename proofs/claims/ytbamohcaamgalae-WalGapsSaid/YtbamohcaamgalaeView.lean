/- A commit handed in: what it holds. -/
import Derived.Test.YtbamohcaamgalaeLawb
import Derived.Test.YtbamohcaamgalaeOpen
import Derived.Deep.Slices
import Derived.Deep.Strs
namespace Go.Proofs.Ytbamohcaamgalae
set_option linter.unusedVariables false
set_option linter.unusedSimpArgs false
open Go.ChangeShapes Go.WideShapes Go.ChangeAt Go.RowKit Go.Deep

theorem nat_of_u64 {n : Int} (h : (Lit.int .u64 n).wf = true) : ∃ k : Nat, n = k ∧ k < 18446744073709551616 := by
  have := bounds_u64 h
  exact ⟨n.toNat, by omega, by omega⟩
theorem view_ent {H : Type} {enc : TypeId × Value → H} {W : World} {fuel : Nat} {cs : List Value} {x : DataW H × List MemPlace}
    (h : DataW.trod enc Try.prog W 0 (fun _ => true) true fuel 48 cs = some x) : ∃ e : Ent, cs = [.string e.key, .int .u64 (e.rev : Int), .bool e.del] ∧ EntOk e := by
  obtain ⟨y0, y1, y2, n, _, hl, h0, h1, h2⟩ := trod_struct3 Try.underlying48 h
  have hl3 : cs.length = 3 := by rw [hl]; kernel_rfl
  match cs, hl3 with
  | [c0, c1, c2], _ =>
    have h0' : DataW.trod enc Try.prog W 0 (fun _ => true) true n 9 [c0] = some y0 := h0
    have h1' : DataW.trod enc Try.prog W 0 (fun _ => true) true n 22 [c1] = some y1 := h1
    have h2' : DataW.trod enc Try.prog W 0 (fun _ => true) true n 4 [c2] = some y2 := h2
    obtain ⟨s, e0, _, hs⟩ := DataW.trod_string Try.underlying9 h0'
    obtain ⟨z, e1, _, hz⟩ := DataW.trod_int Try.underlying22 h1'
    obtain ⟨b, e2, _⟩ := DataW.trod_bool Try.underlying4 h2'
    obtain ⟨k, rfl, hk⟩ := nat_of_u64 hz
    cases e0; cases e1; cases e2
    unfold maxLen at hs
    exact ⟨⟨s, k, b⟩, rfl, hk, by omega⟩
theorem view_ents {H : Type} {enc : TypeId × Value → H} {W : World} {fuel : Nat} {v : Value} {x : DataW H × List MemPlace}
    (h : DataW.trod enc Try.prog W 0 (fun _ => true) true fuel 23 [v] = some x) : ∃ a cap es, v = .slice a es.length cap ∧ es.length ≤ 9223372036854775807 ∧ es.length ≤ cap ∧ (∀ i, EntOk (es.getD i default)) ∧ IsEnts W a es := by
  have hdef : EntOk (default : Ent) := ⟨by decide, by decide⟩
  rcases open_slice Try.underlying23 h with ⟨hcs, _⟩ | ⟨ad, len, cap, m, n, D, Pl, hcs, _, hl, hm, hmm, _, hcell⟩
  · cases hcs
    exact ⟨none, 0, [], rfl, by decide, Nat.le_refl _, fun i => by simp; exact hdef, fun h => by cases h⟩
  · cases hcs
    simp only [if_true] at hmm
    subst hmm
    have hc3 : Try.prog.cellsOf 48 = 3 := by kernel_rfl
    rw [hc3] at hcell
    obtain ⟨f, hf⟩ := choose_lt (α := Ent) (n := m) (p := fun i e => W.cells? 0 (ad.add (i * 3)) 3 = some [.string e.key, .int .u64 (e.rev : Int), .bool e.del] ∧ EntOk e) (fun i hi => by
      obtain ⟨cs', hc, ht⟩ := hcell i hi
      obtain ⟨e, rfl, hok⟩ := view_ent ht
      exact ⟨e, hc, hok⟩)
    unfold maxLen at hm
    have hlen : ((List.range len).map f).length = len := by simp
    refine ⟨some ad, m, (List.range len).map f, by rw [hlen], by omega, by omega, fun i => ?_, fun h0 => ?_⟩
    · by_cases hi : i < len
      · have e : ((List.range len).map f).getD i default = f i := by simp [List.getD, hi]
        rw [e]; exact (hf i (by omega)).2
      · rw [List.getD_eq_getElem?_getD, List.getElem?_eq_none (by omega)]; exact hdef
    · rw [hlen] at h0
      obtain ⟨b, off, spot⟩ := ad
      have hc0 := (World.cells?_some (hf 0 (by omega)).1).2.2 0 (by decide)
      have hspot : spot = none := by simpa [Addr.add] using World.cell?_spot (v := .string (f 0).key) hc0
      subst hspot
      refine ⟨b, off, rfl, ?_, fun k hk => ?_⟩
      · have := World.block_lt_of_cell? W _ (u := .string (f 0).key) hc0
        simpa [Addr.add] using this
      · rw [hlen] at hk
        have e : ((List.range len).map f).getD k default = f k := by simp [List.getD, hk]
        rw [e]
        have hh := (World.cells?_some (hf k (by omega)).1).2.2
        have g0 := hh 0 (by decide)
        have g1 := hh 1 (by decide)
        have g2 := hh 2 (by decide)
        simp only [Addr.add_lit, Nat.add_zero] at g0 g1 g2
        exact ⟨g0, g1, g2⟩
theorem view_com {H : Type} {enc : TypeId × Value → H} {W : World} {base : Nat} {v : Value} {d : DataW H} {p : List MemPlace} (hv : Value.okWide Try.prog W .any base 25 v)
    (h : DataW.Trod enc Try.prog W 0 (fun _ => true) true 25 v d p) : ∃ x : Nat × Option Addr × Nat × List Ent, v = comV x.1 x.2.1 x.2.2.2.length x.2.2.1 ∧ (x.1 < 18446744073709551616 ∧ x.2.2.2.length ≤ 9223372036854775807 ∧ (∀ i, EntOk (x.2.2.2.getD i default)) ∧ IsEnts W x.2.1 x.2.2.2) := by
  obtain ⟨fuel, hf⟩ := h
  obtain ⟨cs, rfl, hs⟩ := okWide_struct Try.underlying25 hv
  have hs2 : cs.size = 2 := by rw [hs]; kernel_rfl
  obtain ⟨y0, y1, n, _, hl, h0, h1⟩ := trod_struct2 Try.underlying25 hf
  obtain ⟨c0, c1, rfl⟩ : ∃ c0 c1, cs = #[c0, c1] := by
    obtain ⟨l⟩ := cs
    match l, hs2 with
    | [c0, c1], _ => exact ⟨c0, c1, rfl⟩
  have h0' : DataW.trod enc Try.prog W 0 (fun _ => true) true n 22 [c0] = some y0 := h0
  have h1' : DataW.trod enc Try.prog W 0 (fun _ => true) true n 23 [c1] = some y1 := h1
  obtain ⟨z, e0, _, hz⟩ := DataW.trod_int Try.underlying22 h0'
  obtain ⟨k, rfl, hk⟩ := nat_of_u64 hz
  cases e0
  obtain ⟨a, cap, es, rfl, g1, g2, g3, g4⟩ := view_ents h1'
  exact ⟨(k, a, cap, es), rfl, hk, g1, g3, g4⟩
end Go.Proofs.Ytbamohcaamgalae
