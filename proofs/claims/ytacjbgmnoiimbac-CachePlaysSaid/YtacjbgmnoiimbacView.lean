/- What is handed in. -/
import Derived.Test.YtacjbgmnoiimbacAct
import Derived.Deep.Slices
import Derived.Deep.Strs
import Derived.Lib.SmallJoins
namespace Go.Proofs.Ytacjbgmnoiimbac
set_option linter.unusedVariables false
set_option linter.unusedSimpArgs false
open Go.ChangeShapes Go.WideShapes Go.ChangeAt Go.RowKit Go.Deep Go.Joins

theorem nat_of_u16 {n : Int} (h : (Lit.int .u16 n).wf = true) : ∃ k : Nat, n = k ∧ k < 65536 := by
  have := bounds_u16 h
  exact ⟨n.toNat, by omega, by omega⟩
theorem nat_of_u8 {n : Int} (h : (Lit.int .u8 n).wf = true) : ∃ k : Nat, n = k ∧ k < 256 := by
  have := bounds_u8 h
  exact ⟨n.toNat, by omega, by omega⟩
theorem view_act {H : Type} {enc : TypeId × Value → H} {W : World} {fuel : Nat} {cs : List Value} {x : DataW H × List MemPlace}
    (h : DataW.trod enc Try.prog W 0 (fun _ => true) true fuel 30 cs = some x) : ∃ e : AA, cs = [.int .u8 (e.kind : Int), .int .i64 e.file, .int .i64 e.blk, .slice e.a e.keys.length e.kc] ∧ ActOk W e := by
  obtain ⟨y0, y1, y2, y3, n, _, hl, h0, h1, h2, h3⟩ := trod_struct4 Try.underlying30 h
  have hl4 : cs.length = 4 := by rw [hl]; kernel_rfl
  match cs, hl4 with
  | [c0, c1, c2, c3], _ =>
    have h0' : DataW.trod enc Try.prog W 0 (fun _ => true) true n 5 [c0] = some y0 := h0
    have h1' : DataW.trod enc Try.prog W 0 (fun _ => true) true n 3 [c1] = some y1 := h1
    have h2' : DataW.trod enc Try.prog W 0 (fun _ => true) true n 3 [c2] = some y2 := h2
    have h3' : DataW.trod enc Try.prog W 0 (fun _ => true) true n 28 [c3] = some y3 := h3
    obtain ⟨z0, e0, _, hz0⟩ := DataW.trod_int Try.underlying5 h0'
    obtain ⟨z1, e1, _, hz1⟩ := DataW.trod_int Try.underlying3 h1'
    obtain ⟨z2, e2, _, hz2⟩ := DataW.trod_int Try.underlying3 h2'
    obtain ⟨k, rfl, hk⟩ := nat_of_u8 hz0
    cases e0; cases e1; cases e2
    have hs : ∃ a len cap, c3 = .slice a len cap := by
      rcases open_slice Try.underlying28 h3' with ⟨hcs, _⟩ | ⟨ad, len, cap, m, q, D, Pl, hcs, _⟩
      · cases hcs; exact ⟨_, _, _, rfl⟩
      · cases hcs; exact ⟨_, _, _, rfl⟩
    obtain ⟨a, len, cap, rfl⟩ := hs
    obtain ⟨l, rfl, q1, q2, q3, q4⟩ := view_strs (d := y3.1) (p := y3.2) Try.underlying28 Try.underlying9 (by kernel_rfl) ⟨n, h3'⟩
    refine ⟨⟨k, z1, z2, a, cap, l⟩, rfl, hk, q2, q1, fun i => ?_, q4⟩
    by_cases hi : i < l.length
    · exact q3 _ (by show l.getD i ByteArray.empty ∈ l; rw [List.getD_eq_getElem?_getD, List.getElem?_eq_getElem hi]; exact List.getElem_mem hi)
    · show (l.getD i ByteArray.empty).size ≤ _
      rw [List.getD_eq_getElem?_getD, List.getElem?_eq_none (by omega)]; exact Nat.zero_le _
theorem view_acts {H : Type} {enc : TypeId × Value → H} {W : World} {a : Option Addr} {len cap : Nat} {d : DataW H} {p : List MemPlace}
    (h : DataW.Trod enc Try.prog W 0 (fun _ => true) true 23 (.slice a len cap) d p) : ∃ l : List AA, l.length = len ∧ len ≤ 9223372036854775807 ∧ (len ≤ cap ∧ IsActs W a l) := by
  obtain ⟨fuel, hf⟩ := h
  rcases open_slice Try.underlying23 hf with ⟨hcs, _⟩ | ⟨ad, ln, c, m, n, D, Pl, hcs, _, hl, hm, hmm, _, hcell⟩
  · simp [Value.cells] at hcs
    obtain ⟨rfl, rfl, rfl⟩ := hcs
    exact ⟨[], rfl, by decide, by decide, fun h => by cases h⟩
  · simp [Value.cells] at hcs
    obtain ⟨rfl, rfl, rfl⟩ := hcs
    simp only [if_true] at hmm
    subst hmm
    have hc4 : Try.prog.cellsOf 30 = 4 := by kernel_rfl
    rw [hc4] at hcell
    obtain ⟨f, hfs⟩ := choose_lt (α := AA) (n := len) (p := fun i e => W.cells? 0 (ad.add (i * 4)) 4 = some [.int .u8 (e.kind : Int), .int .i64 e.file, .int .i64 e.blk, .slice e.a e.keys.length e.kc] ∧ ActOk W e) (fun i hi => by
      obtain ⟨cs', hc, ht⟩ := hcell i (by omega)
      obtain ⟨e, rfl, hok⟩ := view_act ht
      exact ⟨e, hc, hok⟩)
    unfold maxLen at hm
    refine ⟨(List.range len).map f, by simp, by omega, hl, fun h0 => ?_⟩
    have h0' : 0 < len := by simpa using h0
    obtain ⟨b, off, spot⟩ := ad
    have hc0 := (World.cells?_some (hfs 0 h0').1).2.2 0 (by decide)
    have hspot : spot = none := by simpa [Addr.add] using World.cell?_spot (v := .int .u8 ((f 0).kind : Int)) hc0
    subst hspot
    refine ⟨b, off, rfl, ?_, fun k hk => ?_⟩
    · have := World.block_lt_of_cell? W _ (u := .int .u8 ((f 0).kind : Int)) hc0
      simpa [Addr.add] using this
    · have hk' : k < len := by simpa using hk
      have e : ((List.range len).map f).getD k default = f k := by simp [List.getD, hk']
      rw [e]
      have hh := (World.cells?_some (hfs k hk').1).2.2
      have g0 := hh 0 (by decide)
      have g1 := hh 1 (by decide)
      have g2 := hh 2 (by decide)
      have g3 := hh 3 (by decide)
      simp only [Addr.add_lit, Nat.add_zero] at g0 g1 g2 g3
      exact ⟨g0, g1, g2, g3, (hfs k hk').2⟩
end Go.Proofs.Ytacjbgmnoiimbac
