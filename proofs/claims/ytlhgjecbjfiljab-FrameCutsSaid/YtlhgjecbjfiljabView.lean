/- FrameCuts, at any argument: what a slice of slices of bytes holds. -/
import Derived.Test.YtlhgjecbjfiljabLawd
import Derived.Test.YtlhgjecbjfiljabOpen
import Derived.Deep.Slices
namespace Go.Proofs.Ytlhgjecbjfiljab
set_option linter.unusedVariables false
set_option linter.unusedSimpArgs false
open Go.ChangeShapes Go.WideShapes Go.ChangeAt Go.RowKit Go.Deep

theorem view_row {H : Type} {enc : TypeId × Value → H} {P : Program} {W : World} {t e : TypeId} {v : Value} {fuel : Nat} {x : DataW H × List MemPlace}
    (ht : P.underlying t = some (.slice e)) (he : P.underlying e = some (.int .u8)) (hc : P.cellsOf e = 1) (h : DataW.trod enc P W 0 (fun _ => true) true fuel t [v] = some x) :
    ∃ l : List UInt8, ∃ ak ck, v = .slice ak l.length ck ∧ IsBytes W ak l := by
  rcases open_ints ht he hc h with ⟨hcs, _⟩ | ⟨y, l, c, zs, hcs, _, hl, hm, hz, _, hcell, hwz⟩
  · cases hcs
    exact ⟨[], none, 0, rfl, fun h => by cases h⟩
  · cases hcs
    simp only [if_true] at hz
    obtain ⟨q, hq, hv⟩ := bytes_of_ints (len := l) (by omega) hcell hwz
    exact ⟨q, some y, c, by rw [hq], hv⟩
theorem view_rows {H : Type} {enc : TypeId × Value → H} {W : World} {a : Option Addr} {len cap : Nat} {d : DataW H} {p : List MemPlace}
    (h : DataW.Trod enc Try.prog W 0 (fun _ => true) true 34 (.slice a len cap) d p) :
    ∃ ls : List (List UInt8), ls.length = len ∧ len ≤ 9223372036854775807 ∧ (len ≤ cap ∧ IsRows W a ls) := by
  obtain ⟨fuel, hf⟩ := h
  rcases open_slice1 Try.underlying34 (by kernel_rfl) hf with ⟨hcs, _⟩ | ⟨x, l, c, m, n, V, D, Pl, hcs, _, hl, hm, hmm, _, hcell⟩
  · simp [Value.cells] at hcs
    obtain ⟨rfl, rfl, rfl⟩ := hcs
    exact ⟨[], rfl, by omega, by omega, fun h => by cases h⟩
  · simp [Value.cells] at hcs
    obtain ⟨rfl, rfl, rfl⟩ := hcs
    simp only [if_true] at hmm
    subst hmm
    obtain ⟨f, hfv⟩ := choose_lt (α := List UInt8) (n := m) (p := fun i q => ∃ ak ck, V i = .slice ak q.length ck ∧ IsBytes W ak q) (fun i hi => view_row Try.underlying22 Try.underlying5 (by kernel_rfl) (hcell i hi).2)
    unfold maxLen at hm
    have hlen : ((List.range len).map f).length = len := by simp
    refine ⟨(List.range len).map f, hlen, by omega, hl, fun h0 => ?_⟩
    rw [hlen] at h0
    obtain ⟨b, off, spot⟩ := x
    have hc0 := (hcell 0 (by omega)).1
    have hspot : spot = none := by simpa [Addr.add] using World.cell?_spot hc0
    subst hspot
    refine ⟨b, off, rfl, ?_, fun k hk => ?_⟩
    · have := World.block_lt_of_cell? W _ hc0
      simpa [Addr.add] using this
    · rw [hlen] at hk
      have hk1 := (hcell k (by omega)).1
      rw [Addr.add_lit] at hk1
      obtain ⟨ak, ck, h1, h2⟩ := hfv k (by omega)
      have e : ((List.range len).map f).getD k [] = f k := by simp [List.getD, hk]
      rw [e]
      exact ⟨ak, ck, by rw [hk1, h1], h2⟩
theorem lawCutsI (a0 : Option Addr) (cap0 : Nat) (ls : List (List UInt8)) (n1 : Int) (w : World) (hl : ls.length ≤ 9223372036854775807) (hc : ls.length ≤ cap0) (h1 : (Lit.int .u16 n1).wf = true) (h : IsRows w a0 ls) :
    Calls Try.prog 6 #[.slice a0 ls.length cap0, .int .u16 n1] w fun e w' => e = .returned (.bool true) ∧ Below w.heap.size w w' := by
  obtain ⟨A, rfl, hA⟩ := nat_of_u16 h1
  exact lawCuts a0 cap0 ls A w hl hc hA h
end Go.Proofs.Ytlhgjecbjfiljab
