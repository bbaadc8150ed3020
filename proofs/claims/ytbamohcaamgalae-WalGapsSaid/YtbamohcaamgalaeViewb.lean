/- Lists of entries handed in: what they hold. -/
import Derived.Test.YtbamohcaamgalaeView
import Derived.SizedLaws
namespace Go.Proofs.Ytbamohcaamgalae
set_option linter.unusedVariables false
set_option linter.unusedSimpArgs false
open Go.ChangeShapes Go.WideShapes Go.ChangeAt Go.RowKit Go.Deep

/-- a slice of entries -/
structure SL where
  a : Option Addr
  cap : Nat
  es : List Ent
instance : Inhabited SL := ⟨⟨none, 0, []⟩⟩
def SLok (w : World) (s : SL) : Prop := s.es.length * 32 ≤ 140737488351232 ∧ (∀ i, EntOk (s.es.getD i default)) ∧ IsEnts w s.a s.es
def IsSls (w : World) (a : Option Addr) (ls : List SL) : Prop :=
  0 < ls.length → ∃ b off, a = some ⟨b, off, none⟩ ∧ b < w.heap.size ∧ ∀ k, k < ls.length → w.cell? ⟨b, off + k, none⟩ = some (.slice (ls.getD k default).a (ls.getD k default).es.length (ls.getD k default).cap) ∧ SLok w (ls.getD k default)
theorem IsSls.below {w w' : World} {a : Option Addr} {l : List SL} (h : IsSls w a l) (hb : Below w.heap.size w w') : IsSls w' a l := by
  intro h0
  obtain ⟨b, off, ha, hbw, hc⟩ := h h0
  exact ⟨b, off, ha, Nat.lt_of_lt_of_le hbw hb.size, fun k hk => ⟨(hb.cell (p := ⟨b, off + k, none⟩) hbw).trans (hc k hk).1, (hc k hk).2.1, (hc k hk).2.2.1, (hc k hk).2.2.2.below hb⟩⟩
theorem weightsAll_mem {H : Type} {P : Program} {e : TypeId} : ∀ {l : List (DataW H)} {d : DataW H}, d ∈ l → ∀ n ∈ d.weights P e, n ∈ DataW.weightsAll P e l
  | d' :: r, d, hd, n, hn => by
    simp only [DataW.weightsAll, List.mem_append]
    rcases List.mem_cons.1 hd with rfl | h
    · exact Or.inl hn
    · exact Or.inr (weightsAll_mem h n hn)
theorem Try.bytes48 : Try.prog.bytesOf 48 = 32 := by kernel_rfl
theorem view_entsW {H : Type} {enc : TypeId × Value → H} {W : World} {fuel : Nat} {v : Value} {x : DataW H × List MemPlace}
    (hw : ∀ n ∈ x.1.weights Try.prog 23, n ≤ reachBytes) (h : DataW.trod enc Try.prog W 0 (fun _ => true) true fuel 23 [v] = some x) : ∃ s : SL, v = .slice s.a s.es.length s.cap ∧ SLok W s := by
  obtain ⟨a, cap, es, rfl, h1, h2, h3, h4⟩ := view_ents h
  refine ⟨⟨a, cap, es⟩, rfl, ?_, h3, h4⟩
  show es.length * 32 ≤ 140737488351232
  rcases open_slice Try.underlying23 h with ⟨hcs, _⟩ | ⟨ad, len, c, m, n, D, Pl, hcs, _, hl, hm, hmm, hx, _⟩
  · simp only [List.cons.injEq, Value.slice.injEq, and_true] at hcs
    omega
  · simp only [List.cons.injEq, Value.slice.injEq, and_true] at hcs
    have hw1 := hw ((((List.range len).map D).length + ((List.range (m - len)).map fun j => D (len + j)).length) * Try.prog.bytesOf 48) (by rw [hx]; simp [DataW.weights, Try.underlying23])
    rw [Try.bytes48] at hw1
    simp only [List.length_map, List.length_range] at hw1
    have hr : reachBytes = 140737488351232 := rfl
    have := hcs.2.1
    omega
theorem view_sls {H : Type} {enc : TypeId × Value → H} {W : World} {a : Option Addr} {len cap : Nat} {d : DataW H} {p : List MemPlace}
    (hw : ∀ n ∈ d.weights Try.prog 42, n ≤ reachBytes) (h : DataW.Trod enc Try.prog W 0 (fun _ => true) true 42 (.slice a len cap) d p) :
    ∃ ls : List SL, ls.length = len ∧ len ≤ 9223372036854775807 ∧ (len ≤ cap ∧ IsSls W a ls) := by
  obtain ⟨fuel, hf⟩ := h
  rcases open_slice1 Try.underlying42 (by kernel_rfl) hf with ⟨hcs, _⟩ | ⟨ad, l, c, m, n, V, D, Pl, hcs, _, hl, hm, hmm, hx, hcell⟩
  · simp [Value.cells] at hcs
    obtain ⟨rfl, rfl, rfl⟩ := hcs
    exact ⟨[], rfl, by decide, by decide, fun h => by cases h⟩
  · simp [Value.cells] at hcs
    obtain ⟨rfl, rfl, rfl⟩ := hcs
    simp only [if_true] at hmm
    subst hmm
    simp only [Prod.mk.injEq] at hx
    obtain ⟨hd, _⟩ := hx
    unfold maxLen at hm
    obtain ⟨f, hfs⟩ := choose_lt (α := SL) (n := len) (p := fun i s => W.cell? (ad.add i) = some (.slice s.a s.es.length s.cap) ∧ SLok W s) (fun i hi => by
      obtain ⟨hc, ht⟩ := hcell i (by omega)
      obtain ⟨s, hv, hok⟩ := view_entsW (fun n hn => hw n (by
        rw [hd]
        simp only [DataW.weights, Try.underlying42, List.mem_cons, List.mem_append]
        exact Or.inr (Or.inl (weightsAll_mem (List.mem_map.2 ⟨i, List.mem_range.2 hi, rfl⟩) n hn)))) ht
      exact ⟨s, by rw [hc, hv], hok⟩)
    refine ⟨(List.range len).map f, by simp, by omega, hl, fun h0 => ?_⟩
    have h0' : 0 < len := by simpa using h0
    obtain ⟨b, off, spot⟩ := ad
    have hc0 := (hfs 0 h0').1
    have hspot : spot = none := by simpa [Addr.add] using World.cell?_spot hc0
    subst hspot
    refine ⟨b, off, rfl, ?_, fun k hk => ?_⟩
    · have := World.block_lt_of_cell? W _ hc0
      simpa [Addr.add] using this
    · have hk' : k < len := by simpa using hk
      have e : ((List.range len).map f).getD k default = f k := by simp [List.getD, hk']
      have := hfs k hk'
      rw [Addr.add_lit] at this
      rw [e]; exact this
end Go.Proofs.Ytbamohcaamgalae
