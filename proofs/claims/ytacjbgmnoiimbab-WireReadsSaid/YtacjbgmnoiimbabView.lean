/- A request handed in: what it holds (printed by genWireVw.py). -/
import Derived.Test.YtacjbgmnoiimbabFix
import Derived.Test.YtacjbgmnoiimbabFew
import Derived.Deep.Slices
import Derived.Deep.Strs
import Derived.SizedLaws
namespace Go.Proofs.Ytacjbgmnoiimbab
set_option linter.unusedVariables false
set_option linter.unusedSimpArgs false
set_option maxRecDepth 100000
open Go.ChangeShapes Go.WideShapes Go.ChangeAt Go.RowKit Go.Deep

section
variable {H : Type} {enc : TypeId × Value → H} {W : World}
abbrev Tr (enc : TypeId × Value → H) (W : World) (fuel : Nat) (t : TypeId) (cs : List Value) (x : DataW H × List MemPlace) : Prop := DataW.trod enc Try.prog W 0 (fun _ => true) true fuel t cs = some x
abbrev Wt (t : TypeId) (x : DataW H × List MemPlace) : Prop := ∀ n ∈ x.1.weights Try.prog t, n ≤ reachBytes
theorem trodS {t : TypeId} {fs : Array Field} {fuel : Nat} {cs : List Value} {x : DataW H × List MemPlace} (ht : Try.prog.underlying t = some (.struct fs)) (hw : Wt t x) (h : Tr enc W fuel t cs x) :
    cs.length = Try.prog.cellsOf t ∧ ∀ (i : Nat) (f : Field), fs[i]? = some f → ∃ n y, Tr enc W n f.type ((cs.drop f.offset).take (Try.prog.cellsOf f.type)) y ∧ Wt f.type y := by
  obtain ⟨xs, n, _, rfl, hl, hlen, hf⟩ := DataW.trod_struct ht h
  refine ⟨hl, fun i f hi => ?_⟩
  have hlt : i < xs.length := by rw [hlen]; exact (Array.getElem?_eq_some_iff.1 hi).1
  refine ⟨n, xs[i], (hf i f hi).trans (List.getElem?_eq_getElem hlt), fun m hm => hw m ?_⟩
  simp only [DataW.weights, ht]
  refine DataW.weights_mem_each (j := i) (t := f.type) (d := xs[i].1) ?_ ?_ m hm
  · rw [List.getElem?_map]
    have : fs.toList[i]? = some f := by rw [Array.getElem?_toList]; exact hi
    rw [this]; rfl
  · rw [List.getElem?_map, List.getElem?_eq_getElem hlt]; rfl
theorem v_str {fuel : Nat} {cs : List Value} {x : DataW H × List MemPlace} (hw : Wt 9 x) (h : Tr enc W fuel 9 cs x) : ∃ s, cs = [.string s] ∧ s.size ≤ 140737488351232 := by
  obtain ⟨s, e0, rfl, hs⟩ := DataW.trod_string Try.underlying9 h
  refine ⟨s, e0, ?_⟩
  have := hw s.data.toList.length (by simp [DataW.weights])
  rw [Array.length_toList] at this
  exact this
theorem v_i64 {t : TypeId} (ht : Try.prog.underlying t = some (.int .i64)) {fuel : Nat} {cs : List Value} {x : DataW H × List MemPlace} (h : Tr enc W fuel t cs x) : ∃ n : Int, cs = [.int .i64 n] ∧ iok n := by
  obtain ⟨z, e0, _, hz⟩ := DataW.trod_int ht h
  have := bounds_i64 hz
  exact ⟨z, e0, by unfold iok; omega⟩
theorem v_u64 {fuel : Nat} {cs : List Value} {x : DataW H × List MemPlace} (h : Tr enc W fuel 22 cs x) : ∃ n : Nat, cs = [.int .u64 (n : Int)] ∧ nok n := by
  obtain ⟨z, e0, _, hz⟩ := DataW.trod_int Try.underlying22 h
  have := bounds_u64 hz
  refine ⟨z.toNat, ?_, by unfold nok; omega⟩
  rw [e0]
  have : ((z.toNat : Nat) : Int) = z := by omega
  rw [this]
theorem v_bool {fuel : Nat} {cs : List Value} {x : DataW H × List MemPlace} (h : Tr enc W fuel 4 cs x) : ∃ b, cs = [.bool b] := by
  obtain ⟨b, e0, _⟩ := DataW.trod_bool Try.underlying4 h
  exact ⟨b, e0⟩
theorem weightsAll_mem {P : Program} {e : TypeId} : ∀ {l : List (DataW H)} {d : DataW H}, d ∈ l → ∀ n ∈ d.weights P e, n ∈ DataW.weightsAll P e l
  | d' :: r, d, hd, n, hn => by
    simp only [DataW.weightsAll, List.mem_append]
    rcases List.mem_cons.1 hd with rfl | h
    · exact Or.inl hn
    · exact Or.inr (weightsAll_mem h n hn)
theorem v_els {T : Type} [Inhabited T] {cells : T → List Value} {size : Nat} {Q : T → Prop} {t e : TypeId} (ht : Try.prog.underlying t = some (.slice e)) (hc : Try.prog.cellsOf e = size) (hs : 0 < size) (hy0 : Nat.ble 1 (Try.prog.bytesOf e) = true)
    (hel : ∀ {fuel : Nat} {cs : List Value} {x : DataW H × List MemPlace}, Wt e x → Tr enc W fuel e cs x → ∃ y : T, cs = cells y ∧ Q y) {fuel : Nat} {cs : List Value} {x : DataW H × List MemPlace} (hw : Wt t x) (h : Tr enc W fuel t cs x) :
    ∃ s : LS T, cs = [lsV s] ∧ s.xs.length ≤ s.c ∧ s.xs.length ≤ 140737488351232 ∧ (∀ y ∈ s.xs, Q y) ∧ IsEls cells size W s.a s.xs := by
  have hy : 1 ≤ Try.prog.bytesOf e := Nat.le_of_ble_eq_true hy0
  rcases open_slice ht h with ⟨hcs, _⟩ | ⟨ad, len, cap, m, n, D, Pl, hcs, _, hl, hm, hmm, hx, hcell⟩
  · exact ⟨⟨none, 0, []⟩, hcs, Nat.le_refl _, Nat.zero_le _, (fun y hy => by cases hy), (fun h => absurd h (Nat.lt_irrefl 0))⟩
  · simp only [if_true] at hmm
    subst hmm
    rw [hc] at hcell
    have hwt := hw ((((List.range len).map D).length + ((List.range (m - len)).map fun j => D (len + j)).length) * Try.prog.bytesOf e) (by rw [hx]; simp [DataW.weights, ht])
    simp only [List.length_map, List.length_range] at hwt
    have hr : reachBytes = 140737488351232 := rfl
    have hlen1 : len ≤ 140737488351232 := by
      have h1 : len * 1 ≤ (len + (m - len)) * Try.prog.bytesOf e := Nat.mul_le_mul (by omega) hy
      omega
    obtain ⟨f, hf⟩ := choose_lt (α := T) (n := len) (p := fun i y => W.cells? 0 (ad.add (i * size)) size = some (cells y) ∧ Q y) (fun i hi => by
      obtain ⟨cs', hcc, htt⟩ := hcell i (by omega)
      obtain ⟨y, rfl, hq⟩ := hel (fun k hk => hw k (by
        rw [hx]
        simp only [DataW.weights, ht, List.mem_cons, List.mem_append]
        exact Or.inr (Or.inl (weightsAll_mem (List.mem_map.2 ⟨i, List.mem_range.2 hi, rfl⟩) k hk)))) htt
      exact ⟨y, hcc, hq⟩)
    have hlen : ((List.range len).map f).length = len := by simp
    have hget : ∀ k, k < len → ((List.range len).map f).getD k default = f k := fun k hk => by simp [List.getD, hk]
    refine ⟨⟨some ad, m, (List.range len).map f⟩, by rw [hcs]; simp [lsV], by simp; omega, by simp; exact hlen1, fun y hy => ?_, fun h0 => ?_⟩
    · obtain ⟨k, hk, rfl⟩ := List.mem_map.1 hy
      exact (hf k (List.mem_range.1 hk)).2
    · rw [hlen] at h0
      obtain ⟨b, off, spot⟩ := ad
      have hc0 := (World.cells?_some (hf 0 h0).1)
      have hsz := hc0.2.1
      have hc00 := hc0.2.2 0 hs
      have hsome : (cells (f 0))[0]? = some ((cells (f 0))[0]'(by omega)) := List.getElem?_eq_getElem (by omega)
      have hc1 := hc00.trans hsome
      have hspot : spot = none := by simpa [Addr.add] using World.cell?_spot hc1
      subst hspot
      refine ⟨b, off, rfl, ?_, fun k hk i hi => ?_⟩
      · have := World.block_lt_of_cell? W _ hc1
        simpa [Addr.add] using this
      · rw [hlen] at hk
        rw [hget k hk]
        have hh := (World.cells?_some (hf k hk).1).2.2 i hi
        rw [Addr.add_lit, Addr.add_lit] at hh
        exact hh
theorem cel9 : Try.prog.cellsOf 9 = 1 := by kernel_rfl
theorem cel22 : Try.prog.cellsOf 22 = 1 := by kernel_rfl
theorem cel3 : Try.prog.cellsOf 3 = 1 := by kernel_rfl
theorem cel2 : Try.prog.cellsOf 2 = 1 := by kernel_rfl
theorem cel4 : Try.prog.cellsOf 4 = 1 := by kernel_rfl
theorem cel48 : Try.prog.cellsOf 48 = 2 := by kernel_rfl
theorem cel24 : Try.prog.cellsOf 24 = 3 := by kernel_rfl
theorem cel64 : Try.prog.cellsOf 64 = 3 := by kernel_rfl
theorem cel63 : Try.prog.cellsOf 63 = 3 := by kernel_rfl
theorem cel71 : Try.prog.cellsOf 71 = 6 := by kernel_rfl
theorem cel80 : Try.prog.cellsOf 80 = 3 := by kernel_rfl
theorem cel25 : Try.prog.cellsOf 25 = 1 := by kernel_rfl
theorem cel26 : Try.prog.cellsOf 26 = 1 := by kernel_rfl
theorem cel27 : Try.prog.cellsOf 27 = 1 := by kernel_rfl
theorem cel28 : Try.prog.cellsOf 28 = 1 := by kernel_rfl
theorem v_48 {fuel : Nat} {cs : List Value} {x : DataW H × List MemPlace} (hw : Wt 48 x) (h : Tr enc W fuel 48 cs x) : ∃ s u, cs = [.string s, .string u] ∧ s.size ≤ 140737488351232 ∧ u.size ≤ 140737488351232 := by
  obtain ⟨hl, hf⟩ := trodS Try.underlying48 hw h
  obtain ⟨n0, y0, t0, w0⟩ := hf 0 _ rfl
  obtain ⟨s, e0, bs⟩ := v_str w0 t0
  obtain ⟨n1, y1, t1, w1⟩ := hf 1 _ rfl
  obtain ⟨u, e1, bu⟩ := v_str w1 t1
  have hlen : cs.length = 2 := by rw [hl]; kernel_rfl
  clear hf hl hw h t0 w0 t1 w1
  match cs, hlen with
  | [c0, c1], _ =>
    simp [cel9, cel22, cel3, cel2, cel4, cel48, cel24, cel64, cel63, cel71, cel80, cel25, cel26, cel27, cel28, lsV] at e0 e1
    subst e0 e1; exact ⟨s, u, rfl, bs, bu⟩
theorem v_64 {fuel : Nat} {cs : List Value} {x : DataW H × List MemPlace} (hw : Wt 64 x) (h : Tr enc W fuel 64 cs x) : ∃ s u r, cs = [.string s, .string u, .string r] ∧ s.size ≤ 140737488351232 ∧ u.size ≤ 140737488351232 ∧ r.size ≤ 140737488351232 := by
  obtain ⟨hl, hf⟩ := trodS Try.underlying64 hw h
  obtain ⟨n0, y0, t0, w0⟩ := hf 0 _ rfl
  obtain ⟨s, u, e0, bs, bu⟩ := v_48 w0 t0
  obtain ⟨n1, y1, t1, w1⟩ := hf 1 _ rfl
  obtain ⟨r, e1, br⟩ := v_str w1 t1
  have hlen : cs.length = 3 := by rw [hl]; kernel_rfl
  clear hf hl hw h t0 w0 t1 w1
  match cs, hlen with
  | [c0, c1, c2], _ =>
    simp [cel9, cel22, cel3, cel2, cel4, cel48, cel24, cel64, cel63, cel71, cel80, cel25, cel26, cel27, cel28, lsV] at e0 e1
    obtain ⟨rfl, rfl⟩ := e0; subst e1; exact ⟨s, u, r, rfl, bs, bu, br⟩
theorem v_63 {fuel : Nat} {cs : List Value} {x : DataW H × List MemPlace} (hw : Wt 63 x) (h : Tr enc W fuel 63 cs x) : ∃ s u r, cs = [.string s, .string u, .string r] ∧ s.size ≤ 140737488351232 ∧ u.size ≤ 140737488351232 ∧ r.size ≤ 140737488351232 := by
  obtain ⟨hl, hf⟩ := trodS Try.underlying63 hw h
  obtain ⟨n0, y0, t0, w0⟩ := hf 0 _ rfl
  obtain ⟨s, u, e0, bs, bu⟩ := v_48 w0 t0
  obtain ⟨n1, y1, t1, w1⟩ := hf 1 _ rfl
  obtain ⟨r, e1, br⟩ := v_str w1 t1
  have hlen : cs.length = 3 := by rw [hl]; kernel_rfl
  clear hf hl hw h t0 w0 t1 w1
  match cs, hlen with
  | [c0, c1, c2], _ =>
    simp [cel9, cel22, cel3, cel2, cel4, cel48, cel24, cel64, cel63, cel71, cel80, cel25, cel26, cel27, cel28, lsV] at e0 e1
    obtain ⟨rfl, rfl⟩ := e0; subst e1; exact ⟨s, u, r, rfl, bs, bu, br⟩
theorem v_24 {fuel : Nat} {cs : List Value} {x : DataW H × List MemPlace} (hw : Wt 24 x) (h : Tr enc W fuel 24 cs x) : ∃ s u r, cs = [.string s, .string u, .string r] ∧ s.size ≤ 140737488351232 ∧ u.size ≤ 140737488351232 ∧ r.size ≤ 140737488351232 := by
  obtain ⟨hl, hf⟩ := trodS Try.underlying24 hw h
  obtain ⟨n0, y0, t0, w0⟩ := hf 0 _ rfl
  obtain ⟨s, e0, bs⟩ := v_str w0 t0
  obtain ⟨n1, y1, t1, w1⟩ := hf 1 _ rfl
  obtain ⟨u, e1, bu⟩ := v_str w1 t1
  obtain ⟨n2, y2, t2, w2⟩ := hf 2 _ rfl
  obtain ⟨r, e2, br⟩ := v_str w2 t2
  have hlen : cs.length = 3 := by rw [hl]; kernel_rfl
  clear hf hl hw h t0 w0 t1 w1 t2 w2
  match cs, hlen with
  | [c0, c1, c2], _ =>
    simp [cel9, cel22, cel3, cel2, cel4, cel48, cel24, cel64, cel63, cel71, cel80, cel25, cel26, cel27, cel28, lsV] at e0 e1 e2
    subst e0 e1 e2; exact ⟨s, u, r, rfl, bs, bu, br⟩
theorem v_71 {fuel : Nat} {cs : List Value} {x : DataW H × List MemPlace} (hw : Wt 71 x) (h : Tr enc W fuel 71 cs x) : ∃ y : Six, cs = sixC y ∧ sixB y := by
  obtain ⟨hl, hf⟩ := trodS Try.underlying71 hw h
  obtain ⟨n0, y0, t0, w0⟩ := hf 0 _ rfl
  obtain ⟨s, u, e0, bs, bu⟩ := v_48 w0 t0
  obtain ⟨n1, y1, t1, w1⟩ := hf 1 _ rfl
  obtain ⟨r, e1, br⟩ := v_str w1 t1
  obtain ⟨n2, y2, t2, w2⟩ := hf 2 _ rfl
  obtain ⟨d, f, g, e2, bd, bf, bg⟩ := v_64 w2 t2
  have hlen : cs.length = 6 := by rw [hl]; kernel_rfl
  clear hf hl hw h t0 w0 t1 w1 t2 w2
  match cs, hlen with
  | [c0, c1, c2, c3, c4, c5], _ =>
    simp [cel9, cel22, cel3, cel2, cel4, cel48, cel24, cel64, cel63, cel71, cel80, cel25, cel26, cel27, cel28, lsV] at e0 e1 e2
    obtain ⟨rfl, rfl⟩ := e0; subst e1; obtain ⟨rfl, rfl, rfl⟩ := e2; exact ⟨((s, u, r), d, f, g), rfl, bs, bu, br, bd, bf, bg⟩
theorem v_78 {fuel : Nat} {cs : List Value} {x : DataW H × List MemPlace} (hw : Wt 78 x) (h : Tr enc W fuel 78 cs x) : ∃ y : Six, cs = sixC y ∧ sixB y := by
  obtain ⟨hl, hf⟩ := trodS Try.underlying78 hw h
  obtain ⟨n0, y0, t0, w0⟩ := hf 0 _ rfl
  obtain ⟨s, u, r, e0, bs, bu, br⟩ := v_63 w0 t0
  obtain ⟨n1, y1, t1, w1⟩ := hf 1 _ rfl
  obtain ⟨d, f, g, e1, bd, bf, bg⟩ := v_64 w1 t1
  have hlen : cs.length = 6 := by rw [hl]; kernel_rfl
  clear hf hl hw h t0 w0 t1 w1
  match cs, hlen with
  | [c0, c1, c2, c3, c4, c5], _ =>
    simp [cel9, cel22, cel3, cel2, cel4, cel48, cel24, cel64, cel63, cel71, cel80, cel25, cel26, cel27, cel28, lsV] at e0 e1
    obtain ⟨rfl, rfl, rfl⟩ := e0; obtain ⟨rfl, rfl, rfl⟩ := e1; exact ⟨((s, u, r), d, f, g), rfl, bs, bu, br, bd, bf, bg⟩
theorem v_73 {fuel : Nat} {cs : List Value} {x : DataW H × List MemPlace} (hw : Wt 73 x) (h : Tr enc W fuel 73 cs x) : ∃ y : Wrt, cs = wrtC y ∧ sixB y.2 := by
  obtain ⟨hl, hf⟩ := trodS Try.underlying73 hw h
  obtain ⟨n0, y0, t0, w0⟩ := hf 0 _ rfl
  obtain ⟨b, e0⟩ := v_bool t0
  obtain ⟨n1, y1, t1, w1⟩ := hf 1 _ rfl
  obtain ⟨⟨⟨s, u, r⟩, d, f, g⟩, e1, hb⟩ := v_71 w1 t1
  have hlen : cs.length = 7 := by rw [hl]; kernel_rfl
  clear hf hl hw h t0 w0 t1 w1
  match cs, hlen with
  | [c0, c1, c2, c3, c4, c5, c6], _ =>
    simp [cel9, cel22, cel3, cel2, cel4, cel48, cel24, cel64, cel63, cel71, cel80, cel25, cel26, cel27, cel28, lsV] at e0 e1
    simp [sixC, triC] at e1; subst e0; obtain ⟨rfl, rfl, rfl, rfl, rfl, rfl⟩ := e1; exact ⟨(b, (s, u, r), d, f, g), rfl, hb⟩
theorem v_76 {fuel : Nat} {cs : List Value} {x : DataW H × List MemPlace} (hw : Wt 76 x) (h : Tr enc W fuel 76 cs x) : ∃ y : Wrt, cs = wrtC y ∧ sixB y.2 := by
  obtain ⟨hl, hf⟩ := trodS Try.underlying76 hw h
  obtain ⟨n0, y0, t0, w0⟩ := hf 0 _ rfl
  obtain ⟨b, e0⟩ := v_bool t0
  obtain ⟨n1, y1, t1, w1⟩ := hf 1 _ rfl
  obtain ⟨⟨⟨s, u, r⟩, d, f, g⟩, e1, hb⟩ := v_71 w1 t1
  have hlen : cs.length = 7 := by rw [hl]; kernel_rfl
  clear hf hl hw h t0 w0 t1 w1
  match cs, hlen with
  | [c0, c1, c2, c3, c4, c5, c6], _ =>
    simp [cel9, cel22, cel3, cel2, cel4, cel48, cel24, cel64, cel63, cel71, cel80, cel25, cel26, cel27, cel28, lsV] at e0 e1
    simp [sixC, triC] at e1; subst e0; obtain ⟨rfl, rfl, rfl, rfl, rfl, rfl⟩ := e1; exact ⟨(b, (s, u, r), d, f, g), rfl, hb⟩
theorem v_80 {fuel : Nat} {cs : List Value} {x : DataW H × List MemPlace} (hw : Wt 80 x) (h : Tr enc W fuel 80 cs x) : ∃ (k m : Int) (s : ByteArray), cs = [.int .i64 k, .int .i64 m, .string s] ∧ iok k ∧ iok m ∧ s.size ≤ 140737488351232 := by
  obtain ⟨hl, hf⟩ := trodS Try.underlying80 hw h
  obtain ⟨n0, y0, t0, w0⟩ := hf 0 _ rfl
  obtain ⟨k, e0, hk⟩ := v_i64 Try.underlying3 t0
  obtain ⟨n1, y1, t1, w1⟩ := hf 1 _ rfl
  obtain ⟨m, e1, hm⟩ := v_i64 Try.underlying2 t1
  obtain ⟨n2, y2, t2, w2⟩ := hf 2 _ rfl
  obtain ⟨s, e2, bs⟩ := v_str w2 t2
  have hlen : cs.length = 3 := by rw [hl]; kernel_rfl
  clear hf hl hw h t0 w0 t1 w1 t2 w2
  match cs, hlen with
  | [c0, c1, c2], _ =>
    simp [cel9, cel22, cel3, cel2, cel4, cel48, cel24, cel64, cel63, cel71, cel80, cel25, cel26, cel27, cel28, lsV] at e0 e1 e2
    subst e0 e1 e2; exact ⟨k, m, s, rfl, hk, hm, bs⟩
theorem v_82 {fuel : Nat} {cs : List Value} {x : DataW H × List MemPlace} (hw : Wt 82 x) (h : Tr enc W fuel 82 cs x) : ∃ y : ArgT, cs = argC y ∧ iok y.2.1 ∧ iok y.2.2.1 ∧ y.1.size ≤ 140737488351232 ∧ y.2.2.2.size ≤ 140737488351232 := by
  obtain ⟨hl, hf⟩ := trodS Try.underlying82 hw h
  obtain ⟨n0, y0, t0, w0⟩ := hf 0 _ rfl
  obtain ⟨s, e0, bs⟩ := v_str w0 t0
  obtain ⟨n1, y1, t1, w1⟩ := hf 1 _ rfl
  obtain ⟨k, m, u, e1, hk, hm, bu⟩ := v_80 w1 t1
  have hlen : cs.length = 4 := by rw [hl]; kernel_rfl
  clear hf hl hw h t0 w0 t1 w1
  match cs, hlen with
  | [c0, c1, c2, c3], _ =>
    simp [cel9, cel22, cel3, cel2, cel4, cel48, cel24, cel64, cel63, cel71, cel80, cel25, cel26, cel27, cel28, lsV] at e0 e1
    subst e0; obtain ⟨rfl, rfl, rfl⟩ := e1; exact ⟨(s, k, m, u), rfl, hk, hm, bs, bu⟩
/-- what is known of a request that is handed in -/
def RQok (W : World) (x : RQE) : Prop := reqok x.plain ∧ rqmem (fun _ => True) W x ∧ (x.ws.xs.length ≤ 140737488351232 ∧ x.ps.xs.length ≤ 140737488351232 ∧ x.ks.xs.length ≤ 140737488351232 ∧ x.gs.xs.length ≤ 140737488351232) ∧
  (x.cl.size ≤ 140737488351232 ∧ x.tk.size ≤ 140737488351232 ∧ x.ty.size ≤ 140737488351232 ∧ x.f1.size ≤ 140737488351232 ∧ x.f2.size ≤ 140737488351232 ∧ x.f3.size ≤ 140737488351232) ∧
  (∀ y ∈ x.ws.xs, sixB y.2) ∧ (∀ y ∈ x.ps.xs, sixB y.2) ∧ (∀ y ∈ x.ks.xs, sixB y) ∧ (∀ y ∈ x.gs.xs, y.1.size ≤ 140737488351232 ∧ y.2.2.2.size ≤ 140737488351232)
def rqL (x : RQE) : List Value := [.string x.cl, .int .u64 (x.id : Int), .int .i64 x.kd, .int .i64 x.hw, .string x.tk, .int .u64 (x.n : Int), .string x.ty, .string x.f1, .string x.f2, .string x.f3, lsV x.ws, lsV x.ps, lsV x.ks, lsV x.gs]
theorem lt64 {n : Nat} (h : n ≤ 140737488351232) : n < 18446744073709551616 := by omega
theorem tok_of {s : ByteArray} (h : s.size ≤ 140737488351232) : tok s := by unfold tok; omega
theorem sixok_of {y : Six} (h : sixB y) : sixok y := ⟨⟨tok_of h.1, tok_of h.2.1, tok_of h.2.2.1⟩, tok_of h.2.2.2.1, tok_of h.2.2.2.2.1, tok_of h.2.2.2.2.2⟩
theorem v_30 {fuel : Nat} {cs : List Value} {x : DataW H × List MemPlace} (hw : Wt 30 x) (h : Tr enc W fuel 30 cs x) : ∃ x : RQE, cs = rqL x ∧ RQok W x := by
  obtain ⟨hl, hf⟩ := trodS Try.underlying30 hw h
  obtain ⟨n0, y0, t0, w0⟩ := hf 0 _ rfl
  obtain ⟨cl, e0, bcl⟩ := v_str w0 t0
  obtain ⟨n1, y1, t1, w1⟩ := hf 1 _ rfl
  obtain ⟨id, e1, hid⟩ := v_u64 t1
  obtain ⟨n2, y2, t2, w2⟩ := hf 2 _ rfl
  obtain ⟨kd, e2, hkd⟩ := v_i64 Try.underlying3 t2
  obtain ⟨n3, y3, t3, w3⟩ := hf 3 _ rfl
  obtain ⟨hw2, e3, hhw⟩ := v_i64 Try.underlying3 t3
  obtain ⟨n4, y4, t4, w4⟩ := hf 4 _ rfl
  obtain ⟨tk, e4, btk⟩ := v_str w4 t4
  obtain ⟨n5, y5, t5, w5⟩ := hf 5 _ rfl
  obtain ⟨nn, e5, hnn⟩ := v_u64 t5
  obtain ⟨n6, y6, t6, w6⟩ := hf 6 _ rfl
  obtain ⟨ty, e6, bty⟩ := v_str w6 t6
  obtain ⟨n7, y7, t7, w7⟩ := hf 7 _ rfl
  obtain ⟨f1, f2, f3, e7, bf1, bf2, bf3⟩ := v_24 w7 t7
  obtain ⟨n8, y8, t8, w8⟩ := hf 8 _ rfl
  obtain ⟨ws, e8, lws, mws, qws, iws⟩ := v_els (cells := wrtC) (size := 7) Try.underlying25 (by kernel_rfl) (by decide) (by kernel_rfl) (fun hw h => v_73 hw h) w8 t8
  obtain ⟨n9, y9, t9, w9⟩ := hf 9 _ rfl
  obtain ⟨ps, e9, lps, mps, qps, ips⟩ := v_els (cells := wrtC) (size := 7) Try.underlying26 (by kernel_rfl) (by decide) (by kernel_rfl) (fun hw h => v_76 hw h) w9 t9
  obtain ⟨n10, y10, t10, w10⟩ := hf 10 _ rfl
  obtain ⟨ks, e10, lks, mks, qks, iks⟩ := v_els (cells := sixC) (size := 6) Try.underlying27 (by kernel_rfl) (by decide) (by kernel_rfl) (fun hw h => v_78 hw h) w10 t10
  obtain ⟨n11, y11, t11, w11⟩ := hf 11 _ rfl
  obtain ⟨gs, e11, lgs, mgs, qgs, igs⟩ := v_els (cells := argC) (size := 4) Try.underlying28 (by kernel_rfl) (by decide) (by kernel_rfl) (fun hw h => v_82 hw h) w11 t11
  have hlen : cs.length = 14 := by rw [hl]; kernel_rfl
  clear hf hl hw h t0 w0 t1 w1 t2 w2 t3 w3 t4 w4 t5 w5 t6 w6 t7 w7 t8 w8 t9 w9 t10 w10 t11 w11
  match cs, hlen with
  | [c0, c1, c2, c3, c4, c5, c6, c7, c8, c9, c10, c11, c12, c13], _ =>
    simp [cel9, cel22, cel3, cel2, cel4, cel48, cel24, cel64, cel63, cel71, cel80, cel25, cel26, cel27, cel28, lsV] at e0 e1 e2 e3 e4 e5 e6 e7 e8 e9 e10 e11
    subst e0 e1 e2 e3 e4 e5 e6; obtain ⟨rfl, rfl, rfl⟩ := e7; subst e8 e9 e10 e11; exact ⟨⟨cl, id, kd, hw2, tk, nn, ty, f1, f2, f3, ws, ps, ks, gs⟩, rfl, ⟨tok_of bcl, hid, hkd, hhw, tok_of btk, hnn, tok_of bty, ⟨tok_of bf1, tok_of bf2, tok_of bf3⟩, ⟨lt64 mws, fun y hy => ⟨trivial, sixok_of (qws y hy)⟩⟩, ⟨lt64 mps, fun y hy => ⟨trivial, sixok_of (qps y hy)⟩⟩, ⟨lt64 mks, fun y hy => sixok_of (qks y hy)⟩, ⟨lt64 mgs, fun y hy => ⟨tok_of (qgs y hy).2.2.1, (qgs y hy).1, (qgs y hy).2.1, tok_of (qgs y hy).2.2.2⟩⟩⟩, ⟨⟨lws, iws, fun _ _ _ => trivial, fun _ _ => trivial⟩, ⟨lps, ips, fun _ _ _ => trivial, fun _ _ => trivial⟩, ⟨lks, iks, fun _ _ _ => trivial, fun _ _ => trivial⟩, ⟨lgs, igs, fun _ _ _ => trivial, fun _ _ => trivial⟩⟩, ⟨mws, mps, mks, mgs⟩, ⟨bcl, btk, bty, bf1, bf2, bf3⟩, qws, qps, qks, fun y hy => (qgs y hy).2.2⟩
end
theorem view_req {H : Type} {enc : TypeId × Value → H} {W : World} {base : Nat} {v : Value} {d : DataW H} {p : List MemPlace} (hv : Value.okWide Try.prog W .any base 30 v)
    (hw : ∀ n ∈ d.weights Try.prog 30, n ≤ reachBytes) (h : DataW.Trod enc Try.prog W 0 (fun _ => true) true 30 v d p) : ∃ x : RQE, v = rqV x ∧ RQok W x := by
  obtain ⟨fuel, hf⟩ := h
  obtain ⟨cs, rfl, hs⟩ := okWide_struct Try.underlying30 hv
  obtain ⟨x, hx, hok⟩ := v_30 (x := (d, p)) hw hf
  refine ⟨x, ?_, hok⟩
  have h1 : cs.toList = rqL x := hx
  have h2 : cs = (rqL x).toArray := by rw [← h1]
  rw [h2]; rfl
end Go.Proofs.Ytacjbgmnoiimbab
