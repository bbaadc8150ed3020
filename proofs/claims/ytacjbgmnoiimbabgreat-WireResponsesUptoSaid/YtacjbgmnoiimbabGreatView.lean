/- A response handed in: what it holds (printed by genGreatView.py). -/
import Derived.Test.YtacjbgmnoiimbabGreatSameP
import Derived.Deep.Slices
import Derived.Deep.Strs
import Derived.SizedLaws
namespace Go.Proofs.YtacjbgmnoiimbabGreat
set_option linter.unusedVariables false
set_option linter.unusedSimpArgs false
set_option maxRecDepth 100000
open Go.ChangeShapes Go.WideShapes Go.ChangeAt Go.RowKit Go.Deep

section
variable {H : Type} {enc : TypeId × Value → H} {W : World}
abbrev Tr (enc : TypeId × Value → H) (W : World) (fuel : Nat) (t : TypeId) (cs : List Value) (x : DataW H × List MemPlace) : Prop := DataW.trod enc Tryz.prog W 0 (fun _ => true) true fuel t cs = some x
abbrev Bk (x : DataW H × List MemPlace) : Nat := Rows.uptoBulk x.1
theorem bk_pos (d : DataW H) : 1 ≤ Rows.uptoBulk d := by
  cases d with
  | lit l => cases l <;> simp [Rows.uptoBulk]
  | nil => simp [Rows.uptoBulk]
  | ptr d => simp [Rows.uptoBulk]
  | slice elems spare => simp [Rows.uptoBulk]
  | agg parts => simp [Rows.uptoBulk]
  | iface t d => simp [Rows.uptoBulk]
  | map entries => simp [Rows.uptoBulk]
  | held h => simp [Rows.uptoBulk]
theorem bk_part {d : DataW H} {l : List (DataW H)} (h : d ∈ l) : Rows.uptoBulk d ≤ Rows.uptoBulkAll l := by
  induction l with
  | nil => cases h
  | cons x r ih =>
    simp only [Rows.uptoBulkAll]
    cases List.mem_cons.1 h with
    | inl e => subst e; omega
    | inr e => have := ih e; omega
theorem bk_count (l : List (DataW H)) : l.length ≤ Rows.uptoBulkAll l := by
  induction l with
  | nil => simp [Rows.uptoBulkAll]
  | cons x r ih => have := bk_pos x; simp only [Rows.uptoBulkAll, List.length_cons]; omega
theorem bk_body {T : Type} (en : T → List UInt8) (f : Nat → T) (D : Nat → DataW H) : ∀ l : List Nat, (∀ i ∈ l, (en (f i)).length ≤ 10 * Rows.uptoBulk (D i)) → (bodyE en (l.map f)).length ≤ 10 * Rows.uptoBulkAll (l.map D)
  | [], _ => Nat.zero_le _
  | i :: r, h => by
    rw [List.map_cons, List.map_cons, body_cons, List.length_append]
    have h1 := h i List.mem_cons_self
    have h2 := bk_body en f D r (fun k hk => h k (List.mem_cons_of_mem _ hk))
    simp only [Rows.uptoBulkAll]
    omega
theorem trodS {t : TypeId} {fs : Array Field} {fuel : Nat} {cs : List Value} {x : DataW H × List MemPlace} (ht : Tryz.prog.underlying t = some (.struct fs)) (h : Tr enc W fuel t cs x) :
    ∃ xs : List (DataW H × List MemPlace), xs.length = fs.size ∧ Bk x = Rows.uptoBulkAll (xs.map (·.1)) + 1 ∧ cs.length = Tryz.prog.cellsOf t ∧ ∃ n, ∀ (i : Nat) (f : Field), fs[i]? = some f → ∃ y, xs[i]? = some y ∧ Tr enc W n f.type ((cs.drop f.offset).take (Tryz.prog.cellsOf f.type)) y := by
  obtain ⟨xs, n, _, rfl, hl, hlen, hf⟩ := DataW.trod_struct ht h
  refine ⟨xs, hlen, by simp only [Bk, Rows.uptoBulk], hl, n, fun i f hi => ?_⟩
  have hlt : i < xs.length := by rw [hlen]; exact (Array.getElem?_eq_some_iff.1 hi).1
  exact ⟨xs[i], List.getElem?_eq_getElem hlt, (hf i f hi).trans (List.getElem?_eq_getElem hlt)⟩
theorem v_str {fuel : Nat} {cs : List Value} {x : DataW H × List MemPlace} (hb : Bk x ≤ 1048576) (h : Tr enc W fuel 9 cs x) : ∃ s, cs = [.string s] ∧ s.size ≤ 1048576 ∧ (txt s).length ≤ 10 * Bk x := by
  obtain ⟨s, e0, rfl, hs⟩ := DataW.trod_string Tryz.underlying9 h
  simp only [Bk, Rows.uptoBulk, Array.length_toList] at hb ⊢
  have hsz : s.data.size = s.size := rfl
  rw [hsz] at hb ⊢
  refine ⟨s, e0, by omega, ?_⟩
  have := uv_len64 s.size (by omega)
  rw [txt_len]
  omega
theorem v_i64 {t : TypeId} (ht : Tryz.prog.underlying t = some (.int .i64)) {fuel : Nat} {cs : List Value} {x : DataW H × List MemPlace} (h : Tr enc W fuel t cs x) : ∃ n : Int, cs = [.int .i64 n] ∧ iok n ∧ (intE n).length ≤ 10 * Bk x := by
  obtain ⟨z, e0, _, hz⟩ := DataW.trod_int ht h
  have hz2 := bounds_i64 hz
  have hk : iok z := by unfold iok; omega
  have hp := bk_pos x.1
  have h3 : (intE z).length ≤ 10 := uv_len64 _ (zig_lt hk)
  exact ⟨z, e0, hk, by show _ ≤ 10 * Rows.uptoBulk x.1; omega⟩
theorem v_u64 {fuel : Nat} {cs : List Value} {x : DataW H × List MemPlace} (h : Tr enc W fuel 22 cs x) : ∃ n : Nat, cs = [.int .u64 (n : Int)] ∧ nok n ∧ (uv n).length ≤ 10 * Bk x := by
  obtain ⟨z, e0, _, hz⟩ := DataW.trod_int Tryz.underlying22 h
  have hz2 := bounds_u64 hz
  have hp := bk_pos x.1
  have h3 := uv_len64 z.toNat (by omega)
  refine ⟨z.toNat, ?_, by unfold nok; omega, by show _ ≤ 10 * Rows.uptoBulk x.1; omega⟩
  rw [e0]
  have : ((z.toNat : Nat) : Int) = z := by omega
  rw [this]
theorem v_bool {fuel : Nat} {cs : List Value} {x : DataW H × List MemPlace} (h : Tr enc W fuel 4 cs x) : ∃ b, cs = [.bool b] ∧ (boolE b).length ≤ 10 * Bk x := by
  obtain ⟨b, e0, _⟩ := DataW.trod_bool Tryz.underlying4 h
  have hp := bk_pos x.1
  refine ⟨b, e0, ?_⟩
  have : (boolE b).length = 1 := by rw [boolE_eq]; rfl
  show _ ≤ 10 * Rows.uptoBulk x.1
  omega
theorem v_els {T : Type} [Inhabited T] {cells : T → List Value} {size : Nat} {Q : T → Prop} {en : T → List UInt8} {t e : TypeId} (ht : Tryz.prog.underlying t = some (.slice e)) (hc : Tryz.prog.cellsOf e = size) (hs : 0 < size)
    {fuel : Nat} {cs : List Value} {x : DataW H × List MemPlace} (hb : Bk x ≤ 1048576) (hel : ∀ {fuel : Nat} {cs : List Value} {z : DataW H × List MemPlace}, Bk z + 1 ≤ Bk x → Tr enc W fuel e cs z → ∃ y : T, cs = cells y ∧ Q y ∧ (en y).length ≤ 10 * Bk z) (h : Tr enc W fuel t cs x) :
    ∃ s : LS T, cs = [lsV s] ∧ s.xs.length ≤ s.c ∧ s.xs.length ≤ 1048576 ∧ (∀ y ∈ s.xs, Q y) ∧ IsEls cells size W s.a s.xs ∧ (listE en s.xs).length ≤ 10 * Bk x := by
  rcases open_slice ht h with ⟨hcs, hx⟩ | ⟨ad, len, cap, m, n, D, Pl, hcs, _, hl, hm, hmm, hx, hcell⟩
  · have hp := bk_pos x.1
    refine ⟨⟨none, 0, []⟩, hcs, Nat.le_refl _, Nat.zero_le _, (fun y hy => by cases hy), (fun h => absurd h (Nat.lt_irrefl 0)), ?_⟩
    have : (listE en ([] : List T)).length = 1 := by
      unfold listE
      rw [List.length_nil, uv_zero]; rfl
    show (listE en ([] : List T)).length ≤ 10 * Rows.uptoBulk x.1
    omega
  · simp only [if_true] at hmm
    subst hmm
    rw [hc] at hcell
    have hbx : Bk x = Rows.uptoBulkAll ((List.range len).map D) + Rows.uptoBulkAll ((List.range (m - len)).map fun j => D (len + j)) + 1 := by rw [hx]; simp only [Bk, Rows.uptoBulk]
    have hcnt := bk_count ((List.range len).map D)
    rw [List.length_map, List.length_range] at hcnt
    obtain ⟨f, hf⟩ := choose_lt (α := T) (n := len) (p := fun i y => W.cells? 0 (ad.add (i * size)) size = some (cells y) ∧ Q y ∧ (en y).length ≤ 10 * Rows.uptoBulk (D i)) (fun i hi => by
      obtain ⟨cs', hcc, htt⟩ := hcell i (by omega)
      have hpt := bk_part (d := D i) (l := (List.range len).map D) (List.mem_map.2 ⟨i, List.mem_range.2 hi, rfl⟩)
      obtain ⟨y, rfl, hq⟩ := hel (by show Rows.uptoBulk (D i) + 1 ≤ _; omega) htt
      exact ⟨y, hcc, hq⟩)
    have hlen : ((List.range len).map f).length = len := by simp
    have hget : ∀ k, k < len → ((List.range len).map f).getD k default = f k := fun k hk => by simp [List.getD, hk]
    refine ⟨⟨some ad, m, (List.range len).map f⟩, by rw [hcs]; simp [lsV], by simp; omega, by simp; omega, fun y hy => ?_, fun h0 => ?_, ?_⟩
    · obtain ⟨k, hk, rfl⟩ := List.mem_map.1 hy
      exact (hf k (List.mem_range.1 hk)).2.1
    · rw [hlen] at h0
      obtain ⟨b, off, spot⟩ := ad
      have hc0 := (World.cells?_some (hf 0 h0).1)
      have hsz := hc0.2.1
      have hc00 := hc0.2.2 0 hs
      have hsome : (cells (f 0))[0]? = some ((cells (f 0))[0]'(by omega)) := List.getElem?_eq_getElem (by omega)
      have hc1 := hc00.trans hsome
      have hspot : spot = none := by simpa [Addr.add] using World.cell?_spot hc1
      subst hspot
      refine ⟨b, off, rfl, ?_, fun k hk i hi => ?_⟩
      · have := World.block_lt_of_cell? W _ hc1
        simpa [Addr.add] using this
      · rw [hlen] at hk
        rw [hget k hk]
        have hh := (World.cells?_some (hf k hk).1).2.2 i hi
        rw [Addr.add_lit, Addr.add_lit] at hh
        exact hh
    · have h1 := bk_body en f D (List.range len) (fun i hi => (hf i (List.mem_range.1 hi)).2.2)
      have h2 := uv_len64 ((List.range len).map f).length (by rw [hlen]; omega)
      show (listE en ((List.range len).map f)).length ≤ _
      unfold listE
      rw [List.length_append]
      omega
theorem cel9 : Tryz.prog.cellsOf 9 = 1 := by kernel_rfl
theorem cel22 : Tryz.prog.cellsOf 22 = 1 := by kernel_rfl
theorem cel23 : Tryz.prog.cellsOf 23 = 1 := by kernel_rfl
theorem cel3 : Tryz.prog.cellsOf 3 = 1 := by kernel_rfl
theorem cel4 : Tryz.prog.cellsOf 4 = 1 := by kernel_rfl
theorem cel30 : Tryz.prog.cellsOf 30 = 2 := by kernel_rfl
theorem cel60 : Tryz.prog.cellsOf 60 = 3 := by kernel_rfl
theorem cel68 : Tryz.prog.cellsOf 68 = 3 := by kernel_rfl
theorem cel62 : Tryz.prog.cellsOf 62 = 6 := by kernel_rfl
theorem cel65 : Tryz.prog.cellsOf 65 = 7 := by kernel_rfl
theorem cel24 : Tryz.prog.cellsOf 24 = 1 := by kernel_rfl
theorem cel25 : Tryz.prog.cellsOf 25 = 1 := by kernel_rfl
theorem cel26 : Tryz.prog.cellsOf 26 = 1 := by kernel_rfl
theorem cel27 : Tryz.prog.cellsOf 27 = 1 := by kernel_rfl
theorem cel28 : Tryz.prog.cellsOf 28 = 1 := by kernel_rfl
theorem cel31 : Tryz.prog.cellsOf 31 = 1 := by kernel_rfl
theorem cel32 : Tryz.prog.cellsOf 32 = 1 := by kernel_rfl
theorem cel69 : Tryz.prog.cellsOf 69 = 1 := by kernel_rfl
theorem cel72 : Tryz.prog.cellsOf 72 = 1 := by kernel_rfl
theorem cel71 : Tryz.prog.cellsOf 71 = 4 := by kernel_rfl
theorem cel34 : Tryz.prog.cellsOf 34 = 6 := by kernel_rfl
theorem cel74 : Tryz.prog.cellsOf 74 = 11 := by kernel_rfl
set_option maxHeartbeats 1000000 in
theorem v_30 {fuel : Nat} {cs : List Value} {x : DataW H × List MemPlace} (hb : Bk x ≤ 1048576) (h : Tr enc W fuel 30 cs x) : ∃ s u, cs = [.string s, .string u] ∧ s.size ≤ 1048576 ∧ u.size ≤ 1048576 ∧ (duoE (s, u)).length ≤ 10 * Bk x := by
  obtain ⟨xs, hlx, hbk, hl, n, hf⟩ := trodS Tryz.underlying30 h
  have hlx2 : xs.length = 2 := hlx
  match xs, hlx2 with
  | [y0, y1], _ =>
    simp only [List.map, Rows.uptoBulkAll, Nat.add_zero] at hbk
    obtain ⟨_, hy0, t0⟩ := hf 0 _ rfl
    cases (Option.some.inj hy0)
    obtain ⟨_, hy1, t1⟩ := hf 1 _ rfl
    cases (Option.some.inj hy1)
    have b0 : Rows.uptoBulk y0.1 + 1 ≤ Bk x := by omega
    have b1 : Rows.uptoBulk y1.1 + 1 ≤ Bk x := by omega
    have d0 : Bk y0 ≤ 1048576 := by show Rows.uptoBulk y0.1 ≤ _; omega
    have d1 : Bk y1 ≤ 1048576 := by show Rows.uptoBulk y1.1 ≤ _; omega
    obtain ⟨s, e0, bs, ns⟩ := v_str d0 t0
    obtain ⟨u, e1, bu, nu⟩ := v_str d1 t1
    have hlen : cs.length = 2 := by rw [hl]; kernel_rfl
    clear hf hl h hlx t0 hy0 d0 b0 t1 hy1 d1 b1
    match cs, hlen with
    | [c0, c1], _ =>
      simp [cel9, cel22, cel23, cel3, cel4, cel30, cel60, cel68, cel62, cel65, cel24, cel25, cel26, cel27, cel28, cel31, cel32, cel69, cel72, cel71, cel34, cel74, lsV] at e0 e1
      subst e0 e1; exact ⟨s, u, rfl, bs, bu, by simp only [duoE, List.length_append]; simp only [Bk] at *; omega⟩
set_option maxHeartbeats 1000000 in
theorem v_60 {fuel : Nat} {cs : List Value} {x : DataW H × List MemPlace} (hb : Bk x ≤ 1048576) (h : Tr enc W fuel 60 cs x) : ∃ s u r, cs = [.string s, .string u, .string r] ∧ s.size ≤ 1048576 ∧ u.size ≤ 1048576 ∧ r.size ≤ 1048576 ∧ (triE (s, u, r)).length ≤ 10 * Bk x := by
  obtain ⟨xs, hlx, hbk, hl, n, hf⟩ := trodS Tryz.underlying60 h
  have hlx2 : xs.length = 2 := hlx
  match xs, hlx2 with
  | [y0, y1], _ =>
    simp only [List.map, Rows.uptoBulkAll, Nat.add_zero] at hbk
    obtain ⟨_, hy0, t0⟩ := hf 0 _ rfl
    cases (Option.some.inj hy0)
    obtain ⟨_, hy1, t1⟩ := hf 1 _ rfl
    cases (Option.some.inj hy1)
    have b0 : Rows.uptoBulk y0.1 + 1 ≤ Bk x := by omega
    have b1 : Rows.uptoBulk y1.1 + 1 ≤ Bk x := by omega
    have d0 : Bk y0 ≤ 1048576 := by show Rows.uptoBulk y0.1 ≤ _; omega
    have d1 : Bk y1 ≤ 1048576 := by show Rows.uptoBulk y1.1 ≤ _; omega
    obtain ⟨s, u, e0, bs, bu, n0⟩ := v_30 d0 t0
    obtain ⟨r, e1, br, nr⟩ := v_str d1 t1
    have hlen : cs.length = 3 := by rw [hl]; kernel_rfl
    clear hf hl h hlx t0 hy0 d0 b0 t1 hy1 d1 b1
    match cs, hlen with
    | [c0, c1, c2], _ =>
      simp [cel9, cel22, cel23, cel3, cel4, cel30, cel60, cel68, cel62, cel65, cel24, cel25, cel26, cel27, cel28, cel31, cel32, cel69, cel72, cel71, cel34, cel74, lsV] at e0 e1
      obtain ⟨rfl, rfl⟩ := e0; subst e1; exact ⟨s, u, r, rfl, bs, bu, br, by simp only [duoE, List.length_append] at n0; simp only [triE, List.length_append]; simp only [Bk] at *; omega⟩
set_option maxHeartbeats 1000000 in
theorem v_68 {fuel : Nat} {cs : List Value} {x : DataW H × List MemPlace} (hb : Bk x ≤ 1048576) (h : Tr enc W fuel 68 cs x) : ∃ s u r, cs = [.string s, .string u, .string r] ∧ s.size ≤ 1048576 ∧ u.size ≤ 1048576 ∧ r.size ≤ 1048576 ∧ (triE (s, u, r)).length ≤ 10 * Bk x := by
  obtain ⟨xs, hlx, hbk, hl, n, hf⟩ := trodS Tryz.underlying68 h
  have hlx2 : xs.length = 2 := hlx
  match xs, hlx2 with
  | [y0, y1], _ =>
    simp only [List.map, Rows.uptoBulkAll, Nat.add_zero] at hbk
    obtain ⟨_, hy0, t0⟩ := hf 0 _ rfl
    cases (Option.some.inj hy0)
    obtain ⟨_, hy1, t1⟩ := hf 1 _ rfl
    cases (Option.some.inj hy1)
    have b0 : Rows.uptoBulk y0.1 + 1 ≤ Bk x := by omega
    have b1 : Rows.uptoBulk y1.1 + 1 ≤ Bk x := by omega
    have d0 : Bk y0 ≤ 1048576 := by show Rows.uptoBulk y0.1 ≤ _; omega
    have d1 : Bk y1 ≤ 1048576 := by show Rows.uptoBulk y1.1 ≤ _; omega
    obtain ⟨s, u, e0, bs, bu, n0⟩ := v_30 d0 t0
    obtain ⟨r, e1, br, nr⟩ := v_str d1 t1
    have hlen : cs.length = 3 := by rw [hl]; kernel_rfl
    clear hf hl h hlx t0 hy0 d0 b0 t1 hy1 d1 b1
    match cs, hlen with
    | [c0, c1, c2], _ =>
      simp [cel9, cel22, cel23, cel3, cel4, cel30, cel60, cel68, cel62, cel65, cel24, cel25, cel26, cel27, cel28, cel31, cel32, cel69, cel72, cel71, cel34, cel74, lsV] at e0 e1
      obtain ⟨rfl, rfl⟩ := e0; subst e1; exact ⟨s, u, r, rfl, bs, bu, br, by simp only [duoE, List.length_append] at n0; simp only [triE, List.length_append]; simp only [Bk] at *; omega⟩
def sixS (t : Six) : Prop := t.1.1.size ≤ 1048576 ∧ t.1.2.1.size ≤ 1048576 ∧ t.1.2.2.size ≤ 1048576 ∧ t.2.1.size ≤ 1048576 ∧ t.2.2.1.size ≤ 1048576 ∧ t.2.2.2.size ≤ 1048576
set_option maxHeartbeats 1000000 in
theorem v_62 {fuel : Nat} {cs : List Value} {x : DataW H × List MemPlace} (hb : Bk x ≤ 1048576) (h : Tr enc W fuel 62 cs x) : ∃ y : Six, cs = sixC y ∧ sixS y ∧ (sixE y).length ≤ 10 * Bk x := by
  obtain ⟨xs, hlx, hbk, hl, n, hf⟩ := trodS Tryz.underlying62 h
  have hlx2 : xs.length = 3 := hlx
  match xs, hlx2 with
  | [y0, y1, y2], _ =>
    simp only [List.map, Rows.uptoBulkAll, Nat.add_zero] at hbk
    obtain ⟨_, hy0, t0⟩ := hf 0 _ rfl
    cases (Option.some.inj hy0)
    obtain ⟨_, hy1, t1⟩ := hf 1 _ rfl
    cases (Option.some.inj hy1)
    obtain ⟨_, hy2, t2⟩ := hf 2 _ rfl
    cases (Option.some.inj hy2)
    have b0 : Rows.uptoBulk y0.1 + 1 ≤ Bk x := by omega
    have b1 : Rows.uptoBulk y1.1 + 1 ≤ Bk x := by omega
    have b2 : Rows.uptoBulk y2.1 + 1 ≤ Bk x := by omega
    have d0 : Bk y0 ≤ 1048576 := by show Rows.uptoBulk y0.1 ≤ _; omega
    have d1 : Bk y1 ≤ 1048576 := by show Rows.uptoBulk y1.1 ≤ _; omega
    have d2 : Bk y2 ≤ 1048576 := by show Rows.uptoBulk y2.1 ≤ _; omega
    obtain ⟨s, u, e0, bs, bu, n0⟩ := v_30 d0 t0
    obtain ⟨r, e1, br, nr⟩ := v_str d1 t1
    obtain ⟨d, f, g, e2, bd, bf, bg, n2⟩ := v_60 d2 t2
    have hlen : cs.length = 6 := by rw [hl]; kernel_rfl
    clear hf hl h hlx t0 hy0 d0 b0 t1 hy1 d1 b1 t2 hy2 d2 b2
    match cs, hlen with
    | [c0, c1, c2, c3, c4, c5], _ =>
      simp [cel9, cel22, cel23, cel3, cel4, cel30, cel60, cel68, cel62, cel65, cel24, cel25, cel26, cel27, cel28, cel31, cel32, cel69, cel72, cel71, cel34, cel74, lsV] at e0 e1 e2
      obtain ⟨rfl, rfl⟩ := e0; subst e1; obtain ⟨rfl, rfl, rfl⟩ := e2; exact ⟨((s, u, r), d, f, g), rfl, ⟨bs, bu, br, bd, bf, bg⟩, by simp only [duoE, triE, List.length_append] at n0 n2; simp only [sixE, triE, List.length_append]; simp only [Bk] at *; omega⟩
set_option maxHeartbeats 1000000 in
theorem v_65 {fuel : Nat} {cs : List Value} {x : DataW H × List MemPlace} (hb : Bk x ≤ 1048576) (h : Tr enc W fuel 65 cs x) : ∃ y : Wrt, cs = wrtC y ∧ sixS y.2 ∧ (wrtE y).length ≤ 10 * Bk x := by
  obtain ⟨xs, hlx, hbk, hl, n, hf⟩ := trodS Tryz.underlying65 h
  have hlx2 : xs.length = 2 := hlx
  match xs, hlx2 with
  | [y0, y1], _ =>
    simp only [List.map, Rows.uptoBulkAll, Nat.add_zero] at hbk
    obtain ⟨_, hy0, t0⟩ := hf 0 _ rfl
    cases (Option.some.inj hy0)
    obtain ⟨_, hy1, t1⟩ := hf 1 _ rfl
    cases (Option.some.inj hy1)
    have b0 : Rows.uptoBulk y0.1 + 1 ≤ Bk x := by omega
    have b1 : Rows.uptoBulk y1.1 + 1 ≤ Bk x := by omega
    have d0 : Bk y0 ≤ 1048576 := by show Rows.uptoBulk y0.1 ≤ _; omega
    have d1 : Bk y1 ≤ 1048576 := by show Rows.uptoBulk y1.1 ≤ _; omega
    obtain ⟨b, e0, n0⟩ := v_bool t0
    obtain ⟨⟨⟨s, u, r⟩, d, f, g⟩, e1, hb1, n1⟩ := v_62 d1 t1
    have hlen : cs.length = 7 := by rw [hl]; kernel_rfl
    clear hf hl h hlx t0 hy0 d0 b0 t1 hy1 d1 b1
    match cs, hlen with
    | [c0, c1, c2, c3, c4, c5, c6], _ =>
      simp [cel9, cel22, cel23, cel3, cel4, cel30, cel60, cel68, cel62, cel65, cel24, cel25, cel26, cel27, cel28, cel31, cel32, cel69, cel72, cel71, cel34, cel74, lsV] at e0 e1
      simp [sixC, triC] at e1; subst e0; obtain ⟨rfl, rfl, rfl, rfl, rfl, rfl⟩ := e1; exact ⟨(b, (s, u, r), d, f, g), rfl, hb1, by simp only [wrtE, List.length_append]; simp only [Bk] at *; omega⟩
set_option maxHeartbeats 1000000 in
theorem v_67 {fuel : Nat} {cs : List Value} {x : DataW H × List MemPlace} (hb : Bk x ≤ 1048576) (h : Tr enc W fuel 67 cs x) : ∃ y : Evt, cs = evtC y ∧ (nok y.1 ∧ sixS y.2.2) ∧ (evtE y).length ≤ 10 * Bk x := by
  obtain ⟨xs, hlx, hbk, hl, n, hf⟩ := trodS Tryz.underlying67 h
  have hlx2 : xs.length = 2 := hlx
  match xs, hlx2 with
  | [y0, y1], _ =>
    simp only [List.map, Rows.uptoBulkAll, Nat.add_zero] at hbk
    obtain ⟨_, hy0, t0⟩ := hf 0 _ rfl
    cases (Option.some.inj hy0)
    obtain ⟨_, hy1, t1⟩ := hf 1 _ rfl
    cases (Option.some.inj hy1)
    have b0 : Rows.uptoBulk y0.1 + 1 ≤ Bk x := by omega
    have b1 : Rows.uptoBulk y1.1 + 1 ≤ Bk x := by omega
    have d0 : Bk y0 ≤ 1048576 := by show Rows.uptoBulk y0.1 ≤ _; omega
    have d1 : Bk y1 ≤ 1048576 := by show Rows.uptoBulk y1.1 ≤ _; omega
    obtain ⟨m, e0, hm, n0⟩ := v_u64 t0
    obtain ⟨⟨b, ⟨s, u, r⟩, d, f, g⟩, e1, hb1, n1⟩ := v_65 d1 t1
    have hlen : cs.length = 8 := by rw [hl]; kernel_rfl
    clear hf hl h hlx t0 hy0 d0 b0 t1 hy1 d1 b1
    match cs, hlen with
    | [c0, c1, c2, c3, c4, c5, c6, c7], _ =>
      simp [cel9, cel22, cel23, cel3, cel4, cel30, cel60, cel68, cel62, cel65, cel24, cel25, cel26, cel27, cel28, cel31, cel32, cel69, cel72, cel71, cel34, cel74, lsV] at e0 e1
      simp [wrtC, sixC, triC] at e1; subst e0; obtain ⟨rfl, rfl, rfl, rfl, rfl, rfl, rfl⟩ := e1; exact ⟨(m, b, (s, u, r), d, f, g), rfl, ⟨hm, hb1⟩, by simp only [evtE, List.length_append]; simp only [Bk] at *; omega⟩
theorem tok_of {s : ByteArray} (h : s.size ≤ 1048576) : tok s := by unfold tok; omega
theorem lt64 {n : Nat} (h : n ≤ 1048576) : n < 18446744073709551616 := by omega
theorem v_rule : ∀ (b : Nat) {fuel : Nat} {cs : List Value} {x : DataW H × List MemPlace}, Bk x ≤ b → b ≤ 1048576 → Tr enc W fuel 71 cs x → ∃ y : RE, cs = reC y ∧ (okR y.plain ∧ remem b (fun _ => True) W y) ∧ (reE y).length ≤ 10 * Bk x := by
  intro b
  induction b with
  | zero =>
    intro fuel cs x hb _ _
    have := bk_pos x.1
    simp only [Bk] at hb
    omega
  | succ b ih =>
    intro fuel cs x hb0 hb1 h
    have hb : Bk x ≤ 1048576 := Nat.le_trans hb0 hb1
    obtain ⟨xs, hlx, hbk, hl, n, hf⟩ := trodS Tryz.underlying71 h
    have hlx2 : xs.length = 4 := hlx
    match xs, hlx2 with
    | [y0, y1, y2, y3], _ =>
      simp only [List.map, Rows.uptoBulkAll, Nat.add_zero] at hbk
      obtain ⟨_, hy0, t0⟩ := hf 0 _ rfl
      cases (Option.some.inj hy0)
      obtain ⟨_, hy1, t1⟩ := hf 1 _ rfl
      cases (Option.some.inj hy1)
      obtain ⟨_, hy2, t2⟩ := hf 2 _ rfl
      cases (Option.some.inj hy2)
      obtain ⟨_, hy3, t3⟩ := hf 3 _ rfl
      cases (Option.some.inj hy3)
      have b0 : Rows.uptoBulk y0.1 + 1 ≤ Bk x := by omega
      have b1 : Rows.uptoBulk y1.1 + 1 ≤ Bk x := by omega
      have b2 : Rows.uptoBulk y2.1 + 1 ≤ Bk x := by omega
      have b3 : Rows.uptoBulk y3.1 + 1 ≤ Bk x := by omega
      have d0 : Bk y0 ≤ 1048576 := by show Rows.uptoBulk y0.1 ≤ _; omega
      have d1 : Bk y1 ≤ 1048576 := by show Rows.uptoBulk y1.1 ≤ _; omega
      have d2 : Bk y2 ≤ 1048576 := by show Rows.uptoBulk y2.1 ≤ _; omega
      have d3 : Bk y3 ≤ 1048576 := by show Rows.uptoBulk y3.1 ≤ _; omega
      obtain ⟨k, e0, hk, n0⟩ := v_i64 Tryz.underlying3 t0
      obtain ⟨A, e1, bA, nA⟩ := v_str d1 t1
      obtain ⟨B, e2, bB, nB⟩ := v_str d2 t2
      obtain ⟨⟨a, c, qs⟩, e3, lq, mq, qq, iq, n3⟩ := v_els (T := RE) (cells := reC) (size := 4) (en := reE) (Q := fun y => okR y.plain ∧ remem b (fun _ => True) W y) Tryz.underlying69 (by kernel_rfl) (by decide) d3 (fun hz ht => ih (by simp only [Bk] at *; omega) (by omega) ht) t3
      have hlen : cs.length = 4 := by rw [hl]; kernel_rfl
      clear hf hl h hlx t0 hy0 d0 b0 t1 hy1 d1 b1 t2 hy2 d2 b2 t3 hy3 d3 b3
      match cs, hlen with
      | [c0, c1, c2, c3], _ =>
        simp [cel9, cel22, cel23, cel3, cel4, cel30, cel60, cel68, cel62, cel65, cel24, cel25, cel26, cel27, cel28, cel31, cel32, cel69, cel72, cel71, cel34, cel74, lsV] at e0 e1 e2 e3
        subst e0 e1 e2 e3
        simp only at lq mq qq iq n3
        have hl4 : (qs.map RE.plain).length = qs.length := List.length_map _
        refine ⟨⟨k, A, B, a, c, qs.map RE.plain⟩, ?_, ⟨(okR_eq _ _ _ _).2 ⟨hk, tok_of bA, tok_of bB, by rw [hl4]; exact lt64 mq, okRs_iff.2 (fun z hz => ?_)⟩, by show (qs.map RE.plain).length ≤ c; rw [hl4]; exact lq, qs, rfl, iq, fun _ _ _ => trivial, fun z hz => (qq z hz).2⟩, ?_⟩
        · simp [reC]
        · obtain ⟨w, hw, rfl⟩ := List.mem_map.1 hz
          exact (qq w hw).1
        · rw [reE_eq, ← reE_list rfl]
          simp only [List.length_append]
          simp only [Bk] at *
          omega
theorem v_node : ∀ (b : Nat) {fuel : Nat} {cs : List Value} {x : DataW H × List MemPlace}, Bk x ≤ b → b ≤ 1048576 → Tr enc W fuel 34 cs x → ∃ y : NE, cs = neC y ∧ (okN y.plain ∧ nemem b (fun _ => True) W y) ∧ (neE y).length ≤ 10 * Bk x := by
  intro b
  induction b with
  | zero =>
    intro fuel cs x hb _ _
    have := bk_pos x.1
    simp only [Bk] at hb
    omega
  | succ b ih =>
    intro fuel cs x hb0 hb1 h
    have hb : Bk x ≤ 1048576 := Nat.le_trans hb0 hb1
    obtain ⟨xs, hlx, hbk, hl, n, hf⟩ := trodS Tryz.underlying34 h
    have hlx2 : xs.length = 5 := hlx
    match xs, hlx2 with
    | [y0, y1, y2, y3, y4], _ =>
      simp only [List.map, Rows.uptoBulkAll, Nat.add_zero] at hbk
      obtain ⟨_, hy0, t0⟩ := hf 0 _ rfl
      cases (Option.some.inj hy0)
      obtain ⟨_, hy1, t1⟩ := hf 1 _ rfl
      cases (Option.some.inj hy1)
      obtain ⟨_, hy2, t2⟩ := hf 2 _ rfl
      cases (Option.some.inj hy2)
      obtain ⟨_, hy3, t3⟩ := hf 3 _ rfl
      cases (Option.some.inj hy3)
      obtain ⟨_, hy4, t4⟩ := hf 4 _ rfl
      cases (Option.some.inj hy4)
      have b0 : Rows.uptoBulk y0.1 + 1 ≤ Bk x := by omega
      have b1 : Rows.uptoBulk y1.1 + 1 ≤ Bk x := by omega
      have b2 : Rows.uptoBulk y2.1 + 1 ≤ Bk x := by omega
      have b3 : Rows.uptoBulk y3.1 + 1 ≤ Bk x := by omega
      have b4 : Rows.uptoBulk y4.1 + 1 ≤ Bk x := by omega
      have d0 : Bk y0 ≤ 1048576 := by show Rows.uptoBulk y0.1 ≤ _; omega
      have d1 : Bk y1 ≤ 1048576 := by show Rows.uptoBulk y1.1 ≤ _; omega
      have d2 : Bk y2 ≤ 1048576 := by show Rows.uptoBulk y2.1 ≤ _; omega
      have d3 : Bk y3 ≤ 1048576 := by show Rows.uptoBulk y3.1 ≤ _; omega
      have d4 : Bk y4 ≤ 1048576 := by show Rows.uptoBulk y4.1 ≤ _; omega
      obtain ⟨k, e0, hk, n0⟩ := v_i64 Tryz.underlying3 t0
      obtain ⟨s, u, e1, bs, bu, n1⟩ := v_30 d1 t1
      obtain ⟨r, e2, br, nr⟩ := v_str d2 t2
      obtain ⟨⟨sa, sc, ss⟩, e3, ls, ms, qs0, is0, n3⟩ := v_els (T := Tri) (cells := triC) (size := 3) (en := triE) (Q := fun y => triok y) Tryz.underlying31 (by kernel_rfl) (by decide) d3 (fun hz ht => by obtain ⟨s, u, r, e, h1, h2, h3, h4⟩ := v_60 (Nat.le_trans (Nat.le_of_succ_le hz) d3) ht; exact ⟨(s, u, r), e, ⟨tok_of h1, tok_of h2, tok_of h3⟩, h4⟩) t3
      obtain ⟨⟨a, c, qs⟩, e4, lq, mq, qq, iq, n4⟩ := v_els (T := NE) (cells := neC) (size := 6) (en := neE) (Q := fun y => okN y.plain ∧ nemem b (fun _ => True) W y) Tryz.underlying32 (by kernel_rfl) (by decide) d4 (fun hz ht => ih (by simp only [Bk] at *; omega) (by omega) ht) t4
      have hlen : cs.length = 6 := by rw [hl]; kernel_rfl
      clear hf hl h hlx t0 hy0 d0 b0 t1 hy1 d1 b1 t2 hy2 d2 b2 t3 hy3 d3 b3 t4 hy4 d4 b4
      match cs, hlen with
      | [c0, c1, c2, c3, c4, c5], _ =>
        simp [cel9, cel22, cel23, cel3, cel4, cel30, cel60, cel68, cel62, cel65, cel24, cel25, cel26, cel27, cel28, cel31, cel32, cel69, cel72, cel71, cel34, cel74, lsV] at e0 e1 e2 e3 e4
        obtain ⟨rfl, rfl⟩ := e1
        subst e0 e2 e3 e4
        simp only at lq mq qq iq n3 n4 ls ms qs0 is0
        have hl4 : (qs.map NE.plain).length = qs.length := List.length_map _
        refine ⟨⟨k, s, u, r, sa, sc, ss, a, c, qs.map NE.plain⟩, ?_, ⟨(okN_eq _ _ _ _ _).2 ⟨hk, ⟨tok_of bs, tok_of bu⟩, tok_of br, ⟨lt64 ms, qs0⟩, by rw [hl4]; exact lt64 mq, okNs_iff.2 (fun z hz => ?_)⟩, ls, by show (qs.map NE.plain).length ≤ c; rw [hl4]; exact lq, is0, fun _ _ _ => trivial, qs, rfl, iq, fun _ _ _ => trivial, fun z hz => (qq z hz).2⟩, ?_⟩
        · simp [neC]
        · obtain ⟨w, hw, rfl⟩ := List.mem_map.1 hz
          exact (qq w hw).1
        · show (encN (.mk k (s, u) r ss (qs.map NE.plain))).length ≤ _
          rw [encN_eq, ← neE_list rfl]
          simp only [List.length_append]
          simp only [Bk] at *
          omega
/-- what is known of a step that is handed in -/
def StepOk (W : World) (y : SE) : Prop := stepok y.plain ∧ semem 1048576 (fun _ => True) W y ∧ sixS (y.p, y.s) ∧ y.bs.length ≤ 1048576 ∧ (encR y.r.plain).length ≤ 10485760
set_option maxHeartbeats 1000000 in
theorem v_74 {fuel : Nat} {cs : List Value} {x : DataW H × List MemPlace} (hb : Bk x ≤ 1048576) (h : Tr enc W fuel 74 cs x) : ∃ y : SE, cs = seC y ∧ StepOk W y ∧ (seE y).length ≤ 10 * Bk x := by
  obtain ⟨xs, hlx, hbk, hl, n, hf⟩ := trodS Tryz.underlying74 h
  have hlx2 : xs.length = 4 := hlx
  match xs, hlx2 with
  | [y0, y1, y2, y3], _ =>
    simp only [List.map, Rows.uptoBulkAll, Nat.add_zero] at hbk
    obtain ⟨_, hy0, t0⟩ := hf 0 _ rfl
    cases (Option.some.inj hy0)
    obtain ⟨_, hy1, t1⟩ := hf 1 _ rfl
    cases (Option.some.inj hy1)
    obtain ⟨_, hy2, t2⟩ := hf 2 _ rfl
    cases (Option.some.inj hy2)
    obtain ⟨_, hy3, t3⟩ := hf 3 _ rfl
    cases (Option.some.inj hy3)
    have b0 : Rows.uptoBulk y0.1 + 1 ≤ Bk x := by omega
    have b1 : Rows.uptoBulk y1.1 + 1 ≤ Bk x := by omega
    have b2 : Rows.uptoBulk y2.1 + 1 ≤ Bk x := by omega
    have b3 : Rows.uptoBulk y3.1 + 1 ≤ Bk x := by omega
    have d0 : Bk y0 ≤ 1048576 := by show Rows.uptoBulk y0.1 ≤ _; omega
    have d1 : Bk y1 ≤ 1048576 := by show Rows.uptoBulk y1.1 ≤ _; omega
    have d2 : Bk y2 ≤ 1048576 := by show Rows.uptoBulk y2.1 ≤ _; omega
    have d3 : Bk y3 ≤ 1048576 := by show Rows.uptoBulk y3.1 ≤ _; omega
    obtain ⟨s, u, r, e0, bs, bu, br, n0⟩ := v_68 d0 t0
    obtain ⟨rr, e1, ⟨ok1, rm1⟩, n1⟩ := v_rule 1048576 d1 (Nat.le_refl _) t1
    obtain ⟨d, f, g, e2, bd, bf, bg, n2⟩ := v_60 d2 t2
    obtain ⟨⟨ba, bc, bl⟩, e3, lq, mq, qq, iq, n3⟩ := v_els (T := Int) (cells := intC) (size := 1) (en := intE) (Q := fun y => iok y) Tryz.underlying72 (by kernel_rfl) (by decide) d3 (fun hz ht => by obtain ⟨m, e, h1, h2⟩ := v_i64 Tryz.underlying3 ht; exact ⟨m, e, h1, h2⟩) t3
    have hlen : cs.length = 11 := by rw [hl]; kernel_rfl
    clear hf hl h hlx t0 hy0 d0 b0 t1 hy1 d1 b1 t2 hy2 d2 b2 t3 hy3 d3 b3
    match cs, hlen with
    | [c0, c1, c2, c3, c4, c5, c6, c7, c8, c9, c10], _ =>
      simp [cel9, cel22, cel23, cel3, cel4, cel30, cel60, cel68, cel62, cel65, cel24, cel25, cel26, cel27, cel28, cel31, cel32, cel69, cel72, cel71, cel34, cel74, lsV] at e0 e1 e2 e3
      simp [reC] at e1
      obtain ⟨rfl, rfl, rfl⟩ := e0
      obtain ⟨rfl, rfl, rfl, rfl⟩ := e1
      obtain ⟨rfl, rfl, rfl⟩ := e2
      subst e3
      simp only at lq mq qq iq n3
      refine ⟨⟨(s, u, r), rr, (d, f, g), ba, bc, bl⟩, rfl, ⟨⟨⟨tok_of bs, tok_of bu, tok_of br⟩, ok1, ⟨tok_of bd, tok_of bf, tok_of bg⟩, lt64 mq, qq⟩, ⟨rm1, lq, iq, fun _ _ _ => trivial, qq⟩, ⟨bs, bu, br, bd, bf, bg⟩, mq, ?_⟩, ?_⟩
      · have h7 : (encR rr.plain).length = (reE rr).length := rfl
        show (encR rr.plain).length ≤ _
        simp only [Bk] at *
        omega
      · show (stepE ((s, u, r), rr.plain, (d, f, g), bl)).length ≤ _
        have h7 : (encR rr.plain).length = (reE rr).length := rfl
        rw [stepE_eq]
        simp only [List.length_append]
        simp only [Bk] at *
        omega
/-- what is known of a response that is handed in -/
structure RPok (W : World) (x : RPE) : Prop where
  ok : respok x.plain
  fs : lsmem boolC 1 nomem (fun _ => True) W x.fs
  ts : lsmem sixC 6 nomem (fun _ => True) W x.ts
  os : lsmem duoC 2 nomem (fun _ => True) W x.os
  es : lsmem evtC 8 nomem (fun _ => True) W x.es
  ss : lsmem seC 11 (semem 1048576) (fun _ => True) W x.ss
  nd : nemem 1048576 (fun _ => True) W x.nd
  tl : ∀ y ∈ x.ts.xs, sixS y
  ol : ∀ y ∈ x.os.xs, y.1.size ≤ 1048576 ∧ y.2.size ≤ 1048576
  el : ∀ y ∈ x.es.xs, nok y.1 ∧ sixS y.2.2
  sl : ∀ y ∈ x.ss.xs, StepOk W y
  tk : x.tk.size ≤ 1048576
  ln : x.fs.xs.length ≤ 1048576 ∧ x.ts.xs.length ≤ 1048576 ∧ x.os.xs.length ≤ 1048576 ∧ x.es.xs.length ≤ 1048576 ∧ x.ss.xs.length ≤ 1048576
  nl : (encN x.nd.plain).length ≤ 10485760
  len : ([112, 49] ++ respE x.plain).length ≤ 10485762
theorem sixok_of {y : Six} (h : sixS y) : sixok y := ⟨⟨tok_of h.1, tok_of h.2.1, tok_of h.2.2.1⟩, tok_of h.2.2.2.1, tok_of h.2.2.2.2.1, tok_of h.2.2.2.2.2⟩
def rpL (x : RPE) : List Value := [.int .u64 (x.id : Int), .int .i64 x.er, .int .u64 (x.rv : Int), .string x.tk, lsV x.fs, lsV x.ts, lsV x.os, lsV x.es, lsV x.ss, .int .i64 x.nd.k, .string x.nd.t, .string x.nd.i, .string x.nd.r, .slice x.nd.sa x.nd.ss.length x.nd.sc, .slice x.nd.a x.nd.ps.length x.nd.c]
set_option maxHeartbeats 1000000 in
theorem v_36 {fuel : Nat} {cs : List Value} {x : DataW H × List MemPlace} (hb : Bk x ≤ 1048576) (h : Tr enc W fuel 36 cs x) : ∃ x : RPE, cs = rpL x ∧ RPok W x := by
  obtain ⟨xs, hlx, hbk, hl, n, hf⟩ := trodS Tryz.underlying36 h
  have hlx2 : xs.length = 10 := hlx
  match xs, hlx2 with
  | [y0, y1, y2, y3, y4, y5, y6, y7, y8, y9], _ =>
    simp only [List.map, Rows.uptoBulkAll, Nat.add_zero] at hbk
    obtain ⟨_, hy0, t0⟩ := hf 0 _ rfl
    cases (Option.some.inj hy0)
    obtain ⟨_, hy1, t1⟩ := hf 1 _ rfl
    cases (Option.some.inj hy1)
    obtain ⟨_, hy2, t2⟩ := hf 2 _ rfl
    cases (Option.some.inj hy2)
    obtain ⟨_, hy3, t3⟩ := hf 3 _ rfl
    cases (Option.some.inj hy3)
    obtain ⟨_, hy4, t4⟩ := hf 4 _ rfl
    cases (Option.some.inj hy4)
    obtain ⟨_, hy5, t5⟩ := hf 5 _ rfl
    cases (Option.some.inj hy5)
    obtain ⟨_, hy6, t6⟩ := hf 6 _ rfl
    cases (Option.some.inj hy6)
    obtain ⟨_, hy7, t7⟩ := hf 7 _ rfl
    cases (Option.some.inj hy7)
    obtain ⟨_, hy8, t8⟩ := hf 8 _ rfl
    cases (Option.some.inj hy8)
    obtain ⟨_, hy9, t9⟩ := hf 9 _ rfl
    cases (Option.some.inj hy9)
    have b0 : Rows.uptoBulk y0.1 + 1 ≤ Bk x := by omega
    have b1 : Rows.uptoBulk y1.1 + 1 ≤ Bk x := by omega
    have b2 : Rows.uptoBulk y2.1 + 1 ≤ Bk x := by omega
    have b3 : Rows.uptoBulk y3.1 + 1 ≤ Bk x := by omega
    have b4 : Rows.uptoBulk y4.1 + 1 ≤ Bk x := by omega
    have b5 : Rows.uptoBulk y5.1 + 1 ≤ Bk x := by omega
    have b6 : Rows.uptoBulk y6.1 + 1 ≤ Bk x := by omega
    have b7 : Rows.uptoBulk y7.1 + 1 ≤ Bk x := by omega
    have b8 : Rows.uptoBulk y8.1 + 1 ≤ Bk x := by omega
    have b9 : Rows.uptoBulk y9.1 + 1 ≤ Bk x := by omega
    have d0 : Bk y0 ≤ 1048576 := by show Rows.uptoBulk y0.1 ≤ _; omega
    have d1 : Bk y1 ≤ 1048576 := by show Rows.uptoBulk y1.1 ≤ _; omega
    have d2 : Bk y2 ≤ 1048576 := by show Rows.uptoBulk y2.1 ≤ _; omega
    have d3 : Bk y3 ≤ 1048576 := by show Rows.uptoBulk y3.1 ≤ _; omega
    have d4 : Bk y4 ≤ 1048576 := by show Rows.uptoBulk y4.1 ≤ _; omega
    have d5 : Bk y5 ≤ 1048576 := by show Rows.uptoBulk y5.1 ≤ _; omega
    have d6 : Bk y6 ≤ 1048576 := by show Rows.uptoBulk y6.1 ≤ _; omega
    have d7 : Bk y7 ≤ 1048576 := by show Rows.uptoBulk y7.1 ≤ _; omega
    have d8 : Bk y8 ≤ 1048576 := by show Rows.uptoBulk y8.1 ≤ _; omega
    have d9 : Bk y9 ≤ 1048576 := by show Rows.uptoBulk y9.1 ≤ _; omega
    obtain ⟨id, e0, hid, n0⟩ := v_u64 t0
    obtain ⟨er, e1, her, n1⟩ := v_i64 Tryz.underlying23 t1
    obtain ⟨rv, e2, hrv, n2⟩ := v_u64 t2
    obtain ⟨tk, e3, btk, n3⟩ := v_str d3 t3
    obtain ⟨fs, e4, lfs, mfs, qfs, ifs, n4⟩ := v_els (T := Bool) (cells := boolC) (size := 1) (en := boolE) (Q := fun _ => True) Tryz.underlying24 (by kernel_rfl) (by decide) d4 (fun hz ht => by obtain ⟨b, e, h1⟩ := v_bool ht; exact ⟨b, e, trivial, h1⟩) t4
    obtain ⟨ts, e5, lts, mts, qts, its, n5⟩ := v_els (T := Six) (cells := sixC) (size := 6) (en := sixE) (Q := fun y => sixS y) Tryz.underlying25 (by kernel_rfl) (by decide) d5 (fun hz ht => by exact v_62 (Nat.le_trans (Nat.le_of_succ_le hz) d5) ht) t5
    obtain ⟨os, e6, los, mos, qos, ios, n6⟩ := v_els (T := Duo) (cells := duoC) (size := 2) (en := duoE) (Q := fun y => y.1.size ≤ 1048576 ∧ y.2.size ≤ 1048576) Tryz.underlying26 (by kernel_rfl) (by decide) d6 (fun hz ht => by obtain ⟨s, u, e, h1, h2, h3⟩ := v_30 (Nat.le_trans (Nat.le_of_succ_le hz) d6) ht; exact ⟨(s, u), e, ⟨h1, h2⟩, h3⟩) t6
    obtain ⟨es, e7, les, mes, qes, ies, n7⟩ := v_els (T := Evt) (cells := evtC) (size := 8) (en := evtE) (Q := fun y => nok y.1 ∧ sixS y.2.2) Tryz.underlying27 (by kernel_rfl) (by decide) d7 (fun hz ht => by exact v_67 (Nat.le_trans (Nat.le_of_succ_le hz) d7) ht) t7
    obtain ⟨ss, e8, lss, mss, qss, iss, n8⟩ := v_els (T := SE) (cells := seC) (size := 11) (en := seE) (Q := fun y => StepOk W y) Tryz.underlying28 (by kernel_rfl) (by decide) d8 (fun hz ht => by exact v_74 (Nat.le_trans (Nat.le_of_succ_le hz) d8) ht) t8
    obtain ⟨nd, e9, ⟨okn, nmn⟩, n9⟩ := v_node 1048576 d9 (Nat.le_refl _) t9
    have hlen : cs.length = 15 := by rw [hl]; kernel_rfl
    clear hf hl h hlx t0 hy0 d0 b0 t1 hy1 d1 b1 t2 hy2 d2 b2 t3 hy3 d3 b3 t4 hy4 d4 b4 t5 hy5 d5 b5 t6 hy6 d6 b6 t7 hy7 d7 b7 t8 hy8 d8 b8 t9 hy9 d9 b9
    match cs, hlen with
    | [c0, c1, c2, c3, c4, c5, c6, c7, c8, c9, c10, c11, c12, c13, c14], _ =>
      simp [cel9, cel22, cel23, cel3, cel4, cel30, cel60, cel68, cel62, cel65, cel24, cel25, cel26, cel27, cel28, cel31, cel32, cel69, cel72, cel71, cel34, cel74, lsV] at e0 e1 e2 e3 e4 e5 e6 e7 e8 e9
      simp [neC] at e9
      subst e0 e1 e2 e3 e4 e5 e6 e7 e8
      obtain ⟨rfl, rfl, rfl, rfl, rfl, rfl⟩ := e9
      refine ⟨⟨id, er, rv, tk, fs, ts, os, es, ss, nd⟩, rfl, ⟨⟨hid, her, hrv, tok_of btk, ⟨lt64 mfs, fun _ _ => trivial⟩, ⟨lt64 mts, fun y hy => sixok_of (qts y hy)⟩, ⟨lt64 mos, fun y hy => ⟨tok_of (qos y hy).1, tok_of (qos y hy).2⟩⟩, ⟨lt64 mes, fun y hy => ⟨(qes y hy).1, trivial, sixok_of (qes y hy).2⟩⟩, ⟨?_, fun y hy => ?_⟩, okn⟩, ⟨lfs, ifs, fun _ _ _ => trivial, fun _ _ => trivial⟩, ⟨lts, its, fun _ _ _ => trivial, fun _ _ => trivial⟩, ⟨los, ios, fun _ _ _ => trivial, fun _ _ => trivial⟩, ⟨les, ies, fun _ _ _ => trivial, fun _ _ => trivial⟩, ⟨lss, iss, fun _ _ _ => trivial, fun y hy => (qss y hy).2.1⟩, nmn, qts, qos, qes, qss, btk, ⟨mfs, mts, mos, mes, mss⟩, ?_, ?_⟩⟩
      · show (ss.xs.map SE.plain).length < _
        rw [List.length_map]
        exact lt64 mss
      · obtain ⟨w, hw, rfl⟩ := List.mem_map.1 hy
        exact (qss w hw).1
      · have h7 : (encN nd.plain).length = (neE nd).length := rfl
        show (encN nd.plain).length ≤ _
        simp only [Bk] at *
        omega
      · have h7 : (encN nd.plain).length = (neE nd).length := rfl
        show ([112, 49] ++ (uv id ++ (intE er ++ (uv rv ++ (txt tk ++ (listE boolE fs.xs ++ (listE sixE ts.xs ++ (listE duoE os.xs ++ (listE evtE es.xs ++ (listE stepE (ss.xs.map SE.plain) ++ encN nd.plain)))))))))).length ≤ _
        rw [← seE_list]
        simp only [List.length_append, List.length_cons, List.length_nil]
        simp only [Bk] at *
        omega
end
theorem view_resp {H : Type} {enc : TypeId × Value → H} {W : World} {base : Nat} {v : Value} {d : DataW H} {p : List MemPlace} (hv : Value.okWide Tryz.prog W .any base 36 v)
    (hk : Rows.uptoBulk d ≤ 1048576) (h : DataW.Trod enc Tryz.prog W 0 (fun _ => true) true 36 v d p) : ∃ x : RPE, v = rpV x ∧ RPok W x := by
  obtain ⟨fuel, hf⟩ := h
  obtain ⟨cs, rfl, hs⟩ := okWide_struct Tryz.underlying36 hv
  obtain ⟨x, hx, hok⟩ := v_36 (x := (d, p)) hk hf
  refine ⟨x, ?_, hok⟩
  have h1 : cs.toList = rpL x := hx
  have h2 : cs = (rpL x).toArray := by rw [← h1]
  rw [h2]; rfl
end Go.Proofs.YtacjbgmnoiimbabGreat
