/- Chains of rules and nodes: plain, and in memory. -/
import Derived.Test.YtacjbgmnoiimbabFix
namespace Go.Proofs.Ytacjbgmnoiimbab
set_option linter.unusedVariables false
set_option linter.unusedSimpArgs false
open Go.RowKit

def chR : Nat → PR
  | 0 => .mk 1 ⟨#[]⟩ ⟨#[]⟩ []
  | j + 1 => .mk 4 ⟨#[]⟩ ⟨#[]⟩ [chR j]
def chN : Nat → PN
  | 0 => .mk 0 (⟨#[]⟩, ⟨#[]⟩) ⟨#[]⟩ [] []
  | j + 1 => .mk 4 (⟨#[]⟩, ⟨#[]⟩) ⟨#[]⟩ [] [chN j]
theorem iok_small {n : Int} (h : 0 ≤ n ∧ n ≤ 100) : iok n := by unfold iok; omega
theorem intE_ten {n : Int} (h : iok n) : (intE n).length ≤ 10 := uv_len64 _ (zig_lt h)
theorem chR_ok : ∀ j, okR (chR j)
  | 0 => (okR_eq _ _ _ _).2 ⟨iok_small (by decide), tok_nil, tok_nil, by decide, okRs_iff.2 (fun x hx => by cases hx)⟩
  | j + 1 => (okR_eq _ _ _ _).2 ⟨iok_small (by decide), tok_nil, tok_nil, by show 1 < 18446744073709551616; decide, okRs_iff.2 (fun x hx => by
      rw [List.mem_singleton] at hx
      subst hx; exact chR_ok j)⟩
theorem chN_ok : ∀ j, okN (chN j)
  | 0 => ndZ_ok
  | j + 1 => (okN_eq _ _ _ _ _).2 ⟨iok_small (by decide), ⟨tok_nil, tok_nil⟩, tok_nil, lok_nil _, by show 1 < 18446744073709551616; decide, okNs_iff.2 (fun x hx => by
      rw [List.mem_singleton] at hx
      subst hx; exact chN_ok j)⟩
theorem chR_dep : ∀ j, depR (chR j) = j + 1
  | 0 => by rw [chR, depR_eq, depRs]
  | j + 1 => by
    rw [chR, depR_eq, depRs, depRs, chR_dep j]
    simp
theorem chN_dep : ∀ j, depN (chN j) = j + 1
  | 0 => by rw [chN, depN_eq, depNs]
  | j + 1 => by
    rw [chN, depN_eq, depNs, depNs, chN_dep j]
    simp
theorem listE_one {T : Type} (en : T → List UInt8) (x : T) : (listE en [x]).length ≤ 10 + (en x).length := by
  unfold listE
  rw [List.length_append]
  have := uv_len64 ([x] : List T).length (by show 1 < 18446744073709551616; decide)
  show _ + (en x ++ []).length ≤ _
  rw [List.append_nil]
  omega
theorem chR_len : ∀ j, (encR (chR j)).length ≤ 40 * (j + 1)
  | 0 => by
    rw [chR, encR_eq, txt_nil, listE_nil]
    have := intE_ten (n := 1) (iok_small (by decide))
    simp only [List.length_append, List.length_cons, List.length_nil]
    omega
  | j + 1 => by
    rw [chR, encR_eq, txt_nil]
    have := intE_ten (n := 4) (iok_small (by decide))
    have := listE_one encR (chR j)
    have := chR_len j
    simp only [List.length_append, List.length_cons, List.length_nil]
    omega
theorem chN_len : ∀ j, (encN (chN j)).length ≤ 40 * (j + 1)
  | 0 => by
    rw [chN, encN_eq, txt_nil, listE_nil, listE_nil]
    unfold duoE
    rw [txt_nil]
    have := intE_ten (n := 0) (iok_small (by decide))
    simp only [List.length_append, List.length_cons, List.length_nil]
    omega
  | j + 1 => by
    rw [chN, encN_eq, txt_nil, listE_nil]
    unfold duoE
    rw [txt_nil]
    have := intE_ten (n := 4) (iok_small (by decide))
    have := listE_one encN (chN j)
    have := chN_len j
    simp only [List.length_append, List.length_cons, List.length_nil]
    omega
theorem RMem.more {S : Nat → Prop} : ∀ {n m : Nat} {W : World} {a : Option Addr} {ps : List PR}, RMem S n W a ps → n ≤ m → RMem S m W a ps
  | 0, 0, _, _, _, h, _ => h
  | 0, m + 1, W, a, ps, h, _ => ⟨[], (List.eq_nil_of_length_eq_zero h).symm, (fun h => absurd h (Nat.lt_irrefl 0)), (fun h => absurd h (Nat.lt_irrefl 0)), (fun x hx => by cases hx)⟩
  | n + 1, 0, _, _, _, _, hm => by omega
  | n + 1, m + 1, W, a, ps, h, hm => by
    obtain ⟨xs, h1, h2, h3, h4⟩ := h
    exact ⟨xs, h1, h2, h3, fun x hx => ⟨(h4 x hx).1, (h4 x hx).2.more (by omega)⟩⟩
theorem NMem.more {S : Nat → Prop} : ∀ {n m : Nat} {W : World} {a : Option Addr} {ps : List PN}, NMem S n W a ps → n ≤ m → NMem S m W a ps
  | 0, 0, _, _, _, h, _ => h
  | 0, m + 1, W, a, ps, h, _ => ⟨[], (List.eq_nil_of_length_eq_zero h).symm, (fun h => absurd h (Nat.lt_irrefl 0)), (fun h => absurd h (Nat.lt_irrefl 0)), (fun x hx => by cases hx)⟩
  | n + 1, 0, _, _, _, _, hm => by omega
  | n + 1, m + 1, W, a, ps, h, hm => by
    obtain ⟨xs, h1, h2, h3, h4⟩ := h
    exact ⟨xs, h1, h2, h3, fun x hx => ⟨(h4 x hx).1, (h4 x hx).2.1, (h4 x hx).2.2.1, (h4 x hx).2.2.2.1, (h4 x hx).2.2.2.2.more (by omega)⟩⟩
/-- a chain of rules in memory, above g and below B -/
def ChR (g B : Nat) (j : Nat) (W : World) (x : RE) : Prop := x.plain = chR j ∧ x.ps.length ≤ x.c ∧ RMem (fun b => g < b ∧ b < B) j W x.a x.ps
def ChN (g B : Nat) (j : Nat) (W : World) (x : NE) : Prop := x.plain = chN j ∧ x.ps.length ≤ x.c ∧ x.ss = [] ∧ x.sa = none ∧ x.sc = 0 ∧ NMem (fun b => g < b ∧ b < B) j W x.a x.ps
theorem chR_start (g B : Nat) (W : World) : ChR g B 0 W ⟨1, ⟨#[]⟩, ⟨#[]⟩, none, 0, []⟩ := ⟨rfl, Nat.le_refl _, rfl⟩
theorem chN_start (g B : Nat) (W : World) : ChN g B 0 W ⟨0, ⟨#[]⟩, ⟨#[]⟩, ⟨#[]⟩, none, 0, [], none, 0, []⟩ := ⟨rfl, Nat.le_refl _, rfl, rfl, rfl, rfl⟩
theorem chR_next {g j : Nat} {W W' : World} {x : RE} (h : ChR g W.heap.size j W x) (hgl : g < W.heap.size) (hg : W'.heap[W.heap.size]? = some (.cells #[.int .i64 x.k, .string x.A, .string x.B, .slice x.a x.ps.length x.c] 61 (0, 0))) (hst : Stays (fun b => g < b ∧ b < W.heap.size) W W') (hlt : W.heap.size < W'.heap.size) :
    ChR g W'.heap.size (j + 1) W' ⟨4, ⟨#[]⟩, ⟨#[]⟩, some ⟨W.heap.size, 0, none⟩, 1, [x.plain]⟩ := by
  obtain ⟨h1, h2, h3⟩ := h
  refine ⟨by show PR.mk 4 _ _ [x.plain] = _; rw [h1]; rfl, Nat.le_refl _, [x], rfl, fun _ => ⟨W.heap.size, 0, rfl, hlt, fun k hk i hi => ?_⟩, fun _ p hp => by cases hp; exact ⟨hgl, hlt⟩, fun y hy => ?_⟩
  · have hk0 : k = 0 := by
      have : k < 1 := hk
      omega
    subst hk0
    rw [Nat.zero_mul, Nat.zero_add, heap_cell hg]
    show (reC x).toArray[i]? = (reC x)[i]?
    rw [List.getElem?_toArray]
  · rw [List.mem_singleton] at hy
    subst hy
    exact ⟨h2, (h3.stays hst).weak (fun b hb => ⟨hb.1, Nat.lt_trans hb.2 hlt⟩)⟩
theorem chN_next {g j : Nat} {W W' : World} {x : NE} (h : ChN g W.heap.size j W x) (hgl : g < W.heap.size) (hg : W'.heap[W.heap.size]? = some (.cells #[.int .i64 x.k, .string x.t, .string x.i, .string x.r, .slice x.sa x.ss.length x.sc, .slice x.a x.ps.length x.c] 52 (0, 0))) (hst : Stays (fun b => g < b ∧ b < W.heap.size) W W') (hlt : W.heap.size < W'.heap.size) :
    ChN g W'.heap.size (j + 1) W' ⟨4, ⟨#[]⟩, ⟨#[]⟩, ⟨#[]⟩, none, 0, [], some ⟨W.heap.size, 0, none⟩, 1, [x.plain]⟩ := by
  obtain ⟨h1, h2, h4, h5, h6, h3⟩ := h
  refine ⟨by show PN.mk 4 _ _ [] [x.plain] = _; rw [h1]; rfl, Nat.le_refl _, rfl, rfl, rfl, [x], rfl, fun _ => ⟨W.heap.size, 0, rfl, hlt, fun k hk i hi => ?_⟩, fun _ p hp => by cases hp; exact ⟨hgl, hlt⟩, fun y hy => ?_⟩
  · have hk0 : k = 0 := by
      have : k < 1 := hk
      omega
    subst hk0
    rw [Nat.zero_mul, Nat.zero_add, heap_cell hg]
    show (neC x).toArray[i]? = (neC x)[i]?
    rw [List.getElem?_toArray]
  · rw [List.mem_singleton] at hy
    subst hy
    exact ⟨(by rw [h4, h6]; exact Nat.le_refl _), h2, (by rw [h4]; exact fun h => absurd h (Nat.lt_irrefl 0)), (by rw [h4]; exact fun h => absurd h (Nat.lt_irrefl 0)), (h3.stays hst).weak (fun b hb => ⟨hb.1, Nat.lt_trans hb.2 hlt⟩)⟩
/-- a response of steps and a tree alone -/
def dp (ss : List SE) (nd : NE) : RP := (0, 0, 0, ⟨#[]⟩, [], [], [], [], ss.map SE.plain, nd.plain)
/-- it lies in memory; it is flat up to 64 -/
structure DeepOk (K : Nat) (W : World) (sa : Option Addr) (ss : List SE) (nd : NE) : Prop where
  els : IsEls seC 11 W sa ss
  mem : SMem (· < W.heap.size) 100 W ss
  ok : ∀ x ∈ ss, stepok x.plain
  node : nemem 100 (· < W.heap.size) W nd
  nk : okN nd.plain
  few : ss.length ≤ 1
  nosub : nd.ss.length ≤ 0
  len : ([112, 49] ++ respE (dp ss nd)).length ≤ 100000
  flat : flatP (dp ss nd) ↔ K + 1 ≤ 64
theorem DeepOk.below {K : Nat} {W W' : World} {sa : Option Addr} {ss : List SE} {nd : NE} (h : DeepOk K W sa ss nd) (hb : Below W.heap.size W W') : DeepOk K W' sa ss nd :=
  ⟨h.els.below hb, (h.mem.stays (Stays.below hb)).weak (fun b hl => Nat.lt_of_lt_of_le hl hb.size), h.ok, (nemem_ok 100).weak (fun b hl => Nat.lt_of_lt_of_le hl hb.size) ((nemem_ok 100).stays h.node (Stays.below hb)), h.nk, h.few, h.nosub, h.len, h.flat⟩
theorem no_els {T : Type} [Inhabited T] (cells : T → List Value) (size : Nat) (W : World) : IsEls cells size W none [] := fun h => absurd h (Nat.lt_irrefl 0)
theorem dp_ok {K : Nat} {W : World} {sa : Option Addr} {ss : List SE} {nd : NE} (h : DeepOk K W sa ss nd) : respok (dp ss nd) :=
  ⟨nok_zero, iok_zero, nok_zero, tok_nil, lok_nil _, lok_nil _, lok_nil _, lok_nil _, ⟨by show (ss.map SE.plain).length < _; rw [List.length_map]; have := h.few; omega, fun x hx => by
    obtain ⟨y, hy, rfl⟩ := List.mem_map.1 hx
    exact h.ok y hy⟩, h.nk⟩
theorem dp_bad (ss : List SE) (nd : NE) : ((∃ x ∈ ss, seB x 0) ∨ badN nd.plain 0) ↔ ¬ flatP (dp ss nd) := by
  rw [flat_iff, Classical.not_not]
  unfold rpbad dp
  constructor
  · rintro (⟨x, hx, h⟩ | h)
    · exact .inl ⟨_, List.mem_map_of_mem hx, h⟩
    · exact .inr h
  · rintro (⟨x, hx, h⟩ | h)
    · obtain ⟨y, hy, rfl⟩ := List.mem_map.1 hx
      exact .inl ⟨y, hy, h⟩
    · exact .inr h
def DPut (K : Nat) (W : World) (e : Ending) (W' : World) : Prop := Below W.heap.size W W' ∧ (K + 1 ≤ 64 → ∃ a m c, e = .returned (.tuple #[.slice a m c, .int .i64 0])) ∧ (64 < K + 1 → e = .returned (.tuple #[.slice none 0 0, .int .i64 10]))
theorem deep_put {K : Nat} {W : World} {sa : Option Addr} (sc : Nat) {ss : List SE} {nd : NE} (h : DeepOk K W sa ss nd) :
    Calls Try.prog 14 #[.agg #[.int .u64 0, .int .i64 0, .int .u64 0, .string ⟨#[]⟩, .slice none 0 0, .slice none 0 0, .slice none 0 0, .slice none 0 0, .slice sa ss.length sc, .int .i64 nd.k, .string nd.t, .string nd.i, .string nd.r, .slice nd.sa nd.ss.length nd.sc, .slice nd.a nd.ps.length nd.c]] W (DPut K W) := by
  refine (putresp_any 100 0 0 0 ⟨#[]⟩ none 0 [] none 0 [] none 0 [] none 0 [] sa sc ss nd.k nd.t nd.i nd.r nd.sa nd.sc nd.ss nd.a nd.c nd.ps W (by decide) iok_zero (by decide) (no_els _ _ _) (no_els _ _ _) (no_els _ _ _) (no_els _ _ _) (fun x hx => by cases hx) h.els h.mem h.ok h.node.2.2.1 h.node.2.2.2.2 h.nk ⟨by decide, by decide, by decide, by decide, Nat.le_trans h.nosub (by decide)⟩ (Nat.le_trans (m := 100000) h.len (by decide))).mono ?_
  rintro e W' ⟨h1, h2, h3⟩
  have hb := dp_bad ss nd
  refine ⟨h3, fun hk => ?_, fun hk => h2 (hb.2 (fun hf => by have := h.flat.1 hf; omega))⟩
  obtain ⟨a, c, e1, _⟩ := h1 (fun hn => hb.1 hn (h.flat.2 hk))
  exact ⟨a, _, c, e1⟩
def DEnc (E : List UInt8) (W : World) (e : Ending) (W' : World) : Prop := ∃ a c, e = .returned (.slice a E.length c) ∧ IsBytes W' a E ∧ Below W.heap.size W W'
theorem deep_enc {K : Nat} {W : World} {sa : Option Addr} (sc : Nat) {ss : List SE} {nd : NE} (h : DeepOk K W sa ss nd) :
    Calls Try.prog 13 #[.agg #[.int .u64 0, .int .i64 0, .int .u64 0, .string ⟨#[]⟩, .slice none 0 0, .slice none 0 0, .slice none 0 0, .slice none 0 0, .slice sa ss.length sc, .int .i64 nd.k, .string nd.t, .string nd.i, .string nd.r, .slice nd.sa nd.ss.length nd.sc, .slice nd.a nd.ps.length nd.c]] W (DEnc ([112, 49] ++ respE (dp ss nd)) W) := by
  have hl := h.len
  have e : [112, 49] ++ respE (dp ss nd) = ([112, 49] ++ (uv 0 ++ (intE 0 ++ (uv 0 ++ (txt ⟨#[]⟩ ++ (listE boolE [] ++ (listE sixE [] ++ (listE duoE [] ++ (listE evtE [] ++ (listE seE ss ++ neE (⟨nd.k, nd.t, nd.i, nd.r, nd.sa, nd.sc, nd.ss, nd.a, nd.c, nd.ps⟩ : NE))))))))))) := by
    rw [seE_list]; rfl
  rw [e] at hl ⊢
  refine (rresp_cells (· < W.heap.size) 100 0 0 0 ⟨#[]⟩ none 0 [] none 0 [] none 0 [] none 0 [] sa sc ss nd.k nd.t nd.i nd.r nd.sa nd.sc nd.ss nd.a nd.c nd.ps W (by decide) iok_zero (by decide) (no_els _ _ _) (no_els _ _ _) (no_els _ _ _) (no_els _ _ _) (fun x hx => by cases hx) h.els
    (fun x hx => ⟨⟨(h.mem x hx).1, (h.mem x hx).2.1⟩, (h.mem x hx).2.2.1, (h.mem x hx).2.2.2.1, (h.mem x hx).2.2.2.2, fun y hy => (h.ok x hx).2.2.2.2 y hy⟩) h.ok h.node h.nk (Nat.le_trans (m := 100000) hl (by decide))).mono ?_
  rintro ee W' ⟨v, rfl, h6, hb⟩
  rw [List.nil_append] at h6
  obtain ⟨a6, m6, c6, rfl⟩ := row_slice h6
  have hm6 := row_len' h6
  subst hm6
  exact ⟨a6, c6, rfl, row_bytes' h6, hb⟩
def DGet (K : Nat) (W : World) (e : Ending) (W' : World) : Prop := Below W.heap.size W W' ∧ (K + 1 ≤ 64 → ∃ x : RPE, e = .returned (.tuple #[rpV x, .int .i64 0])) ∧ (64 < K + 1 → e = .returned (.tuple #[rpZ, .int .i64 9]))
theorem deep_get {K : Nat} {W : World} {sa : Option Addr} {ss : List SE} {nd : NE} (h : DeepOk K W sa ss nd) (a : Option Addr) (c : Nat) (E : List UInt8) (W1 : World) (hE : E = [112, 49] ++ respE (dp ss nd)) (hb : IsBytes W1 a E) :
    Calls Try.prog 12 #[.slice a E.length c] W1 (DGet K W1) := by
  have hl := h.len
  rw [← hE] at hl
  refine (getresp_any a c E W1 (Nat.le_trans (m := 100000) hl (by decide)) hb).mono ?_
  rintro e W' ⟨hbel, hcase⟩
  refine ⟨hbel, fun hk => ?_, fun hk => ?_⟩
  · rcases hcase with ⟨x, e1, _⟩ | ⟨_, hno⟩
    · exact ⟨x, e1⟩
    · exact absurd hE (hno _ (dp_ok h) (h.flat.2 hk))
  · rcases hcase with ⟨x, _, _, hok, hf, hex⟩ | ⟨e1, _⟩
    · exfalso
      have h1 : respE x.plain ++ [] = respE (dp ss nd) ++ [] := by
        rw [List.append_nil, List.append_nil]
        exact List.append_cancel_left (hex.symm.trans hE)
      have h2 := (uq_resp _ _ _ _ hok (dp_ok h) h1).1
      rw [h2] at hf
      have := h.flat.1 hf
      omega
    · exact e1
/-- the rule's chain stands ready -/
theorem deep_rule {K g : Nat} {W W' : World} {x : RE} (hK : K < 100) (h : ChR g W.heap.size K W x) (hst : Stays (fun b => g < b ∧ b < W.heap.size) W W') (hlt : W.heap.size < W'.heap.size) (hc : W'.heap[W.heap.size]? = some (.cells #[.string ⟨#[]⟩, .string ⟨#[]⟩, .string ⟨#[]⟩, .int .i64 x.k, .string x.A, .string x.B, .slice x.a x.ps.length x.c, .string ⟨#[]⟩, .string ⟨#[]⟩, .string ⟨#[]⟩, .slice none 0 0] 67 (0, 0))) :
    DeepOk K W' (some ⟨W.heap.size, 0, none⟩) [⟨(⟨#[]⟩, ⟨#[]⟩, ⟨#[]⟩), x, (⟨#[]⟩, ⟨#[]⟩, ⟨#[]⟩), none, 0, []⟩] ndZ := by
  obtain ⟨h1, h2, h3⟩ := h
  have e0 : ∀ y : SE, y ∈ [(⟨(⟨#[]⟩, ⟨#[]⟩, ⟨#[]⟩), x, (⟨#[]⟩, ⟨#[]⟩, ⟨#[]⟩), none, 0, []⟩ : SE)] → y = ⟨(⟨#[]⟩, ⟨#[]⟩, ⟨#[]⟩), x, (⟨#[]⟩, ⟨#[]⟩, ⟨#[]⟩), none, 0, []⟩ := fun y hy => List.mem_singleton.1 hy
  refine ⟨fun _ => ⟨W.heap.size, 0, rfl, hlt, fun k hk i hi => ?_⟩, fun y hy => ?_, fun y hy => ?_, ⟨Nat.le_refl _, Nat.le_refl _, no_els _ _ _, (fun h => absurd h (Nat.lt_irrefl 0)), NMem.more (n := 0) rfl (Nat.zero_le _)⟩, ndZ_ok, Nat.le_refl _, Nat.le_refl _, ?_, ?_⟩
  · have hk0 : k = 0 := by
      have : k < 1 := hk
      omega
    subst hk0
    rw [Nat.zero_mul, Nat.zero_add, heap_cell hc]
    show (seC ⟨(⟨#[]⟩, ⟨#[]⟩, ⟨#[]⟩), x, (⟨#[]⟩, ⟨#[]⟩, ⟨#[]⟩), none, 0, []⟩).toArray[i]? = (seC ⟨(⟨#[]⟩, ⟨#[]⟩, ⟨#[]⟩), x, (⟨#[]⟩, ⟨#[]⟩, ⟨#[]⟩), none, 0, []⟩)[i]?
    rw [List.getElem?_toArray]
  · rw [e0 y hy]
    exact ⟨h2, ((h3.stays hst).weak (fun b hb => Nat.lt_trans hb.2 hlt)).more (by omega), Nat.le_refl _, no_els _ _ _, fun h => absurd h (Nat.lt_irrefl 0)⟩
  · rw [e0 y hy]
    exact ⟨⟨tok_nil, tok_nil, tok_nil⟩, by show okR x.plain; rw [h1]; exact chR_ok K, ⟨tok_nil, tok_nil, tok_nil⟩, lok_nil _⟩
  · show ([112, 49] ++ (uv 0 ++ (intE 0 ++ (uv 0 ++ (txt ⟨#[]⟩ ++ (listE boolE [] ++ (listE sixE [] ++ (listE duoE [] ++ (listE evtE [] ++ (listE stepE [((⟨#[]⟩, ⟨#[]⟩, ⟨#[]⟩), x.plain, (⟨#[]⟩, ⟨#[]⟩, ⟨#[]⟩), [])] ++ encN ndZ.plain)))))))))).length ≤ _
    rw [encN_zero, txt_nil, uv_zero, intE_zero, listE_nil, listE_nil, listE_nil, listE_nil, h1]
    have := listE_one stepE ((⟨#[]⟩, ⟨#[]⟩, ⟨#[]⟩), chR K, (⟨#[]⟩, ⟨#[]⟩, ⟨#[]⟩), [])
    have e2 : stepE ((⟨#[]⟩, ⟨#[]⟩, ⟨#[]⟩), chR K, (⟨#[]⟩, ⟨#[]⟩, ⟨#[]⟩), []) = [0, 0, 0] ++ (encR (chR K) ++ ([0, 0, 0] ++ [0])) := by
      show triE (⟨#[]⟩, ⟨#[]⟩, ⟨#[]⟩) ++ (encR (chR K) ++ (triE (⟨#[]⟩, ⟨#[]⟩, ⟨#[]⟩) ++ listE intE [])) = _
      unfold triE
      rw [txt_nil, listE_nil]; rfl
    rw [e2] at this
    have := chR_len K
    simp only [List.length_append, List.length_cons, List.length_nil] at *
    omega
  · show ((∀ y ∈ [((⟨#[]⟩, ⟨#[]⟩, ⟨#[]⟩), x.plain, (⟨#[]⟩, ⟨#[]⟩, ⟨#[]⟩), [])], depR (y : PS).2.1 ≤ 64) ∧ depN ndZ.plain ≤ 64) ↔ _
    constructor
    · rintro ⟨h, _⟩
      have := h _ List.mem_cons_self
      rw [show ((((⟨#[]⟩, ⟨#[]⟩, ⟨#[]⟩), x.plain, (⟨#[]⟩, ⟨#[]⟩, ⟨#[]⟩), []) : PS).2.1) = chR K from h1, chR_dep] at this
      exact this
    · intro h
      refine ⟨fun y hy => ?_, (zp_flat 3).2⟩
      rw [List.mem_singleton.1 hy]
      show depR x.plain ≤ 64
      rw [h1, chR_dep]
      exact h
theorem deep_node {K g : Nat} {W : World} {x : NE} (hK : K < 100) (h : ChN g W.heap.size K W x) : DeepOk K W none [] x := by
  obtain ⟨h1, h2, h4, h5, h6, h3⟩ := h
  refine ⟨no_els _ _ _, (fun y hy => by cases hy), (fun y hy => by cases hy), ⟨(by rw [h4, h6]; exact Nat.le_refl _), h2, (by rw [h4]; exact fun h => absurd h (Nat.lt_irrefl 0)), (by rw [h4]; exact fun h => absurd h (Nat.lt_irrefl 0)), (h3.weak (fun b hb => hb.2)).more (by omega)⟩, (by rw [h1]; exact chN_ok K), (by decide), (by rw [h4]; exact Nat.le_refl _), ?_, ?_⟩
  · show ([112, 49] ++ (uv 0 ++ (intE 0 ++ (uv 0 ++ (txt ⟨#[]⟩ ++ (listE boolE [] ++ (listE sixE [] ++ (listE duoE [] ++ (listE evtE [] ++ (listE stepE [] ++ encN x.plain)))))))))).length ≤ _
    rw [txt_nil, uv_zero, intE_zero, listE_nil, listE_nil, listE_nil, listE_nil, listE_nil, h1]
    have := chN_len K
    simp only [List.length_append, List.length_cons, List.length_nil]
    omega
  · show ((∀ y ∈ ([] : List PS), depR (y : PS).2.1 ≤ 64) ∧ depN x.plain ≤ 64) ↔ _
    rw [h1, chN_dep]
    exact ⟨fun h => h.2, fun h => ⟨(fun y hy => by cases hy), h⟩⟩
end Go.Proofs.Ytacjbgmnoiimbab
