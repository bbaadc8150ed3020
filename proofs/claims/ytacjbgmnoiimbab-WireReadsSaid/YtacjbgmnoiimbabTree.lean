/- Rules, nodes, steps: plain. -/
import Derived.Test.YtacjbgmnoiimbabEnc
namespace Go.Proofs.Ytacjbgmnoiimbab
set_option linter.unusedVariables false
set_option linter.unusedSimpArgs false

/-- a rule -/
inductive PR where
  | mk (kind : Int) (A B : ByteArray) (parts : List PR)
instance : Inhabited PR := ⟨.mk 0 ByteArray.empty ByteArray.empty []⟩
mutual
def encR : PR → List UInt8
  | .mk k A B ps => intE k ++ (txt A ++ (txt B ++ (uv ps.length ++ encRs ps)))
def encRs : List PR → List UInt8
  | [] => []
  | x :: r => encR x ++ encRs r
end
theorem encRs_eq : ∀ ps, encRs ps = bodyE encR ps
  | [] => by rw [encRs]; rfl
  | x :: r => by rw [encRs, encRs_eq r]; rfl
theorem encR_eq (k : Int) (A B : ByteArray) (ps : List PR) : encR (.mk k A B ps) = intE k ++ (txt A ++ (txt B ++ listE encR ps)) := by
  rw [encR, encRs_eq]; rfl
mutual
def depR : PR → Nat
  | .mk _ _ _ ps => depRs ps + 1
def depRs : List PR → Nat
  | [] => 0
  | x :: r => max (depR x) (depRs r)
end
mutual
def okR : PR → Prop
  | .mk k A B ps => iok k ∧ tok A ∧ tok B ∧ ps.length < 18446744073709551616 ∧ okRs ps
def okRs : List PR → Prop
  | [] => True
  | x :: r => okR x ∧ okRs r
end
theorem depR_eq (k : Int) (A B : ByteArray) (ps : List PR) : depR (.mk k A B ps) = depRs ps + 1 := by rw [depR]
theorem okR_eq (k : Int) (A B : ByteArray) (ps : List PR) : okR (.mk k A B ps) ↔ iok k ∧ tok A ∧ tok B ∧ ps.length < 18446744073709551616 ∧ okRs ps := by rw [okR]
theorem depRs_le {ps : List PR} : ∀ {n : Nat}, depRs ps ≤ n ↔ ∀ x ∈ ps, depR x ≤ n := by
  induction ps with
  | nil => intro n; rw [depRs]; simp
  | cons x r ih =>
    intro n
    rw [depRs]
    constructor
    · intro h y hy
      rcases List.mem_cons.1 hy with rfl | hy
      · omega
      · exact (ih.1 (by omega)) y hy
    · intro h
      have h1 := h x List.mem_cons_self
      have h2 := ih.2 (fun y hy => h y (List.mem_cons_of_mem _ hy))
      omega
theorem okRs_iff {ps : List PR} : okRs ps ↔ ∀ x ∈ ps, okR x := by
  induction ps with
  | nil => rw [okRs]; simp
  | cons x r ih =>
    rw [okRs, ih]
    constructor
    · rintro ⟨h1, h2⟩ y hy
      rcases List.mem_cons.1 hy with rfl | hy
      · exact h1
      · exact h2 y hy
    · exact fun h => ⟨h x List.mem_cons_self, fun y hy => h y (List.mem_cons_of_mem _ hy)⟩
/-- too deep at depth d -/
def badR (x : PR) (d : Nat) : Prop := 64 < d + depR x
theorem badR_parts (k : Int) (A B : ByteArray) (ps : List PR) (d : Nat) : badR (.mk k A B ps) d ↔ 64 ≤ d ∨ ∃ x ∈ ps, badR x (d + 1) := by
  unfold badR
  rw [depR_eq]
  constructor
  · intro h
    by_cases h1 : 64 ≤ d
    · exact .inl h1
    · refine .inr (Classical.byContradiction fun hno => ?_)
      have : depRs ps ≤ 63 - d := depRs_le.2 (fun x hx => Classical.byContradiction fun hn => hno ⟨x, hx, by omega⟩)
      omega
  · rintro (h | ⟨x, hx, h⟩)
    · omega
    · have : depR x ≤ depRs ps := depRs_le.1 (Nat.le_refl _) x hx
      omega
mutual
theorem uqR' : ∀ (x y : PR) (r s : List UInt8), okR x → okR y → encR x ++ r = encR y ++ s → x = y ∧ r = s
  | .mk k A B ps, .mk k' A' B' ps', r, s, hx, hy, h => by
    rw [okR] at hx hy
    rw [encR, encR] at h
    simp only [List.append_assoc] at h
    obtain ⟨e1, h⟩ := uq_int _ _ _ _ hx.1 hy.1 h
    obtain ⟨e2, h⟩ := uq_txt _ _ _ _ hx.2.1 hy.2.1 h
    obtain ⟨e3, h⟩ := uq_txt _ _ _ _ hx.2.2.1 hy.2.2.1 h
    obtain ⟨e4, h⟩ := uq_num _ _ _ _ hx.2.2.2.1 hy.2.2.2.1 h
    obtain ⟨e5, h⟩ := uqRs' ps ps' r s e4 hx.2.2.2.2 hy.2.2.2.2 h
    exact ⟨by rw [e1, e2, e3, e5], h⟩
theorem uqRs' : ∀ (xs ys : List PR) (r s : List UInt8), xs.length = ys.length → okRs xs → okRs ys → encRs xs ++ r = encRs ys ++ s → xs = ys ∧ r = s
  | [], [], r, s, _, _, _, h => by rw [encRs] at h; exact ⟨rfl, h⟩
  | [], y :: ys, _, _, hl, _, _, _ => by cases hl
  | x :: xs, [], _, _, hl, _, _, _ => by cases hl
  | x :: xs, y :: ys, r, s, hl, hx, hy, h => by
    rw [okRs] at hx hy
    rw [encRs, encRs, List.append_assoc, List.append_assoc] at h
    obtain ⟨e1, h⟩ := uqR' x y _ _ hx.1 hy.1 h
    obtain ⟨e2, h⟩ := uqRs' xs ys r s (by simpa using hl) hx.2 hy.2 h
    exact ⟨by rw [e1, e2], h⟩
end
theorem uq_rule : Uq encR okR := fun x y r s hx hy h => uqR' x y r s hx hy h
/-- a node -/
inductive PN where
  | mk (kind : Int) (obj : Duo) (rel : ByteArray) (subs : List Tri) (parts : List PN)
instance : Inhabited PN := ⟨.mk 0 (ByteArray.empty, ByteArray.empty) ByteArray.empty [] []⟩
mutual
def encN : PN → List UInt8
  | .mk k o r ss ps => intE k ++ (duoE o ++ (txt r ++ (listE triE ss ++ (uv ps.length ++ encNs ps))))
def encNs : List PN → List UInt8
  | [] => []
  | x :: r => encN x ++ encNs r
end
theorem encNs_eq : ∀ ps, encNs ps = bodyE encN ps
  | [] => by rw [encNs]; rfl
  | x :: r => by rw [encNs, encNs_eq r]; rfl
theorem encN_eq (k : Int) (o : Duo) (t : ByteArray) (ss : List Tri) (ps : List PN) : encN (.mk k o t ss ps) = intE k ++ (duoE o ++ (txt t ++ (listE triE ss ++ listE encN ps))) := by
  rw [encN, encNs_eq]; rfl
mutual
def depN : PN → Nat
  | .mk _ _ _ _ ps => depNs ps + 1
def depNs : List PN → Nat
  | [] => 0
  | x :: r => max (depN x) (depNs r)
end
mutual
def okN : PN → Prop
  | .mk k o t ss ps => iok k ∧ duook o ∧ tok t ∧ lok triok ss ∧ ps.length < 18446744073709551616 ∧ okNs ps
def okNs : List PN → Prop
  | [] => True
  | x :: r => okN x ∧ okNs r
end
theorem depN_eq (k : Int) (o : Duo) (t : ByteArray) (ss : List Tri) (ps : List PN) : depN (.mk k o t ss ps) = depNs ps + 1 := by rw [depN]
theorem okN_eq (k : Int) (o : Duo) (t : ByteArray) (ss : List Tri) (ps : List PN) : okN (.mk k o t ss ps) ↔ iok k ∧ duook o ∧ tok t ∧ lok triok ss ∧ ps.length < 18446744073709551616 ∧ okNs ps := by rw [okN]
theorem depNs_le {ps : List PN} : ∀ {n : Nat}, depNs ps ≤ n ↔ ∀ x ∈ ps, depN x ≤ n := by
  induction ps with
  | nil => intro n; rw [depNs]; simp
  | cons x r ih =>
    intro n
    rw [depNs]
    constructor
    · intro h y hy
      rcases List.mem_cons.1 hy with rfl | hy
      · omega
      · exact (ih.1 (by omega)) y hy
    · intro h
      have h1 := h x List.mem_cons_self
      have h2 := ih.2 (fun y hy => h y (List.mem_cons_of_mem _ hy))
      omega
theorem okNs_iff {ps : List PN} : okNs ps ↔ ∀ x ∈ ps, okN x := by
  induction ps with
  | nil => rw [okNs]; simp
  | cons x r ih =>
    rw [okNs, ih]
    constructor
    · rintro ⟨h1, h2⟩ y hy
      rcases List.mem_cons.1 hy with rfl | hy
      · exact h1
      · exact h2 y hy
    · exact fun h => ⟨h x List.mem_cons_self, fun y hy => h y (List.mem_cons_of_mem _ hy)⟩
def badN (x : PN) (d : Nat) : Prop := 64 < d + depN x
theorem badN_parts (k : Int) (o : Duo) (t : ByteArray) (ss : List Tri) (ps : List PN) (d : Nat) : badN (.mk k o t ss ps) d ↔ 64 ≤ d ∨ ∃ x ∈ ps, badN x (d + 1) := by
  unfold badN
  rw [depN_eq]
  constructor
  · intro h
    by_cases h1 : 64 ≤ d
    · exact .inl h1
    · refine .inr (Classical.byContradiction fun hno => ?_)
      have : depNs ps ≤ 63 - d := depNs_le.2 (fun x hx => Classical.byContradiction fun hn => hno ⟨x, hx, by omega⟩)
      omega
  · rintro (h | ⟨x, hx, h⟩)
    · omega
    · have : depN x ≤ depNs ps := depNs_le.1 (Nat.le_refl _) x hx
      omega
mutual
theorem uqN' : ∀ (x y : PN) (r s : List UInt8), okN x → okN y → encN x ++ r = encN y ++ s → x = y ∧ r = s
  | .mk k o t ss ps, .mk k' o' t' ss' ps', r, s, hx, hy, h => by
    rw [okN] at hx hy
    rw [encN, encN] at h
    simp only [List.append_assoc] at h
    obtain ⟨e1, h⟩ := uq_int _ _ _ _ hx.1 hy.1 h
    obtain ⟨e2, h⟩ := uq_duo _ _ _ _ hx.2.1 hy.2.1 h
    obtain ⟨e3, h⟩ := uq_txt _ _ _ _ hx.2.2.1 hy.2.2.1 h
    obtain ⟨e6, h⟩ := uq_list uq_tri _ _ _ _ hx.2.2.2.1 hy.2.2.2.1 h
    obtain ⟨e4, h⟩ := uq_num _ _ _ _ hx.2.2.2.2.1 hy.2.2.2.2.1 h
    obtain ⟨e5, h⟩ := uqNs' ps ps' r s e4 hx.2.2.2.2.2 hy.2.2.2.2.2 h
    exact ⟨by rw [e1, e2, e3, e6, e5], h⟩
theorem uqNs' : ∀ (xs ys : List PN) (r s : List UInt8), xs.length = ys.length → okNs xs → okNs ys → encNs xs ++ r = encNs ys ++ s → xs = ys ∧ r = s
  | [], [], r, s, _, _, _, h => by rw [encNs] at h; exact ⟨rfl, h⟩
  | [], y :: ys, _, _, hl, _, _, _ => by cases hl
  | x :: xs, [], _, _, hl, _, _, _ => by cases hl
  | x :: xs, y :: ys, r, s, hl, hx, hy, h => by
    rw [okNs] at hx hy
    rw [encNs, encNs, List.append_assoc, List.append_assoc] at h
    obtain ⟨e1, h⟩ := uqN' x y _ _ hx.1 hy.1 h
    obtain ⟨e2, h⟩ := uqNs' xs ys r s (by simpa using hl) hx.2 hy.2 h
    exact ⟨by rw [e1, e2], h⟩
end
theorem uq_node : Uq encN okN := fun x y r s hx hy h => uqN' x y r s hx hy h
/-- a step -/
abbrev PS := Tri × PR × Tri × List Int
def stepE (t : PS) : List UInt8 := triE t.1 ++ (encR t.2.1 ++ (triE t.2.2.1 ++ listE intE t.2.2.2))
def stepok (t : PS) : Prop := triok t.1 ∧ okR t.2.1 ∧ triok t.2.2.1 ∧ lok iok t.2.2.2
theorem uq_step : Uq stepE stepok := uq_pair uq_tri (uq_pair uq_rule (uq_pair uq_tri (uq_list uq_int)))
end Go.Proofs.Ytacjbgmnoiimbab
