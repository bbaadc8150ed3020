/- How long a short request's bytes are: plain. -/
import Derived.Test.YtacjbgmnoiimbabView
namespace Go.Proofs.Ytacjbgmnoiimbab
set_option linter.unusedVariables false
set_option linter.unusedSimpArgs false
open Go.RowKit

theorem body_bound {T : Type} {en : T → List UInt8} {K : Nat} : ∀ (xs : List T), (∀ x ∈ xs, (en x).length ≤ K) → (bodyE en xs).length ≤ xs.length * K
  | [], _ => by simp [bodyE]
  | x :: r, h => by
    rw [body_cons, List.length_append, List.length_cons, Nat.succ_mul]
    have h1 := h x List.mem_cons_self
    have h2 := body_bound r (fun y hy => h y (List.mem_cons_of_mem _ hy))
    omega
theorem uv_le (v : Nat) (h : v < 18446744073709551616) : (uv v).length ≤ 10 := uv_len64 v h
theorem txt_le {s : ByteArray} (h : s.size < 18446744073709551616) : (txt s).length ≤ 10 + s.size := by
  rw [txt_len]
  have := uv_len64 s.size h
  omega
theorem intE_le {n : Int} (h : iok n) : (intE n).length ≤ 10 := uv_len64 _ (zig_lt h)
theorem boolE_le (b : Bool) : (boolE b).length ≤ 10 := by rw [boolE_eq]; simp
theorem sixE_le {t : Six} (h : shortP t) : (sixE t).length ≤ 660 := by
  obtain ⟨⟨a, b, c⟩, d, e, f⟩ := t
  obtain ⟨h1, h2, h3, h4, h5, h6⟩ := h
  simp only at h1 h2 h3 h4 h5 h6
  unfold sixE triE
  simp only [List.length_append]
  have := txt_le (s := a) (by omega)
  have := txt_le (s := b) (by omega)
  have := txt_le (s := c) (by omega)
  have := txt_le (s := d) (by omega)
  have := txt_le (s := e) (by omega)
  have := txt_le (s := f) (by omega)
  omega
theorem wrtE_le {t : Wrt} (h : shortP t.2) : (wrtE t).length ≤ 670 := by
  unfold wrtE
  rw [List.length_append]
  have := sixE_le h
  have := boolE_le t.1
  omega
theorem listE_le {T : Type} {en : T → List UInt8} {K : Nat} (xs : List T) (h : ∀ x ∈ xs, (en x).length ≤ K) (hn : xs.length ≤ 1000) : (listE en xs).length ≤ 10 + xs.length * K := by
  unfold listE
  rw [List.length_append]
  have := body_bound xs h
  have := uv_len64 xs.length (by omega)
  omega
theorem few_len (q : RQ) (h : fewP q) (hok : reqok q) : ([113, 49] ++ reqE q).length ≤ 200000 ∧ q.2.2.2.2.2.2.2.2.1.length ≤ 60 ∧ q.2.2.2.2.2.2.2.2.2.1.length ≤ 60 ∧ q.2.2.2.2.2.2.2.2.2.2.1.length ≤ 60 ∧ q.2.2.2.2.2.2.2.2.2.2.2.length ≤ 60 := by
  obtain ⟨cl, id, kd, hw, tk, n, ty, ⟨f1, f2, f3⟩, ws, ps, ks, gs⟩ := q
  obtain ⟨h1, h2, h3, h4, h5, h6⟩ := h
  obtain ⟨k1, k2, k3, k4, k5, k6, k7, k8, k9, k10, k11, k12⟩ := hok
  simp only at h1 h2 h3 h4 h5 h6 k2 k3 k4 k6 k12
  refine ⟨?_, by simp only; omega, by simp only; omega, by simp only; omega, by simp only; omega⟩
  have a1 := txt_le (s := cl) (by omega)
  have a2 := txt_le (s := tk) (by omega)
  have a3 := txt_le (s := ty) (by omega)
  have a4 := txt_le (s := f1) (by omega)
  have a5 := txt_le (s := f2) (by omega)
  have a6 := txt_le (s := f3) (by omega)
  have b1 := uv_len64 id k2
  have b2 := uv_len64 n k6
  have b3 := intE_le k3
  have b4 := intE_le k4
  have c1 := listE_le (en := wrtE) ws (fun x hx => wrtE_le (h3 x hx)) (by omega)
  have c2 := listE_le (en := wrtE) ps (fun x hx => wrtE_le (h4 x hx)) (by omega)
  have c3 := listE_le (en := sixE) ks (fun x hx => sixE_le (h5 x hx)) (by omega)
  have c4 := listE_le (en := argE) (K := 400) gs (fun x hx => by
    have hx6 := h6 x hx
    obtain ⟨o1, o2, o3, o4⟩ := k12.2 x hx
    unfold argE
    simp only [List.length_append]
    have := txt_le (s := x.1) (by omega)
    have := txt_le (s := x.2.2.2) (by omega)
    have := intE_le o2
    have := intE_le o3
    omega) (by omega)
  have e2 : ([113, 49] : List UInt8).length = 2 := rfl
  simp only [reqE, triE, List.length_append, e2]
  omega
end Go.Proofs.Ytacjbgmnoiimbab
