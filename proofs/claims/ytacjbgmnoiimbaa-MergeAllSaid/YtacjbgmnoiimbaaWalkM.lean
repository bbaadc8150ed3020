/- The document's All; few: walked. -/
import Derived.Test.YtacjbgmnoiimbaaWalkL
namespace Go.Proofs.Ytacjbgmnoiimbaa
set_option linter.unusedVariables false
set_option linter.unusedSimpArgs false
open Go.RowKit

theorem keysOf_ne {L : List ByteArray} {key : ByteArray} {i : Nat} (h : i < (keysOf L).length → L.getD i ByteArray.empty ≠ key) : i < (keysOf L).length → (keysOf L).getD i [] ≠ key.data.toList := by
  intro hi e
  rw [keysOf_at] at e
  exact h hi (bytes_ext e)
theorem laid_mem (ks : List Text) (key : Text) (n : Nat) (k : Text) : k ∈ laid ks key n ↔ k ∈ ks ∨ k = key := by
  unfold laid
  have e : k ∈ ks ↔ k ∈ ks.take n ++ ks.drop n := by rw [List.take_append_drop]
  rw [e]
  simp only [List.mem_append, List.mem_cons, List.not_mem_nil, or_false]
  constructor
  · rintro ((h | h) | h)
    · exact .inl (.inl h)
    · exact .inr h
    · exact .inl (.inr h)
  · rintro ((h | h) | h)
    · exact .inl (.inl h)
    · exact .inr h
    · exact .inl (.inr h)
theorem put_rel {B : Nat} {a : Option Addr} {n c : Nat} {out : List ByteArray} {key : ByteArray} {w w' : World} {e : Ending} (hB : B ≤ w.heap.size) (hn : n = out.length) (hrow : w.ownsRow B 9 1 (.slice a n c) out.length (strsV out)) (hr : Rises (keysOf out)) (h : PutIs (.slice a n c) out key w e w') :
    ∃ out' a' n' c' b, e = .returned (.tuple #[.slice a' n' c', .bool b]) ∧ w'.ownsRow B 9 1 (.slice a' n' c') out'.length (strsV out') ∧ Rises (keysOf out') ∧ (∀ k, k ∈ keysOf out' ↔ k ∈ keysOf out ∨ k = key.data.toList) ∧ out'.length ≤ out.length + 1 ∧ Below w.heap.size w w' := by
  obtain ⟨i, hF, ⟨hi, hxi, rfl, rfl⟩ | ⟨hne, v, rfl, hown, hB3⟩⟩ := h
  · refine ⟨out, a, n, c, false, rfl, hrow, hr, fun k => ⟨fun h => .inl h, ?_⟩, by omega, Below.refl _ _⟩
    rintro (h | rfl)
    · exact h
    · rw [← hxi, ← keysOf_at, List.getD_eq_getElem?_getD, List.getElem?_eq_getElem (by rw [length_keysOf]; exact hi)]
      exact List.getElem_mem _
  · have hi : i ≤ out.length := by have := hF.1; rwa [length_keysOf] at this
    obtain ⟨a', n', c', rfl⟩ := row_slice hown
    refine ⟨putAt out key i, a', n', c', true, rfl, by rw [length_putAt out key i hi]; exact row_lower hown hB, ?_, fun k => ?_, by rw [length_putAt out key i hi]; exact Nat.le_refl _, hB3⟩
    · rw [keysOf_putAt]
      exact rises_laid hr hF (keysOf_ne (by rw [length_keysOf]; exact hne))
    · rw [keysOf_putAt]; exact laid_mem _ _ _ _
def RefRel (L : List RR) (w : World) (j i : Nat) (outv : Value) (wr : World) : Prop := ∃ out : List ByteArray, wr.ownsRow w.heap.size 9 1 outv out.length (strsV out) ∧ Rises (keysOf out) ∧ (∀ k, k ∈ keysOf out ↔ HasK (L.take j) k ∨ k ∈ (keysOf (at_ L j).keys).take i) ∧ out.length ≤ tot (L.take j) + i ∧ Below w.heap.size w wr
theorem take_succ_at (L : List RR) (j : Nat) (h : j < L.length) : L.take (j + 1) = L.take j ++ [at_ L j] := by
  rw [List.take_add_one]
  unfold at_
  rw [List.getElem?_eq_getElem h, List.getD_eq_getElem?_getD, List.getElem?_eq_getElem h]; rfl
theorem refrel_row {L : List RR} {w : World} {j : Nat} {outv : Value} {wr : World} (hj : j < L.length) (h : RefRel L w j (at_ L j).keys.length outv wr) : RefRel L w (j + 1) 0 outv wr := by
  obtain ⟨out, h1, h2, h3, h4, h5⟩ := h
  refine ⟨out, h1, h2, fun k => ?_, ?_, h5⟩
  · rw [h3, show (keysOf (at_ L j).keys).take (at_ L j).keys.length = keysOf (at_ L j).keys from List.take_of_length_le (by rw [length_keysOf]; exact Nat.le_refl _), take_succ_at L j hj]
    constructor
    · rintro (⟨x, hx, hk⟩ | h)
      · exact .inl ⟨x, List.mem_append_left _ hx, hk⟩
      · exact .inl ⟨at_ L j, List.mem_append_right _ (List.mem_singleton.2 rfl), h⟩
    · rintro (⟨x, hx, hk⟩ | h)
      · rcases List.mem_append.1 hx with hx | hx
        · exact .inl ⟨x, hx, hk⟩
        · rw [List.mem_singleton] at hx
          subst hx; exact .inr hk
      · cases h
  · rw [take_succ_at L j hj]
    unfold tot at *
    rw [List.map_append, List.sum_append]
    simp only [List.map_cons, List.map_nil, List.sum_cons, List.sum_nil]
    omega
theorem tot_take_le (L : List RR) (j : Nat) : tot (L.take j) ≤ tot L := by
  have e : tot L = tot (L.take j) + tot (L.drop j) := by
    unfold tot
    rw [← List.sum_append, ← List.map_append, List.take_append_drop]
  omega
def RefAllIs (L : List RR) (w : World) (e : Ending) (w' : World) : Prop := ∃ (out : List ByteArray) (v : Value), e = .returned v ∧ w'.ownsRow w.heap.size 9 1 v out.length (strsV out) ∧ Rises (keysOf out) ∧ (∀ k, k ∈ keysOf out ↔ HasK L k) ∧ out.length ≤ tot L ∧ Below w.heap.size w w'
set_option maxRecDepth 100000 in
set_option maxHeartbeats 2000000 in
theorem refall_any (a : Option Addr) (cap : Nat) (L : List RR) (w : World) (hL : L.length ≤ 10000) (hsz : ∀ i, i < L.length → (at_ L i).keys.length ≤ 10000) (htot : tot L ≤ 100000) (h : IsRows w a L) :
    Calls Try.prog 12 #[.slice a L.length cap] w (RefAllIs L w) := by
  have H := Lib.hid h
  have HSz := Lib.hid hsz
  clear h hsz
  have HR0 : Hid (RefRel L w 0 0 (.slice none 0 0) w) := ⟨[], World.ownsRow_nil _ _ _ _, (fun i hi => by simp [keysOf] at hi), (fun k => ⟨fun h => (by cases h), fun h => by
    rcases h with ⟨x, hx, _⟩ | h
    · cases hx
    · cases h⟩), Nat.zero_le _, Below.refl _ _⟩
  go_enter Try.func12, Try.ntmps12
  go_wp2_with fail
  go_loopw [3, 10] (fun ov iv wr => ∃ (j : Nat) (oa : Option Addr) (on oc : Nat), ov = .slice oa on oc ∧ iv = .int .i64 j ∧ j ≤ L.length ∧ Hid (RefRel L w j 0 (.slice oa on oc) wr)) (fun _ iv _ => L.length - (intOf iv).toNat)
  case atStart => exact ⟨0, none, 0, 0, rfl, rfl, Nat.zero_le _, HR0⟩
  case round =>
    clear HR0
    obtain ⟨j, oa, on, oc, rfl, rfl, hj, hst⟩ := hrel
    by_cases hjl : j < L.length
    · have dj : decide ((j : Int) < (L.length : Int)) = true := decide_eq_true (by omega)
      have hij : (j : Int) < (L.length : Int) := by omega
      have hB : Below w.heap.size w wr := by obtain ⟨out, _, _, _, _, h5⟩ := hst.out; exact h5
      obtain ⟨b, off, rfl, hb, hc⟩ := (H.out.below hB) (by omega)
      obtain ⟨c0, _, _⟩ := hc j hjl
      have hsz := HSz.out j hjl
      have HStr : Hid (IsStrs w (at_ L j).a (at_ L j).keys) := by
        obtain ⟨b', off', _, _, hc'⟩ := H.out (by omega)
        exact (hc' j hjl).2.2
      have HEnd := Lib.hid (fun ov wx => refrel_row (L := L) (w := w) (j := j) (outv := ov) (wr := wx) hjl)
      have HTk := Lib.hid (tot_take_le L j)
      unfold rowV at c0
      clear hc hB hb
      go_wp2_with fail
      have hst2 := hst
      clear hst
      go_loopw [3, 16] (fun ov iv wx => ∃ (i : Nat) (oa : Option Addr) (on oc : Nat), ov = .slice oa on oc ∧ iv = .int .i64 i ∧ i ≤ (at_ L j).keys.length ∧ Hid (RefRel L w j i (.slice oa on oc) wx)) (fun _ iv _ => (at_ L j).keys.length - (intOf iv).toNat)
      case atStart => exact ⟨0, oa, on, oc, rfl, rfl, Nat.zero_le _, hst2⟩
      case round =>
        clear hst2 c0
        obtain ⟨i, oa, on, oc, rfl, rfl, hi, hst⟩ := hrel
        by_cases hil : i < (at_ L j).keys.length
        · obtain ⟨out, h1, h2, h3, h4, h5⟩ := hst.out
          have di : decide ((i : Int) < ((at_ L j).keys.length : Int)) = true := decide_eq_true (by omega)
          have hii : (i : Int) < ((at_ L j).keys.length : Int) := by omega
          obtain ⟨b2, off2, ha2, hb2, hc2⟩ := (HStr.out.below h5) (by omega)
          have c2 := hc2 i hil
          have hon := row_len' h1
          have hco := row_cap h1
          subst hon
          have htk := HTk.out
          have HPut := Lib.hid (refput_row oa oc out ((at_ L j).keys.getD i ByteArray.empty) wr (by omega) hco (row_strs h1))
          have HK3 : Hid (∀ k, k ∈ (keysOf (at_ L j).keys).take (i + 1) ↔ k ∈ (keysOf (at_ L j).keys).take i ∨ k = ((at_ L j).keys.getD i ByteArray.empty).data.toList) := fun k => by
            have hil' : i < (keysOf (at_ L j).keys).length := by rw [length_keysOf]; exact hil
            have e : (keysOf (at_ L j).keys).take (i + 1) = (keysOf (at_ L j).keys).take i ++ [(keysOf (at_ L j).keys).getD i []] := by
              rw [List.take_add_one, List.getElem?_eq_getElem hil', List.getD_eq_getElem?_getD, List.getElem?_eq_getElem hil']; rfl
            rw [e, List.mem_append, List.mem_singleton, keysOf_at]
          have HP := Lib.hid (fun e w' => put_rel (w' := w') (e := e) (key := (at_ L j).keys.getD i ByteArray.empty) h5.size rfl h1 h2)
          have H3 := Lib.hid h3
          have H5 := Lib.hid h5
          clear hst h1 h2 h3 h5 hc2 hb2
          generalize hky : (at_ L j).keys.getD i ByteArray.empty = key at *
          generalize hA : (at_ L j).a = A at *
          generalize hKL : (at_ L j).keys.length = KL at *
          have HKL := Lib.hid hKL
          subst ha2
          clear hky hKL
          go_wp2_with fail
          refine HPut.out.mono ?_
          clear HPut
          intro e w2 hp
          obtain ⟨out', a', n', c', b', rfl, p1, p2, p3, p4, p5⟩ := HP.out e w2 hp
          have HRN : Hid (RefRel L w j (i + 1) (.slice a' n' c') w2) := ⟨out', p1, p2, fun k => by
            rw [p3, H3.out, HK3.out]
            constructor
            · rintro ((h | h) | h)
              · exact .inl h
              · exact .inr (.inl h)
              · exact .inr (.inr h)
            · rintro (h | h | h)
              · exact .inl (.inl h)
              · exact .inl (.inr h)
              · exact .inr h, by omega, H5.out.trans (p5.mono H5.out.size)⟩
          clear hp p1 p2 p3 p4 p5 HP
          go_wp2_with fail
          go_roundw
          case rel => exact ⟨i + 1, a', n', c', rfl, by go_num, by omega, HRN⟩
          case measure => simp [intOf]; omega
        · obtain rfl : i = (at_ L j).keys.length := by omega
          have di : decide ((((at_ L j).keys.length : Nat) : Int) < ((at_ L j).keys.length : Int)) = false := by simp
          have HRN := Lib.hid (HEnd.out _ wr hst.out)
          clear hst
          go_wp2_with fail
          go_roundw
          case rel => exact ⟨j + 1, oa, on, oc, rfl, by go_num, by omega, HRN⟩
          case measure => simp [intOf]; omega
    · obtain rfl : j = L.length := by omega
      have dj : decide ((L.length : Int) < (L.length : Int)) = false := by simp
      obtain ⟨out, h1, h2, h3, h4, h5⟩ := hst.out
      rw [List.take_length] at h3 h4
      have HE : Hid (RefAllIs L w (.returned (.slice oa on oc)) wr) := ⟨out, _, rfl, h1, h2, fun k => by
        rw [h3, List.take_zero]
        exact ⟨fun h => h.elim id (fun h => by cases h), fun h => .inl h⟩, by omega, h5⟩
      clear hst h1 h2 h3 h4 h5
      go_wp2_with fail
      go_ret
      exact HE.out
end Go.Proofs.Ytacjbgmnoiimbaa
