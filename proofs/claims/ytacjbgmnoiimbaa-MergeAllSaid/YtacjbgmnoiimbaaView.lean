/- Rows of texts handed in: what they hold; few: walked. -/
import Derived.Test.YtacjbgmnoiimbaaWalkM
import Derived.SizedLaws
import Derived.Deep.Slices
namespace Go.Proofs.Ytacjbgmnoiimbaa
set_option linter.unusedVariables false
set_option linter.unusedSimpArgs false
open Go.ChangeShapes Go.WideShapes Go.ChangeAt Go.RowKit Go.Deep

def RowSz (x : RR) : Prop := x.keys.length ≤ 10000000000000 ∧ ∀ j, (x.keys.getD j ByteArray.empty).size ≤ 9223372036854775807
theorem weightsAll_mem {H : Type} {P : Program} {e : TypeId} : ∀ {l : List (DataW H)} {d : DataW H}, d ∈ l → ∀ n ∈ d.weights P e, n ∈ DataW.weightsAll P e l
  | d' :: r, d, hd, n, hn => by
    simp only [DataW.weightsAll, List.mem_append]
    rcases List.mem_cons.1 hd with rfl | h
    · exact Or.inl hn
    · exact Or.inr (weightsAll_mem h n hn)
theorem Try.bytes9 : Try.prog.bytesOf 9 = 16 := by kernel_rfl
theorem view_strsW {H : Type} {enc : TypeId × Value → H} {W : World} {fuel : Nat} {v : Value} {x : DataW H × List MemPlace}
    (hw : ∀ n ∈ x.1.weights Try.prog 26, n ≤ reachBytes) (hv : ∃ a len cap, v = .slice a len cap) (h : DataW.trod enc Try.prog W 0 (fun _ => true) true fuel 26 [v] = some x) : ∃ s : RR, v = rowV s ∧ s.keys.length ≤ s.kc ∧ RowSz s ∧ IsStrs W s.a s.keys := by
  obtain ⟨a, len, cap, rfl⟩ := hv
  obtain ⟨l, rfl, h1, h2, h3, h4⟩ := view_strs Try.underlying26 Try.underlying9 (by kernel_rfl) (show DataW.Trod enc Try.prog W 0 (fun _ => true) true 26 (.slice a len cap) x.1 x.2 from ⟨fuel, h⟩)
  refine ⟨⟨a, cap, l⟩, rfl, h2, ⟨?_, fun j => ?_⟩, h4⟩
  · show l.length ≤ 10000000000000
    rcases open_slice Try.underlying26 h with ⟨hcs, _⟩ | ⟨ad, len, c, m, n, D, Pl, hcs, _, hl, hm, hmm, hx, _⟩
    · simp only [List.cons.injEq, Value.slice.injEq, and_true] at hcs
      omega
    · simp only [List.cons.injEq, Value.slice.injEq, and_true] at hcs
      have hw1 := hw ((((List.range len).map D).length + ((List.range (m - len)).map fun j => D (len + j)).length) * Try.prog.bytesOf 9) (by rw [hx]; simp [DataW.weights, Try.underlying26])
      rw [Try.bytes9] at hw1
      simp only [List.length_map, List.length_range] at hw1
      have hr : reachBytes = 140737488351232 := rfl
      have := hcs.2.1
      omega
  · show (l.getD j ByteArray.empty).size ≤ 9223372036854775807
    by_cases hj : j < l.length
    · rw [List.getD_eq_getElem?_getD, List.getElem?_eq_getElem hj]; exact h3 _ (List.getElem_mem hj)
    · rw [List.getD_eq_getElem?_getD, List.getElem?_eq_none (by omega)]; exact Nat.zero_le _
theorem view_rows {H : Type} {enc : TypeId × Value → H} {W : World} {a : Option Addr} {len cap : Nat} {d : DataW H} {p : List MemPlace}
    (hw : ∀ n ∈ d.weights Try.prog 22, n ≤ reachBytes) (h : DataW.Trod enc Try.prog W 0 (fun _ => true) true 22 (.slice a len cap) d p) :
    ∃ ls : List RR, ls.length = len ∧ len ≤ 9223372036854775807 ∧ (len ≤ cap ∧ IsRows W a ls ∧ ∀ i, i < ls.length → RowSz (at_ ls i)) := by
  obtain ⟨fuel, hf⟩ := h
  rcases open_slice1 Try.underlying22 (by kernel_rfl) hf with ⟨hcs, _⟩ | ⟨ad, l, c, m, n, V, D, Pl, hcs, _, hl, hm, hmm, hx, hcell⟩
  · simp [Value.cells] at hcs
    obtain ⟨rfl, rfl, rfl⟩ := hcs
    exact ⟨[], rfl, by decide, by decide, (fun h => by cases h), fun i hi => by cases hi⟩
  · simp [Value.cells] at hcs
    obtain ⟨rfl, rfl, rfl⟩ := hcs
    simp only [if_true] at hmm
    subst hmm
    simp only [Prod.mk.injEq] at hx
    obtain ⟨hd, _⟩ := hx
    unfold maxLen at hm
    obtain ⟨f, hfs⟩ := choose_lt (α := RR) (n := len) (p := fun i s => W.cell? (ad.add i) = some (rowV s) ∧ s.keys.length ≤ s.kc ∧ RowSz s ∧ IsStrs W s.a s.keys) (fun i hi => by
      obtain ⟨hc, ht⟩ := hcell i (by omega)
      obtain ⟨s, hv, hok⟩ := view_strsW (fun n hn => hw n (by
        rw [hd]
        simp only [DataW.weights, Try.underlying22, List.mem_cons, List.mem_append]
        exact Or.inr (Or.inl (weightsAll_mem (List.mem_map.2 ⟨i, List.mem_range.2 hi, rfl⟩) n hn)))) (by
          rcases open_slice Try.underlying26 ht with ⟨hcs, _⟩ | ⟨ad, len, c, m, n, D, Pl, hcs, _⟩
          · simp only [List.cons.injEq, and_true] at hcs
            exact ⟨_, _, _, hcs⟩
          · simp only [List.cons.injEq, and_true] at hcs
            exact ⟨_, _, _, hcs⟩) ht
      exact ⟨s, by rw [hc, hv], hok⟩)
    have hat : ∀ k, k < len → at_ ((List.range len).map f) k = f k := fun k hk => by
      unfold at_
      simp [List.getD, hk]
    refine ⟨(List.range len).map f, by simp, by omega, hl, fun h0 => ?_, fun i hi => ?_⟩
    · have h0' : 0 < len := by simpa using h0
      obtain ⟨b, off, spot⟩ := ad
      have hc0 := (hfs 0 h0').1
      have hspot : spot = none := by simpa [Addr.add] using World.cell?_spot hc0
      subst hspot
      refine ⟨b, off, rfl, ?_, fun k hk => ?_⟩
      · have := World.block_lt_of_cell? W _ hc0
        simpa [Addr.add] using this
      · have hk' : k < len := by simpa using hk
        have := hfs k hk'
        rw [Addr.add_lit] at this
        rw [hat k hk']; exact ⟨this.1, this.2.1, this.2.2.2⟩
    · have hi' : i < len := by simpa using hi
      rw [hat i hi']; exact (hfs i hi').2.2.1
def FewIs (L : List RR) (e : Ending) : Prop := ∃ r : Bool, e = .returned (.bool r) ∧ (r = true → L.length ≤ 30 ∧ tot L ≤ 300)
theorem tot_take_succ (L : List RR) (j : Nat) (h : j < L.length) : tot (L.take (j + 1)) = tot (L.take j) + (at_ L j).keys.length := by
  rw [take_succ_at L j h]
  unfold tot
  rw [List.map_append, List.sum_append]
  simp
set_option maxRecDepth 100000 in
set_option maxHeartbeats 2000000 in
theorem few_any (a : Option Addr) (cap : Nat) (L : List RR) (w : World) (hL : L.length ≤ 9223372036854775807) (hsz : ∀ i, i < L.length → RowSz (at_ L i)) (h : IsRows w a L) :
    Calls Try.prog 8 #[.slice a L.length cap] w fun e w' => FewIs L e ∧ w' = w := by
  have H := Lib.hid h
  have HSz := Lib.hid hsz
  have HNo : Hid (FewIs L (.returned (.bool false))) := ⟨false, rfl, fun h => by cases h⟩
  clear h hsz
  go_enter Try.func8, Try.ntmps8
  go_wp2_with fail
  go_loopw [3, 10] (fun nv iv wr => ∃ j : Nat, nv = .int .i64 (tot (L.take j) : Int) ∧ iv = .int .i64 j ∧ j ≤ L.length ∧ tot (L.take j) ≤ 300 ∧ Hid (wr = w)) (fun _ iv _ => L.length - (intOf iv).toNat)
  case atStart => exact ⟨0, rfl, rfl, Nat.zero_le _, Nat.zero_le _, rfl⟩
  case round =>
    obtain ⟨j, rfl, rfl, hj, htj, HW⟩ := hrel
    have hw := HW.out
    subst hw
    by_cases hjl : j < L.length
    · have dj : decide ((j : Int) < (L.length : Int)) = true := decide_eq_true (by omega)
      have hij : (j : Int) < (L.length : Int) := by omega
      obtain ⟨b, off, rfl, hb, hc⟩ := H.out (by omega)
      obtain ⟨c0, _, hks⟩ := hc j hjl
      obtain ⟨hs1, hs2⟩ := HSz.out j hjl
      have htn := tot_take_succ L j hjl
      have HStr := Lib.hid hks
      have HS2 := Lib.hid hs2
      have HTn := Lib.hid htn
      unfold rowV at c0
      clear hc hb hks hs2 htn
      generalize at_ L j = x at *
      obtain ⟨xa, xc, xk⟩ := x
      simp only at c0 hs1 HStr HS2 HTn
      generalize hT : tot (L.take j) = T at *
      have HT := Lib.hid hT
      clear hT
      go_wp2_with fail
      go_loopw [20] (fun iv wx => ∃ i : Nat, iv = .int .i64 i ∧ i ≤ xk.length ∧ Hid (wx = wr)) (fun iv _ => xk.length - (intOf iv).toNat)
      case atStart => exact ⟨0, rfl, Nat.zero_le _, rfl⟩
      case round =>
        obtain ⟨i, rfl, hi, HW2⟩ := hrel
        have hw := HW2.out
        subst hw
        by_cases hil : i < xk.length
        · have di : decide ((i : Int) < (xk.length : Int)) = true := decide_eq_true (by omega)
          have hii : (i : Int) < (xk.length : Int) := by omega
          obtain ⟨b2, off2, rfl, hb2, hc2⟩ := HStr.out (by omega)
          have c2 := hc2 i hil
          have hsz2 := HS2.out i
          generalize xk.getD i ByteArray.empty = key at *
          clear hc2 hb2
          by_cases h200 : 200 < key.size
          · have d2 : decide ((200 : Int) < (key.size : Int)) = true := decide_eq_true (by omega)
            go_wp2_with fail
            go_ret
            exact ⟨HNo.out, rfl⟩
          · have d2 : decide ((200 : Int) < (key.size : Int)) = false := decide_eq_false (by omega)
            go_wp2_with fail
            go_roundw
            case rel => exact ⟨i + 1, by go_num, by omega, by first | rfl | exact trivial⟩
            case measure => simp [intOf]; omega
        · obtain rfl : i = xk.length := by omega
          have di : decide ((xk.length : Int) < (xk.length : Int)) = false := by simp
          by_cases h300 : 300 < T + xk.length
          · have d3 : decide ((300 : Int) < (T : Int) + (xk.length : Int)) = true := decide_eq_true (by omega)
            go_wp2_with fail
            go_ret
            exact ⟨HNo.out, rfl⟩
          · have d3 : decide ((300 : Int) < (T : Int) + (xk.length : Int)) = false := decide_eq_false (by omega)
            go_wp2_with fail
            go_roundw
            case rel => exact ⟨j + 1, by rw [HTn.out, Int.natCast_add], by go_num, by omega, by rw [HTn.out]; omega, by first | rfl | exact trivial⟩
            case measure => simp [intOf]; omega
    · obtain rfl : j = L.length := by omega
      have dj : decide ((L.length : Int) < (L.length : Int)) = false := by simp
      rw [List.take_length] at htj
      have HE : Hid (FewIs L (.returned (.bool (decide (L.length ≤ 30))))) := ⟨_, rfl, fun h => ⟨of_decide_eq_true h, htj⟩⟩
      generalize tot (L.take L.length) = T at *
      go_wp2_with fail
      go_ret
      refine ⟨?_, rfl⟩
      have e : decide ((L.length : Int) ≤ 30) = decide (L.length ≤ 30) := by
        by_cases h : L.length ≤ 30
        · rw [decide_eq_true h, decide_eq_true (by omega)]
        · rw [decide_eq_false h, decide_eq_false (by omega)]
      show FewIs L (.returned (.bool (decide ((L.length : Int) ≤ 30))))
      rw [e]; exact HE.out
end Go.Proofs.Ytacjbgmnoiimbaa
