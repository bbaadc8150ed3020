/- Few; the same commit: walked. -/
import Derived.Test.YtbamohcaamgalaeWalkK
namespace Go.Proofs.Ytbamohcaamgalae
set_option linter.unusedVariables false
set_option linter.unusedSimpArgs false
open Go.RowKit

set_option maxRecDepth 100000 in
set_option maxHeartbeats 1000000 in
theorem few_any (rev : Nat) (a : Option Addr) (cap : Nat) (es : List Ent) (w : World) (hl : es.length ≤ 9223372036854775807) (he : ∀ i, EntOk (es.getD i default)) (h : IsEnts w a es) :
    Calls Try.prog 8 #[comV rev a es.length cap] w fun e w' => (∃ r : Bool, e = .returned (.bool r) ∧ (r = true → es.length ≤ 400 ∧ ∀ i, (es.getD i default).key.size ≤ 200)) ∧ Below w.heap.size w w' := by
  unfold comV
  have hB := (Below.refl w.heap.size w).alloc (Nat.le_refl _) (.cells #[.int .u64 (rev : Int), .slice a es.length cap] 25)
  have H := Lib.hid h
  have HE := Lib.hid he
  have hg : (w.alloc (.cells #[.int .u64 (rev : Int), .slice a es.length cap] 25)).cell? ⟨w.heap.size, 1, none⟩ = some (.slice a es.length cap) := by
    rw [cell_of_row _ _ 1 _ _ _ (heap_alloc_new w _)]; rfl
  have HG := Lib.hid hg
  clear h he hg
  go_enter Try.func8, Try.ntmps8
  go_wp2_with fail
  go_loopw [8] (fun i wr => ∃ k : Nat, k ≤ es.length ∧ i = .int .i64 k ∧ Hid (∀ j, j < k → (es.getD j default).key.size ≤ 200) ∧ Below (w.heap.size + 1) (w.alloc (.cells #[.int .u64 (rev : Int), .slice a es.length cap] 25)) wr) (fun i _ => es.length - (intOf i).toNat)
  case atStart => exact ⟨0, Nat.zero_le _, rfl, Lib.hid (fun j hj => by omega), Below.refl _ _⟩
  case round =>
    obtain ⟨k, hkl, rfl, HO, hb⟩ := hrel
    have hBr := hB.trans (hb.mono (by omega))
    have hg := (hb.cell (p := ⟨w.heap.size, 1, none⟩) (by simp)).trans HG.out
    have hwl : w.heap.size < wr.heap.size := by have := hb.size; simp at this; omega
    have hne1 : ¬ w.heap.size = wr.heap.size := by omega
    have hne2 : ¬ wr.heap.size = w.heap.size := by omega
    by_cases hlt : k < es.length
    · obtain ⟨b, off, rfl, hbb, hc⟩ := (H.out.below hBr) (by omega)
      obtain ⟨c0, c1, c2⟩ := hc k hlt
      have hdk : decide ((k : Int) < (es.length : Int)) = true := by simp; omega
      have hok := (HE.out k).2
      obtain ⟨x, hx⟩ : ∃ x, es.getD k default = x := ⟨_, rfl⟩
      rw [hx] at c0 c1 c2 hok
      have HX := Lib.hid hx
      obtain ⟨xk, xr, xd⟩ := x
      simp only at c0 c1 c2 hok
      clear hc hx
      by_cases hks : xk.size ≤ 200
      · have dk : decide (200 < (xk.size : Int)) = false := decide_eq_false (by omega)
        have dk' : decide (200 < xk.size) = false := decide_eq_false (by omega)
        go_wp2_with fail
        go_roundw
        case rel =>
          refine ⟨k + 1, by omega, by go_num, ?_, hb.alloc (by have := hb.size; simp at this; omega) _⟩
          intro j hj
          by_cases e : j = k
          · rw [e, HX.out]; exact hks
          · exact HO.out j (by omega)
        case measure => simp [intOf]; omega
      · have dk : decide (200 < (xk.size : Int)) = true := decide_eq_true (by omega)
        have dk' : decide (200 < xk.size) = true := decide_eq_true (by omega)
        go_wp2_with fail
        go_ret
        exact ⟨⟨false, rfl, fun h => by cases h⟩, hBr.alloc hBr.size _⟩
    · obtain rfl : k = es.length := by omega
      have hdk : decide ((es.length : Int) < (es.length : Int)) = false := by simp
      have HY : Hid (decide ((es.length : Int) ≤ 400) = true → es.length ≤ 400 ∧ ∀ i, (es.getD i default).key.size ≤ 200) := by
        intro hd
        have := of_decide_eq_true hd
        refine ⟨by omega, fun i => ?_⟩
        by_cases hi : i < es.length
        · exact HO.out i hi
        · rw [List.getD_eq_getElem?_getD, List.getElem?_eq_none (by omega)]; exact Nat.zero_le _
      go_wp2_with fail
      go_ret
      exact ⟨⟨_, rfl, by first | exact HY.out | (simpa using HY.out)⟩, hBr⟩
theorem eqS (d : Nat) (x y : ByteArray) (w : World) : (Op.equalIn (d + 1) 9 (.string x) (.string y)).run Try.prog w = .ok (x == y) w := by
  rw [Op.equalIn]
  simp [run_underlying Try.underlying9]
theorem eqI (d : Nat) (x y : Int) (w : World) : (Op.equalIn (d + 1) 22 (.int .u64 x) (.int .u64 y)).run Try.prog w = .ok (x == y) w := by
  rw [Op.equalIn]
  simp [run_underlying Try.underlying22]
theorem eqB (d : Nat) (x y : Bool) (w : World) : (Op.equalIn (d + 1) 4 (.bool x) (.bool y)).run Try.prog w = .ok (x == y) w := by
  rw [Op.equalIn]
  simp [run_underlying Try.underlying4]
theorem part0 (k : ByteArray) (r : Int) (d : Bool) (w : World) : (part 9 #[.string k, .int .u64 r, .bool d] 0).run Try.prog w = .ok (.string k) w := by simp [part, go_sem]
theorem part1 (k : ByteArray) (r : Int) (d : Bool) (w : World) : (part 22 #[.string k, .int .u64 r, .bool d] 1).run Try.prog w = .ok (.int .u64 r) w := by simp [part, go_sem]
theorem part2 (k : ByteArray) (r : Int) (d : Bool) (w : World) : (part 4 #[.string k, .int .u64 r, .bool d] 2).run Try.prog w = .ok (.bool d) w := by simp [part, go_sem]
theorem ent_neq (xk yk : ByteArray) (xr yr : Nat) (xd yd : Bool) (w : World) : (binOp .neq 48 (.agg #[.string xk, .int .u64 (xr : Int), .bool xd]) (.agg #[.string yk, .int .u64 (yr : Int), .bool yd])).run Try.prog w = .ok (.bool (!(xk == yk && (xr : Int) == (yr : Int) && xd == yd))) w := by
  simp only [binOp]
  simp [Op.equal, Op.maxDepth]
  rw [Op.equalIn]
  simp [run_underlying Try.underlying48, part0, part1, part2, eqS 9998, eqI 9998, eqB 9998]
  by_cases h1 : (xk == yk) = true
  · by_cases h2 : ((xr : Int) == (yr : Int)) = true
    · by_cases h3 : (xd == yd) = true
      · simp_all
      · simp_all
    · simp_all
  · simp_all
theorem beq_bytes (x y : ByteArray) : (x == y) = true ↔ x = y := by
  cases x with | mk a =>
  cases y with | mk b =>
  show (a == b) = true ↔ _
  simp
theorem ent_same (x y : Ent) : (!(x.key == y.key && (x.rev : Int) == (y.rev : Int) && x.del == y.del)) = false ↔ x = y := by
  obtain ⟨xk, xr, xd⟩ := x
  obtain ⟨yk, yr, yd⟩ := y
  simp only [Bool.not_eq_false', Bool.and_eq_true, beq_bytes, beq_iff_eq, Ent.mk.injEq]
  constructor
  · rintro ⟨⟨h1, h2⟩, h3⟩
    exact ⟨h1, by omega, h3⟩
  · rintro ⟨h1, h2, h3⟩
    exact ⟨⟨h1, by omega⟩, h3⟩
theorem ents_ext (a b : List Ent) (hl : a.length = b.length) (h : ∀ j, j < a.length → a.getD j default = b.getD j default) : a = b := by
  refine List.ext_getElem hl (fun i h1 h2 => ?_)
  have := h i h1
  simp only [List.getD_eq_getElem?_getD, List.getElem?_eq_getElem h1, List.getElem?_eq_getElem h2, Option.getD_some] at this
  exact this
set_option maxRecDepth 100000 in
set_option maxHeartbeats 1000000 in
theorem same_any (rev rev2 : Nat) (a a2 : Option Addr) (cap cap2 : Nat) (es es2 : List Ent) (w : World) (hl : es.length ≤ 9223372036854775807) (hl2 : es2.length ≤ 9223372036854775807) (h : IsEnts w a es) (h2 : IsEnts w a2 es2) :
    Calls Try.prog 14 #[comV rev a es.length cap, comV rev2 a2 es2.length cap2] w (BoolIs (rev = rev2 ∧ es = es2) w) := by
  unfold comV
  have hB := ((Below.refl w.heap.size w).alloc (Nat.le_refl _) (.cells #[.int .u64 (rev : Int), .slice a es.length cap] 25)).alloc (by simp) (.cells #[.int .u64 (rev2 : Int), .slice a2 es2.length cap2] 25)
  by_cases hrr : rev = rev2
  · subst hrr
    by_cases hlen : es.length = es2.length
    · have hn : ((es.length : Int) != (es2.length : Int)) = false := by rw [hlen]; simp
      have HLen := Lib.hid hlen
      have H := Lib.hid (h.below hB)
      have H2 := Lib.hid (h2.below hB)
      clear hlen h h2
      go_enter Try.func14, Try.ntmps14
      go_wp2_with fail
      have g1 : ((w.alloc (.cells #[.int .u64 (rev : Int), .slice a es.length cap] 25)).alloc (.cells #[.int .u64 (rev : Int), .slice a2 es2.length cap2] 25)).cell? ⟨w.heap.size, 1, none⟩ = some (.slice a es.length cap) := by simp
      have g2 : ((w.alloc (.cells #[.int .u64 (rev : Int), .slice a es.length cap] 25)).alloc (.cells #[.int .u64 (rev : Int), .slice a2 es2.length cap2] 25)).cell? ⟨w.heap.size + 1, 1, none⟩ = some (.slice a2 es2.length cap2) := by simp
      generalize ((w.alloc (.cells #[.int .u64 (rev : Int), .slice a es.length cap] 25)).alloc (.cells #[.int .u64 (rev : Int), .slice a2 es2.length cap2] 25)) = W at *
      go_loopw [23] (fun i wr => ∃ k : Nat, k ≤ es.length ∧ i = .int .i64 k ∧ Hid (∀ j, j < k → es.getD j default = es2.getD j default) ∧ ∃ n, wr = W.drewN n) (fun i _ => es.length - (intOf i).toNat)
      case atStart => exact ⟨0, Nat.zero_le _, rfl, Lib.hid (fun j hj => by omega), 0, rfl⟩
      case round =>
        obtain ⟨k, hkl, rfl, HO, n, rfl⟩ := hrel
        by_cases hlt : k < es.length
        · obtain ⟨b, off, rfl, hb, hc⟩ := H.out (by omega)
          obtain ⟨b2, off2, rfl, hb2, hc2⟩ := H2.out (by rw [← HLen.out]; omega)
          have hk2 : k < es2.length := by rw [← HLen.out]; exact hlt
          obtain ⟨c0, c1, c2⟩ := hc k hlt
          obtain ⟨e0, e1, e2⟩ := hc2 k hk2
          have hdk : decide ((k : Int) < (es.length : Int)) = true := by simp; omega
          have hi1 : (k : Int) < (es.length : Int) := by omega
          have hi2 : (k : Int) < (es2.length : Int) := by omega
          obtain ⟨x, hx⟩ : ∃ x, es.getD k default = x := ⟨_, rfl⟩
          obtain ⟨y, hy⟩ : ∃ y, es2.getD k default = y := ⟨_, rfl⟩
          rw [hx] at c0 c1 c2
          rw [hy] at e0 e1 e2
          have HX := Lib.hid hx
          have HY := Lib.hid hy
          clear hc hc2 hx hy
          obtain ⟨xk, xr, xd⟩ := x
          obtain ⟨yk, yr, yd⟩ := y
          simp only at c0 c1 c2 e0 e1 e2
          have hcmp := fun W0 => ent_neq xk yk xr yr xd yd W0
          have HSm := Lib.hid (ent_same ⟨xk, xr, xd⟩ ⟨yk, yr, yd⟩)
          simp only at HSm
          generalize hbb : (!(xk == yk && (xr : Int) == (yr : Int) && xd == yd)) = bb at *
          clear hbb
          cases bb with
          | false =>
            have HEq : Hid (es.getD k default = es2.getD k default) := by
              show _ = _
              rw [HX.out, HY.out]; exact HSm.out.1 rfl
            go_wp2_with fail
            go_quiet (fail)
            go_wp2_with fail
            go_roundw
            case rel =>
              refine ⟨k + 1, by omega, by go_num, ?_, _, rfl⟩
              intro j hj
              by_cases e : j = k
              · rw [e]; exact HEq.out
              · exact HO.out j (by omega)
            case measure => simp [intOf]; omega
          | true =>
            have HN : Hid (¬ (rev = rev ∧ es = es2)) := by
              rintro ⟨_, e⟩
              have h := HX.out
              rw [e, HY.out] at h
              have := HSm.out.2 h.symm
              cases this
            go_wp2_with fail
            go_quiet (fail)
            go_wp2_with fail
            go_ret
            exact ⟨⟨false, rfl, (fun h => by cases h), fun h => (by first | exact absurd h HN.out | exact absurd ⟨trivial, h⟩ HN.out)⟩, by first | exact Below.drewN hB _ | (rw [World.drewN_drewN]; exact Below.drewN hB _)⟩
        · obtain rfl : k = es.length := by omega
          have hdk : decide ((es.length : Int) < (es.length : Int)) = false := by simp
          have HY : Hid (rev = rev ∧ es = es2) := ⟨rfl, ents_ext es es2 HLen.out HO.out⟩
          go_wp2_with fail
          go_ret
          exact ⟨⟨true, rfl, fun _ => by first | exact HY.out | exact HY.out.2, fun _ => rfl⟩, Below.drewN hB _⟩
    · have hn : ((es.length : Int) != (es2.length : Int)) = true := by rw [bne_iff_ne]; omega
      have HN : Hid (¬ (rev = rev ∧ es = es2)) := fun h => hlen (by rw [h.2])
      clear hlen h h2
      go_enter Try.func14, Try.ntmps14
      go_wp2_with fail
      go_ret
      exact ⟨⟨false, rfl, (fun h => by cases h), fun h => (by first | exact absurd h HN.out | exact absurd ⟨trivial, h⟩ HN.out)⟩, hB⟩
  · have hne : ((rev : Int) != (rev2 : Int)) = true := by rw [bne_iff_ne]; omega
    have HN : Hid (¬ (rev = rev2 ∧ es = es2)) := fun h => hrr h.1
    clear hrr h h2
    go_enter Try.func14, Try.ntmps14
    go_wp2_with fail
    go_ret
    exact ⟨⟨false, rfl, (fun h => by cases h), fun h => (by first | exact absurd h HN.out | exact absurd ⟨trivial, h⟩ HN.out)⟩, hB⟩
end Go.Proofs.Ytbamohcaamgalae
