/- Entries; may a commit be: walked, both ways. -/
import Derived.Test.YtbamohcaamgalaeWalkI
namespace Go.Proofs.Ytbamohcaamgalae
set_option linter.unusedVariables false
set_option linter.unusedSimpArgs false
open Go.RowKit

structure Ent where
  key : ByteArray
  rev : Nat
  del : Bool
instance : Inhabited Ent := ⟨⟨ByteArray.empty, 0, false⟩⟩
def entV (x : Ent) : Value := .agg #[.string x.key, .int .u64 (x.rev : Int), .bool x.del]
def IsEnts (w : World) (a : Option Addr) (l : List Ent) : Prop :=
  0 < l.length → ∃ b off, a = some ⟨b, off, none⟩ ∧ b < w.heap.size ∧ ∀ k, k < l.length →
    w.cell? ⟨b, off + k * 3, none⟩ = some (.string (l.getD k default).key) ∧ w.cell? ⟨b, off + k * 3 + 1, none⟩ = some (.int .u64 ((l.getD k default).rev : Int)) ∧ w.cell? ⟨b, off + k * 3 + 2, none⟩ = some (.bool (l.getD k default).del)
theorem IsEnts.below {w w' : World} {a : Option Addr} {l : List Ent} (h : IsEnts w a l) (hb : Below w.heap.size w w') : IsEnts w' a l := by
  intro h0
  obtain ⟨b, off, ha, hbw, hc⟩ := h h0
  refine ⟨b, off, ha, Nat.lt_of_lt_of_le hbw hb.size, fun k hk => ?_⟩
  obtain ⟨c0, c1, c2⟩ := hc k hk
  exact ⟨(hb.cell (p := ⟨b, off + k * 3, none⟩) hbw).trans c0, (hb.cell (p := ⟨b, off + k * 3 + 1, none⟩) hbw).trans c1, (hb.cell (p := ⟨b, off + k * 3 + 2, none⟩) hbw).trans c2⟩
/-- an entry that may not be -/
def Odd (rev : Nat) (x : Ent) : Prop := x.rev ≠ rev ∨ 65536 < x.key.size
def Right (rev : Nat) (es : List Ent) : Prop := 0 < rev ∧ 0 < es.length ∧ es.length ≤ 256 ∧ ∀ i, i < es.length → ¬ Odd rev (es.getD i default)
set_option maxHeartbeats 1000000 in
theorem odd_any (x : Ent) (g rev : Nat) (w : World) (hr : rev < 18446744073709551616) (hx : x.rev < 18446744073709551616) (hk : x.key.size ≤ 9223372036854775807) (hg : w.cell? ⟨g, 0, none⟩ = some (.int .u64 (rev : Int))) :
    Calls Try.prog 35 #[entV x, .pointer (some ⟨g, 0, none⟩)] w fun e w' => (∃ r : Bool, e = .returned (.bool r) ∧ (r = true ↔ Odd rev x)) ∧ Below w.heap.size w w' := by
  obtain ⟨k, r, d⟩ := x
  unfold entV
  simp only at hx hk
  have hgl := World.block_lt_of_cell? w _ hg
  simp only at hgl
  have hB := (Below.refl w.heap.size w).alloc (Nat.le_refl _) (.cells #[.string k, .int .u64 (r : Int), .bool d] 48)
  by_cases hrr : r = rev
  · subst hrr
    have HO : Hid ((decide (65536 < (k.size : Int)) = true) ↔ Odd r ⟨k, r, d⟩) := by
      show _ ↔ _
      rw [decide_eq_true_iff]
      unfold Odd
      simp only [ne_eq, not_true_eq_false, false_or]
      omega
    go_enter Try.func35, Try.ntmps35
    go_wp2_with fail
    go_ret
    exact ⟨⟨_, rfl, HO.out⟩, hB⟩
  · have hne : ((r : Int) != (rev : Int)) = true := by rw [bne_iff_ne]; omega
    have HO : Hid (Odd rev ⟨k, r, d⟩) := .inl hrr
    clear hrr
    go_enter Try.func35, Try.ntmps35
    go_wp2_with fail
    go_ret
    exact ⟨⟨true, rfl, fun _ => HO.out, fun _ => rfl⟩, hB⟩
def EntOk (x : Ent) : Prop := x.rev < 18446744073709551616 ∧ x.key.size ≤ 9223372036854775807
set_option maxRecDepth 100000 in
set_option maxHeartbeats 1000000 in
theorem indexfunc_any (a : Option Addr) (cap : Nat) (es : List Ent) (g rev : Nat) (w : World) (hl : es.length ≤ 9223372036854775807) (hr : rev < 18446744073709551616) (he : ∀ i, EntOk (es.getD i default)) (h : IsEnts w a es) (hg : w.cell? ⟨g, 0, none⟩ = some (.int .u64 (rev : Int))) :
    Calls Try.prog 45 #[.slice a es.length cap, .func (.func 35) #[] #[.pointer (some ⟨g, 0, none⟩)]] w fun e w' => (∃ r : Int, e = .returned (.int .i64 r) ∧ (0 ≤ r ↔ ∃ i, i < es.length ∧ Odd rev (es.getD i default))) ∧ Below w.heap.size w w' := by
  have H := Lib.hid h
  have HE := Lib.hid he
  have hgl := World.block_lt_of_cell? w _ hg
  simp only at hgl
  have HG := Lib.hid hg
  clear h he hg
  go_enter Try.func45, Try.ntmps45
  go_wp2_with fail
  go_loopw [8] (fun i wr => ∃ k : Nat, k ≤ es.length ∧ i = .int .i64 k ∧ Hid (∀ j, j < k → ¬ Odd rev (es.getD j default)) ∧ Below w.heap.size w wr) (fun i _ => es.length - (intOf i).toNat)
  case atStart => exact ⟨0, Nat.zero_le _, rfl, Lib.hid (fun j hj => by omega), Below.refl _ _⟩
  case round =>
    obtain ⟨k, hkl, rfl, HO, hB⟩ := hrel
    by_cases hlt : k < es.length
    · obtain ⟨b, off, rfl, hb, hc⟩ := (H.out.below hB) (by omega)
      obtain ⟨c0, c1, c2⟩ := hc k hlt
      have hdk : decide ((k : Int) < (es.length : Int)) = true := by simp; omega
      have hok := HE.out k
      obtain ⟨x, hx⟩ : ∃ x, es.getD k default = x := ⟨_, rfl⟩
      rw [hx] at c0 c1 c2 hok
      have HX := Lib.hid hx
      obtain ⟨xk, xr, xd⟩ := x
      have HCall := Lib.hid (fun W (hW : Below w.heap.size w W) => odd_any ⟨xk, xr, xd⟩ g rev W hr hok.1 hok.2 ((hW.cell (p := ⟨g, 0, none⟩) hgl).trans HG.out))
      unfold entV at HCall
      simp only at HCall c0 c1 c2
      clear hc hx hok
      go_wp2_with fail
      refine (HCall.out _ hB).mono ?_
      clear HCall
      rintro e w2 ⟨⟨r, rfl, hr2⟩, hb2⟩
      have hB2 := hB.trans (hb2.mono hB.size)
      cases r with
      | true =>
        have HY : Hid (Odd rev (es.getD k default)) := by show Odd _ _; rw [HX.out]; exact hr2.1 rfl
        clear hr2 hb2
        go_wp2_with fail
        go_ret
        exact ⟨⟨_, rfl, fun _ => ⟨k, hlt, HY.out⟩, fun _ => by omega⟩, hB2⟩
      | false =>
        have HN : Hid (¬ Odd rev (es.getD k default)) := by
          intro h
          rw [HX.out] at h
          have := hr2.2 h
          cases this
        clear hr2 hb2
        go_wp2_with fail
        go_roundw
        case rel =>
          refine ⟨k + 1, by omega, by go_num, ?_, hB2⟩
          intro j hj
          by_cases e : j = k
          · rw [e]; exact HN.out
          · exact HO.out j (by omega)
        case measure => simp [intOf]; omega
    · obtain rfl : k = es.length := by omega
      have hdk : decide ((es.length : Int) < (es.length : Int)) = false := by simp
      go_wp2_with fail
      go_ret
      exact ⟨⟨_, rfl, fun h => by omega, fun ⟨i, hi, ho⟩ => absurd ho (HO.out i hi)⟩, hB⟩
set_option maxHeartbeats 1000000 in
theorem containsfunc_any (a : Option Addr) (cap : Nat) (es : List Ent) (g rev : Nat) (w : World) (hl : es.length ≤ 9223372036854775807) (hr : rev < 18446744073709551616) (he : ∀ i, EntOk (es.getD i default)) (h : IsEnts w a es) (hg : w.cell? ⟨g, 0, none⟩ = some (.int .u64 (rev : Int))) :
    Calls Try.prog 36 #[.slice a es.length cap, .func (.func 35) #[] #[.pointer (some ⟨g, 0, none⟩)]] w fun e w' => (∃ r : Bool, e = .returned (.bool r) ∧ (r = true ↔ ∃ i, i < es.length ∧ Odd rev (es.getD i default))) ∧ Below w.heap.size w w' := by
  have HI := Lib.hid (indexfunc_any a cap es g rev w hl hr he h hg)
  clear h he hg
  go_enter Try.func36, Try.ntmps36
  go_wp2_with fail
  refine HI.out.mono ?_
  rintro e w1 ⟨⟨r, rfl, hr1⟩, hB1⟩
  have HR := Lib.hid hr1
  clear hr1
  go_wp2_with fail
  go_ret
  exact ⟨⟨decide (0 ≤ r), rfl, by rw [decide_eq_true_iff]; exact HR.out⟩, hB1⟩
end Go.Proofs.Ytbamohcaamgalae
