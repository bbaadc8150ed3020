/- A number, a text written, walked, both ways. -/
import Derived.Test.YtacjbgmnoiimbabWalkA
import Derived.ArgAppend
import Derived.Lib.AppendStr
namespace Go.Proofs.Ytacjbgmnoiimbab
set_option linter.unusedVariables false
set_option linter.unusedSimpArgs false
open Go.RowKit

theorem Try.info5 : (Try.prog.info? 5).map (fun i => (i.zero, i.size, i.bytes)) = some (some (.int .u8 0), 1, 1) := by kernel_rfl
/-- v reads as l: a slice without room, of the world W; or a row of the call's own -/
def Grow (W w : World) (v : Value) (l : List UInt8) : Prop := (∃ a, v = .slice a l.length l.length ∧ IsBytes W a l) ∨ w.ownsRow W.heap.size 5 1 v l.length (bytesV l)
/-- 'append(out, c)', out without room or the call's own -/
theorem wpList_append_grow {ops : Array Oper} {rest : List Oper} {o : Oper} {A : Act} {Q : Exit → Act → World → Prop} (W w : World) (hgd : o.guard = none) (s x : Operand)
    (ho : o.op = .call { callee := .builtin .append, args := #[s, x], argTypes := #[33, 33] }) (v : Value) (l : List UInt8) (hs : A.eval s = v) (hG : Grow W w v l) (hB : Below W.heap.size W w)
    (z : Int) (c : UInt8) (hz : z = (c.toNat : Int)) (cc : Nat) (hx : A.eval x = .slice (some ⟨w.heap.size, 0, none⟩) 1 cc) (hlen : l.length ≤ 2000000000)
    (h : ∀ v' w', w'.ownsRow W.heap.size 5 1 v' (l ++ [c]).length (bytesV (l ++ [c])) → Below W.heap.size W w' → wpList Try.prog ops Q rest (A.put o.dst v') w') :
    wpList Try.prog ops Q (o :: rest) A (w.alloc (.cells #[.int .u8 z] 5)) := by
  obtain ⟨i0, hi, hz0, hz1, hz2⟩ := info_parts Try.info5
  subst hz
  have e : bytesV (l ++ [c]) = bytesV l ++ [.int .u8 (c.toNat : Int)] := by rw [bytesV_append]; rfl
  have el : (l ++ [c]).length = l.length + 1 := by simp
  rw [e, el] at h
  rcases hG with ⟨a, hv, hb⟩ | hown
  · have hB2 := hB.alloc hB.size (.cells #[.int .u8 (c.toNat : Int)] 5)
    refine wpList_append_grows _ hgd s x 33 ho 5 i0 (.int .u8 0) 1 1 Try.underlying33 hi hz0 hz1 hz2 rfl (by decide) a l.length l.length (bytesV l) (hs.trans hv) ?_ (by rw [length_bytesV, Nat.mul_one]) ?_ ⟨w.heap.size, 0, none⟩ 1 cc [.int .u8 (c.toNat : Int)] hx rfl (cell_one_new _ _ _) (by intro u hu; simp at hu; subst hu; rfl) (by omega) (by unfold maxLen; omega) (by omega) ?_
    · intro ha
      subst ha
      have : l = [] := by
        cases l with
        | nil => rfl
        | cons c r => obtain ⟨b, off, h0, _⟩ := hb (by simp); cases h0
      subst this
      exact ⟨rfl, rfl⟩
    · intro b hab j u hj
      subst hab
      have hjl : j < l.length := by have := (List.getElem?_eq_some_iff.1 hj).1; rwa [length_bytesV] at this
      obtain ⟨b', off, h0, hbw, hc⟩ := hb (by omega)
      cases h0
      rw [bytesV_get l j hjl] at hj
      cases hj
      rw [Addr.add_lit]
      exact (hB2.cell (p := ⟨b', off + j, none⟩) hbw).trans (hc j hjl)
    · intro v' w' hown hg
      have hsz := hB2.size
      obtain ⟨g, cap, rfl, hg1, _, _⟩ := row_shape hown (by omega)
      exact h _ _ (row_base hown (Nat.le_trans hsz hg1)) (Below.none hB2 hsz hg)
  · refine wpList_append_one w hgd s x 33 ho W.heap.size 5 i0 (.int .u8 0) 1 Try.underlying33 hi hz0 hz1 hz2 rfl v l.length (bytesV l) hs hown (.int .u8 (c.toNat : Int)) cc hx rfl (by omega) (by omega) hB.size ?_
    intro v' w' hown' hg _
    exact h _ _ hown' (Below.own hB hown (Nat.le_refl _) hB.size hg)
theorem or128 (v : Nat) : bits BinOp.or IntKind.u8 ((v : Int) % 256) 128 = (((UInt8.ofNat (v % 128 + 128)).toNat : Nat) : Int) := by
  have h := u8_or_nat (v % 256) 128 (by omega) (by decide)
  have e : v % 256 ||| 128 = v % 128 + 128 := by
    have h1 : ∀ x : Fin 256, x.val ||| 128 = x.val % 128 + 128 := by decide +kernel
    have := h1 ⟨v % 256, Nat.mod_lt _ (by decide)⟩
    simp only at this
    rw [this]; omega
  rw [e] at h
  rw [toNat_ofNat8, Nat.mod_eq_of_lt (by omega), ← h]
  simp
theorem addr128 (v : Nat) : ((v : Int) % 128 + 128) = (((UInt8.ofNat (v % 128 + 128)).toNat : Nat) : Int) := by
  rw [toNat_ofNat8]; omega
theorem byte_of (v : Nat) (h : v < 128) : (v : Int) = (((UInt8.ofNat v).toNat : Nat) : Int) := by
  rw [toNat_ofNat8]; omega
set_option maxRecDepth 100000 in
set_option maxHeartbeats 2000000 in
theorem put_any (a : Option Addr) (cap : Nat) (l : List UInt8) (v : Nat) (w : World) (hl : l.length ≤ 1000000000) (hc : l.length ≤ cap) (hv : v < 18446744073709551616) (h : IsBytes w a l) :
    Calls Try.prog 75 #[.slice a l.length cap, .int .u64 v] w fun e w' => ∃ v', e = .returned v' ∧ w'.ownsRow w.heap.size 5 1 v' (l ++ uv v).length (bytesV (l ++ uv v)) ∧ Below w.heap.size w w' := by
  have hlen := uv_len64 v hv
  have hG0 : Grow w w (.slice a l.length l.length) l := Or.inl ⟨a, rfl, h⟩
  clear h
  go_enter Try.func75, Try.ntmps75
  go_wp2_with fail
  go_loopw [0, 1] (fun b x wr => ∃ (l' : List UInt8) (v' : Nat), Hid (l' ++ uv v' = l ++ uv v) ∧ v' < 18446744073709551616 ∧ x = .int .u64 v' ∧ Grow w wr b l' ∧ Below w.heap.size w wr) (fun _ x _ => (intOf x).toNat)
  case atStart => exact ⟨l, v, rfl, hv, rfl, hG0, Below.refl _ _⟩
  case round =>
    clear hG0
    obtain ⟨l', v', hlv, hv', rfl, hG, hB⟩ := hrel
    have hl' : l'.length ≤ 1000000010 := by
      have := congrArg List.length hlv.out
      rw [List.length_append, List.length_append] at this
      omega
    by_cases h128 : v' < 128
    · have hby := Lib.hid (byte_of v' h128)
      go_wp2_with (at_builtin; refine wpList_append_grow w wr rfl _ _ rfl _ l' (by rfl) hG hB _ (UInt8.ofNat v') hby.out 1 rfl (by omega) ?_; intro v2 w2 hown2 hB2)
      go_ret
      refine ⟨v2, rfl, ?_, hB2⟩
      rw [← hlv.out, uv_small h128]
      exact hown2
    · have hor := or128 v'
      have HU := Lib.hid (uv_big h128)
      have HOR := Lib.hid hor
      clear hor
      go_wp2_with (at_builtin; refine wpList_append_grow w wr rfl _ _ rfl _ l' (by rfl) hG hB _ (UInt8.ofNat (v' % 128 + 128)) HOR.out 1 rfl (by omega) ?_; intro v2 w2 hown2 hB2)
      go_roundw
      case rel =>
        refine ⟨l' ++ [UInt8.ofNat (v' % 128 + 128)], v' / 128, ?_, by omega, by go_num, Or.inr hown2, hB2⟩
        show _ = _
        rw [← hlv.out, HU.out, List.append_assoc]; rfl
      case measure => simp [intOf]; omega
set_option maxRecDepth 100000 in
set_option maxHeartbeats 2000000 in
theorem refput_any (a : Option Addr) (cap : Nat) (l : List UInt8) (v : Nat) (w : World) (hl : l.length ≤ 1000000000) (hv : v < 18446744073709551616) (h : IsBytes w a l) :
    Calls Try.prog 41 #[.slice a l.length cap, .int .u64 v] w fun e w' => ∃ v', e = .returned v' ∧ w'.ownsRow w.heap.size 5 1 v' (l ++ uv v).length (bytesV (l ++ uv v)) ∧ Below w.heap.size w w' := by
  obtain ⟨i0, hi, hz0, hz1, hz2⟩ := info_parts Try.info5
  have hlen := uv_len64 v hv
  have hnew := World.ownsRow_lit (e := 5) (size := 1) (base := w.heap.size) w #[] 0 (Nat.le_refl _) (by decide) rfl
  have hB0 := (Below.refl w.heap.size w).alloc (Nat.le_refl _) (.cells #[] 5)
  have H := Lib.hid (h.below hB0)
  clear h
  go_enter Try.func41, Try.ntmps41
  go_wp2_with (at_builtin; refine wpList_append_bytes (w.alloc (.cells #[] 5)) rfl _ _ 33 rfl w.heap.size 5 i0 (.int .u8 0) Try.underlying33 hi hz0 hz1 hz2 rfl _ 0 _ rfl hnew _ l.length cap l rfl rfl H.out (by omega) hB0.size ?_; intro v1 w1 hown1 hg1 _; have hB1 := Below.own hB0 hnew (Nat.le_refl _) hB0.size hg1)
  have hown : w1.ownsRow w.heap.size 5 1 v1 l.length (bytesV l) := by rw [Nat.zero_add, List.nil_append] at hown1; exact hown1
  clear hnew hB0 hown1 hg1 H
  go_loopw [1, 5] (fun x b wr => ∃ (l' : List UInt8) (v' : Nat), Hid (l' ++ uv v' = l ++ uv v) ∧ v' < 18446744073709551616 ∧ x = .int .u64 v' ∧ wr.ownsRow w.heap.size 5 1 b l'.length (bytesV l') ∧ Below w.heap.size w wr) (fun x _ _ => (intOf x).toNat)
  case atStart => exact ⟨l, v, rfl, hv, rfl, hown, hB1⟩
  case round =>
    clear hown hB1
    obtain ⟨l', v', hlv, hv', rfl, hown, hB⟩ := hrel
    have hl' : l'.length ≤ 1000000010 := by
      have := congrArg List.length hlv.out
      rw [List.length_append, List.length_append] at this
      omega
    by_cases h128 : v' < 128
    · have hby := Lib.hid (byte_of v' h128)
      go_wp2_with (at_builtin; refine wpList_append_grow w wr rfl _ _ rfl _ l' (by rfl) (Or.inr hown) hB _ (UInt8.ofNat v') hby.out 1 rfl (by omega) ?_; intro v2 w2 hown2 hB2)
      go_ret
      refine ⟨v2, rfl, ?_, hB2⟩
      rw [← hlv.out, uv_small h128]
      exact hown2
    · have hor := addr128 v'
      have HU := Lib.hid (uv_big h128)
      have HOR := Lib.hid hor
      clear hor
      go_wp2_with (at_builtin; refine wpList_append_grow w wr rfl _ _ rfl _ l' (by rfl) (Or.inr hown) hB _ (UInt8.ofNat (v' % 128 + 128)) HOR.out 1 rfl (by omega) ?_; intro v2 w2 hown2 hB2)
      go_roundw
      case rel =>
        refine ⟨l' ++ [UInt8.ofNat (v' % 128 + 128)], v' / 128, ?_, by omega, by go_num, hown2, hB2⟩
        show _ = _
        rw [← hlv.out, HU.out, List.append_assoc]; rfl
      case measure => simp [intOf]; omega
end Go.Proofs.Ytacjbgmnoiimbab
