/- Reading all frames: the program's. -/
import Derived.Test.YtlhgjecbjfiljabWalkE
namespace Go.Proofs.Ytlhgjecbjfiljab
set_option linter.unusedVariables false
set_option linter.unusedSimpArgs false
open Go.RowKit

theorem Try.info22 : (Try.prog.info? 22).map (fun i => (i.zero, i.size, i.bytes)) = some (some (.slice none 0 0), 1, 24) := by kernel_rfl

theorem own_ne {w : World} {B B' : Nat} {e e' : TypeId} {size size' : Nat} {v v' : Value} {n n' : Nat} {xs xs' : List Value} (h : w.ownsRow B e size v n xs) (h' : w.ownsRow B' e' size' v' n' xs') (hne : e ≠ e') : v'.ownBlock = none ∨ v'.ownBlock ≠ v.ownBlock := by
  rcases h'.2 with ⟨rfl, _⟩ | ⟨g', cap', cur', rfl, _, hg', _⟩
  · exact .inl rfl
  · right
    intro he
    rcases h.2 with ⟨rfl, _⟩ | ⟨g, cap, cur, rfl, _, hg, _⟩
    · cases he
    · simp only [Value.ownBlock, Option.some.injEq] at he
      subst he
      rw [hg] at hg'
      simp only [Option.some.injEq, Obj.cells.injEq] at hg'
      exact hne hg'.2.1

/-- rows of bytes, all of them the call's own -/
def OwnRows (w : World) (B : Nat) (v : Value) (ls : List (List UInt8)) : Prop :=
  ∃ vs : List Value, w.ownsRow B 22 1 v ls.length vs ∧ ∀ k, k < ls.length → ∃ vk, vs[k]? = some vk ∧ w.ownsRow B 5 1 vk (ls.getD k []).length (bytesV (ls.getD k []))
theorem OwnRows.below {w w' : World} {B : Nat} {v : Value} {ls : List (List UInt8)} (h : OwnRows w B v ls) (hb : Below w.heap.size w w') : OwnRows w' B v ls := by
  obtain ⟨vs, h1, h2⟩ := h
  refine ⟨vs, Below.row hb h1, fun k hk => ?_⟩
  obtain ⟨vk, hv, ho⟩ := h2 k hk
  exact ⟨vk, hv, Below.row hb ho⟩
theorem OwnRows.push {w w' : World} {B : Nat} {v v' vp : Value} {ls : List (List UInt8)} {p : List UInt8} {vs : List Value} (h1 : w.ownsRow B 22 1 v ls.length vs)
    (h2 : ∀ k, k < ls.length → ∃ vk, vs[k]? = some vk ∧ w.ownsRow B 5 1 vk (ls.getD k []).length (bytesV (ls.getD k []))) (hp : w.ownsRow B 5 1 vp p.length (bytesV p))
    (h3 : w'.ownsRow B 22 1 v' (ls.length + 1) (vs ++ [vp])) (hg : w.grownBy w' v.ownBlock) : OwnRows w' B v' (ls ++ [p]) := by
  have hlen : vs.length = ls.length := by have := h1.1; omega
  refine ⟨vs ++ [vp], by simpa using h3, fun k hk => ?_⟩
  by_cases hk' : k < ls.length
  · obtain ⟨vk, hv, ho⟩ := h2 k hk'
    refine ⟨vk, by rw [List.getElem?_append_left (by omega)]; exact hv, ?_⟩
    have e : (ls ++ [p]).getD k [] = ls.getD k [] := by rw [List.getD_eq_getElem?_getD, List.getElem?_append_left hk', ← List.getD_eq_getElem?_getD]
    rw [e]
    exact ho.kept hg (own_ne h1 ho (by decide))
  · have hk2 : k = ls.length := by simp at hk; omega
    subst hk2
    refine ⟨vp, by rw [List.getElem?_append_right (by omega), hlen]; simp, ?_⟩
    have e : (ls ++ [p]).getD ls.length [] = p := by simp [List.getD]
    rw [e]
    exact hp.kept hg (own_ne h1 hp (by decide))

theorem size_ge (ls : List (List UInt8)) : ls.length ≤ size ls := by
  induction ls with
  | nil => exact Nat.le_refl _
  | cons p r ih => rw [size_cons, List.length_cons]; omega
set_option maxHeartbeats 2000000 in
theorem all_any (a : Option Addr) (cap n : Nat) (l : List UInt8) (w : World) (hn : l.length = n) (hcap : n ≤ cap) (hl : n ≤ 1000000) (h : IsBytes w a l) :
    Calls Try.prog 14 #[.slice a n cap] w fun e w' => ∃ v, e = .returned (.tuple #[v, .int .i64 (size (allOf l) : Int)]) ∧ OwnRows w' w.heap.size v (allOf l) ∧ Below w.heap.size w w' := by
  have HN := Lib.hid hn
  obtain ⟨i0, hi, hz0, hz1, hz2⟩ := info_parts Try.info5
  obtain ⟨i2, hi2, hy0, hy1, hy2⟩ := info_parts Try.info22
  have H := Lib.hid h
  clear hn h
  go_enter Try.func14, Try.ntmps14
  go_wp2_with fail
  go_loopw [4, 5] (fun o i wr => ∃ outs at_, i = .int .i64 (at_ : Nat) ∧ at_ ≤ n ∧ Hid (allOf l = outs ++ allOf (l.drop at_)) ∧ Hid (at_ = size outs) ∧ Hid (OwnRows wr w.heap.size o outs) ∧ Below w.heap.size w wr) (fun _ i _ => n - (intOf i).toNat)
  case atStart => exact ⟨[], 0, rfl, Nat.zero_le _, rfl, rfl, ⟨[], World.ownsRow_nil _ _ _ _, fun k hk => by cases hk⟩, Below.refl _ _⟩
  case round =>
    obtain ⟨outs, at_, rfl, hat, hall, hsize, hown, hbel⟩ := hrel
    have hlen : Hid ((l.drop at_).length = n - at_) := by have : (l.drop at_).length = n - at_ := by rw [List.length_drop, HN.out]
                                                          exact this
    have hcut := cutA_bytes (cap := cap) (lo := at_) (hi := n) (IsBytes.below H.out hbel) (by have := HN.out; omega) (by have := HN.out; omega)
    rw [List.take_of_length_le (by have := HN.out; omega)] at hcut
    have HCut := Lib.hid hcut
    clear hcut
    go_wp2_with (refine wpList_slice_l _ rfl (.tmp 10) (.tmp 11) 22 rfl 5 i0 Try.underlying22 hi hz1 a n cap at_ rfl _ _ rfl rfl hat ?_; intro a5 ha5; obtain ⟨a6, ha6⟩ : ∃ a6, a6 = cutA a cap at_ := ⟨_, rfl⟩; have HA6 := Lib.hid ha6; rw [← ha6] at ha5; clear ha6; subst ha5)
    have hbs : IsBytes wr a5 (l.drop at_) := by rw [HA6.out]; exact HCut.out
    refine (next_any a5 (cap - at_) (n - at_) (l.drop at_) _ hlen.out (by omega) (by omega) hbs).mono ?_
    clear hbs
    rintro e w2 ⟨hb2, v2, hok, hno⟩
    have hB2 := hbel.trans (hb2.mono hbel.size)
    by_cases hz : nextE (l.drop at_) = 0
    · obtain ⟨rfl, hown2⟩ := hok hz
      have hst := allOf_step _ hz
      have hnl := nextE_len _ hz
      rw [List.drop_drop] at hst
      have hle : 8 + num (l.drop at_) ≤ n - at_ := by rw [← hlen.out]; exact hnl.1
      obtain ⟨p, hp⟩ : ∃ p, p = payload (l.drop at_) := ⟨_, rfl⟩
      rw [← hp] at hown2 hst hnl
      obtain ⟨m, hm⟩ : ∃ m, m = num (l.drop at_) := ⟨_, rfl⟩
      rw [← hm] at hown2 hst hnl hle ⊢
      have HPL := Lib.hid hnl.2
      have HST := Lib.hid hst
      obtain ⟨a2, m2, c2, rfl⟩ := row_slice hown2
      obtain ⟨vs, hov, hvs⟩ := OwnRows.below hown.out hb2
      have HVS := Lib.hid hvs
      have hol : Hid (outs.length ≤ at_) := by have : outs.length ≤ at_ := by rw [hsize.out]; exact size_ge outs
                                               exact this
      have hol2 := hol.out
      clear hok hno hz hst hnl hp hm hvs
      go_wp2_with (at_builtin; refine wpList_append_one _ rfl _ _ 34 rfl w.heap.size 22 i2 (.slice none 0 0) 24 Try.underlying34 hi2 hy0 hy1 hy2 rfl _ _ _ rfl hov _ 1 rfl rfl (by omega) (by omega) hB2.size ?_; intro v' w3 hown3 hgrow3 _; have hB3 := Below.own hB2 hov (Nat.le_refl _) hB2.size hgrow3)
      go_roundw
      case rel =>
        refine ⟨outs ++ [p], at_ + (8 + m), by go_num, by omega, ?_, ?_, ?_, hB3⟩
        · rw [hall.out, HST.out, List.append_assoc]; rfl
        · rw [size_snoc, HPL.out, ← hsize.out]; rfl
        · refine OwnRows.push hov HVS.out ?_ hown3 hgrow3
          rw [HPL.out]
          exact own_base hown2 hbel.size
      case measure => simp [intOf]; omega
    · have he := hno hz
      have hpos : Hid (allOf (l.drop at_) = []) := allOf_stop _ hz
      have hne : ((nextE (l.drop at_) : Int) != 0) = true := by simp; omega
      generalize nextE (l.drop at_) = ne at *
      subst he
      clear hok hno hz
      go_wp2_with fail
      go_ret2
      refine ⟨u4, ?_, ?_, hB2⟩
      · rw [hall.out, hpos.out, List.append_nil, ← hsize.out]; rfl
      · rw [hall.out, hpos.out, List.append_nil]; exact OwnRows.below hown.out hb2
end Go.Proofs.Ytlhgjecbjfiljab
