/- MergeSteps: the law walked. -/
import Derived.Test.YtacjbgmnoiimbaaLawa
namespace Go.Proofs.Ytacjbgmnoiimbaa
set_option linter.unusedVariables false
set_option linter.unusedSimpArgs false
open Go.RowKit

/-- a merger of which some keys were told -/
def SRel (L : List RR) (w : World) (B m : Nat) (wa : Option Addr) (want : List ByteArray) (i : Nat) (wr : World) : Prop := ∃ v rs, PileAt B wr m v rs ∧ GoodP rs ∧ (∀ k, HasK rs k ↔ k ∈ (keysOf want).drop i) ∧ rs.length ≤ 1000 ∧ KeysAt wr wa want ∧ Below w.heap.size w wr ∧ w.heap.size ≤ B
theorem no_keys {rs : List RR} (hg : GoodP rs) (h : ∀ k, ¬ HasK rs k) : rs.length = 0 := by
  rcases Nat.eq_zero_or_pos rs.length with e | e
  · exact e
  · exact absurd (hd_has hg e) (h _)
theorem drop_has {ks : List Text} {i : Nat} (hi : i < ks.length) : ks.getD i [] ∈ ks.drop i := by
  rw [List.drop_eq_getElem_cons hi, List.getD_eq_getElem?_getD, List.getElem?_eq_getElem hi]
  exact List.mem_cons_self
theorem drop_le {ks : List Text} (hr : Rises ks) {i : Nat} (hi : i < ks.length) {k : Text} (hk : k ∈ ks.drop i) : ¬ k < ks.getD i [] := by
  rw [List.drop_eq_getElem_cons hi] at hk
  have e : ks.getD i [] = ks[i] := by rw [List.getD_eq_getElem?_getD, List.getElem?_eq_getElem hi]; rfl
  rcases List.mem_cons.1 hk with rfl | hk
  · rw [e]; exact text_irr _
  · have h2 := rises_drop hr i
    rw [List.drop_eq_getElem_cons hi] at h2
    rw [e]
    exact less_asym (rises_head h2 k hk)
theorem drop_next {ks : List Text} (hr : Rises ks) {i : Nat} (hi : i < ks.length) (k : Text) : k ∈ ks.drop (i + 1) ↔ k ∈ ks.drop i ∧ k ≠ ks.getD i [] := by
  have e : ks.getD i [] = ks[i] := by rw [List.getD_eq_getElem?_getD, List.getElem?_eq_getElem hi]; rfl
  have h2 := rises_drop hr i
  rw [List.drop_eq_getElem_cons hi] at h2 ⊢
  rw [e]
  constructor
  · intro hk
    refine ⟨List.mem_cons_of_mem _ hk, ?_⟩
    rintro rfl
    exact text_irr _ (rises_head h2 _ hk)
  · rintro ⟨hk, hne⟩
    rcases List.mem_cons.1 hk with rfl | hk
    · exact absurd rfl hne
    · exact hk
/-- a key told is the one that is wanted -/
theorem next_want {L : List RR} {w wr w' : World} {B m : Nat} {wa : Option Addr} {want : List ByteArray} {i : Nat} {e : Ending} (hr : Rises (keysOf want)) (hi : i < want.length) {v : Value} {rs : List RR} (hp : PileAt B wr m v rs) (hg : GoodP rs) (hK : ∀ k, HasK rs k ↔ k ∈ (keysOf want).drop i) (hl : rs.length ≤ 1000) (ha : KeysAt wr wa want) (hb : Below w.heap.size w wr) (hB : w.heap.size ≤ B) (hn : NextIs B m rs wr e w') :
    e = .returned (.tuple #[.string (want.getD i ByteArray.empty), .bool true]) ∧ ∃ v' rs', PileAt B w' m v' rs' ∧ GoodP rs' ∧ (∀ k, HasK rs' k ↔ k ∈ (keysOf want).drop (i + 1)) ∧ rs'.length ≤ rs.length ∧ KeysAt w' wa want ∧ Below w.heap.size w w' := by
  have hi' : i < (keysOf want).length := by rw [length_keysOf]; exact hi
  have h0 : 0 < rs.length := by
    obtain ⟨x, hx, _⟩ := (hK _).2 (drop_has hi')
    exact List.length_pos_of_mem hx
  obtain ⟨key, v', rs', rfl, k1, k2, k3, k4, k5, k6, k7, k8, k9, k10⟩ := hn.2 h0
  have h1 := k6 _ ((hK _).2 (drop_has hi'))
  have h2 := drop_le hr hi' ((hK _).1 k5)
  have hkey : key.data.toList = (keysOf want).getD i [] := by
    rcases text_tri key.data.toList ((keysOf want).getD i []) with c | c | c
    · exact absurd c h2
    · exact c
    · exact absurd c h1
  have hkb : key = want.getD i ByteArray.empty := bytes_ext (by rw [hkey, keysOf_at])
  refine ⟨by rw [hkb], v', rs', k1, k2, fun k => ?_, k3, ha.keep k10, hb.trans (k9.mono hB)⟩
  rw [k7, hK, hkey, drop_next hr hi']
set_option maxRecDepth 100000 in
set_option maxHeartbeats 4000000 in
theorem lawSteps (a : Option Addr) (cap : Nat) (L : List RR) (n : Nat) (w : World) (hn : n < 256) (hL : L.length ≤ 9223372036854775807) (h : IsRows w a L) (hsz : ∀ i, i < L.length → RowSz (at_ L i)) :
    Calls Try.prog 4 #[.slice a L.length cap, .int .u8 (n : Int)] w fun e w' => e = .returned (.bool true) ∧ Below w.heap.size w w' := by
  have HF := Lib.hid (fixed_any w)
  have H := Lib.hid h
  have HSz := Lib.hid hsz
  obtain ⟨K3, hK3⟩ : ∃ K3, K3 = n % 3 := ⟨_, rfl⟩
  have HK3 : Hid (((n : Int)).tmod 3 = (K3 : Int)) := by
    show _ = _
    rw [hK3]; rfl
  have hK3l : K3 < 3 := by rw [hK3]; omega
  clear h hsz hK3
  go_enter Try.func4, Try.ntmps4
  go_wp2_with fail
  refine HF.out.mono ?_
  clear HF
  rintro e w1 ⟨rfl, hB1⟩
  have HB1 := Lib.hid hB1
  have HFew := Lib.hid (few_any a cap L w1 hL HSz.out (H.out.below hB1))
  clear hB1
  go_wp2_with fail
  refine HFew.out.mono ?_
  clear HFew
  rintro e w2 ⟨⟨r, rfl, hr2⟩, rfl⟩
  cases r with
  | false =>
    clear hr2
    go_wp2_with fail
    go_ret
    exact ⟨rfl, HB1.out⟩
  | true =>
    obtain ⟨h30, h300⟩ := hr2 rfl
    clear hr2
    go_wp2_with fail
    go_loopw [5, 24] (fun fv iv wr => ∃ j : Nat, fv = .int .i64 ((full (L.take j)).length : Int) ∧ iv = .int .i64 j ∧ j ≤ L.length ∧ (full (L.take j)).length ≤ j ∧ Hid (∀ i, i < j → RisesK (at_ L i).keys) ∧ Hid (Below w.heap.size w wr)) (fun _ iv _ => L.length - (intOf iv).toNat)
    case atStart => exact ⟨0, rfl, rfl, Nat.zero_le _, Nat.le_refl _, (fun i hi => by omega), HB1⟩
    case round =>
      clear HB1
      obtain ⟨j, rfl, rfl, hj, hfj, HRi, HB⟩ := hrel
      by_cases hjl : j < L.length
      · have dj : decide ((j : Int) < (L.length : Int)) = true := decide_eq_true (by omega)
        have hij : (j : Int) < (L.length : Int) := by omega
        obtain ⟨b, off, rfl, hb, hc⟩ := (H.out.below HB.out) (by omega)
        obtain ⟨c0, hkc, hks⟩ := hc j hjl
        have hft := full_take L j hjl
        have hszj := len_le_tot (at_mem hjl)
        have HRis := Lib.hid (refrises_any (at_ L j).a (at_ L j).kc (at_ L j).keys wr (by omega) hks)
        unfold rowV at c0
        generalize hT : (full (L.take j)).length = T at *
        clear hks hc hb
        by_cases hr : RisesK (at_ L j).keys
        · have HRN : Hid (∀ i, i < j + 1 → RisesK (at_ L i).keys) := fun i hi => by
            by_cases e : i = j
            · subst e; exact hr
            · exact HRi.out i (by omega)
          have HR := Lib.hid hr
          by_cases hk0 : 0 < (at_ L j).keys.length
          · have HF1 : Hid ((full (L.take (j + 1))).length = T + 1) := by
              show _ = _
              rw [hft, if_pos hk0, List.length_append, hT]; rfl
            have d0 : decide ((0 : Int) < ((at_ L j).keys.length : Int)) = true := decide_eq_true (by omega)
            clear hr hft hT
            generalize at_ L j = x at *
            obtain ⟨xa, xc, xk⟩ := x
            simp only at c0 hkc HRis hk0 HR d0
            go_wp2_with fail
            refine HRis.out.mono ?_
            rintro e w3 ⟨⟨r, rfl, hrr⟩, n3, rfl⟩
            obtain rfl : r = true := hrr.2 HR.out
            clear hrr HRis
            go_wp2_with fail
            go_roundw
            case rel => exact ⟨j + 1, by rw [HF1.out, Int.natCast_add]; rfl, by go_num, by omega, by rw [HF1.out]; omega, HRN, Below.drewN HB.out _⟩
            case measure => simp [intOf]; omega
          · have HF1 : Hid ((full (L.take (j + 1))).length = T) := by
              show _ = _
              rw [hft, if_neg hk0, List.append_nil, hT]
            have HZ : Hid ((at_ L j).keys.length = 0) := by
              show _ = 0
              omega
            clear hr hft hT
            generalize at_ L j = x at *
            obtain ⟨xa, xc, xk⟩ := x
            simp only at c0 hkc HRis HR HZ
            clear hk0
            go_wp2_with fail
            refine HRis.out.mono ?_
            rintro e w3 ⟨⟨r, rfl, hrr⟩, n3, rfl⟩
            obtain rfl : r = true := hrr.2 HR.out
            clear hrr HRis
            have hz := HZ.out
            clear HZ
            generalize xk.length = KL at *
            subst hz
            go_wp2_with fail
            go_roundw
            case rel => exact ⟨j + 1, by rw [HF1.out], by go_num, by omega, by rw [HF1.out]; omega, HRN, Below.drewN HB.out _⟩
            case measure => simp [intOf]; omega
        · have HR := Lib.hid hr
          clear hr hft hT
          generalize at_ L j = x at *
          obtain ⟨xa, xc, xk⟩ := x
          simp only at c0 hkc HRis HR
          go_wp2_with fail
          refine HRis.out.mono ?_
          rintro e w3 ⟨⟨r, rfl, hrr⟩, n3, rfl⟩
          have hrf : r = false := by
            cases r with
            | true => exact absurd (hrr.1 rfl) HR.out
            | false => rfl
          subst hrf
          clear hrr HRis
          go_wp2_with fail
          go_ret
          exact ⟨rfl, Below.drewN HB.out _⟩
      · obtain rfl : j = L.length := by omega
        have dj : decide ((L.length : Int) < (L.length : Int)) = false := by simp
        rw [List.take_length] at hfj ⊢
        have HNew := Lib.hid (new_any a cap L wr (by omega) (fun i hi => by have := len_le_tot (at_mem hi); omega) (H.out.below HB.out))
        go_wp2_with fail
        refine HNew.out.mono ?_
        clear HNew
        rintro e w3 ⟨_, hgood⟩
        obtain ⟨m, v, rs, rfl, hp, hg, hb3, hlen, htt, hKK⟩ := hgood HRi.out
        have hB3 := HB.out.trans (hb3.mono HB.out.size)
        have HLf := Lib.hid (left_any wr.heap.size m v rs w3 hp)
        have HRef := Lib.hid (refall_any a cap L w3 (by omega) (fun i hi => by have := len_le_tot (at_mem hi); omega) (by omega) (H.out.below hB3))
        have HP := Lib.hid hp
        have HG := Lib.hid hg
        have HB3 := Lib.hid hB3
        have HKK := Lib.hid hKK
        have hwB : w.heap.size ≤ wr.heap.size := HB.out.size
        rw [hlen] at HLf
        have hlr : rs.length ≤ 1000 := by omega
        have hne : (((full L).length : Int) != ((full L).length : Int)) = false := by simp
        generalize (full L).length = FL at *
        clear hgood hp hg hb3 hlen htt hKK hB3
        go_wp2_with fail
        refine HLf.out.mono ?_
        clear HLf
        rintro e w4 ⟨rfl, rfl⟩
        go_wp2_with fail
        refine HRef.out.mono ?_
        clear HRef
        rintro e w5 ⟨want, wv, rfl, hrow, hris, hmem, hwl, hb5⟩
        obtain ⟨wa, wn, wc, rfl⟩ := row_slice hrow
        have hwn := row_len' hrow
        subst hwn
        have hS0 : Hid (SRel L w wr.heap.size m wa want 0 w5) := ⟨v, rs, HP.out.below hb5, HG.out, (fun k => by rw [List.drop_zero, HKK.out k, hmem k]), hlr, row_keys hrow, HB3.out.trans (hb5.mono HB3.out.size), hwB⟩
        have HRis := Lib.hid hris
        clear hrow hris hmem hb5 HP HG HKK HB3
        generalize wr.heap.size = B at *
        go_wp2_with fail
        go_loopw [53] (fun iv wx => ∃ i : Nat, iv = .int .i64 i ∧ i ≤ want.length ∧ Hid (SRel L w B m wa want i wx)) (fun iv _ => want.length - (intOf iv).toNat)
        case atStart => exact ⟨0, rfl, Nat.zero_le _, hS0⟩
        case round =>
          clear hS0
          obtain ⟨i, rfl, hi, hst⟩ := hrel
          obtain ⟨v, rs, hp, hg, hK, hl, hka, hb, hB⟩ := hst.out
          by_cases hil : i < want.length
          · have di : decide ((i : Int) < (want.length : Int)) = true := decide_eq_true (by omega)
            have hii : (i : Int) < (want.length : Int) := by omega
            obtain ⟨b2, off2, rfl, hb2, hc2⟩ := hka.strs (by omega)
            have c2 := hc2 i hil
            have HL1 := Lib.hid (left_any B m v rs wr hp)
            have HNx := Lib.hid (next_any B m v rs wr hp hg (by omega))
            have HNw := Lib.hid (fun e w' => next_want (L := L) (w := w) (wr := wr) (w' := w') (B := B) (m := m) (e := e) HRis.out hil hp hg hK hl hka hb hB)
            have HL0 := Lib.hid hl
            have hBB := Lib.hid hB
            clear hst hp hg hK hl hka hb hB hc2 hb2
            generalize hky : want.getD i ByteArray.empty = key at *
            clear hky
            go_wp2_with fail
            refine HL1.out.mono ?_
            clear HL1
            rintro e w6 ⟨rfl, rfl⟩
            go_wp2_with fail
            refine HNx.out.mono ?_
            clear HNx
            intro e w7 hnx
            obtain ⟨rfl, v', rs', hp', hg', hK', hl', hka', hb'⟩ := HNw.out e w7 hnx
            have HL2 := Lib.hid (left_any B m v' rs' w7 hp')
            have HSN : Hid (SRel L w B m _ want (i + 1) w7) := ⟨v', rs', hp', hg', hK', Nat.le_trans hl' HL0.out, hka', hb', hBB.out⟩
            have t1 := text_eq_yes key key rfl
            have t2 : (key.toList != key.toList) = false := by simp
            have d2 : decide ((rs.length : Int) < (rs'.length : Int)) = false := decide_eq_false (by omega)
            have d2' : decide (rs.length < rs'.length) = false := decide_eq_false (by omega)
            clear HNw hnx hp' hg' hK' hka' hb'
            generalize rs'.length = RL' at *
            generalize rs.length = RL at *
            go_wp2_with fail
            refine HL2.out.mono ?_
            clear HL2
            rintro e w8 ⟨rfl, rfl⟩
            go_wp2_with fail
            go_roundw
            case rel => exact ⟨i + 1, by go_num, by omega, HSN⟩
            case measure => simp [intOf]; omega
          · obtain rfl : i = want.length := by omega
            have di : decide ((want.length : Int) < (want.length : Int)) = false := by simp
            have h0 := no_keys hg (fun k hk => by
              have := (hK k).1 hk
              rw [List.drop_eq_nil_of_le (by rw [length_keysOf]; exact Nat.le_refl _)] at this
              cases this)
            have HLz := Lib.hid (left_any B m v rs wr hp)
            have HNz := Lib.hid (next_any B m v rs wr hp hg (by omega))
            rw [h0] at HLz
            have H0 := Lib.hid h0
            have HB := Lib.hid hb
            have hmm := HK3.out
            clear hst hp hg hK hl hka hb hB h0
            go_wp2_with fail
            go_loopw [81] (fun iv wx => ∃ t : Nat, iv = .int .u8 t ∧ t ≤ K3 + 1 ∧ Hid (wx = wr)) (fun iv _ => K3 + 1 - (intOf iv).toNat)
            case atStart => exact ⟨0, rfl, by omega, rfl⟩
            case round =>
              clear hmm
              obtain ⟨t, rfl, ht, HW⟩ := hrel
              have hw := HW.out
              subst hw
              by_cases htl : t < K3 + 1
              · have dt : decide ((t : Int) < (1 : Int) + (K3 : Int)) = true := decide_eq_true (by omega)
                have dt2 : decide ((t : Int) < (K3 : Int) + 1) = true := decide_eq_true (by omega)
                go_wp2_with fail
                refine HNz.out.mono ?_
                intro e w6 hnx
                obtain ⟨rfl, rfl⟩ := hnx.1 H0.out
                clear hnx
                go_wp2_with fail
                refine HLz.out.mono ?_
                rintro e w7 ⟨rfl, rfl⟩
                go_wp2_with fail
                go_roundw
                case rel => exact ⟨t + 1, by go_num, by omega, by first | rfl | exact trivial⟩
                case measure => simp [intOf]; omega
              · have dt : decide ((t : Int) < (1 : Int) + (K3 : Int)) = false := decide_eq_false (by omega)
                have dt2 : decide ((t : Int) < (K3 : Int) + 1) = false := decide_eq_false (by omega)
                go_wp2_with fail
                go_ret
                exact ⟨rfl, HB.out⟩
end Go.Proofs.Ytacjbgmnoiimbaa
