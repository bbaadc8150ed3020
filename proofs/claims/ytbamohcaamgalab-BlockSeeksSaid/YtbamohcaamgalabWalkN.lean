/- A block's keys read, as the document does: walked. -/
import Derived.Test.YtbamohcaamgalabWalkM
namespace Go.Proofs.Ytbamohcaamgalab
set_option linter.unusedVariables false
set_option linter.unusedSimpArgs false
open Go.RowKit

theorem refget_at (a : Option Addr) (cap n : Nat) (l : List UInt8) (w : World) (hn : l.length = n) (hl : n ≤ 1000000000) (h : IsBytes w a l) :
    Calls Try.prog 31 #[.slice a n cap] w (GetIs l w) := by
  subst hn; exact refget_any a cap l w hl h
theorem refgettext_at (a : Option Addr) (cap n : Nat) (l : List UInt8) (w : World) (hn : l.length = n) (hl : n ≤ 1000000000) (hc : n ≤ cap) (h : IsBytes w a l) :
    Calls Try.prog 32 #[.slice a n cap] w (GetTextIs l w) := by
  subst hn; exact refgettext_any a cap l w hl hc h
/-- behind some keys -/
def RKRel (L : List UInt8) (w : World) (at' : Nat) (key : ByteArray) (acc : List ByteArray) (out : Value) (wr : World) : Prop :=
  at' ≤ L.length ∧ key.size ≤ at' ∧ acc.length ≤ at' ∧ wr.ownsRow w.heap.size 9 1 out acc.length (strsV acc) ∧ (parse (L.drop at') key.data.toList).map (keysOf acc ++ ·) = parse L [] ∧ Below w.heap.size w wr
set_option maxRecDepth 100000 in
set_option maxHeartbeats 1000000 in
theorem refkeys_any (a : Option Addr) (cap : Nat) (l : List UInt8) (w : World) (hl : l.length ≤ 1000000) (hc : l.length ≤ cap) (hp : ∀ ks, parse (keysPart l) [] = some ks → ks.length ≤ 3000 ∧ ∀ i, (ks.getD i []).length ≤ 3000) (h : IsBytes w a l) :
    Calls Try.prog 18 #[.slice a l.length cap] w (KeysIs l w) := by
  obtain ⟨i9, hi, hz0, hz1, hz2⟩ := info_parts Try.info9
  obtain ⟨i5, hi5, hy0, hy1, hy2⟩ := info_parts Try.info5
  have HEnds := Lib.hid (refends_any a cap l w (by omega) h hc)
  have H := Lib.hid h
  have HP := Lib.hid hp
  clear h hp
  go_enter Try.func18, Try.ntmps18
  go_wp2_with fail
  refine HEnds.out.mono ?_
  clear HEnds
  rintro e w1 ⟨N, rfl, hN1, hN2, k1, rfl⟩
  have hB1 : Below w.heap.size w (w.drewN k1) := Below.drewN (Below.refl _ _) k1
  by_cases hend : endsOk l
  · have hE : (keysPart l).length = keysEnd l := length_keysPart l hend
    have hNE : N = ((keysPart l).length : Int) := by rw [hE]; exact hN1 hend
    have hEl0 : keysEnd l ≤ l.length := by unfold keysEnd; omega
    have hEl : (keysPart l).length ≤ l.length := by omega
    have HR : Hid (∀ ks, Reads l ks → parse (keysPart l) [] = some ks) := fun ks h => h.2.1
    have HR2 : Hid (∀ ks, parse (keysPart l) [] = some ks → Rises ks → blockOf ks = l → Reads l ks) := fun ks h1 h2 h3 => ⟨hend, h1, h2, h3⟩
    have HCut : Hid (∀ W lo, IsBytes W a l → IsBytes W (cutA a cap lo) ((keysPart l).drop lo)) := fun W lo hW => cutA_bytes hW hEl0 hc
    subst hNE
    clear hend hN1 hN2 hE hEl0
    generalize keysPart l = L at *
    have hd0 : decide ((L.length : Int) < 0) = false := decide_eq_false (by omega)
    go_wp2_with fail
    go_loopw [5, 6, 7] (fun out i last wr => ∃ (at' : Nat) (key : ByteArray) (acc : List ByteArray), i = .int .i64 at' ∧ last = .string key ∧ Hid (RKRel L w at' key acc out wr)) (fun _ i _ _ => L.length - (intOf i).toNat)
    case atStart =>
      refine ⟨0, { data := #[] }, [], rfl, rfl, Nat.zero_le _, Nat.le_refl _, Nat.le_refl _, World.ownsRow_nil _ _ _ _, ?_, hB1⟩
      rw [List.drop_zero]
      cases parse L [] <;> rfl
    case round =>
      clear hB1
      obtain ⟨at', key, acc, rfl, rfl, hrel⟩ := hrel
      obtain ⟨hat, hkey, hacc, hout, hpar, hB⟩ := hrel.out
      clear hrel
      have HPar := Lib.hid hpar
      clear hpar
      by_cases hlt : at' < L.length
      · have hdl : decide ((at' : Int) < (L.length : Int)) = true := decide_eq_true (by omega)
        have hDl : (L.drop at').length = L.length - at' := List.length_drop
        have hpos : 0 < (L.drop at').length := by rw [hDl]; omega
        have hle := getN_le (L.drop at')
        rw [hDl] at hle
        have hIB := H.out.below hB
        have hcb := HCut.out _ at' hIB
        have hcb2 := HCut.out _ (at' + getN (L.drop at')) hIB
        rw [← List.drop_drop] at hcb2
        have hGT := gotT_len ((L.drop at').drop (getN (L.drop at')))
        have hUT := usedT_le ((L.drop at').drop (getN (L.drop at')))
        rw [List.length_drop, hDl] at hGT hUT
        have HNO : Hid (nextOk (L.drop at') key.data.toList = (getE (L.drop at') == 0 && decide (getV (L.drop at') ≤ key.size) && textN ((L.drop at').drop (getN (L.drop at'))) == 0)) := by
          show _ = _
          rw [nextOk, size_data]
        have HNK : Hid (nextKey (L.drop at') key.data.toList = key.data.toList.take (getV (L.drop at')) ++ gotT ((L.drop at').drop (getN (L.drop at')))) := rfl
        have HNU : Hid (nextUsed (L.drop at') = getN (L.drop at') + usedT ((L.drop at').drop (getN (L.drop at')))) := rfl
        have hV := getV_lt (L.drop at')
        have hs1 : ∀ W, (Instr.slice 26 (.slice a l.length cap) (some (.int .i64 (at' : Int))) (some (.int .i64 (L.length : Int))) none).run Try.prog W = .ok (.slice (cutA a cap at') (L.length - at') (cap - at')) W := fun W => run_slice_lh1 (P := Try.prog) W 26 5 i5 Try.underlying26 hi5 hy1 a l.length cap at' L.length .i64 .i64 (by omega) (by omega)
        have hs2 : ∀ W, (Instr.slice 26 (.slice a l.length cap) (some (.int .i64 ((at' : Int) + (getN (L.drop at') : Int)))) (some (.int .i64 (L.length : Int))) none).run Try.prog W = .ok (.slice (cutA a cap (at' + getN (L.drop at'))) (L.length - (at' + getN (L.drop at'))) (cap - (at' + getN (L.drop at')))) W := fun W => by
          have := run_slice_lh1 (P := Try.prog) W 26 5 i5 Try.underlying26 hi5 hy1 a l.length cap (at' + getN (L.drop at')) L.length .i64 .i64 (by omega) (by omega)
          rwa [Int.natCast_add] at this
        have HGet := Lib.hid (refget_at (cutA a cap at') (cap - at') (L.length - at') (L.drop at') wr hDl (by omega) hcb)
        have HGetT := Lib.hid (refgettext_at (cutA a cap (at' + getN (L.drop at'))) (cap - (at' + getN (L.drop at'))) (L.length - (at' + getN (L.drop at'))) ((L.drop at').drop (getN (L.drop at'))) wr (by rw [List.length_drop, hDl]; omega) (by omega) (by omega) hcb2)
        unfold GetIs at HGet
        unfold GetTextIs at HGetT
        have HBad : Hid (nextOk (L.drop at') key.data.toList = false → parse L [] = none) := by
          intro hno
          rw [← HPar.out, parse_bad _ _ hpos hno]; rfl
        have HGood : Hid (nextOk (L.drop at') key.data.toList = true → ∀ key' : ByteArray, key'.data.toList = nextKey (L.drop at') key.data.toList →
            at' + nextUsed (L.drop at') ≤ L.length ∧ 0 < nextUsed (L.drop at') ∧ key'.size ≤ at' + nextUsed (L.drop at') ∧ (parse (L.drop (at' + nextUsed (L.drop at'))) key'.data.toList).map (keysOf (acc ++ [key']) ++ ·) = parse L []) := by
          intro hyes key' hk'
          have hle := nextUsed_le (L.drop at')
          have hup := nextUsed_pos _ _ hyes
          have hkl := nextKey_len (L.drop at') key.data.toList
          rw [List.length_drop] at hle
          rw [← hk', size_data, size_data] at hkl
          refine ⟨by omega, hup, by omega, ?_⟩
          rw [← HPar.out, parse_good _ _ hpos hyes, ← List.drop_drop, ← hk']
          cases parse ((L.drop at').drop (nextUsed (L.drop at'))) key'.data.toList with
          | none => rfl
          | some r => simp [keysOf]
        generalize nextOk (L.drop at') key.data.toList = OK at *
        generalize nextKey (L.drop at') key.data.toList = NK at *
        generalize nextUsed (L.drop at') = NU at *
        generalize gotT ((L.drop at').drop (getN (L.drop at'))) = GT at *
        generalize usedT ((L.drop at').drop (getN (L.drop at'))) = UT at *
        generalize textN ((L.drop at').drop (getN (L.drop at'))) = TN at *
        generalize getV (L.drop at') = V at *
        generalize getE (L.drop at') = E at *
        generalize getN (L.drop at') = NN at *
        generalize cutA a cap at' = A1 at *
        generalize cutA a cap (at' + NN) = A2 at *
        clear hcb hcb2 hpos hDl hIB
        have hfail : OK = false → ∀ W, Below w.heap.size w W → KeysIs l w (.returned (.tuple #[.slice none 0 0, .int .i64 9])) W := by
          intro hno W hW
          refine ⟨hW, fun ks hk => ?_, fun _ => rfl⟩
          have := HR.out ks hk
          rw [HBad.out hno] at this
          cases this
        have HFail := Lib.hid hfail
        clear hfail
        by_cases hE : E = 0
        · have HE := Lib.hid hE
          have be : ((E : Int) != 0) = false := by rw [hE]; rfl
          clear hE
          by_cases hVk : V ≤ key.size
          · have hwk : IntKind.u64.wrap (key.size : Int) = (key.size : Int) := IntWalk.u64_in _ (by omega)
            have bv : decide ((key.size : Int) < (V : Int)) = false := decide_eq_false (by omega)
            have bv2 : decide (key.size < V) = false := decide_eq_false (by omega)
            by_cases hT : TN = 0
            · have bt : ((TN : Int) != 0) = false := by rw [hT]; rfl
              have HOK : Hid (OK = true) := by show OK = true; rw [HNO.out, HE.out, hT]; simp [hVk]
              have hsk : ∀ W, (Instr.slice 9 (.string key) none (some (.int .u64 (V : Int))) none).run Try.prog W = .ok (.string (key.extract 0 V)) W := fun W => by
                rw [run_slice_string_to_if _ _ _ _ _ Try.underlying9, if_pos ⟨by omega, by omega⟩, Int.toNat_natCast]
              have HKE : Hid ((key.extract 0 V ++ ⟨GT.toArray⟩ : ByteArray).data.toList = NK) := by
                show _ = _
                rw [HNK.out]
                simp
              have hcat : ¬ (9223372036854775807 < V + GT.length) := by omega
              clear hT
              go_wp2_with fail
              refine HGet.out.mono ?_
              rintro e w3 ⟨rfl, rfl⟩
              go_wp2_with fail
              refine HGetT.out.mono ?_
              rintro e w4 ⟨rfl, rfl⟩
              obtain ⟨q1, q2, q3, q4⟩ := HGood.out HOK.out _ HKE.out
              have HQ4 := Lib.hid q4
              clear q4
              generalize hkk : (key.extract 0 V ++ ⟨GT.toArray⟩ : ByteArray) = key' at *
              go_wp2_with (at_builtin; refine wpList_append_one _ rfl _ _ 22 rfl w.heap.size 9 i9 _ 16 Try.underlying22 hi hz0 hz1 hz2 rfl _ acc.length _ (by rfl) hout _ 1 rfl rfl (by omega) (by omega) hB.size ?_; intro v4 w5 hout4 hg4 _)
              have hB4 := Below.own hB hout (Nat.le_refl _) hB.size hg4
              go_roundw
              case rel =>
                refine ⟨at' + NU, key', acc ++ [key'], ?_, rfl, q1, q3, by rw [List.length_append]; simp; omega, ?_, HQ4.out, hB4⟩
                · rw [HNU.out]; go_num
                · rw [strsV_append, List.length_append]
                  exact hout4
              case measure => have hnu := HNU.out; simp [intOf]; omega
            · have bt : ((TN : Int) != 0) = true := by rw [bne_iff_ne]; omega
              have HOK : Hid (OK = false) := by show OK = false; rw [HNO.out]; simp [hT]
              clear hT
              go_wp2_with fail
              refine HGet.out.mono ?_
              rintro e w3 ⟨rfl, rfl⟩
              go_wp2_with fail
              refine HGetT.out.mono ?_
              rintro e w4 ⟨rfl, rfl⟩
              go_wp2_with fail
              go_ret2
              exact HFail.out HOK.out _ hB
          · have hwk : IntKind.u64.wrap (key.size : Int) = (key.size : Int) := IntWalk.u64_in _ (by omega)
            have bv : decide ((key.size : Int) < (V : Int)) = true := decide_eq_true (by omega)
            have bv2 : decide (key.size < V) = true := decide_eq_true (by omega)
            have HOK : Hid (OK = false) := by show OK = false; rw [HNO.out]; simp [hVk]
            clear hVk
            go_wp2_with fail
            refine HGet.out.mono ?_
            rintro e w3 ⟨rfl, rfl⟩
            go_wp2_with fail
            go_ret2
            exact HFail.out HOK.out _ hB
        · have HOK : Hid (OK = false) := by show OK = false; rw [HNO.out]; simp [hE]
          have be : ((E : Int) != 0) = true := by rw [bne_iff_ne]; omega
          clear hE
          go_wp2_with fail
          refine HGet.out.mono ?_
          rintro e w3 ⟨rfl, rfl⟩
          go_wp2_with fail
          go_ret2
          exact HFail.out HOK.out _ hB
      · obtain rfl : at' = L.length := by omega
        have hdl : decide ((L.length : Int) < (L.length : Int)) = false := by simp
        have hpe : parse L [] = some (keysOf acc) := by
          rw [← HPar.out, List.drop_length, parse_nil]; simp
        obtain ⟨hb1, hb2⟩ := HP.out _ hpe
        have hb3 : ∀ i, (acc.getD i ByteArray.empty).size ≤ 3000 := fun i => by
          have := hb2 i
          rwa [keysOf_at, size_data] at this
        rw [length_keysOf] at hb1
        obtain ⟨ao, mo, co, rfl⟩ := row_slice hout
        have hmo := row_len' hout
        subst hmo
        have hstrs := row_strs hout
        have HBuild := Lib.hid (refbuild_any ao co acc wr hb1 hb3 hstrs)
        have HPE := Lib.hid hpe
        have HL3 := Lib.hid (H.out.below hB)
        clear hpe hb1 hb2 hb3 hstrs
        go_wp2_with fail
        refine HBuild.out.mono ?_
        clear HBuild
        rintro e w3 ⟨hyes, hno, hB3⟩
        have hB4 := hB.trans (hB3.mono hB.size)
        have hout3 := Below.row hB3 hout
        have HL4 := Lib.hid (HL3.out.below hB3)
        have HNoK : Hid (∀ ks, Reads l ks → ks = keysOf acc) := by
          intro ks hk
          have := HR.out ks hk
          rw [HPE.out] at this
          exact (Option.some.inj this).symm
        by_cases hris : Rises (keysOf acc)
        · obtain ⟨v3, rfl, hown3⟩ := hyes hris
          obtain ⟨a3, m3, c3, rfl⟩ := row_slice hown3
          have hm3 := row_len' hown3
          subst hm3
          have hb3 := row_bytes' hown3
          have hcv1 := run_string_of_bytes (P := Try.prog) w3 26 9 5 a3 (blockOf (keysOf acc)).length c3 (blockOf (keysOf acc)) rfl Try.underlying26 Try.underlying5 Try.underlying9 hb3
          have hcv2 := run_string_of_bytes (P := Try.prog) w3 26 9 5 a l.length cap l rfl Try.underlying26 Try.underlying5 Try.underlying9 HL4.out
          clear hyes hno hown3 hout hB3 hb3
          by_cases heq : blockOf (keysOf acc) = l
          · have hde := bytes_conv_eq _ _ heq
            have HRd : Hid (Reads l (keysOf acc)) := HR2.out _ HPE.out hris heq
            clear heq hris
            generalize (blockOf (keysOf acc)).length = BL at *
            generalize ({ data := (blockOf (keysOf acc)).toArray } : ByteArray) = X at *
            generalize ({ data := l.toArray } : ByteArray) = Y at *
            go_wp2_with fail
            go_ret2
            exact ⟨hB4, fun ks hk => ⟨_, acc, (HNoK.out ks hk).symm, rfl, hout3⟩, fun hn => absurd HRd.out (hn _)⟩
          · have hde := bytes_conv_ne _ _ heq
            have HRd : Hid (∀ ks, ¬ Reads l ks) := by
              intro ks hk
              have e := HNoK.out ks hk
              subst e
              exact heq hk.2.2.2
            clear heq hris
            generalize (blockOf (keysOf acc)).length = BL at *
            generalize ({ data := (blockOf (keysOf acc)).toArray } : ByteArray) = X at *
            generalize ({ data := l.toArray } : ByteArray) = Y at *
            go_wp2_with fail
            go_ret2
            exact ⟨hB4, fun ks hk => absurd hk (HRd.out ks), fun hn => rfl⟩
        · have := hno hris
          subst this
          have HRd : Hid (∀ ks, ¬ Reads l ks) := by
            intro ks hk
            have e := HNoK.out ks hk
            subst e
            exact hris hk.2.2.1
          clear hyes hno hris hout
          go_wp2_with fail
          go_ret2
          exact ⟨hB4, fun ks hk => absurd hk (HRd.out ks), fun hn => rfl⟩
  · have hN := hN2 hend
    have hd0 : decide (N < 0) = true := decide_eq_true hN
    have HNR : Hid (∀ ks, ¬ Reads l ks) := fun ks h => hend h.1
    clear hend hN1 hN2
    go_wp2_with fail
    go_ret2
    exact ⟨hB1, fun ks h => absurd h (HNR.out ks), fun _ => rfl⟩
end Go.Proofs.Ytbamohcaamgalab
