/- FrameTurned, walked. -/
import Derived.Test.YtlhgjecbjfiljabWalkI
import Derived.Test.YtlhgjecbjfiljabPlainb
namespace Go.Proofs.Ytlhgjecbjfiljab
set_option linter.unusedVariables false
set_option linter.unusedSimpArgs false
open Go.RowKit

theorem turnBit_int (d : UInt8) (p : Nat) : bits BinOp.xor IntKind.u8 (d.toNat : Int) ((2 : Int) ^ (p % 8) % 256) = (((d ^^^ UInt8.ofNat (2 ^ (p % 8))).toNat : Nat) : Int) := by
  have h8 : p % 8 < 8 := Nat.mod_lt _ (by decide)
  have hp : 2 ^ (p % 8) < 256 := Nat.lt_of_lt_of_le (Nat.pow_lt_pow_right (by decide) h8) (by decide)
  have hc := d.toNat_lt
  have := u8_xor_nat d.toNat (2 ^ (p % 8)) (by omega) hp
  rw [Int.natCast_pow] at this
  have hq : ((2 : Nat) : Int) ^ (p % 8) % 256 = ((2 : Nat) : Int) ^ (p % 8) := by
    have e : ((2 : Nat) : Int) ^ (p % 8) = ((2 ^ (p % 8) : Nat) : Int) := by simp
    rw [e]; exact Int.emod_eq_of_lt (Int.natCast_nonneg _) (Int.ofNat_lt.2 hp)
  rw [UInt8.toNat_xor, UInt8.toNat_ofNat', Nat.mod_eq_of_lt hp, show (2 : Int) = ((2 : Nat) : Int) from rfl, hq]
  exact this
theorem cutA_off (g cap o N : Nat) (h : o + N ≤ cap) : ∃ o', cutA (some ⟨g, 0, none⟩) cap o = some ⟨g, o', none⟩ ∧ (0 < N → o' = o) := by
  unfold cutA
  split
  · exact ⟨_, rfl, fun h0 => by omega⟩
  · exact ⟨o, by simp [Addr.add_lit], fun _ => rfl⟩
set_option maxRecDepth 100000 in
set_option maxHeartbeats 4000000 in
theorem lawTurned (a0 : Option Addr) (cap0 : Nat) (l : List UInt8) (A D : Nat) (sm : Bool) (w : World) (hl : l.length ≤ 9223372036854775807) (hA : A < 65536) (hD : D < 4294967296) (h : IsBytes w a0 l) :
    Calls Try.prog 4 #[.slice a0 l.length cap0, .int .u16 A, .int .u32 D, .bool sm] w fun e w' => e = .returned (.bool true) ∧ Below w.heap.size w w' := by
  have H0 := Lib.hid h
  obtain ⟨i0, hi, hz0, hz1, hz2⟩ := info_parts Try.info5
  clear h
  by_cases hb0 : 1500 < l.length
  · go_enter Try.func4, Try.ntmps4
    go_wp2_with (go_at_call 7; refine (fixed_any _).mono ?_; rintro e w1 ⟨rfl, hb1⟩)
    go_ret
    exact ⟨rfl, hb1⟩
  · by_cases hd0 : D = 0
    · subst hd0
      go_enter Try.func4, Try.ntmps4
      go_wp2_with (go_at_call 7; refine (fixed_any _).mono ?_; rintro e w1 ⟨rfl, hb1⟩)
      go_ret
      exact ⟨rfl, hb1⟩
    · obtain ⟨n, hn⟩ : ∃ n, n = l.length := ⟨_, rfl⟩
      have HN := Lib.hid hn.symm
      rw [← hn] at hl hb0 ⊢
      clear hn
      have hd1 : ((D : Int) == 0) = false := by simp; omega
      go_enter Try.func4, Try.ntmps4
      go_wp2_with fail
      refine (fixed_any _).mono ?_
      rintro e w1 ⟨rfl, hB1⟩
      go_wp2_with fail
      refine (seal_any a0 cap0 n l _ HN.out (by omega) (H0.out.below hB1)).mono ?_
      rintro e w2 ⟨v2, rfl, hown2, hb2⟩
      have hB2 := hB1.trans (hb2.mono hB1.size)
      obtain ⟨g, cp, rfl, hg1, hg2, hg3⟩ := row_shape hown2 (by omega)
      obtain ⟨base, hbase⟩ : ∃ base, base = w1.heap.size := ⟨_, rfl⟩
      have hbg : base ≤ g ∧ g < w2.heap.size := by rw [hbase]; exact ⟨hg1, hg2⟩
      have hown2' : w2.ownsRow base 5 1 (.slice (some ⟨g, 0, none⟩) (8 + n) cp) (8 + n) (bytesV (seal_ l)) := by rw [hbase]; exact hown2
      have hB2' : Below base w2 w2 := Below.refl _ _
      have HB := Lib.hid hbase
      clear hown2 hbase hg1 hg2
      have hLn : Hid (l.length = n) := HN
      go_upto_if 36 with (first
        | (refine wpList_slice_l _ rfl _ _ 22 rfl 5 i0 Try.underlying22 hi hz1 _ (8 + n) cp 8 rfl _ _ rfl rfl (by omega) ?_; intro a5 ha5))
      have HA5 := Lib.hid ha5
      clear ha5
      go_cut [10] (fun x wc => wc = w2 ∧ ∃ o N q pre post, x = .slice (cutA (some ⟨g, 0, none⟩) cp o) N (cp - o) ∧ Hid (seal_ l = pre ++ q ++ post ∧ pre.length = o ∧ q.length = N) ∧ o + N ≤ 8 + n ∧ o ≤ 8 ∧ N ≤ 1500 ∧ Hid ((o = 8 ∧ q = l ∧ pre = four n ++ four (sum l) ∧ post = []) ∨ (o = 4 ∧ q = four (sum l) ∧ pre = four n ∧ post = l)))
      case first =>
        go_wp2_with fail
        · go_meet
          case rel =>
            refine ⟨rfl, 4, 4, four (sum l), four n, l, by unfold cutA; rw [if_neg (by omega)]; simp [Addr.add_lit], ?_, by omega, by omega, by omega, ?_⟩
            · exact ⟨by rw [seal_, HN.out], rfl, rfl⟩
            · exact Or.inr ⟨rfl, rfl, rfl, rfl⟩
        · go_meet
          case rel =>
            refine ⟨rfl, 8, n, l, four n ++ four (sum l), [], by simp, ?_, by omega, by omega, by omega, ?_⟩
            · exact ⟨by rw [seal_, HN.out]; simp, rfl, HN.out⟩
            · exact Or.inl ⟨rfl, rfl, rfl, rfl⟩
      case rest =>
        obtain ⟨rfl, o, N, q, pre, post, rfl, HP, ho, ho8, hN, HC⟩ := hcut
        obtain ⟨o', ho', hoo⟩ := cutA_off g cp o N (by omega)
        rw [ho']
        clear ho'
        have hs0 : seal_ l = pre ++ turns q (A % (8 * N + 1)) D 0 ++ post := HP.out.1
        rw [hs0] at hown2'
        have hK : A % (8 * N + 1) ≤ 8 * N := by have := Nat.mod_lt A (show 0 < 8 * N + 1 by omega); omega
        obtain ⟨K, hKK⟩ : ∃ K, K = A % (8 * N + 1) := ⟨_, rfl⟩
        rw [← hKK] at hown2' hK
        have HK := Lib.hid hKK
        have hKt : ((A : Int)).tmod (8 * (N : Int) + 1) = (K : Int) := by rw [hKK]; rfl
        clear hs0 hKK
        go_wp2_with fail
        go_loopw [11, 39] (fun t i wr => ∃ j : Nat, j ≤ 32 ∧ i = .int .i64 j ∧ t = .bool (turned N K D j) ∧ wr.ownsRow base 5 1 (.slice (some ⟨g, 0, none⟩) (8 + n) cp) (8 + n) (bytesV (pre ++ turns q K D j ++ post)) ∧ Below base wc wr) (fun _ i _ => 32 - (intOf i).toNat)
        case atStart => exact ⟨0, by omega, rfl, rfl, hown2', hB2'⟩
        case round =>
          obtain ⟨j, hj, rfl, rfl, hownj, hBj⟩ := hrel
          by_cases hlt : j < 32
          · have hT := length_turns q K D j
            rw [HP.out.2.2] at hT
            have htb := testBit_int D j
            have htu := turned_succ N K D j
            have hts : turns q K D (j + 1) = if D.testBit j && decide (K + j < 8 * N) then turn (turns q K D j) (K + j) else turns q K D j := by rw [turns, HP.out.2.2]
            obtain ⟨p, hp⟩ : ∃ p, p = K + j := ⟨_, rfl⟩
            have hpi : (K : Int) + (j : Int) = (p : Int) := by omega
            rw [← hp] at htu hts
            have HPI := Lib.hid hpi
            clear hp
            have hpb : p < 8 * N + 32 := by have := HPI.out; omega
            clear hpi
            by_cases hbt : D.testBit j = true
            · rw [if_pos hbt] at htb
              rw [hbt, Bool.true_and] at htu hts
              by_cases hpl : p < 8 * N
              · rw [if_pos (decide_eq_true hpl)] at hts
                have htu' : turned N K D (j + 1) = true := by rw [htu, decide_eq_true hpl, Bool.or_true]
                have hpn : p / 8 < N := by omega
                obtain rfl : o' = o := hoo (by omega)
                have hpt := place_turn pre (turns q K D j) post p (by omega)
                have hpg := place_get pre (turns q K D j) post (p / 8) (by omega)
                rw [HP.out.2.1] at hpt hpg
                rw [← hts] at hpt
                obtain ⟨T', hT'⟩ : ∃ T', T' = turns q K D (j + 1) := ⟨_, rfl⟩
                rw [← hT'] at hts hpt
                have HT' := Lib.hid hT'
                clear hT'
                generalize turns q K D j = T at *
                have hlen : (pre ++ T ++ post).length = 8 + n := by
                  have h1 := hownj.1
                  rw [length_bytesV] at h1
                  omega
                have hcg := (hownj.cellAt (o' + p / 8) (by omega)).trans (bytesV_get (pre ++ T ++ post) (o' + p / 8) (by omega))
                rw [hpg] at hcg
                generalize T.getD (p / 8) 0 = d at *
                have hset := bytesV_set (pre ++ T ++ post) (o' + p / 8) (d ^^^ UInt8.ofNat (2 ^ (p % 8)))
                rw [hpt] at hset
                have hfg := hownj.frozenAt (o' + p / 8)
                have HS := Lib.hid hset
                have HT := Lib.hid htu'
                have HB2 := Lib.hid (turnBit_int d p)
                clear hset htu htu' hpt hts hT hpg
                have hu := d.toNat_lt
                go_upto_region 16 with (fail)
                rw [HPI.out]
                go_wp2_with fail
                go_roundw
                case rel =>
                  rw [HB2.out]
                  refine ⟨j + 1, by omega, by go_num, by rw [HT.out], ?_, hBj.setCell hbg.1 _⟩
                  have := (hownj.stored (o' + p / 8) (.int .u8 ((d ^^^ UInt8.ofNat (2 ^ (p % 8))).toNat : Int))).1
                  rw [HS.out] at this
                  rw [← HT'.out]
                  exact this
                case measure => simp [intOf]; omega
              · rw [decide_eq_false hpl] at htu hts
                rw [if_neg (by decide)] at hts
                have HT := Lib.hid htu
                have HTS := Lib.hid hts
                clear htu hts
                go_upto_region 16 with (fail)
                rw [HPI.out]
                go_wp2_with fail
                go_roundw
                case rel => exact ⟨j + 1, by omega, by go_num, by rw [HT.out, Bool.or_false], by rw [HTS.out]; exact hownj, hBj⟩
                case measure => simp [intOf]; omega
            · have hbt' : D.testBit j = false := by simpa using hbt
              rw [if_neg hbt] at htb
              rw [hbt', Bool.false_and] at htu hts
              rw [if_neg (by decide)] at hts
              have HT := Lib.hid htu
              have HTS := Lib.hid hts
              clear htu hts
              go_wp2_with fail
              go_roundw
              case rel => exact ⟨j + 1, by omega, by go_num, by rw [HT.out, Bool.or_false], by rw [HTS.out]; exact hownj, hBj⟩
              case measure => simp [intOf]; omega
          · obtain rfl : j = 32 := by omega
            have hNX := nextE_turned l q pre post n o N K D HN.out (by omega) HP.out.2.2 hK HC.out
            have HNX := Lib.hid hNX
            generalize turned N K D 32 = tt at *
            have hlen : (pre ++ turns q K D 32 ++ post).length = 8 + n := by
              have h1 := hownj.1
              rw [length_bytesV] at h1
              omega
            generalize pre ++ turns q K D 32 ++ post = S at *
            have hbs := isBytes_row hownj
            have HL := Lib.hid hlen
            clear hNX hlen hown2' hB2'
            go_wp2_with fail
            refine (next_any _ cp (8 + n) S _ HL.out (by omega) (by omega) hbs).mono ?_
            rintro e w5 ⟨hb5, v5, hok, hno⟩
            have hBr := hB2.trans (hBj.mono (by rw [HB.out]; exact hB1.size))
            have hB5 := hBr.trans (hb5.mono hBr.size)
            cases tt with
            | true =>
              have := hno (by rw [HNX.out]; decide)
              rw [HNX.out] at this
              subst this
              clear hok hno
              go_wp2_with fail
              go_ret
              exact ⟨rfl, hB5⟩
            | false =>
              obtain ⟨rfl, _⟩ := hok (by rw [HNX.out]; decide)
              clear hok hno
              go_wp2_with fail
              go_ret
              exact ⟨rfl, hB5⟩
end Go.Proofs.Ytlhgjecbjfiljab
