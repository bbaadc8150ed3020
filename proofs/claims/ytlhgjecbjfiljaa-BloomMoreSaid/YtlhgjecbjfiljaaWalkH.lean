/- The filter of keys: the reference's. -/
import Derived.Test.YtlhgjecbjfiljaaWalkG
namespace Go.Proofs.Ytlhgjecbjfiljaa
open Go.RowKit

theorem row_base {w : World} {base : Nat} {e : TypeId} {size g n cap : Nat} {xs : List Value} (h : w.ownsRow base e size (.slice (some ⟨g, 0, none⟩) n cap) n xs) {b : Nat} (hb : b ≤ g) : w.ownsRow b e size (.slice (some ⟨g, 0, none⟩) n cap) n xs := by
  refine ⟨h.1, ?_⟩
  rcases h.2 with ⟨h0, _⟩ | ⟨g', cap', cur, hv, _, r⟩
  · cases h0
  · cases hv
    exact .inr ⟨_, _, cur, rfl, hb, r⟩
set_option maxHeartbeats 1600000 in
theorem refmake_any (a : Option Addr) (cap : Nat) (keys : List ByteArray) (b : Int) (w : World) (hf : fewB keys = true) (h : IsStrs w a keys) :
    Calls Try.prog 12 #[.slice a keys.length cap, .int .i64 b] w fun e w' => ∃ v, e = .returned v ∧
      w'.ownsRow w.heap.size 5 1 v (filter (keys.map (·.data.toList)) b).length (bytesV (filter (keys.map (·.data.toList)) b)) ∧ Below w.heap.size w w' := by
  have hlen : keys.length ≤ 200 := by simp [fewB] at hf; exact hf.2
  obtain ⟨c, hc⟩ : ∃ c, c = clamp b := ⟨_, rfl⟩
  have hcb := clamp_bd b
  rw [← hc] at hcb
  obtain ⟨s1, s2⟩ := size_int keys.length c hlen hcb.1 hcb.2
  have H := Lib.hid h
  have HC := Lib.hid hc
  have HF := Lib.hid hf
  clear h hf hc
  obtain ⟨i0, hi, hz0, hz1, hz2⟩ := info_parts Try.info5
  go_enter Try.func12, Try.ntmps12
  go_upto_region 1 with (fail)
  go_cut [1] (fun x wc => x = .int .i64 c ∧ wc = w)
  case first =>
    go_wp2
    all_goals
      go_meet
      case rel => exact ⟨by rw [HC.out]; unfold clamp; go_num, rfl⟩
  case rest =>
    obtain ⟨rfl, rfl⟩ := hcut
    obtain ⟨w0, rfl⟩ : ∃ w0 : World, w0 = wc := ⟨_, rfl⟩
    obtain ⟨n, hn⟩ : ∃ n, n = bytesFor keys.length c := ⟨_, rfl⟩
    have hnb : 8 ≤ n ∧ n ≤ 1001 := by rw [hn]; unfold bytesFor; omega
    have HN := Lib.hid hn
    clear hn
    obtain ⟨hn8, hn1⟩ := hnb
    go_upto_region 2 with (fail)
    go_cut [5] (fun x wd => ∃ g, x = .slice (some ⟨g, 0, none⟩) n n ∧ w0.heap.size ≤ g ∧ wd.ownsRow w0.heap.size 5 1 (.slice (some ⟨g, 0, none⟩) n n) n (List.replicate n (.int .u8 0)) ∧ Below w0.heap.size w0 wd)
    case first =>
      go_wp2_with (at_make; refine wpList_make_cap _ rfl _ _ 27 rfl w0.heap.size 5 i0 (.int .u8 0) Try.underlying27 hi hz0 hz1 rfl _ _ _ _ n n rfl rfl (by rw [HN.out]; unfold bytesFor; omega) (by rw [HN.out]; unfold bytesFor; omega) (Nat.le_refl _) (by rw [hz2]; omega) (by omega) (Nat.le_refl _) ?_; intro w1 hown1 hg1)
      all_goals
        go_meet
        case rel => exact ⟨_, rfl, Nat.le_refl _, hown1, Below.none (Below.refl _ _) (Nat.le_refl _) hg1⟩
    case rest =>
      obtain ⟨g, rfl, hg0, hown1, hB1⟩ := hcut
      rw [← bytesV_zero] at hown1
      clear s1 s2
      obtain ⟨L, hL⟩ : ∃ L, L = setKeys (8 * n) (many c) (List.replicate n 0) := ⟨_, rfl⟩
      have HL := Lib.hid hL
      clear hL
      go_wp2_with fail
      go_loopw [23] (fun i wr => ∃ k : Nat, k ≤ keys.length ∧ i = .int .i64 k ∧ wr.ownsRow w0.heap.size 5 1 (.slice (some ⟨g, 0, none⟩) n n) n (bytesV (L ((keys.take k).map (·.data.toList)))) ∧ Below w0.heap.size w0 wr) (fun i _ => keys.length - (intOf i).toNat)
      case atStart => exact ⟨0, Nat.zero_le _, rfl, by rw [HL.out]; exact hown1, hB1⟩
      case round =>
        obtain ⟨k, hk, rfl, hown, hbel⟩ := hrel
        by_cases hlt : k < keys.length
        · obtain ⟨b1, off, rfl, hb1, hcs⟩ := H.out (by omega)
          have hck := (hbel.cell (p := ⟨b1, off + k, none⟩) hb1).trans (hcs k hlt)
          have hs300 := few_size keys k hlt HF.out
          have HT := Lib.hid (keys_take keys k hlt)
          generalize keys.getD k ByteArray.empty = s at hck hs300 HT
          clear hcs
          have hgw : g < wr.heap.size := (hown.lt g rfl).2
          obtain ⟨m, hm⟩ : ∃ m, m = many c := ⟨_, rfl⟩
          have hmb := many_bd c
          rw [← hm] at hmb
          have hm0 : 0 < m := by omega
          have HM := Lib.hid hm
          clear hm
          go_wp2_with (first
            | (go_at_call 20; refine (refmany_any _ _ hcb.1 hcb.2).mono ?_; rintro e w3 ⟨rfl, rfl⟩; rw [← HM.out])
            | (go_at_call 19; refine (places_at s m (8 * n) _ _ _ rfl (by omega) hs300 (by omega) (by omega) (by omega)).mono ?_; rintro e w2 ⟨v, rfl, hp2, hb2⟩; obtain ⟨gp, cp, rfl, hg1, hg2, hg3⟩ := row_shape hp2 hm0))
          have hown2 := Below.row hb2 hown
          have hB2 := hbel.trans (hb2.mono hbel.size)
          have hLs := setKeys_snoc (8 * n) (many c) ((keys.take k).map (·.data.toList)) s.data.toList (List.replicate n 0)
          rw [← HL.out, ← HT.out, ← HM.out] at hLs
          have hLl : (L ((keys.take k).map (·.data.toList))).length = n := by rw [HL.out, length_setKeys, List.length_replicate]
          generalize hash s.data.toList = x at *
          have hgg : g < gp := Nat.lt_of_lt_of_le hgw hg1
          generalize L ((keys.take k).map (·.data.toList)) = l at *
          have HLs := Lib.hid hLs
          have HLl := Lib.hid hLl
          clear hLs hLl hb2 hown hck hbel HT
          go_loopw [36] (fun i wr => ∃ j : Nat, j ≤ m ∧ i = .int .i64 j ∧ wr.ownsRow gp 25 1 (.slice (some ⟨gp, 0, none⟩) m cp) m (places x (8 * n) m) ∧ wr.ownsRow w0.heap.size 5 1 (.slice (some ⟨g, 0, none⟩) n n) n (bytesV (setBits x (8 * n) l j)) ∧ Below w0.heap.size w0 wr) (fun i _ => m - (intOf i).toNat)
          case atStart => exact ⟨0, Nat.zero_le _, rfl, row_base hp2 (Nat.le_refl _), hown2, hB2⟩
          case round =>
            obtain ⟨j, hj, rfl, hpj, hownj, hBj⟩ := hrel
            by_cases hlt2 : j < m
            · have hpl := place_lt x (8 * n) j (by omega)
              have hlen2 : (setBits x (8 * n) l j).length = n := by rw [length_setBits]; exact HLl.out
              have hbit := setBit_int (setBits x (8 * n) l j) (place x (8 * n) j)
              have hset := bytesV_set (setBits x (8 * n) l j) (place x (8 * n) j / 8) ((setBits x (8 * n) l j).getD (place x (8 * n) j / 8) 0 ||| UInt8.ofNat (2 ^ (place x (8 * n) j % 8)))
              have hget := bytesV_get (setBits x (8 * n) l j) (place x (8 * n) j / 8) (by omega)
              have hsucc : setBits x (8 * n) l (j + 1) = setBit (setBits x (8 * n) l j) (place x (8 * n) j) := rfl
              rw [setBit] at hsucc
              rw [← hsucc] at hset
              have hc1 := (hpj.cellAt j (by omega)).trans (places_get x (8 * n) hlt2)
              have hcg := (hownj.cellAt (place x (8 * n) j / 8) (by omega)).trans hget
              have hfg := hownj.frozenAt (place x (8 * n) j / 8)
              have hpw := pow_small (place x (8 * n) j)
              rw [Int.natCast_pow] at hpw
              generalize place x (8 * n) j = p at *
              have HSU := Lib.hid hsucc
              clear hsucc
              generalize (setBits x (8 * n) l j).getD (p / 8) 0 = d at *
              have HB := Lib.hid hbit
              have HS := Lib.hid hset
              clear hbit hset hget
              have hu := d.toNat_lt
              go_wp2
              go_roundw
              case rel =>
                rw [HB.out]
                refine ⟨j + 1, by omega, by go_num, ?_, ?_, ?_⟩
                · exact hpj.kept (hownj.stored (p / 8) _).2 (Or.inr (by simp [Value.ownBlock]; omega))
                · have := (hownj.stored (p / 8) (.int .u8 ((d ||| UInt8.ofNat (2 ^ (p % 8))).toNat : Int))).1
                  rw [HS.out] at this
                  exact this
                · exact hBj.setCell hg0 _
              case measure => simp [intOf]; omega
            · obtain rfl : j = m := by omega
              go_wp2
              go_roundw
              case rel => exact ⟨k + 1, by omega, by go_num, by rw [HLs.out]; exact hownj, hBj⟩
              case measure => simp [intOf]; omega
        · obtain rfl : k = keys.length := by omega
          have hmb := many_bd c
          go_wp2_with (first
            | (go_at_call 20; refine (refmany_any _ _ hcb.1 hcb.2).mono ?_; rintro e w3 ⟨rfl, rfl⟩)
            | (at_builtin; refine wpList_append_one _ rfl _ _ 27 rfl w0.heap.size 5 i0 (.int .u8 0) 1 Try.underlying27 hi hz0 hz1 hz2 rfl _ _ _ rfl hown _ 1 rfl rfl (by omega) (by omega) hbel.size ?_; intro v' w5 hown5 hgrow5 _; have hbel5 := Below.own hbel hown (Nat.le_refl _) hbel.size hgrow5))
          go_ret
          refine ⟨_, rfl, ?_, hbel5⟩
          have := filter_row keys b c n L HC.out HN.out HL.out
          rw [List.take_length] at hown5
          rw [this.1, this.2]
          exact hown5
end Go.Proofs.Ytlhgjecbjfiljaa
