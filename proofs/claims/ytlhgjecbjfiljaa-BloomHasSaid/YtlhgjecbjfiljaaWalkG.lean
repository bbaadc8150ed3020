/- The filter of keys: the program's. -/
import Derived.Test.YtlhgjecbjfiljaaWalkF
namespace Go.Proofs.Ytlhgjecbjfiljaa
open Go.RowKit

def bytesV (l : List UInt8) : List Value := l.map fun c => .int .u8 (c.toNat : Int)
theorem length_bytesV (l : List UInt8) : (bytesV l).length = l.length := by simp [bytesV]
theorem bytesV_get (l : List UInt8) (i : Nat) (h : i < l.length) : (bytesV l)[i]? = some (.int .u8 ((l.getD i 0).toNat : Int)) := by simp [bytesV, h]
theorem bytesV_set (l : List UInt8) (i : Nat) (c : UInt8) : (bytesV l).set i (.int .u8 (c.toNat : Int)) = bytesV (l.set i c) := by simp [bytesV, List.map_set]
theorem bytesV_zero (n : Nat) : bytesV (List.replicate n 0) = List.replicate n (.int .u8 0) := by simp [bytesV]
theorem setBit_int (l : List UInt8) (p : Nat) : bits BinOp.or IntKind.u8 ((l.getD (p / 8) 0).toNat : Int) ((2 : Int) ^ (p % 8)) = (((l.getD (p / 8) 0 ||| UInt8.ofNat (2 ^ (p % 8))).toNat : Nat) : Int) := by
  have h8 : p % 8 < 8 := Nat.mod_lt _ (by decide)
  have hp : 2 ^ (p % 8) < 256 := Nat.lt_of_lt_of_le (Nat.pow_lt_pow_right (by decide) h8) (by decide)
  have hc := (l.getD (p / 8) 0).toNat_lt
  have := u8_or_nat (l.getD (p / 8) 0).toNat (2 ^ (p % 8)) (by omega) hp
  rw [Int.natCast_pow] at this
  rw [UInt8.toNat_or, UInt8.toNat_ofNat', Nat.mod_eq_of_lt hp]
  exact this
theorem size_int (n : Nat) (b : Int) (hn : n ≤ 200) (h1 : 1 ≤ b) (h2 : b ≤ 40) : 0 ≤ (n : Int) * b ∧ (n : Int) * b ≤ 8000 := by
  refine ⟨Int.mul_nonneg (by omega) (by omega), ?_⟩
  have := Int.mul_le_mul (show (n : Int) ≤ 200 by omega) h2 (by omega) (by omega)
  omega

theorem few_size (l : List ByteArray) (k : Nat) (h : k < l.length) (hf : fewB l = true) : (l.getD k ByteArray.empty).size ≤ 300 := by
  rcases Nat.lt_or_ge 300 (l.getD k ByteArray.empty).size with hs | hs
  · rw [fewB_long l k h hs] at hf; cases hf
  · exact hs
theorem keys_take (l : List ByteArray) (k : Nat) (h : k < l.length) : (l.take (k + 1)).map (·.data.toList) = (l.take k).map (·.data.toList) ++ [(l.getD k ByteArray.empty).data.toList] := by
  rw [List.take_succ_eq_append_getElem h, List.map_append]
  simp only [List.map_cons, List.map_nil, List.getD, h, List.getElem?_eq_getElem, Option.getD_some]
theorem probe_made (w : World) (x n : Nat) : Probe (w.alloc (.cells #[.int .u64 ((x : Int) % 4294967296), .int .u64 ((x / 4294967296 ||| 1 : Nat) : Int), .int .u64 ((n : Int) * 8)] 35)) w.heap.size (x % 4294967296 + 0 * (x / 4294967296 ||| 1)) (x / 4294967296 ||| 1) (8 * n) := by
  rw [Nat.zero_mul, Nat.add_zero, Nat.mul_comm 8 n]
  exact heap_alloc_new _ _
theorem step_bd (x : Nat) (hx : x < 18446744073709551616) : (x / 4294967296 ||| 1) ≤ 4294967296 := by
  have ho := or_one (x / 4294967296)
  split at ho <;> omega
theorem filter_row (keys : List ByteArray) (b c : Int) (n : Nat) (L : List (List UInt8) → List UInt8) (hc : c = clamp b) (hn : n = bytesFor keys.length c) (hL : L = setKeys (8 * n) (many c) (List.replicate n 0)) :
    (filter (keys.map (·.data.toList)) b).length = n + 1 ∧ bytesV (filter (keys.map (·.data.toList)) b) = bytesV (L (keys.map (·.data.toList))) ++ [.int .u8 (many c : Int)] := by
  have hm := many_bd c
  have e : filter (keys.map (·.data.toList)) b = L (keys.map (·.data.toList)) ++ [UInt8.ofNat (many c)] := by
    rw [filter, List.length_map, ← hc, ← hn, hL]
  rw [e]
  refine ⟨by rw [List.length_append, hL, length_setKeys, List.length_replicate]; rfl, ?_⟩
  have h8 : many c % 256 = many c := by omega
  simp [bytesV, UInt8.toNat_ofNat', h8]
set_option maxHeartbeats 1000000 in
theorem make_any (a : Option Addr) (cap : Nat) (keys : List ByteArray) (b : Int) (w : World) (hf : fewB keys = true) (h : IsStrs w a keys) :
    Calls Try.prog 11 #[.slice a keys.length cap, .int .i64 b] w fun e w' => ∃ v, e = .returned v ∧
      w'.ownsRow w.heap.size 5 1 v (filter (keys.map (·.data.toList)) b).length (bytesV (filter (keys.map (·.data.toList)) b)) ∧ Below w.heap.size w w' := by
  have hlen : keys.length ≤ 200 := by simp [fewB] at hf; exact hf.2
  obtain ⟨c, hc⟩ : ∃ c, c = clamp b := ⟨_, rfl⟩
  have hcb := clamp_bd b
  rw [← hc] at hcb
  obtain ⟨s1, s2⟩ := size_int keys.length c hlen hcb.1 hcb.2
  have H := Lib.hid h
  have HC := Lib.hid hc
  have HF := Lib.hid hf
  clear h hf hc
  obtain ⟨i0, hi, hz0, hz1, hz2⟩ := info_parts Try.info5
  go_enter Try.func11, Try.ntmps11
  go_upto_region 1 with (fail)
  go_cut [1] (fun x wc => x = .int .i64 c ∧ wc = w)
  case first =>
    go_wp2
    all_goals
      go_meet
      case rel => exact ⟨by rw [HC.out]; unfold clamp; go_num, rfl⟩
  case rest =>
    obtain ⟨rfl, rfl⟩ := hcut
    go_upto_region 2 with (fail)
    go_cut [5] (fun x wd => x = .int .i64 (bytesFor keys.length c : Int) ∧ wd = wc)
    case first =>
      go_wp2
      all_goals
        go_meet
        case rel => exact ⟨by unfold bytesFor; go_num, rfl⟩
    case rest =>
      obtain ⟨rfl, rfl⟩ := hcut
      obtain ⟨n, hn⟩ : ∃ n, n = bytesFor keys.length c := ⟨_, rfl⟩
      have hnb : 8 ≤ n ∧ n ≤ 1001 := by rw [hn]; unfold bytesFor; omega
      rw [← hn]
      have HN := Lib.hid hn
      clear hn s1 s2
      obtain ⟨hn8, hn1⟩ := hnb
      go_wp2_with (at_make; refine wpList_make_cap _ rfl _ _ 27 rfl wc.heap.size 5 i0 (.int .u8 0) Try.underlying27 hi hz0 hz1 rfl _ _ _ _ n (n + 1) rfl rfl rfl (by omega) (by omega) (by rw [hz2]; omega) (by omega) (Nat.le_refl _) ?_; intro w1 hown1 hg1)
      have hB1 := Below.none (Below.refl wc.heap.size wc) (Nat.le_refl _) hg1
      rw [← bytesV_zero] at hown1
      obtain ⟨L, hL⟩ : ∃ L, L = setKeys (8 * n) (many c) (List.replicate n 0) := ⟨_, rfl⟩
      have hL0 : ([] : List ByteArray).map (·.data.toList) = [] := rfl
      obtain ⟨g, hg⟩ : ∃ g, g = wc.heap.size := ⟨_, rfl⟩
      rw [← hg] at hown1 hB1 ⊢
      have hown1' := hown1.kept (row := none) ⟨rfl, rfl, rfl, Nat.le_refl _, fun _ _ _ => rfl⟩ (by simp [Value.ownBlock])
      have HL := Lib.hid hL
      have HG := Lib.hid hg
      clear hL hg hg1
      go_loopw [28] (fun i wr => ∃ k : Nat, k ≤ keys.length ∧ i = .int .i64 k ∧ wr.ownsRow g 5 1 (.slice (some ⟨g, 0, none⟩) n (n + 1)) n (bytesV (L ((keys.take k).map (·.data.toList)))) ∧ Below g wc wr) (fun i _ => keys.length - (intOf i).toNat)
      case atStart => exact ⟨0, Nat.zero_le _, rfl, by rw [HL.out]; exact hown1, hB1⟩
      case round =>
        obtain ⟨k, hk, rfl, hown, hbel⟩ := hrel
        by_cases hlt : k < keys.length
        · obtain ⟨b1, off, rfl, hb1, hcs⟩ := H.out (by omega)
          have hck := (hbel.cell (p := ⟨b1, off + k, none⟩) (by rw [HG.out]; exact hb1)).trans (hcs k hlt)
          have hs300 := few_size keys k hlt HF.out
          have HT := Lib.hid (keys_take keys k hlt)
          generalize keys.getD k ByteArray.empty = s at hck hs300 HT
          clear hcs
          have hgw : g < wr.heap.size := (hown.lt g rfl).2
          go_wp2_with (first
            | (go_at_call 16; refine (start_any s _ _ hs300 (by omega) (by omega)).mono ?_; rintro e w2 ⟨rfl, hb2⟩)
            | (go_at_call 17; refine (many_any _ _ hcb.1 hcb.2).mono ?_; rintro e w3 ⟨rfl, rfl⟩))
          have hown2 := Below.row hb2 hown
          have hP := probe_made w2 (hash s.data.toList) n
          have hB2 := (hbel.trans (hb2.mono (Nat.le_of_lt hgw))).alloc (Nat.le_trans (Nat.le_of_lt hgw) hb2.size) (.cells #[.int .u64 ((hash s.data.toList : Int) % 4294967296), .int .u64 ((hash s.data.toList / 4294967296 ||| 1 : Nat) : Int), .int .u64 ((n : Int) * 8)] 35)
          have hown3 := hown2.alloc (.cells #[.int .u64 ((hash s.data.toList : Int) % 4294967296), .int .u64 ((hash s.data.toList / 4294967296 ||| 1 : Nat) : Int), .int .u64 ((n : Int) * 8)] 35)
          have hyb := step_bd (hash s.data.toList) (hash_lt _)
          have hxb : hash s.data.toList % 4294967296 < 4294967296 := Nat.mod_lt _ (by decide)
          have HX := Lib.hid (fun j => show place (hash s.data.toList) (8 * n) j = (hash s.data.toList % 4294967296 + j * (hash s.data.toList / 4294967296 ||| 1)) % (8 * n) from rfl)
          have hLs := setKeys_snoc (8 * n) (many c) ((keys.take k).map (·.data.toList)) s.data.toList (List.replicate n 0)
          rw [← HL.out, ← HT.out] at hLs
          have hLl : (L ((keys.take k).map (·.data.toList))).length = n := by rw [HL.out, length_setKeys, List.length_replicate]
          obtain ⟨m, hm⟩ : ∃ m, m = many c := ⟨_, rfl⟩
          have hmb := many_bd c
          rw [← hm] at hLs hmb ⊢
          generalize w2.alloc (.cells #[.int .u64 ((hash s.data.toList : Int) % 4294967296), .int .u64 ((hash s.data.toList / 4294967296 ||| 1 : Nat) : Int), .int .u64 ((n : Int) * 8)] 35) = w3 at *
          generalize hash s.data.toList = x at *
          generalize x % 4294967296 = X at *
          generalize x / 4294967296 ||| 1 = Y at *
          obtain ⟨gp, hgp⟩ : ∃ gp, gp = w2.heap.size := ⟨_, rfl⟩
          have hgg : g < gp := by rw [hgp]; exact Nat.lt_of_lt_of_le hgw hb2.size
          rw [← hgp] at hP ⊢
          generalize L ((keys.take k).map (·.data.toList)) = l at *
          have HLs := Lib.hid hLs
          have HLl := Lib.hid hLl
          have HM := Lib.hid hm
          clear hLs hLl hm hgp hb2 hown2 hown hck hbel HT
          go_loopw [38] (fun i wr => ∃ j : Nat, j ≤ m ∧ i = .int .i64 j ∧ Probe wr gp (X + j * Y) Y (8 * n) ∧ wr.ownsRow g 5 1 (.slice (some ⟨g, 0, none⟩) n (n + 1)) n (bytesV (setBits x (8 * n) l j)) ∧ Below g wc wr) (fun i _ => m - (intOf i).toNat)
          case atStart => exact ⟨0, Nat.zero_le _, rfl, hP, hown3, hB2⟩
          case round =>
            obtain ⟨j, hj, rfl, hPj, hownj, hBj⟩ := hrel
            have hjY := Nat.mul_le_mul (show j ≤ 30 by omega) hyb
            by_cases hlt2 : j < m
            · have hpl := place_lt x (8 * n) j (by omega)
              have hlen2 : (setBits x (8 * n) l j).length = n := by rw [length_setBits]; exact HLl.out
              have hbit := setBit_int (setBits x (8 * n) l j) (place x (8 * n) j)
              have hset := bytesV_set (setBits x (8 * n) l j) (place x (8 * n) j / 8) ((setBits x (8 * n) l j).getD (place x (8 * n) j / 8) 0 ||| UInt8.ofNat (2 ^ (place x (8 * n) j % 8)))
              have hget := bytesV_get (setBits x (8 * n) l j) (place x (8 * n) j / 8) (by omega)
              have hsucc : setBits x (8 * n) l (j + 1) = setBit (setBits x (8 * n) l j) (place x (8 * n) j) := rfl
              rw [setBit] at hsucc
              rw [← hsucc] at hset
              have HQ := Lib.hid (HX.out j).symm
              generalize place x (8 * n) j = p at *
              have HSU := Lib.hid hsucc
              clear hsucc
              generalize (setBits x (8 * n) l j).getD (p / 8) 0 = d at *
              have HB := Lib.hid hbit
              have HS := Lib.hid hset
              have HG2 := Lib.hid hget
              clear hbit hset hget
              have hu := d.toNat_lt
              go_wp2_with (go_at_call 18; refine (next_any _ _ _ _ p _ hPj HQ.out (by omega) (by omega) (by omega) (by omega)).mono ?_; rintro e w4 ⟨rfl, hP4, hg4⟩; have hown4 := hownj.kept hg4 (Or.inr (by simp [Value.ownBlock]; omega)); have hB4 := hBj.grown hg4 (Nat.le_trans (Nat.le_of_lt (hownj.lt g rfl).2) (Nat.le_refl _)) (fun k hk => by cases hk; exact Nat.le_of_lt hgg); have hc4 := (hown4.cellAt (p / 8) (by omega)).trans HG2.out; have hf4 := hown4.frozenAt (p / 8))
              go_roundw
              case rel =>
                rw [HB.out]
                refine ⟨j + 1, by omega, by go_num, ?_, ?_, ?_⟩
                · rw [Nat.add_mul, Nat.one_mul, ← Nat.add_assoc]
                  exact (heap_setCell_other w4 _ gp _ (by simp; omega)).trans hP4
                · have := (hown4.stored (p / 8) (.int .u8 ((d ||| UInt8.ofNat (2 ^ (p % 8))).toNat : Int))).1
                  rw [HS.out] at this
                  exact this
                · exact hB4.setCell (Nat.le_refl _) _
              case measure => simp [intOf]; omega
            · obtain rfl : j = m := by omega
              go_wp2
              go_roundw
              case rel => exact ⟨k + 1, by omega, by go_num, by rw [HLs.out]; exact hownj, hBj⟩
              case measure => simp [intOf]; omega
        · obtain rfl : k = keys.length := by omega
          have hmb := many_bd c
          go_wp2_with (first
            | (go_at_call 17; refine (many_any _ _ hcb.1 hcb.2).mono ?_; rintro e w3 ⟨rfl, rfl⟩)
            | (at_builtin; refine wpList_append_one _ rfl _ _ 27 rfl g 5 i0 (.int .u8 0) 1 Try.underlying27 hi hz0 hz1 hz2 rfl _ _ _ rfl hown _ 1 rfl rfl (by omega) (by omega) (Nat.le_of_lt (hown.lt g rfl).2) ?_; intro v' w5 hown5 hgrow5 _; have hbel5 := Below.own hbel hown (Nat.le_refl _) (Nat.le_of_lt (hown.lt g rfl).2) hgrow5))
          go_ret
          refine ⟨_, rfl, ?_, ?_⟩
          · have := filter_row keys b c n L HC.out HN.out HL.out
            rw [List.take_length] at hown5
            rw [this.1, this.2, ← HG.out]
            exact hown5
          · rw [← HG.out]; exact hbel5
end Go.Proofs.Ytlhgjecbjfiljaa
