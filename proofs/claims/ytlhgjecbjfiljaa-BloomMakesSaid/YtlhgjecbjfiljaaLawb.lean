/- The law on what is made, walked. -/
import Derived.Test.YtlhgjecbjfiljaaLaws
namespace Go.Proofs.Ytlhgjecbjfiljaa
open Go.RowKit

theorem push_fold (l : List UInt8) : ∀ s : ByteArray, (l.map (fun c : UInt8 => (c.toNat : Int))).foldl (fun r n => r.push (UInt8.ofNat n.toNat)) s = ⟨s.data ++ l.toArray⟩ := by
  induction l with
  | nil => intro s; cases s; simp
  | cons c r ih =>
    intro s
    rw [List.map_cons, List.foldl_cons, ih]
    cases s
    simp [ByteArray.push]
theorem run_string_of_bytes {P : Program} (w : World) (src dst e : TypeId) (a : Option Addr) (n cap : Nat) (l : List UInt8) (hn : l.length = n)
    (hs : P.underlying src = some (.slice e)) (he : P.underlying e = some (.int .u8)) (hd : P.underlying dst = some .string) (h : IsBytes w a l) :
    (convert src dst (.slice a n cap)).run P w = .ok (.string ⟨l.toArray⟩) w := by
  subst hn
  rw [run_convert_bytes_string w src dst e a _ cap hs he hd]
  cases a with
  | none =>
    have : l = [] := by
      cases l with
      | nil => rfl
      | cons c r => obtain ⟨b, off, h0, _⟩ := h (by simp); cases h0
    subst this
    rfl
  | some ad =>
    have hl : (loadCells ad l.length).run P w = .ok ((l.map (fun c : UInt8 => (c.toNat : Int))).map (Value.int .u8)).toArray w := by
      have hc : ∀ j v, (bytesV l)[j]? = some v → w.cell? (ad.add j) = some v := by
        intro j v hv
        have hj : j < l.length := by have := (List.getElem?_eq_some_iff.1 hv).1; rwa [length_bytesV] at this
        obtain ⟨b, off, h0, _, hc⟩ := h (by omega)
        cases h0
        rw [bytesV_get l j hj] at hv
        cases hv
        rw [← hc j hj, Addr.add_lit]
      have := run_loadCells_list (P := P) (w := w) ad (bytesV l) hc
      rw [length_bytesV] at this
      rw [this]
      simp [bytesV]
    rw [run_bytesToString w ad _ cap _ hl, push_fold]
    simp
set_option maxHeartbeats 2000000 in
theorem lawMakes (a : Option Addr) (cap : Nat) (keys : List ByteArray) (b : Int) (w : World) (hl : keys.length ≤ 9223372036854775807) (h : IsStrs w a keys) :
    Calls Try.prog 3 #[.slice a keys.length cap, .int .i64 b] w fun e w' => e = .returned (.bool true) ∧ Below w.heap.size w w' := by
  have H := Lib.hid h
  clear h
  cases hf : fewB keys
  · have HF := Lib.hid hf
    clear hf
    go_enter Try.func3, Try.ntmps3
    go_wp2_with fail
    refine (fixed_any _).mono ?_
    rintro e w1 ⟨rfl, hb1⟩
    go_wp2_with fail
    refine (few_any a cap keys _ hl (H.out.below hb1)).mono ?_
    rintro e w2 ⟨rfl, rfl⟩
    rw [HF.out]
    go_wp2_with fail
    go_ret
    exact ⟨rfl, hb1⟩
  · have HF := Lib.hid hf
    clear hf
    go_enter Try.func3, Try.ntmps3
    go_wp2_with fail
    refine (fixed_any _).mono ?_
    rintro e w1 ⟨rfl, hb1⟩
    go_wp2_with fail
    refine (few_any a cap keys _ hl (H.out.below hb1)).mono ?_
    rintro e w2 ⟨rfl, rfl⟩
    rw [HF.out]
    go_wp2_with fail
    have H2 := Lib.hid (H.out.below hb1)
    go_loop [14] (fun i => ∃ k : Nat, k ≤ keys.length ∧ i = .int .i64 k) (fun i => keys.length - (intOf i).toNat)
    case atStart => exact ⟨0, Nat.zero_le _, rfl⟩
    case round =>
      obtain ⟨k, hk, rfl⟩ := hrel
      by_cases hlt : k < keys.length
      · obtain ⟨b1, off, rfl, hbb, hcs⟩ := H2.out (by omega)
        have hck := hcs k hlt
        have hs300 := few_size keys k hlt HF.out
        generalize keys.getD k ByteArray.empty = s at *
        clear hcs
        go_wp2_with (first
          | (go_at_call 9; refine (hash_any _ _ hs300).mono ?_; rintro e w3 ⟨rfl, rfl⟩)
          | (go_at_call 10; refine (refhash_any _ _ hs300).mono ?_; rintro e w3 ⟨rfl, rfl⟩))
        go_round
        case rel => exact ⟨k + 1, by omega, by go_num⟩
        case measure => simp [intOf]; omega
      · have hfl := (filter_len (keys.map (·.data.toList)) b (by rw [List.length_map]; exact few_len keys HF.out)).1
        go_wp2_with fail
        clear hlt
        go_region_with (first
          | (go_at_call 11; refine (make_any a cap keys b _ HF.out ?_).mono ?_; exact H2.out.below (Below.drew (Below.refl _ _)); rintro e w3 ⟨v, rfl, hown3, hb3⟩; obtain ⟨g3, cp3, rfl, hg31, hg32, hg33⟩ := row_shape hown3 (by omega); have hcv3 := run_string_of_bytes (P := Try.prog) w3 27 9 5 (some ⟨g3, 0, none⟩) _ cp3 _ rfl Try.underlying27 Try.underlying5 Try.underlying9 (isBytes_row hown3))
          | (go_at_call 12; refine (refmake_any a cap keys b _ HF.out ?_).mono ?_; exact (H2.out.below (Below.drew (Below.refl _ _))).below hb3; rintro e w4 ⟨v, rfl, hown4, hb4⟩; obtain ⟨g4, cp4, rfl, hg41, hg42, hg43⟩ := row_shape hown4 (by omega); have hcv4 := run_string_of_bytes (P := Try.prog) w4 27 9 5 (some ⟨g4, 0, none⟩) _ cp4 _ rfl Try.underlying27 Try.underlying5 Try.underlying9 (isBytes_row hown4); have hcv34 := run_string_of_bytes (P := Try.prog) w4 27 9 5 (some ⟨g3, 0, none⟩) _ cp3 _ rfl Try.underlying27 Try.underlying5 Try.underlying9 (isBytes_row (Below.row hb4 hown3))))
        all_goals
          go_wp2
          go_ret
          exact ⟨rfl, hb1.trans (((Below.refl _ _).drew.trans (hb3.trans (hb4.mono hb3.size))).mono hb1.size)⟩
end Go.Proofs.Ytlhgjecbjfiljaa
