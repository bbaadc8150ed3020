/- MergeOrder: the law walked. -/
import Derived.Test.YtacjbgmnoiimbaaFixed
import Derived.Test.YtacjbgmnoiimbaaOpen
namespace Go.Proofs.Ytacjbgmnoiimbaa
set_option linter.unusedVariables false
set_option linter.unusedSimpArgs false
open Go.RowKit

def rowsV (L : List RR) : List Value := L.map rowV
theorem length_rowsV (L : List RR) : (rowsV L).length = L.length := List.length_map ..
theorem rowsV_at (L : List RR) (i : Nat) (h : i < L.length) : (rowsV L)[i]? = some (rowV (at_ L i)) := by
  unfold rowsV at_
  rw [List.getElem?_map, List.getElem?_eq_getElem h, List.getD_eq_getElem?_getD, List.getElem?_eq_getElem h]; rfl
theorem rowsV_one (L : List RR) : ∀ u ∈ rowsV L, u.oneCell' = true := fun u hu => by
  obtain ⟨x, _, rfl⟩ := List.mem_map.1 hu
  rfl
theorem rows_vals {w : World} {a : Option Addr} {L : List RR} (h : IsRows w a L) : IsVals w a (rowsV L) := fun h0 => by
  rw [length_rowsV] at h0
  obtain ⟨b, off, ha, hb, hc⟩ := h h0
  exact ⟨b, off, ha, hb, fun k hk => by rw [length_rowsV] at hk; rw [(hc k hk).1, rowsV_at L k hk]⟩
def RowsOk (w : World) (L : List RR) : Prop := ∀ x ∈ L, x.keys.length ≤ x.kc ∧ IsStrs w x.a x.keys
theorem IsRows.ok {w : World} {a : Option Addr} {L : List RR} (h : IsRows w a L) : RowsOk w L := fun x hx => by
  obtain ⟨i, hi, rfl⟩ := mem_at hx
  obtain ⟨b, off, ha, hb, hc⟩ := h (by omega)
  exact (hc i hi).2
theorem RowsOk.below {w w' : World} {L : List RR} (h : RowsOk w L) (hb : Below w.heap.size w w') : RowsOk w' L := fun x hx => ⟨(h x hx).1, (h x hx).2.below hb⟩
theorem rows_own {w : World} {B : Nat} {a : Option Addr} {m c n : Nat} {L : List RR} (h : w.ownsRow B 26 1 (.slice a m c) n (rowsV L)) (hok : RowsOk w L) : IsRows w a L := fun h0 => by
  have hv := row_vals h
  obtain ⟨b, off, ha, hb, hc⟩ := hv (by rw [length_rowsV]; exact h0)
  exact ⟨b, off, ha, hb, fun k hk => ⟨by rw [hc k (by rw [length_rowsV]; exact hk), rowsV_at L k hk], hok _ (at_mem hk)⟩⟩
theorem len_le_tot {L : List RR} {x : RR} (h : x ∈ L) : x.keys.length ≤ tot L := by
  induction L with
  | nil => cases h
  | cons y r ih =>
    show x.keys.length ≤ y.keys.length + tot r
    rcases List.mem_cons.1 h with rfl | h
    · omega
    · have := ih h; omega
/-- rows in another order, and one of them twice -/
def mixR (L : List RR) (k : Nat) : List RR := L.drop k ++ L.take k ++ [at_ L k]
theorem mix_mem {L : List RR} {k : Nat} (hk : k < L.length) (x : RR) : x ∈ mixR L k ↔ x ∈ L := by
  unfold mixR
  rw [List.mem_append, List.mem_append, List.mem_singleton]
  constructor
  · rintro ((h | h) | rfl)
    · exact List.mem_of_mem_drop h
    · exact List.mem_of_mem_take h
    · exact at_mem hk
  · intro h
    rw [← List.take_append_drop k L] at h
    rcases List.mem_append.1 h with h | h
    · exact .inl (.inr h)
    · exact .inl (.inl h)
theorem mix_len {L : List RR} {k : Nat} (hk : k < L.length) : (mixR L k).length = L.length + 1 := by
  unfold mixR
  rw [List.length_append, List.length_append, List.length_drop, List.length_take, List.length_singleton]; omega
theorem tot_append (a b : List RR) : tot (a ++ b) = tot a + tot b := by unfold tot; rw [List.map_append, List.sum_append]
theorem mix_tot {L : List RR} {k : Nat} (hk : k < L.length) : tot (mixR L k) ≤ 2 * tot L := by
  have h1 : tot L = tot (L.take k) + tot (L.drop k) := by rw [← tot_append, List.take_append_drop]
  have h2 := len_le_tot (at_mem hk)
  unfold mixR
  rw [tot_append, tot_append]
  have h3 : tot [at_ L k] = (at_ L k).keys.length := by unfold tot; simp
  omega
theorem hasK_same {a b : List RR} (h : ∀ x, x ∈ a ↔ x ∈ b) (k : Text) : HasK a k ↔ HasK b k :=
  ⟨fun ⟨x, hx, hk⟩ => ⟨x, (h x).1 hx, hk⟩, fun ⟨x, hx, hk⟩ => ⟨x, (h x).2 hx, hk⟩⟩
theorem rise_same {a b : List RR} (h : ∀ x, x ∈ a ↔ x ∈ b) (ha : ∀ i, i < a.length → RisesK (at_ a i).keys) : ∀ i, i < b.length → RisesK (at_ b i).keys := fun i hi => by
  obtain ⟨j, hj, e⟩ := mem_at ((h _).2 (at_mem hi))
  rw [← e]; exact ha j hj
theorem bad_of {L : List RR} (h : ¬ ∀ i, i < L.length → RisesK (at_ L i).keys) : ∃ i, i < L.length ∧ ¬ RisesK (at_ L i).keys :=
  Classical.byContradiction fun hno => h fun i hi => Classical.byContradiction fun hn => hno ⟨i, hi, hn⟩
set_option maxRecDepth 100000 in
set_option maxHeartbeats 2000000 in
theorem lawOrder (a : Option Addr) (cap : Nat) (L : List RR) (n : Nat) (w : World) (hn : n < 256) (hL : L.length ≤ 9223372036854775807) (hc : L.length ≤ cap) (h : IsRows w a L) (hsz : ∀ i, i < L.length → RowSz (at_ L i)) :
    Calls Try.prog 5 #[.slice a L.length cap, .int .u8 (n : Int)] w fun e w' => e = .returned (.bool true) ∧ Below w.heap.size w w' := by
  obtain ⟨i26, hi26, z0, z1, z2⟩ := info_parts Try.info26
  have HF := Lib.hid (fixed_any w)
  have H := Lib.hid h
  have HSz := Lib.hid hsz
  clear h hsz
  go_enter Try.func5, Try.ntmps5
  go_wp2_with fail
  refine HF.out.mono ?_
  clear HF
  rintro e w1 ⟨rfl, hB1⟩
  have HB1 := Lib.hid hB1
  have HFew := Lib.hid (few_any a cap L w1 hL HSz.out (H.out.below hB1))
  clear hB1
  by_cases h0 : L.length = 0
  · generalize L.length = KL at *
    subst h0
    go_wp2_with fail
    refine HFew.out.mono ?_
    clear HFew
    rintro e w2 ⟨⟨r, rfl, hr2⟩, rfl⟩
    clear hr2
    cases r with
    | false =>
      go_wp2_with fail
      go_ret
      exact ⟨rfl, HB1.out⟩
    | true =>
      go_wp2_with fail
      go_ret
      exact ⟨rfl, HB1.out⟩
  · have b0 : ((L.length : Int) == 0) = false := by rw [beq_eq_false_iff_ne]; omega
    go_wp2_with fail
    refine HFew.out.mono ?_
    clear HFew
    rintro e w2 ⟨⟨r, rfl, hr2⟩, rfl⟩
    cases r with
    | false =>
      clear hr2
      go_wp2_with fail
      go_ret
      exact ⟨rfl, HB1.out⟩
    | true =>
      obtain ⟨h30, h300⟩ := hr2 rfl
      clear hr2
      obtain ⟨K, hK⟩ : ∃ K, K = n % L.length := ⟨_, rfl⟩
      have hKl : K < L.length := by rw [hK]; exact Nat.mod_lt _ (by omega)
      have hq1 : ((n : Int)).tmod (L.length : Int) = (K : Int) := by rw [hK]; rfl
      have hq2 : ((n : Int)) % (L.length : Int) = (K : Int) := by rw [hK]; rfl
      clear hK
      have hR2 := H.out.below HB1.out
      have HR2 := Lib.hid hR2
      obtain ⟨ab, ao, rfl, hab, hac⟩ := hR2 (by omega)
      have c0 := (hac K hKl).1
      have HV := rows_vals HR2.out
      have HV1 : Hid (IsVals w2 (cutA (some ⟨ab, ao, none⟩) cap K) ((rowsV L).drop K)) := by
        have := cutA_vals HV (lo := K) (hi := (rowsV L).length) (Nat.le_refl _) (by rw [length_rowsV]; exact hc)
        rw [List.take_length] at this
        exact this
      have HV2 : Hid (IsVals w2 (cutA (some ⟨ab, ao, none⟩) cap 0) ((rowsV L).take K)) := by
        have := cutA_vals HV (lo := 0) (hi := K) (by rw [length_rowsV]; omega) (by rw [length_rowsV]; exact hc)
        rw [List.drop_zero] at this
        exact this
      have hs1 : ∀ W : World, (Instr.slice 22 (.slice (some ⟨ab, ao, none⟩) L.length cap) (some (.int .i64 (K : Int))) none none).run Try.prog W = .ok (.slice (cutA (some ⟨ab, ao, none⟩) cap K) (L.length - K) (cap - K)) W := fun W => run_slice_l1 (P := Try.prog) W 22 26 i26 Try.underlying22 hi26 z1 _ _ _ K .i64 (by omega)
      have hs2 : ∀ W : World, (Instr.slice 22 (.slice (some ⟨ab, ao, none⟩) L.length cap) none (some (.int .i64 (K : Int))) none).run Try.prog W = .ok (.slice (cutA (some ⟨ab, ao, none⟩) cap 0) K cap) W := fun W => run_slice_h1 (P := Try.prog) W 22 26 i26 Try.underlying22 hi26 z1 _ _ _ K .i64 (by omega)
      have HL1 : Hid (((rowsV L).drop K).length = (L.length - K) * 1) := by show _ = _; rw [List.length_drop, length_rowsV, Nat.mul_one]
      have HL2 : Hid (((rowsV L).take K).length = K * 1) := by show _ = _; rw [List.length_take, length_rowsV]; omega
      have HE := Lib.hid (row_empty w2.drew w2.heap.size 26 1 (Nat.le_refl _))
      have HBA := Lib.hid ((Below.refl w2.heap.size w2).drew.alloc (Nat.le_refl _) (.cells #[] 26))
      clear HV hR2 hac
      go_upto_region 6 with (fail)
      go_region_law (first | (refine step_append_vals rfl (.tmp 26) (.tmp 29) 22 rfl w2.heap.size 26 i26 _ 1 24 Try.underlying22 hi26 z0 z1 z2 rfl (by decide) _ 0 [] (by rfl) HE.out _ (L.length - K) (cap - K) ((rowsV L).drop K) (by rfl) HL1.out (HV1.out.below HBA.out) (fun u hu => rowsV_one L u (List.mem_of_mem_drop hu)) (by unfold maxLen; omega) (by omega) HBA.out.size ?_; intro v4 w4 hrow4 hg4; have HB4 := Lib.hid (Below.own HBA.out HE.out (Nat.le_refl _) HBA.out.size hg4); rw [Nat.zero_add, List.nil_append] at hrow4; have HRow4 := Lib.hid hrow4; clear hrow4 hg4) | (refine step_append_vals rfl (.tmp 30) (.tmp 33) 22 rfl w2.heap.size 26 i26 _ 1 24 Try.underlying22 hi26 z0 z1 z2 rfl (by decide) _ (L.length - K) _ (by rfl) HRow4.out _ K cap ((rowsV L).take K) (by rfl) HL2.out (HV2.out.below HB4.out) (fun u hu => rowsV_one L u (List.mem_of_mem_take hu)) (by unfold maxLen; omega) (by omega) HB4.out.size ?_; intro v6 w6 hrow6 hg6; have HB6 := Lib.hid (Below.own HB4.out HRow4.out (Nat.le_refl _) HB4.out.size hg6); obtain ⟨a6, m6, c6, rfl⟩ := row_slice hrow6; have HRow6 := Lib.hid hrow6; clear hrow6 hg6))
      have hm6 := row_len' HRow6.out
      have hNK : L.length - K + K = L.length := by omega
      have HRow7 : Hid (w6.ownsRow w2.heap.size 26 1 (.slice a6 L.length c6) L.length ((rowsV L).drop K ++ (rowsV L).take K)) := by
        have := HRow6.out
        rw [hm6, hNK] at this
        exact this
      rw [hNK] at hm6
      subst hm6
      have hcell6 : w6.cell? ⟨ab, ao + K, none⟩ = some (rowV (at_ L K)) := (HB6.out.cell hab).trans c0
      unfold rowV at hcell6
      have HBr := Lib.hid ((HB1.out.trans (HB6.out.mono HB1.out.size)))
      have HOk6 := Lib.hid (HR2.out.ok.below HB6.out)
      have HH6 := Lib.hid (HR2.out.below HB6.out)
      clear HRow6 HB4 HRow4 HV1 HV2 HL1 HL2 HE HBA hs1 hs2 c0 HR2 hNK hq1 hq2
      generalize hxa : (at_ L K).a = xa at *
      generalize hxk : (at_ L K).keys.length = xl at *
      generalize hxc : (at_ L K).kc = xc at *
      have HXe : Hid (rowV (at_ L K) = .slice xa xl xc) := by
        show rowV _ = _
        unfold rowV
        rw [hxa, hxk, hxc]
      clear hxa hxk hxc
      have HRow8 := Lib.hid (HRow7.out.alloc (.cells #[.slice xa xl xc] 26))
      have HVC : Hid (IsVals (w6.alloc (.cells #[.slice xa xl xc] 26)) (some ⟨w6.heap.size, 0, none⟩) [.slice xa xl xc]) := fun _ => ⟨w6.heap.size, 0, rfl, by simp, fun k hk => by rw [Nat.zero_add, heap_cell (heap_alloc_new w6 _)]; simp⟩
      have HBC := Lib.hid (HB6.out.alloc HB6.out.size (.cells #[.slice xa xl xc] 26))
      go_upto_region 8 with (at_builtin; refine wpList_append_vals _ rfl (.tmp 35) (.tmp 40) 22 rfl w2.heap.size 26 i26 _ 1 24 Try.underlying22 hi26 z0 z1 z2 rfl (by decide) (.slice a6 L.length c6) L.length ((rowsV L).drop K ++ (rowsV L).take K) (by rfl) HRow8.out (some ⟨w6.heap.size, 0, none⟩) 1 1 [.slice xa xl xc] (by rfl) rfl HVC.out (fun u hu => by simp only [List.mem_cons, List.not_mem_nil, or_false] at hu; subst hu; rfl) (by unfold maxLen; omega) (by omega) HBC.out.size ?_; intro v9 w9 hrow9 hg9; have HB9 := Lib.hid (Below.own HBC.out HRow8.out (Nat.le_refl _) HBC.out.size hg9); obtain ⟨a9, m9, c9, rfl⟩ := row_slice hrow9; have HRow9 := Lib.hid hrow9; clear hrow9 hg9)
      have hm9 := row_len' HRow9.out
      subst hm9
      have hmx : (rowsV L).drop K ++ (rowsV L).take K ++ [.slice xa xl xc] = rowsV (mixR L K) := by
        rw [← HXe.out]
        unfold rowsV mixR
        rw [List.map_append, List.map_append, List.map_drop, List.map_take]; rfl
      have HOkw := Lib.hid (H.out.ok)
      have HB9w := Lib.hid (HB1.out.trans (HB9.out.mono HB1.out.size))
      have hok9 := HOkw.out.below HB9w.out
      have hrows2 : IsRows w9 a9 (mixR L K) := rows_own (n := L.length + 1) (by have := HRow9.out; rw [hmx] at this; exact this) (fun x hx => hok9 x ((mix_mem hKl x).1 hx))
      have hml := mix_len hKl
      have htm := mix_tot hKl
      have HA1 := Lib.hid (all_any (some ⟨ab, ao, none⟩) cap L w9 (by omega) (fun i hi => by have := len_le_tot (at_mem hi); omega) (by omega) (H.out.below HB9w.out))
      have HA2 := Lib.hid (fun W (hW : Below w9.heap.size w9 W) => all_any a9 c9 (mixR L K) W (by rw [hml]; omega) (fun i hi => by have := len_le_tot (at_mem hi); omega) (by omega) (hrows2.below hW))
      rw [hml] at HA2
      have HMm := Lib.hid (mix_mem hKl)
      have hl300 : tot L ≤ 300 := h300
      clear HRow9 HB9 HRow8 HVC HBC hmx HXe HRow7 HB6 HBr HOk6 HH6 hrows2 hok9 hcell6 hml
      go_wp2_with fail
      refine HA1.out.mono ?_
      clear HA1
      rintro e w3 ⟨hbad1, hgood1⟩
      by_cases hall : ∀ i, i < L.length → RisesK (at_ L i).keys
      · obtain ⟨out1, v1, rfl, hrow1, hris1, hmem1, hlen1, hb1⟩ := hgood1 hall
        obtain ⟨a1, n1, c1, rfl⟩ := row_slice hrow1
        have hn1 := row_len' hrow1
        subst hn1
        have HA3 := Lib.hid (HA2.out w3 hb1)
        have HB3 := Lib.hid (HB9w.out.trans (hb1.mono HB9w.out.size))
        have HRow1 := Lib.hid hrow1
        have HP1 : Hid (Rises (keysOf out1) ∧ ∀ k, k ∈ keysOf out1 ↔ HasK L k) := ⟨hris1, hmem1⟩
        have HAll2 := Lib.hid (rise_same (fun x => (HMm.out x).symm) hall)
        clear HA2 hbad1 hgood1 hrow1 hris1 hmem1 hb1 hall
        go_wp2_with fail
        refine HA3.out.mono ?_
        clear HA3
        rintro e w4 ⟨_, hgood2⟩
        obtain ⟨out2, v2, rfl, hrow2, hris2, hmem2, hlen2, hb2⟩ := hgood2 HAll2.out
        obtain ⟨a2, n2, c2, rfl⟩ := row_slice hrow2
        have hn2 := row_len' hrow2
        subst hn2
        have heq : out1 = out2 := keysOf_inj (rises_unique HP1.out.1 hris2 (fun k => (HP1.out.2 k).trans ((hasK_same HMm.out k).symm.trans (hmem2 k).symm)))
        have HSm := Lib.hid (same_yes a1 a2 c1 c2 out1.length out2.length out1 out2 w4 rfl rfl (by omega) (by omega) ((row_strs HRow1.out).below hb2) (row_strs hrow2) heq)
        have HB4 := Lib.hid (HB3.out.trans (hb2.mono HB3.out.size))
        clear hgood2 hrow2 hris2 hmem2 hb2 heq HP1 HRow1
        go_wp2_with fail
        refine HSm.out.mono ?_
        clear HSm
        rintro e w5 ⟨rfl, hb5⟩
        have HB5 := Lib.hid (HB4.out.trans (hb5.mono HB4.out.size))
        clear hb5
        go_wp2_with fail
        go_ret
        exact ⟨rfl, HB5.out⟩
      · obtain ⟨rfl, hb1⟩ := hbad1 (bad_of hall)
        have HA3 := Lib.hid (HA2.out w3 hb1)
        have HB3 := Lib.hid (HB9w.out.trans (hb1.mono HB9w.out.size))
        have HAll2 : Hid (∃ i, i < (mixR L K).length ∧ ¬ RisesK (at_ (mixR L K) i).keys) := bad_of (fun h => hall (rise_same HMm.out h))
        clear HA2 hbad1 hgood1 hb1 hall
        go_wp2_with fail
        refine HA3.out.mono ?_
        clear HA3
        rintro e w4 ⟨hbad2, _⟩
        obtain ⟨rfl, hb2⟩ := hbad2 HAll2.out
        have HSm := Lib.hid (same_yes none none 0 0 0 0 [] [] w4 rfl rfl (by omega) (by omega) (fun h => absurd h (by simp)) (fun h => absurd h (by simp)) rfl)
        have HB4 := Lib.hid (HB3.out.trans (hb2.mono HB3.out.size))
        clear hbad2 hb2
        go_wp2_with fail
        refine HSm.out.mono ?_
        clear HSm
        rintro e w5 ⟨rfl, hb5⟩
        have HB5 := Lib.hid (HB4.out.trans (hb5.mono HB4.out.size))
        clear hb5
        go_wp2_with fail
        go_ret
        exact ⟨rfl, HB5.out⟩
end Go.Proofs.Ytacjbgmnoiimbaa
