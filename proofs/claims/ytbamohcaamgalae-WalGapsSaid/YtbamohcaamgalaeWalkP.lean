/- A record written: walked. -/
import Derived.Test.YtbamohcaamgalaeWalkO
namespace Go.Proofs.Ytbamohcaamgalae
set_option linter.unusedVariables false
set_option linter.unusedSimpArgs false
open Go.RowKit

theorem put_at (a : Option Addr) (cap n : Nat) (l : List UInt8) (v : Nat) (w : World) (hn : l.length = n) (hl : n ≤ 1000000000) (hc : n ≤ cap) (hv : v < 18446744073709551616) (h : IsBytes w a l) :
    Calls Try.prog 21 #[.slice a n cap, .int .u64 v] w fun e w' => ∃ v', e = .returned v' ∧ w'.ownsRow w.heap.size 5 1 v' (l ++ uv v).length (bytesV (l ++ uv v)) ∧ Below w.heap.size w w' := by
  subst hn; exact put_any a cap l v w hl hc hv h
theorem refput_at (a : Option Addr) (cap n : Nat) (l : List UInt8) (v : Nat) (w : World) (hn : l.length = n) (hl : n ≤ 1000000000) (hc : n ≤ cap) (hv : v < 18446744073709551616) (h : IsBytes w a l) :
    Calls Try.prog 26 #[.slice a n cap, .int .u64 v] w fun e w' => ∃ v', e = .returned v' ∧ w'.ownsRow w.heap.size 5 1 v' (l ++ uv v).length (bytesV (l ++ uv v)) ∧ Below w.heap.size w w' := by
  subst hn; exact refput_any a cap l v w hl hv h
theorem puttext_at (a : Option Addr) (cap n : Nat) (l : List UInt8) (s : ByteArray) (w : World) (hn : l.length = n) (hl : n ≤ 1000000000) (hc : n ≤ cap) (hs : s.size ≤ 1000000000) (h : IsBytes w a l) :
    Calls Try.prog 22 #[.slice a n cap, .string s] w fun e w' => ∃ v', e = .returned v' ∧ w'.ownsRow w.heap.size 5 1 v' (l ++ textE s.data.toList).length (bytesV (l ++ textE s.data.toList)) ∧ Below w.heap.size w w' := by
  subst hn; exact puttext_any a cap l s w hl hc hs h
theorem refputtext_at (a : Option Addr) (cap n : Nat) (l : List UInt8) (s : ByteArray) (w : World) (hn : l.length = n) (hl : n ≤ 1000000000) (hc : n ≤ cap) (hs : s.size ≤ 1000000000) (h : IsBytes w a l) :
    Calls Try.prog 27 #[.slice a n cap, .string s] w fun e w' => ∃ v', e = .returned v' ∧ w'.ownsRow w.heap.size 5 1 v' (l ++ textE s.data.toList).length (bytesV (l ++ textE s.data.toList)) ∧ Below w.heap.size w w' := by
  subst hn; exact refputtext_any a cap l s w hl hs h
/-- behind k entries -/
def recK (rev : Nat) (es : List Ent) (k : Nat) : List UInt8 := uv rev ++ uv es.length ++ bodyB (es.take k)
theorem recK_succ (rev : Nat) (es : List Ent) (k : Nat) (h : k < es.length) : recK rev es (k + 1) = recK rev es k ++ flagB (es.getD k default) ++ textE (es.getD k default).key.data.toList := by
  have e : es.take (k + 1) = es.take k ++ [es.getD k default] := by
    rw [List.take_succ_eq_append_getElem h, List.getD_eq_getElem?_getD, List.getElem?_eq_getElem h]; rfl
  rw [recK, e, bodyB, List.flatMap_append, recK, bodyB]
  simp [entB]
theorem recK_all (rev : Nat) (es : List Ent) : recK rev es es.length = recordB rev es := by rw [recK, List.take_length]; rfl
theorem recK_len (rev : Nat) (es : List Ent) (hr : rev < 18446744073709551616) (hl : es.length ≤ 400) (hk : ∀ i, (es.getD i default).key.size ≤ 200) (k : Nat) (h : k ≤ es.length) : (recK rev es k).length ≤ 20 + 211 * k := by
  induction k with
  | zero =>
    have h1 := uv_len64 rev hr
    have h2 := uv_len64 es.length (by omega)
    rw [recK, List.length_append, List.length_append]
    simp [bodyB]; omega
  | succ k ih =>
    have := ih (by omega)
    have h1 := hk k
    have h2 := uv_len64 (es.getD k default).key.data.toList.length (by rw [size_data]; omega)
    rw [recK_succ rev es k (by omega), List.length_append, List.length_append]
    have h3 : (flagB (es.getD k default)).length = 1 := rfl
    rw [h3, textE, List.length_append]
    rw [size_data] at h2 ⊢
    omega
theorem one_val (w : World) (x : Value) (t : TypeId) : IsVals (w.alloc (.cells #[x] t)) (some ⟨w.heap.size, 0, none⟩) [x] := by
  intro _
  refine ⟨w.heap.size, 0, rfl, by simp, fun k hk => ?_⟩
  rw [cell_of_row _ _ _ _ _ _ (heap_alloc_new w _)]
  match k, hk with
  | 0, _ => rfl
def kindOf (x : Ent) : UInt8 := if x.del then 1 else 0
theorem flagB_kind (x : Ent) : flagB x = [kindOf x] := rfl
/-- what encoding answers -/
def EncIs (rev : Nat) (es : List Ent) (w : World) (e : Ending) (w' : World) : Prop :=
  Below w.heap.size w w' ∧ (Right rev es → ∃ v, e = .returned (.tuple #[v, .int .i64 0]) ∧ w'.ownsRow w.heap.size 5 1 v (8 + (recordB rev es).length) (bytesV (seal_ (recordB rev es)))) ∧
    (¬ Right rev es → e = .returned (.tuple #[.slice none 0 0, .int .i64 9]))
set_option maxRecDepth 100000 in
set_option maxHeartbeats 2000000 in
theorem encode_any (rev : Nat) (a : Option Addr) (cap : Nat) (es : List Ent) (w : World) (hr : rev < 18446744073709551616) (hl : es.length ≤ 400) (hk : ∀ i, (es.getD i default).key.size ≤ 200) (he : ∀ i, EntOk (es.getD i default)) (h : IsEnts w a es) :
    Calls Try.prog 9 #[comV rev a es.length cap] w (EncIs rev es w) := by
  obtain ⟨i5, hi5, hy0, hy1, hy2⟩ := info_parts Try.info5
  unfold comV
  have hB0 := (Below.refl w.heap.size w).alloc (Nat.le_refl _) (.cells #[.int .u64 (rev : Int), .slice a es.length cap] 25)
  have hbox := heap_alloc_new w (.cells #[.int .u64 (rev : Int), .slice a es.length cap] 25)
  have HRight := Lib.hid (right_any rev a cap es (w.alloc (.cells #[.int .u64 (rev : Int), .slice a es.length cap] 25)) (by omega) hr he (h.below hB0))
  unfold comV at HRight
  have H := Lib.hid (h.below hB0)
  have HK := Lib.hid hk
  have HW := Lib.hid h
  have hLen := recK_len rev es hr hl hk
  have HLen := Lib.hid hLen
  have hs0 : w.heap.size < (w.alloc (.cells #[.int .u64 (rev : Int), .slice a es.length cap] 25)).heap.size := by simp
  clear h he hk hLen
  go_enter Try.func9, Try.ntmps9
  go_wp2_with fail
  refine HRight.out.mono ?_
  clear HRight
  rintro e w1 ⟨⟨r, rfl, hrr⟩, hb1⟩
  have hB1 := hB0.trans (hb1.mono hB0.size)
  have hbox1 := (hb1.block w.heap.size hs0).trans hbox
  have H1 := Lib.hid (H.out.below hb1)
  cases r with
  | false =>
    have HN : Hid (¬ Right rev es) := fun h => by have := hrr.2 h; cases this
    clear hrr hb1
    go_wp2_with fail
    go_ret2
    exact ⟨hB1, fun h => absurd h HN.out, fun _ => rfl⟩
  | true =>
    have HY : Hid (Right rev es) := hrr.1 rfl
    clear hrr hb1 hB0 hbox hs0 H
    have hS0 : w1.drew.cell? ⟨w.heap.size, 0, none⟩ = some (.int .u64 (rev : Int)) ∧ w1.drew.cell? ⟨w.heap.size, 1, none⟩ = some (.slice a es.length cap) := ⟨heap_cell (w := w1.drew) hbox1 0, heap_cell (w := w1.drew) hbox1 1⟩
    have hwn : IntKind.u64.wrap (es.length : Int) = (es.length : Int) := IntWalk.u64_in _ (by omega)
    have hu1 := uv_len64 rev hr
    have hu2 := uv_len64 es.length (by omega)
    go_upto_region 3 with (fail)
    go_cut [4] (fun v wc => wc.ownsRow w.heap.size 5 1 v (recK rev es 0).length (bytesV (recK rev es 0)) ∧ Below w.heap.size w wc ∧ wc.heap[w.heap.size]? = some (.cells #[.int .u64 (rev : Int), .slice a es.length cap] 25 (0, 0)) ∧ Hid (IsEnts wc a es))
    case first =>
      have hbox0 : w1.drew.heap[w.heap.size]? = some (.cells #[.int .u64 (rev : Int), .slice a es.length cap] 25 (0, 0)) := hbox1
      have hBd := hB1.drew
      have HEd : Hid (IsEnts w1.drew a es) := H1.out
      refine wp_region_noPanic ?_
      refine wp_region_held_drew (S := fun w' => w'.cell? ⟨w.heap.size, 0, none⟩ = some (.int .u64 (rev : Int)) ∧ w'.cell? ⟨w.heap.size, 1, none⟩ = some (.slice a es.length cap)) (by kernel_rfl) hS0 (fun hHeld => ?_)
      clear hS0 hbox1 hB1
      generalize w1.drew = W0 at *
      refine take_at 0 11 (v := ?_) rfl rfl (by kernel_rfl) (by kernel_rfl) (by kernel_rfl) (fun _ _ _ h => h) (Or.inl ⟨by rfl, ?_⟩) hHeld ?_
      rotate_left
      · (intro w hSw; (try dsimp only at hSw); go_simp; try with_reducible rfl)
      try simp only [List.setIfInBounds_toArray, List.set_cons_zero, List.set_cons_succ]
      refine take_at 1 12 (v := ?_) rfl rfl (by kernel_rfl) (by kernel_rfl) (by kernel_rfl) (fun _ _ _ h => h) (Or.inl ⟨by rfl, ?_⟩) hHeld ?_
      rotate_left
      · (intro w hSw; (try dsimp only at hSw); go_simp; try with_reducible rfl)
      try simp only [List.setIfInBounds_toArray, List.set_cons_zero, List.set_cons_succ]
      refine take_at 3 14 (v := ?_) rfl rfl (by kernel_rfl) (by kernel_rfl) (by kernel_rfl) (fun _ _ _ h => h) (Or.inl ⟨by rfl, ?_⟩) hHeld ?_
      rotate_left
      · (intro w hSw; (try dsimp only at hSw); go_simp; try with_reducible rfl)
      try simp only [List.setIfInBounds_toArray, List.set_cons_zero, List.set_cons_succ]
      refine take_at 4 15 (v := ?_) rfl rfl (by kernel_rfl) (by kernel_rfl) (by kernel_rfl) (fun _ _ _ h => h) (Or.inl ⟨by rfl, ?_⟩) hHeld ?_
      rotate_left
      · (intro w hSw; (try dsimp only at hSw); go_simp; try with_reducible rfl)
      try simp only [List.setIfInBounds_toArray, List.set_cons_zero, List.set_cons_succ]
      refine take_at 5 16 (v := ?_) rfl rfl (by kernel_rfl) (by kernel_rfl) (by kernel_rfl) (fun _ _ _ h => h) (Or.inl ⟨by rfl, ?_⟩) hHeld ?_
      rotate_left
      · (intro w hSw; (try dsimp only at hSw); go_simp; try with_reducible rfl)
      try simp only [List.setIfInBounds_toArray, List.set_cons_zero, List.set_cons_succ]
      refine take_at 6 17 (v := ?_) rfl rfl (by kernel_rfl) (by kernel_rfl) (by kernel_rfl) (fun _ _ _ h => h) (Or.inl ⟨by rfl, ?_⟩) hHeld ?_
      rotate_left
      · (intro w hSw; (try dsimp only at hSw); go_simp; try with_reducible rfl)
      try simp only [List.setIfInBounds_toArray, List.set_cons_zero, List.set_cons_succ]
      refine only_at 2 13 (by kernel_rfl) rfl rfl (by rfl) (fun K hK => ?_)
      go_simp
      refine (put_at none 0 0 [] rev W0 rfl (by decide) (Nat.le_refl _) hr (fun h => by cases h)).mono ?_
      rintro e W1 ⟨v1, rfl, hown1, hb1⟩
      rw [List.nil_append] at hown1
      have hB1 := hBd.trans (hb1.mono hBd.size)
      have hbox1 := (hb1.block w.heap.size (heap_lt hbox0)).trans hbox0
      have HE1 := Lib.hid (HEd.out.below hb1)
      have hS1 : W1.cell? ⟨w.heap.size, 0, none⟩ = some (.int .u64 (rev : Int)) ∧ W1.cell? ⟨w.heap.size, 1, none⟩ = some (.slice a es.length cap) := ⟨heap_cell hbox1 0, heap_cell hbox1 1⟩
      obtain ⟨a1, m1, c1, rfl⟩ := row_slice hown1
      have hm1 := row_len' hown1
      have HB1 := Lib.hid (row_bytes' hown1)
      have hc1 := row_cap1 hown1
      rw [← hm1] at hc1 hu1
      have HM1 := Lib.hid hm1
      have hlow1 := hBd.size
      clear hown1 hm1 hb1
      go_wp2_with fail
      refine hK.out _ _ hS1 (fun hHeld2 => ?_)
      clear hK K hHeld
      have hHeld := hHeld2
      clear hHeld2
      try simp only [Act.put, List.setIfInBounds_toArray, List.set_cons_zero, List.set_cons_succ]
      refine only_at 7 18 (by kernel_rfl) rfl rfl (by rfl) (fun K hK => ?_)
      go_simp
      try rw [hwn]
      refine (put_at a1 c1 m1 (uv rev) es.length W1 HM1.out.symm (by omega) hc1 (by omega) HB1.out).mono ?_
      rintro e W2 ⟨v2, rfl, hown2, hb2⟩
      have hB2 := hB1.trans (hb2.mono hB1.size)
      have hbox2 := (hb2.block w.heap.size (heap_lt hbox1)).trans hbox1
      have HE2 := Lib.hid (HE1.out.below hb2)
      have hS2 : W2.cell? ⟨w.heap.size, 0, none⟩ = some (.int .u64 (rev : Int)) ∧ W2.cell? ⟨w.heap.size, 1, none⟩ = some (.slice a es.length cap) := ⟨heap_cell hbox2 0, heap_cell hbox2 1⟩
      have HRow2 := Lib.hid (row_lower hown2 hB1.size)
      clear hown2 hb2
      go_wp2_with fail
      refine hK.out _ _ hS2 (fun hHeld2 => ?_)
      clear hK K hHeld
      have hHeld := hHeld2
      clear hHeld2
      try simp only [Act.put, List.setIfInBounds_toArray, List.set_cons_zero, List.set_cons_succ]
      refine take_at 8 4 (v := ?_) rfl rfl (by kernel_rfl) (by kernel_rfl) (by kernel_rfl) (fun _ _ _ h => h) (Or.inl ⟨by rfl, ?_⟩) hHeld ?_
      rotate_left
      · (intro w hSw; (try dsimp only at hSw); go_simp; try with_reducible rfl)
      try simp only [List.setIfInBounds_toArray, List.set_cons_zero, List.set_cons_succ]
      refine wpAnyH_done (by kernel_rfl) ?_ _
      refine NoPanic.normal ?_
      go_wp2_with fail
      go_meet
      case rel =>
        refine ⟨?_, hB2, hbox2, HE2⟩
        have e : recK rev es 0 = uv rev ++ uv es.length := by rw [recK]; simp [bodyB]
        rw [e]
        exact HRow2.out
    case rest =>
      obtain ⟨hrow, hB, hbx, HE⟩ := hcut
      clear hS0 hwn hu1 hu2 hB1 hbox1 H1
      have b1 := heap_cell hbx 1
      simp at b1
      go_wp2_with fail
      go_loopw [4, 22] (fun v i wr => ∃ k : Nat, k ≤ es.length ∧ i = .int .i64 k ∧ wr.ownsRow w.heap.size 5 1 v (recK rev es k).length (bytesV (recK rev es k)) ∧ Hid (Below w.heap.size w wr ∧ wr.heap[w.heap.size]? = some (.cells #[.int .u64 (rev : Int), .slice a es.length cap] 25 (0, 0)) ∧ IsEnts wr a es)) (fun _ i _ => es.length - (intOf i).toNat)
      case atStart => exact ⟨0, Nat.zero_le _, rfl, hrow, hB, hbx, HE.out⟩
      case round =>
        clear hrow hB hbx HE b1
        obtain ⟨k, hkl, rfl, hrow, hst⟩ := hrel
        obtain ⟨hB, hbx, hE⟩ := hst.out
        have HE := Lib.hid hE
        clear hst hE
        obtain ⟨av, mv, cv, rfl⟩ := row_slice hrow
        have hmv := row_len' hrow
        subst hmv
        by_cases hlt : k < es.length
        · obtain ⟨b, off, hab, hbb, hc⟩ := (HW.out.below hB) (by omega)
          subst hab
          obtain ⟨c0, c1, c2⟩ := hc k hlt
          have hdk : decide ((k : Int) < (es.length : Int)) = true := by simp; omega
          have hks := HK.out k
          have hlen := HLen.out k hkl
          have HSu := Lib.hid (recK_succ rev es k hlt)
          obtain ⟨x, hx⟩ : ∃ x, es.getD k default = x := ⟨_, rfl⟩
          rw [hx] at c0 c1 c2 hks HSu
          obtain ⟨xk, xr, xd⟩ := x
          simp only at c0 c1 c2 hks HSu
          clear hc hx
          have hal := heap_alloc_new wr (.cells #[.string xk, .int .u64 (xr : Int), .bool xd] 48)
          have hrow1 := hrow.alloc (.cells #[.string xk, .int .u64 (xr : Int), .bool xd] 48)
          have hB1 := hB.alloc hB.size (.cells #[.string xk, .int .u64 (xr : Int), .bool xd] 48)
          have hbx1 := (Below.heap_alloc _ (.cells #[.string xk, .int .u64 (xr : Int), .bool xd] 48) _ (heap_lt hbx)).trans hbx
          generalize hRK : recK rev es k = RK at *
          generalize hRK2 : recK rev es (k + 1) = RK2 at *
          have HRK2 := Lib.hid hRK2
          clear hRK hRK2
          have HX1 := Lib.hid hal
          have HRow1 := Lib.hid hrow1
          have HB1 := Lib.hid hB1
          have HBx1 := Lib.hid hbx1
          have HOne := Lib.hid (row_vals hrow)
          clear hal hrow1 hB1 hbx1 hrow
          cases xd with
          | true =>
            have HKd : Hid (flagB (⟨xk, xr, true⟩ : Ent) = [1]) := rfl
            go_upto_region 10 with (fail)
            have hX0 : (wr.alloc (.cells #[.string xk, .int .u64 (xr : Int), .bool true] 48)).drew.heap[wr.heap.size]? = some (.cells #[.string xk, .int .u64 (xr : Int), .bool true] 48 (0, 0)) := HX1.out
            have hrow0 : (wr.alloc (.cells #[.string xk, .int .u64 (xr : Int), .bool true] 48)).drew.ownsRow w.heap.size 5 1 (.slice av RK.length cv) RK.length (bytesV RK) := HRow1.out
            have hBd := HB1.out.drew
            have hbx0 : (wr.alloc (.cells #[.string xk, .int .u64 (xr : Int), .bool true] 48)).drew.heap[w.heap.size]? = some (.cells #[.int .u64 (rev : Int), .slice (some ⟨b, off, none⟩) es.length cap] 25 (0, 0)) := HBx1.out
            have hS0 : (wr.alloc (.cells #[.string xk, .int .u64 (xr : Int), .bool true] 48)).drew.cell? ⟨wr.heap.size, 0, none⟩ = some (.string xk) := heap_cell hX0 0
            refine wp_region_held_drew (S := fun w' => w'.cell? ⟨wr.heap.size, 0, none⟩ = some (.string xk)) (by kernel_rfl) hS0 (fun hHeld => ?_)
            clear hS0
            generalize (wr.alloc (.cells #[.string xk, .int .u64 (xr : Int), .bool true] 48)).drew = W0 at *
            refine take_at 0 28 (v := ?_) rfl rfl (by kernel_rfl) (by kernel_rfl) (by kernel_rfl) (fun _ _ _ h => h) (Or.inl ⟨by rfl, ?_⟩) hHeld ?_
            rotate_left
            · (intro w hSw; (try dsimp only at hSw); go_simp; try with_reducible rfl)
            try simp only [List.setIfInBounds_toArray, List.set_cons_zero, List.set_cons_succ]
            refine take_at 1 29 (v := ?_) rfl rfl (by kernel_rfl) (by kernel_rfl) (by kernel_rfl) (fun _ _ _ h => h) (Or.inl ⟨by rfl, ?_⟩) hHeld ?_
            rotate_left
            · (intro w hSw; (try dsimp only at hSw); go_simp; try with_reducible rfl)
            try simp only [List.setIfInBounds_toArray, List.set_cons_zero, List.set_cons_succ]
            refine take_at 4 32 (v := ?_) rfl rfl (by kernel_rfl) (by kernel_rfl) (by kernel_rfl) (fun _ _ _ h => h) (Or.inl ⟨by rfl, ?_⟩) hHeld ?_
            rotate_left
            · (intro w hSw; (try dsimp only at hSw); go_simp; try with_reducible rfl)
            try simp only [List.setIfInBounds_toArray, List.set_cons_zero, List.set_cons_succ]
            refine take_at 5 33 (v := ?_) rfl rfl (by kernel_rfl) (by kernel_rfl) (by kernel_rfl) (fun _ _ _ h => h) (Or.inl ⟨by rfl, ?_⟩) hHeld ?_
            rotate_left
            · (intro w hSw; (try dsimp only at hSw); go_simp; try with_reducible rfl)
            try simp only [List.setIfInBounds_toArray, List.set_cons_zero, List.set_cons_succ]
            refine only_at 2 30 (by kernel_rfl) rfl rfl (by rfl) (fun K hK => ?_)
            go_simp
            have hone := one_val W0 (.int .u8 1) 5
            have hX1 := (Below.heap_alloc W0 (.cells #[.int .u8 1] 5) _ (heap_lt hX0)).trans hX0
            have hrow1 := hrow0.alloc (.cells #[.int .u8 1] 5)
            have hB1 := hBd.alloc hBd.size (.cells #[.int .u8 1] 5)
            have hbx1 := (Below.heap_alloc W0 (.cells #[.int .u8 1] 5) _ (heap_lt hbx0)).trans hbx0
            refine hK.out _ _ (heap_cell hX1 0) (fun hHeld2 => ?_)
            clear hK K hHeld
            have hHeld := hHeld2
            clear hHeld2
            try simp only [Act.put, List.setIfInBounds_toArray, List.set_cons_zero, List.set_cons_succ]
            refine only_at 3 31 (by kernel_rfl) rfl rfl (by rfl) (fun K hK => ?_)
            refine wp_append_vals _ (.tmp 28) (.tmp 30) 28 rfl w.heap.size 5 i5 _ 1 1 Try.underlying28 hi5 hy0 hy1 hy2 rfl (by decide) _ RK.length _ rfl hrow1 (some ⟨W0.heap.size, 0, none⟩) 1 1 [.int .u8 1] rfl rfl hone (by intro u hu; simp at hu; subst hu; rfl) (by unfold maxLen; omega) (by omega) hB1.size ?_
            intro v2 w2 hrow2 hg2
            have hX2 := heap_kept hrow1 hX1 (by decide) hg2
            have hbx2 := heap_kept hrow1 hbx1 (by decide) hg2
            have hB2 := Below.own hB1 hrow1 (Nat.le_refl _) hB1.size hg2
            have hrow2' : w2.ownsRow w.heap.size 5 1 v2 (RK.length + 1) (bytesV (RK ++ [1])) := by rw [bytesV_append]; exact hrow2
            obtain ⟨a2, m2, c2', rfl⟩ := row_slice hrow2'
            have hm2 := row_len' hrow2'
            have HB2 := Lib.hid (row_bytes' hrow2')
            have hc2' := row_cap1 hrow2'
            rw [← hm2] at hc2'
            have hl2 : m2 ≤ 1000000 := by omega
            have HM2 := Lib.hid hm2
            clear hrow1 hg2 hrow2 hone hm2
            refine hK.out _ _ (heap_cell hX2 0) (fun hHeld2 => ?_)
            clear hK K hHeld
            have hHeld := hHeld2
            clear hHeld2
            try simp only [Act.put, List.setIfInBounds_toArray, List.set_cons_zero, List.set_cons_succ]
            refine only_at 6 34 (by kernel_rfl) rfl rfl (by rfl) (fun K hK => ?_)
            go_simp
            refine (puttext_at a2 c2' m2 (RK ++ [1]) xk w2 (by rw [HM2.out, List.length_append]; rfl) (by omega) hc2' (by omega) HB2.out).mono ?_
            rintro e w3 ⟨v3, rfl, hown3, hb3⟩
            have hB3 := hB2.trans (hb3.mono hB2.size)
            have hbx3 := (hb3.block w.heap.size (heap_lt hbx2)).trans hbx2
            have hX3 := (hb3.block wr.heap.size (heap_lt hX2)).trans hX2
            have HRow3 := Lib.hid (row_lower hown3 hB2.size)
            clear hown3 hb3 hrow2'
            go_wp2_with fail
            refine hK.out _ _ (heap_cell hX3 0) (fun hHeld2 => ?_)
            clear hK K hHeld
            have hHeld := hHeld2
            clear hHeld2
            try simp only [Act.put, List.setIfInBounds_toArray, List.set_cons_zero, List.set_cons_succ]
            refine take_at 7 4 (v := ?_) rfl rfl (by kernel_rfl) (by kernel_rfl) (by kernel_rfl) (fun _ _ _ h => h) (Or.inl ⟨by rfl, ?_⟩) hHeld ?_
            rotate_left
            · (intro w hSw; (try dsimp only at hSw); go_simp; try with_reducible rfl)
            try simp only [List.setIfInBounds_toArray, List.set_cons_zero, List.set_cons_succ]
            refine wpAnyH_done (by kernel_rfl) ?_ _
            go_wp2_with fail
            go_roundw
            case rel =>
              refine ⟨k + 1, by omega, by go_num, ?_, hB3, hbx3, HW.out.below hB3⟩
              have e : RK ++ [1] ++ textE xk.data.toList = recK rev es (k + 1) := by rw [HRK2.out, HSu.out]; rfl
              rw [← e]
              exact HRow3.out
            case measure => simp [intOf]; omega
          | false =>
            have HKd : Hid (flagB (⟨xk, xr, false⟩ : Ent) = [0]) := rfl
            go_upto_region 10 with (fail)
            have hX0 : (wr.alloc (.cells #[.string xk, .int .u64 (xr : Int), .bool false] 48)).drew.heap[wr.heap.size]? = some (.cells #[.string xk, .int .u64 (xr : Int), .bool false] 48 (0, 0)) := HX1.out
            have hrow0 : (wr.alloc (.cells #[.string xk, .int .u64 (xr : Int), .bool false] 48)).drew.ownsRow w.heap.size 5 1 (.slice av RK.length cv) RK.length (bytesV RK) := HRow1.out
            have hBd := HB1.out.drew
            have hbx0 : (wr.alloc (.cells #[.string xk, .int .u64 (xr : Int), .bool false] 48)).drew.heap[w.heap.size]? = some (.cells #[.int .u64 (rev : Int), .slice (some ⟨b, off, none⟩) es.length cap] 25 (0, 0)) := HBx1.out
            have hS0 : (wr.alloc (.cells #[.string xk, .int .u64 (xr : Int), .bool false] 48)).drew.cell? ⟨wr.heap.size, 0, none⟩ = some (.string xk) := heap_cell hX0 0
            refine wp_region_held_drew (S := fun w' => w'.cell? ⟨wr.heap.size, 0, none⟩ = some (.string xk)) (by kernel_rfl) hS0 (fun hHeld => ?_)
            clear hS0
            generalize (wr.alloc (.cells #[.string xk, .int .u64 (xr : Int), .bool false] 48)).drew = W0 at *
            refine take_at 0 28 (v := ?_) rfl rfl (by kernel_rfl) (by kernel_rfl) (by kernel_rfl) (fun _ _ _ h => h) (Or.inl ⟨by rfl, ?_⟩) hHeld ?_
            rotate_left
            · (intro w hSw; (try dsimp only at hSw); go_simp; try with_reducible rfl)
            try simp only [List.setIfInBounds_toArray, List.set_cons_zero, List.set_cons_succ]
            refine take_at 1 29 (v := ?_) rfl rfl (by kernel_rfl) (by kernel_rfl) (by kernel_rfl) (fun _ _ _ h => h) (Or.inl ⟨by rfl, ?_⟩) hHeld ?_
            rotate_left
            · (intro w hSw; (try dsimp only at hSw); go_simp; try with_reducible rfl)
            try simp only [List.setIfInBounds_toArray, List.set_cons_zero, List.set_cons_succ]
            refine take_at 4 32 (v := ?_) rfl rfl (by kernel_rfl) (by kernel_rfl) (by kernel_rfl) (fun _ _ _ h => h) (Or.inl ⟨by rfl, ?_⟩) hHeld ?_
            rotate_left
            · (intro w hSw; (try dsimp only at hSw); go_simp; try with_reducible rfl)
            try simp only [List.setIfInBounds_toArray, List.set_cons_zero, List.set_cons_succ]
            refine take_at 5 33 (v := ?_) rfl rfl (by kernel_rfl) (by kernel_rfl) (by kernel_rfl) (fun _ _ _ h => h) (Or.inl ⟨by rfl, ?_⟩) hHeld ?_
            rotate_left
            · (intro w hSw; (try dsimp only at hSw); go_simp; try with_reducible rfl)
            try simp only [List.setIfInBounds_toArray, List.set_cons_zero, List.set_cons_succ]
            refine only_at 2 30 (by kernel_rfl) rfl rfl (by rfl) (fun K hK => ?_)
            go_simp
            have hone := one_val W0 (.int .u8 0) 5
            have hX1 := (Below.heap_alloc W0 (.cells #[.int .u8 0] 5) _ (heap_lt hX0)).trans hX0
            have hrow1 := hrow0.alloc (.cells #[.int .u8 0] 5)
            have hB1 := hBd.alloc hBd.size (.cells #[.int .u8 0] 5)
            have hbx1 := (Below.heap_alloc W0 (.cells #[.int .u8 0] 5) _ (heap_lt hbx0)).trans hbx0
            refine hK.out _ _ (heap_cell hX1 0) (fun hHeld2 => ?_)
            clear hK K hHeld
            have hHeld := hHeld2
            clear hHeld2
            try simp only [Act.put, List.setIfInBounds_toArray, List.set_cons_zero, List.set_cons_succ]
            refine only_at 3 31 (by kernel_rfl) rfl rfl (by rfl) (fun K hK => ?_)
            refine wp_append_vals _ (.tmp 28) (.tmp 30) 28 rfl w.heap.size 5 i5 _ 1 1 Try.underlying28 hi5 hy0 hy1 hy2 rfl (by decide) _ RK.length _ rfl hrow1 (some ⟨W0.heap.size, 0, none⟩) 1 1 [.int .u8 0] rfl rfl hone (by intro u hu; simp at hu; subst hu; rfl) (by unfold maxLen; omega) (by omega) hB1.size ?_
            intro v2 w2 hrow2 hg2
            have hX2 := heap_kept hrow1 hX1 (by decide) hg2
            have hbx2 := heap_kept hrow1 hbx1 (by decide) hg2
            have hB2 := Below.own hB1 hrow1 (Nat.le_refl _) hB1.size hg2
            have hrow2' : w2.ownsRow w.heap.size 5 1 v2 (RK.length + 1) (bytesV (RK ++ [0])) := by rw [bytesV_append]; exact hrow2
            obtain ⟨a2, m2, c2', rfl⟩ := row_slice hrow2'
            have hm2 := row_len' hrow2'
            have HB2 := Lib.hid (row_bytes' hrow2')
            have hc2' := row_cap1 hrow2'
            rw [← hm2] at hc2'
            have hl2 : m2 ≤ 1000000 := by omega
            have HM2 := Lib.hid hm2
            clear hrow1 hg2 hrow2 hone hm2
            refine hK.out _ _ (heap_cell hX2 0) (fun hHeld2 => ?_)
            clear hK K hHeld
            have hHeld := hHeld2
            clear hHeld2
            try simp only [Act.put, List.setIfInBounds_toArray, List.set_cons_zero, List.set_cons_succ]
            refine only_at 6 34 (by kernel_rfl) rfl rfl (by rfl) (fun K hK => ?_)
            go_simp
            refine (puttext_at a2 c2' m2 (RK ++ [0]) xk w2 (by rw [HM2.out, List.length_append]; rfl) (by omega) hc2' (by omega) HB2.out).mono ?_
            rintro e w3 ⟨v3, rfl, hown3, hb3⟩
            have hB3 := hB2.trans (hb3.mono hB2.size)
            have hbx3 := (hb3.block w.heap.size (heap_lt hbx2)).trans hbx2
            have hX3 := (hb3.block wr.heap.size (heap_lt hX2)).trans hX2
            have HRow3 := Lib.hid (row_lower hown3 hB2.size)
            clear hown3 hb3 hrow2'
            go_wp2_with fail
            refine hK.out _ _ (heap_cell hX3 0) (fun hHeld2 => ?_)
            clear hK K hHeld
            have hHeld := hHeld2
            clear hHeld2
            try simp only [Act.put, List.setIfInBounds_toArray, List.set_cons_zero, List.set_cons_succ]
            refine take_at 7 4 (v := ?_) rfl rfl (by kernel_rfl) (by kernel_rfl) (by kernel_rfl) (fun _ _ _ h => h) (Or.inl ⟨by rfl, ?_⟩) hHeld ?_
            rotate_left
            · (intro w hSw; (try dsimp only at hSw); go_simp; try with_reducible rfl)
            try simp only [List.setIfInBounds_toArray, List.set_cons_zero, List.set_cons_succ]
            refine wpAnyH_done (by kernel_rfl) ?_ _
            go_wp2_with fail
            go_roundw
            case rel =>
              refine ⟨k + 1, by omega, by go_num, ?_, hB3, hbx3, HW.out.below hB3⟩
              have e : RK ++ [0] ++ textE xk.data.toList = recK rev es (k + 1) := by rw [HRK2.out, HSu.out]; rfl
              rw [← e]
              exact HRow3.out
            case measure => simp [intOf]; omega
        · obtain rfl : k = es.length := by omega
          have hdk : decide ((es.length : Int) < (es.length : Int)) = false := by simp
          have HRA : Hid (recK rev es es.length = recordB rev es) := recK_all rev es
          have hlen := HLen.out es.length (Nat.le_refl _)
          have HSeal := Lib.hid (seal_any av cv (recK rev es es.length).length (recK rev es es.length) _ rfl (by omega) (row_bytes' hrow))
          generalize recK rev es es.length = RK at *
          go_wp2_with fail
          refine HSeal.out.mono ?_
          rintro e w5 ⟨v5, rfl, hown5, hb5⟩
          have hB5 := hB.trans (hb5.mono hB.size)
          go_wp2_with fail
          go_ret2
          refine ⟨hB5, fun _ => ⟨v5, rfl, ?_⟩, fun h => absurd HY.out h⟩
          rw [← HRA.out]
          exact row_lower hown5 hB.size
end Go.Proofs.Ytbamohcaamgalae
