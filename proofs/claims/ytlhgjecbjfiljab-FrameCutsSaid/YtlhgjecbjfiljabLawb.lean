/- FrameReads, walked. -/
import Derived.Test.YtlhgjecbjfiljabWalkI
namespace Go.Proofs.Ytlhgjecbjfiljab
set_option linter.unusedVariables false
set_option linter.unusedSimpArgs false
open Go.RowKit

theorem row_len' {w : World} {base : Nat} {e : TypeId} {size n m c : Nat} {a : Option Addr} {xs : List Value} (h : w.ownsRow base e size (.slice a m c) n xs) : m = n := by
  rcases h.2 with ⟨h0, h1⟩ | ⟨g, cap, cur, hv, _⟩
  · cases h0; omega
  · cases hv; rfl
theorem row_cap {w : World} {base : Nat} {e : TypeId} {size n m c : Nat} {a : Option Addr} {xs : List Value} (h : w.ownsRow base e size (.slice a m c) n xs) : m ≤ c := by
  rcases h.2 with ⟨h0, h1⟩ | ⟨g, cap, cur, hv, _, _, hnc, _⟩
  · cases h0; omega
  · cases hv; exact hnc
theorem row_max {w : World} {base : Nat} {e : TypeId} {size n m c : Nat} {a : Option Addr} {xs : List Value} (h : w.ownsRow base e size (.slice a m c) n xs) : m ≤ 9223372036854775807 := by
  rcases h.2 with ⟨h0, h1⟩ | ⟨g, cap, cur, hv, _, _, hnc, hcm, _⟩
  · cases h0; omega
  · cases hv
    unfold maxLen at hcm
    omega
theorem row_bytes' {w : World} {base : Nat} {n m c : Nat} {a : Option Addr} {l : List UInt8} (h : w.ownsRow base 5 1 (.slice a m c) n (bytesV l)) : IsBytes w a l := by
  intro h0
  rcases h.2 with ⟨hv, h1⟩ | ⟨g, cap, cur, hv, _⟩
  · have := h.1; rw [length_bytesV] at this; omega
  · cases hv
    exact isBytes_row h h0
/-- what was read, as bytes, as a place, as a word -/
def gotP (l : List UInt8) : List UInt8 := if nextE l = 0 then payload l else []
def gotN (l : List UInt8) : Nat := if nextE l = 0 then 8 + num l else 0
theorem NextIs.view {l : List UInt8} {w w' : World} {e : Ending} (h : NextIs l w e w') :
    Below w.heap.size w w' ∧ ∃ a c, e = .returned (.tuple #[.slice a (gotP l).length c, .int .i64 (gotN l : Nat), .int .i64 (nextE l : Nat)]) ∧ IsBytes w' a (gotP l) := by
  obtain ⟨hb, v, hok, hno⟩ := h
  refine ⟨hb, ?_⟩
  by_cases h0 : nextE l = 0
  · obtain ⟨rfl, hown⟩ := hok h0
    obtain ⟨a, m, c, rfl⟩ := row_slice hown
    have hm := row_len' hown
    have hp := (nextE_len l h0).2
    refine ⟨a, c, ?_, ?_⟩
    · rw [gotP, gotN, if_pos h0, if_pos h0, h0, hp, hm]; rfl
    · rw [gotP, if_pos h0]; exact row_bytes' hown
  · refine ⟨none, 0, ?_, ?_⟩
    · rw [hno h0, gotP, gotN, if_neg h0, if_neg h0]; rfl
    · rw [gotP, if_neg h0]; intro h; cases h
theorem RefNextIs.view {a0 : Option Addr} {l : List UInt8} {w w' : World} {e : Ending} (h : RefNextIs a0 l w e w') :
    Below w.heap.size w w' ∧ ∃ a c, e = .returned (.tuple #[.slice a (gotP l).length c, .int .i64 (gotN l : Nat), .int .i64 (nextE l : Nat)]) ∧ IsBytes w' a (gotP l) := by
  obtain ⟨⟨k, rfl⟩, hok, hno⟩ := h
  have hb := Below.drewN (Below.refl w.heap.size w) k
  refine ⟨hb, ?_⟩
  by_cases h0 : nextE l = 0
  · obtain ⟨b, o, c, rfl, hbs, _, _⟩ := hok h0
    have hp := (nextE_len l h0).2
    refine ⟨some ⟨b, o, none⟩, c, ?_, ?_⟩
    · rw [gotP, gotN, if_pos h0, if_pos h0, h0, hp]; rfl
    · rw [gotP, if_pos h0]; exact hbs.below hb
  · refine ⟨none, 0, ?_, ?_⟩
    · rw [hno h0, gotP, gotN, if_neg h0, if_neg h0]; rfl
    · rw [gotP, if_neg h0]; intro h; cases h

/-- rows of bytes, all of a call's own -/
def Rows8 (w : World) (B : Nat) (vs : List Value) : Prop := ∀ (k : Nat) (vk : Value), vs[k]? = some vk → ∃ q : List UInt8, w.ownsRow B 5 1 vk q.length (bytesV q)
theorem OwnRows.rows8 {w : World} {B : Nat} {v : Value} {ls : List (List UInt8)} (h : OwnRows w B v ls) : ∃ vs, w.ownsRow B 22 1 v ls.length vs ∧ Rows8 w B vs := by
  obtain ⟨vs, h1, h2⟩ := h
  refine ⟨vs, h1, fun k vk hk => ?_⟩
  have hlt : k < ls.length := by have := (List.getElem?_eq_some_iff.1 hk).1; have := h1.1; omega
  obtain ⟨vk', hv, ho⟩ := h2 k hlt
  rw [hk] at hv
  cases hv
  exact ⟨_, ho⟩
theorem Rows8.stored {w : World} {B g m c : Nat} {vs : List Value} {q : List UInt8} (h : Rows8 w B vs) (hg : w.ownsRow B 5 1 (.slice (some ⟨g, 0, none⟩) m c) m (bytesV q)) (j : Nat) (d : UInt8) :
    Rows8 (w.setCell ⟨g, j, none⟩ (.int .u8 (d.toNat : Int))) B vs := by
  intro k vk hk
  obtain ⟨q', ho⟩ := h k vk hk
  have hgr := (hg.stored j (.int .u8 (d.toNat : Int))).2
  by_cases hb : vk.ownBlock = some g
  · obtain ⟨a, m', c', rfl⟩ := row_slice ho
    have hm := row_len' ho
    rcases ho.2 with ⟨hv, _⟩ | ⟨g', cap', cur, hv, _⟩
    · cases hv; cases hb
    · cases hv
      have : g' = g := by simpa [Value.ownBlock] using hb
      subst this
      have := (ho.stored j (.int .u8 (d.toNat : Int))).1
      rw [bytesV_set] at this
      exact ⟨q'.set j d, by rw [List.length_set]; exact this⟩
  · refine ⟨q', ho.kept hgr ?_⟩
    right
    intro e
    exact hb e
theorem RefRows.rows {w : World} {B : Nat} {a : Option Addr} {m c : Nat} {ls : List (List UInt8)} (h : RefRows w B (.slice a m c) ls) : m = ls.length ∧ IsRows w a ls := by
  obtain ⟨vs, h1, h2⟩ := h
  have hm := row_len' h1
  refine ⟨hm, fun h0 => ?_⟩
  rcases h1.2 with ⟨hv, h3⟩ | ⟨g, cap', cur, hv, _⟩
  · cases hv; omega
  · cases hv
    refine ⟨g, 0, rfl, (h1.lt g rfl).2, fun k hk => ?_⟩
    obtain ⟨b, o, ck, hv, ho, _⟩ := h2 k hk
    exact ⟨some ⟨b, o, none⟩, ck, by rw [Nat.zero_add]; exact (h1.cellAt k (by omega)).trans hv, ho⟩
theorem OwnRows.rows {w : World} {B : Nat} {a : Option Addr} {m c : Nat} {ls : List (List UInt8)} (h : OwnRows w B (.slice a m c) ls) : m = ls.length ∧ IsRows w a ls := by
  obtain ⟨vs, h1, h2⟩ := h
  have hm := row_len' h1
  refine ⟨hm, fun h0 => ?_⟩
  rcases h1.2 with ⟨hv, h3⟩ | ⟨g, cap', cur, hv, _⟩
  · cases hv; omega
  · cases hv
    refine ⟨g, 0, rfl, (h1.lt g rfl).2, fun k hk => ?_⟩
    obtain ⟨vk, hv, ho⟩ := h2 k hk
    obtain ⟨ak, mk, ck, rfl⟩ := row_slice ho
    have := row_len' ho
    subst this
    exact ⟨ak, ck, by rw [Nat.zero_add]; exact (h1.cellAt k (by omega)).trans hv, row_bytes' ho⟩
theorem OwnRows.form {w : World} {B : Nat} {v : Value} {ls : List (List UInt8)} (h : OwnRows w B v ls) : ∃ a m c, v = .slice a m c := by
  obtain ⟨vs, h1, _⟩ := h
  exact row_slice h1
theorem RefRows.form {w : World} {B : Nat} {v : Value} {ls : List (List UInt8)} (h : RefRows w B v ls) : ∃ a m c, v = .slice a m c := by
  obtain ⟨vs, h1, _⟩ := h
  exact row_slice h1
theorem row_addr {w : World} {base : Nat} {e : TypeId} {size n m c : Nat} {a : Option Addr} {xs : List Value} (h : w.ownsRow base e size (.slice a m c) n xs) (h0 : 0 < n) : ∃ g, a = some ⟨g, 0, none⟩ ∧ base ≤ g ∧ g < w.heap.size := by
  rcases h.2 with ⟨hv, h3⟩ | ⟨g, cap', cur, hv, _⟩
  · omega
  · cases hv
    exact ⟨g, rfl, (h.lt g rfl).1, (h.lt g rfl).2⟩
theorem inc_int (d : UInt8) : ((d.toNat : Int) + 1) % 256 = ((d + 1).toNat : Int) := by
  have h : (d + 1).toNat = (d.toNat + 1) % 256 := by rw [UInt8.toNat_add]; rfl
  rw [h]; rfl
theorem size_allOf (l : List UInt8) : size (allOf l) ≤ l.length := by
  have : ∀ n (l : List UInt8), size (allF n l) ≤ l.length := by
    intro n
    induction n with
    | zero => intro l; exact Nat.zero_le _
    | succ n ih =>
      intro l
      by_cases h : nextE l = 0
      · rw [allF_step n l h, size_cons]
        have := ih (l.drop (8 + num l))
        have h2 := nextE_len l h
        rw [List.length_drop] at this
        omega
      · rw [allF_stop _ _ h]; exact Nat.zero_le _
  exact this _ l
set_option maxRecDepth 100000 in
set_option maxHeartbeats 8000000 in
theorem lawReads (a0 : Option Addr) (cap0 : Nat) (l : List UInt8) (w : World) (hl : l.length ≤ 9223372036854775807) (hc : l.length ≤ cap0) (h : IsBytes w a0 l) :
    Calls Try.prog 5 #[.slice a0 l.length cap0] w fun e w' => e = .returned (.bool true) ∧ Below w.heap.size w w' := by
  have H0 := Lib.hid h
  obtain ⟨i0, hi, hz0, hz1, hz2⟩ := info_parts Try.info5
  clear h
  by_cases hb0 : 3000 < l.length
  · go_enter Try.func5, Try.ntmps5
    go_wp2_with (go_at_call 7; refine (fixed_any _).mono ?_; rintro e w1 ⟨rfl, hb1⟩)
    go_ret
    exact ⟨rfl, hb1⟩
  · obtain ⟨n, hn⟩ : ∃ n, n = l.length := ⟨_, rfl⟩
    have HN := Lib.hid hn.symm
    have hsz := size_allOf l
    have hal := size_ge (allOf l)
    rw [← hn] at hl hc hb0 hsz ⊢
    clear hn
    go_enter Try.func5, Try.ntmps5
    go_wp2_with fail
    refine (fixed_any _).mono ?_
    rintro e w1 ⟨rfl, hB1⟩
    have hnew := World.ownsRow_lit (e := 5) (size := 1) (base := w1.heap.size) w1 #[] 0 (Nat.le_refl _) (by decide) rfl
    have hB1a := (Below.refl w1.heap.size w1).alloc (Nat.le_refl _) (.cells #[] 5)
    go_wp2_with (at_builtin; refine wpList_append_bytes (w1.alloc (.cells #[] 5)) rfl _ _ 22 rfl w1.heap.size 5 i0 (.int .u8 0) Try.underlying22 hi hz0 hz1 hz2 rfl _ 0 _ rfl hnew _ n cap0 l rfl HN.out ((H0.out.below hB1).below hB1a) (by omega) hB1a.size ?_; intro v2 w2 hown2 hg2 _; have hB2 := Below.own hB1a hnew (Nat.le_refl _) hB1a.size hg2; obtain ⟨a2, m2, c2, rfl⟩ := row_slice hown2)
    have hm2 : m2 = n := by have := row_len' hown2; omega
    subst hm2
    have hc2 := row_cap hown2
    have hown2' : w2.ownsRow w1.heap.size 5 1 (.slice a2 m2 c2) m2 (bytesV l) := by rw [Nat.zero_add, List.nil_append] at hown2; exact hown2
    have hO := row_bytes' hown2'
    have HO := Lib.hid hO
    have HB := Lib.hid (H0.out.below (hB1.trans (hB2.mono hB1.size)))
    have hB := hB1.trans (hB2.mono hB1.size)
    clear hnew hB1a hown2 hown2' hg2 hO hB1 hB2 H0
    refine (next_any a2 c2 m2 l _ HN.out hc2 (by omega) HO.out).mono ?_
    rintro e w3 hx
    obtain ⟨hb3, a3, c3, rfl, h3⟩ := hx.view
    clear hx
    go_wp2_with fail
    refine (refnext_any a0 cap0 m2 l _ HN.out hc (by omega) (HB.out.below hb3)).mono ?_
    rintro e w4 hx
    obtain ⟨hb4, a4, c4, rfl, h4⟩ := hx.view
    clear hx
    have hb24 := hb3.trans (hb4.mono hb3.size)
    go_wp2_with fail
    refine (all_any a2 c2 m2 l _ HN.out hc2 (by omega) (HO.out.below hb24)).mono ?_
    rintro e w5 ⟨v5, rfl, hown5, hb5⟩
    have hb25 := hb24.trans (hb5.mono hb24.size)
    go_wp2_with fail
    refine (refall_any a0 cap0 m2 l _ HN.out hc (by omega) (HB.out.below hb25)).mono ?_
    rintro e w6 ⟨v6, rfl, hown6, hb6⟩
    have hb26 := hb25.trans (hb6.mono hb25.size)
    have hO6 := HO.out.below hb26
    have hB6 := HB.out.below hb26
    have h36 := h3.below (hb4.trans ((hb5.trans (hb6.mono hb5.size)).mono hb4.size))
    have h46 := h4.below (hb5.trans (hb6.mono hb5.size))
    have hown56 := OwnRows.below hown5 hb6
    obtain ⟨a5, m5, c5, rfl⟩ := hown5.form
    obtain ⟨a6, m6, c6, rfl⟩ := hown6.form
    obtain ⟨hm5, hr5⟩ := hown56.rows
    obtain ⟨hm6, hr6⟩ := hown6.rows
    obtain ⟨vs, hv5, h85⟩ := hown56.rows8
    have hb46 := hb5.trans (hb6.mono hb5.size)
    have hbw6 := hB.trans (hb26.mono hB.size)
    have hbs : w2.heap.size ≤ w4.heap.size := hb24.size
    clear hown5 hown6 hown56 h3 h4 hb3 hb4 hb24 hb5 hb25 hb6
    obtain ⟨LL, hLL⟩ : ∃ LL, LL = allOf l := ⟨_, rfl⟩
    rw [← hLL] at hal hsz hm5 hr5 hm6 hr6 hv5 ⊢
    obtain ⟨ll, hll⟩ : ∃ ll, ll = LL.length := ⟨_, rfl⟩
    rw [← hll] at hal hm5 hm6 hv5
    subst hm5 hm6
    obtain ⟨np, hnp⟩ : ∃ np, np = (gotP l).length := ⟨_, rfl⟩
    rw [← hnp]
    have k1 := fun n => run_string_of_bytes (P := Try.prog) (w6.drewN n) 22 9 5 a2 _ c2 l HN.out Try.underlying22 Try.underlying5 Try.underlying9 (by exact hO6)
    have k2 := fun n => run_string_of_bytes (P := Try.prog) (w6.drewN n) 22 9 5 a0 _ cap0 l HN.out Try.underlying22 Try.underlying5 Try.underlying9 (by exact hB6)
    have k3 := fun n => run_string_of_bytes (P := Try.prog) (w6.drewN n) 22 9 5 a3 _ c3 (gotP l) hnp.symm Try.underlying22 Try.underlying5 Try.underlying9 (by exact h36)
    have k4 := fun n => run_string_of_bytes (P := Try.prog) (w6.drewN n) 22 9 5 a4 _ c4 (gotP l) hnp.symm Try.underlying22 Try.underlying5 Try.underlying9 (by exact h46)
    have HLL := Lib.hid hll.symm
    have HR5 := Lib.hid hr5
    have HR6 := Lib.hid hr6
    have HO6 := Lib.hid hO6
    have HB6 := Lib.hid hB6
    have hll0 : m6 ≤ 1000000 := by omega
    generalize gotN l = gn
    generalize nextE l = ge
    generalize gotP l = gp at *
    generalize size LL = sz at *
    clear hnp hr5 hr6 hO6 hB6 h36 h46 hLL hll
    go_upto_region 10 with (fail)
    go_cut [10, 78] (fun y x wc => y = .slice a5 m6 c5 ∧ x = .bool false ∧ ∃ k, wc = w6.drewN k)
    case first =>
      have j1 := k1 0
      have j2 := k2 0
      have j3 := k3 0
      have j4 := k4 0
      change Sem.run Try.prog _ w6 = Result.ok _ w6 at j1
      change Sem.run Try.prog _ w6 = Result.ok _ w6 at j2
      change Sem.run Try.prog _ w6 = Result.ok _ w6 at j3
      change Sem.run Try.prog _ w6 = Result.ok _ w6 at j4
      clear k1 k2 k3 k4
      go_wp2_with (go_at_call 16; refine (same_any a5 a6 c5 c6 m6 m6 LL LL _ HLL.out HLL.out hll0 hll0 (by exact HR5.out) (by exact HR6.out)).mono ?_; rintro e w7 ⟨rfl, kk, rfl⟩; rw [decide_eq_true rfl])
      go_meet
      case rel => exact ⟨rfl, rfl, _, rfl⟩
    case rest =>
      obtain ⟨rfl, rfl, k, rfl⟩ := hcut
      clear k1 k2 k3 k4 HO6 HB6 HR5 HR6 HLL
      obtain ⟨B4, hB4⟩ : ∃ B4, B4 = w4.heap.size := ⟨_, rfl⟩
      rw [← hB4] at hv5 h85 hb46 hbs
      have hv0 := Below.row (Below.drewN (Below.refl w6.heap.size w6) k) hv5
      have h80 : Rows8 (w6.drewN k) B4 vs := fun i vk hi => by
        obtain ⟨q, hq⟩ := h85 i vk hi
        exact ⟨q, Below.row (Below.drewN (Below.refl w6.heap.size w6) k) hq⟩
      have hbz : Below B4 w6 (w6.drewN k) := Below.drewN (Below.refl _ _) k
      have hB46 : B4 ≤ w6.heap.size := by rw [hB4]; exact hb46.size
      clear hB4 hv5 h85 hb46
      go_wp2_with fail
      go_loopw [81] (fun i wr => ∃ j : Nat, j ≤ m6 ∧ i = .int .i64 j ∧ wr.ownsRow B4 22 1 (.slice a5 m6 c5) m6 vs ∧ Rows8 wr B4 vs ∧ Below B4 w6 wr) (fun i _ => m6 - (intOf i).toNat)
      case atStart => exact ⟨0, Nat.zero_le _, rfl, hv0, h80, hbz⟩
      case round =>
        clear hv0 h80 hbz
        obtain ⟨j, hj, rfl, hv, h8, hb⟩ := hrel
        by_cases hlt : j < m6
        · obtain ⟨g5, rfl, hg5, hg5'⟩ := row_addr hv (by omega)
          have hcj := hv.cellAt j (by omega)
          obtain ⟨vk, hvk⟩ : ∃ vk, vs[j]? = some vk := by
            have := hv.1
            exact ⟨vs[j]'(by omega), List.getElem?_eq_getElem (by omega)⟩
          rw [hvk] at hcj
          obtain ⟨q0, hq0⟩ := h8 j vk hvk
          obtain ⟨ak, mk, ck, rfl⟩ := row_slice hq0
          have hmk := row_max hq0
          have HVK := Lib.hid hvk
          clear hq0 hvk
          go_wp2_with fail
          go_loopw [89] (fun i wr => ∃ i' : Nat, i' ≤ mk ∧ i = .int .i64 i' ∧ wr.ownsRow B4 22 1 (.slice (some ⟨g5, 0, none⟩) m6 c5) m6 vs ∧ Rows8 wr B4 vs ∧ Below B4 w6 wr) (fun i _ => mk - (intOf i).toNat)
          case atStart => exact ⟨0, Nat.zero_le _, rfl, hv, h8, hb⟩
          case round =>
            clear hv h8 hb hcj hg5'
            obtain ⟨i', hi', rfl, hv, h8, hb⟩ := hrel
            have hcj := (hv.cellAt j (by omega)).trans HVK.out
            by_cases hlt2 : i' < mk
            · obtain ⟨q, hq⟩ := h8 j _ HVK.out
              have hql := row_len' hq
              obtain ⟨gk, rfl, hgk, hgk'⟩ := row_addr hq (by omega)
              rw [← hql] at hq
              have hck := (hq.cellAt i' (by omega)).trans (bytesV_get q i' (by omega))
              have hfk := hq.frozenAt i'
              generalize q.getD i' 0 = d at hck
              have hd := d.toNat_lt
              have HD := Lib.hid (inc_int d)
              clear hql
              go_wp2_with fail
              go_roundw
              case rel =>
                refine ⟨i' + 1, by omega, by go_num, ?_⟩
                rw [HD.out]
                exact ⟨hv.kept (hq.stored i' (.int .u8 ((d + 1).toNat : Int))).2 (own_ne hq hv (by decide)), h8.stored hq i' (d + 1), hb.setCell hgk _⟩
              case measure => simp [intOf]; omega
            · obtain rfl : i' = mk := by omega
              go_wp2_with fail
              go_roundw
              case rel => exact ⟨j + 1, by omega, by go_num, hv, h8, hb⟩
              case measure => simp [intOf]; omega
        · obtain rfl : j = m6 := by omega
          have hbe := hb26.trans (hb.mono hbs)
          have HOr := HO.out.below hbe
          have HBr := HB.out.below hbe
          have hbend := hbw6.trans (hb.mono (Nat.le_trans hB.size hbs))
          have k1 := run_string_of_bytes (P := Try.prog) wr 22 9 5 a2 _ c2 l HN.out Try.underlying22 Try.underlying5 Try.underlying9 HOr
          have k2 := run_string_of_bytes (P := Try.prog) wr 22 9 5 a0 _ cap0 l HN.out Try.underlying22 Try.underlying5 Try.underlying9 HBr
          have HE := Lib.hid hbend
          clear hv h8 hb hbe HOr HBr hbend
          go_wp2_with fail
          go_ret
          exact ⟨rfl, HE.out⟩
end Go.Proofs.Ytlhgjecbjfiljab
