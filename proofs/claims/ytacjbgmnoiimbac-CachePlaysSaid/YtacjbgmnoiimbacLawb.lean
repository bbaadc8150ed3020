/- CacheTells: the law walked. -/
import Derived.Test.YtacjbgmnoiimbacView
namespace Go.Proofs.Ytacjbgmnoiimbac
set_option linter.unusedVariables false
set_option linter.unusedSimpArgs false
open Go.RowKit

def Hit (l : List AA) (n : Nat) (f b : Int) : Prop := (l.getD n default).kind % 3 = 0 ∧ (l.getD n default).file = f ∧ (l.getD n default).blk = b
/-- each item is what was put last under its name -/
def InvT (l : List AA) (j : Nat) (its : List It) : Prop := ∀ x ∈ its, ∃ n, n < j ∧ Hit l n x.file x.blk ∧ (l.getD n default).keys = x.keys ∧ ∀ n', n < n' → n' < j → ¬ Hit l n' x.file x.blk
theorem mem_evict {room : Int} {x : It} : ∀ {l : List It}, x ∈ evict room l → x ∈ l
  | [], h => h
  | y :: r, h => by
    rw [evict] at h
    split at h
    · exact List.mem_cons_of_mem _ (mem_evict h)
    · exact h
theorem evict_le {room : Int} (h0 : 0 ≤ room) : ∀ l : List It, (total (evict room l) : Int) ≤ room
  | [] => by show ((0 : Nat) : Int) ≤ room; omega
  | y :: r => by
    rw [evict]
    split
    · exact evict_le h0 r
    · omega
theorem without_sub {f b : Int} {its its1 : List It} (h : Without f b its its1) (hn : Names its) : ∀ x ∈ its1, x ∈ its ∧ ¬ (x.file = f ∧ x.blk = b) := by
  obtain ⟨_, hno⟩ := without_names h hn
  intro x hx
  obtain ⟨q, hq, hqe⟩ := List.getElem_of_mem hx
  have h1 := hno q hq
  rw [List.getD_eq_getElem?_getD, List.getElem?_eq_getElem hq, Option.getD_some, hqe] at h1
  refine ⟨?_, h1⟩
  rcases h with ⟨i, _, _, _, rfl⟩ | ⟨_, rfl⟩
  · exact List.mem_of_mem_eraseIdx hx
  · exact hx
theorem inv_put {l : List AA} {j : Nat} {its its1 : List It} {f b room : Int} {x : It} (h : InvT l j its) (hw : Without f b its its1) (hn : Names its) (hh : Hit l j f b) (hx : x.file = f) (hx2 : x.blk = b) (hk : (l.getD j default).keys = x.keys) : InvT l (j + 1) (evict room (its1 ++ [x])) := by
  intro y hy
  rcases List.mem_append.1 (mem_evict hy) with hy | hy
  · obtain ⟨hyi, hne⟩ := without_sub hw hn y hy
    obtain ⟨n, h1, h2, h3, h4⟩ := h y hyi
    refine ⟨n, by omega, h2, h3, fun n' h5 h6 => ?_⟩
    by_cases e : n' = j
    · subst e
      intro hc
      exact hne ⟨hc.2.1.symm.trans hh.2.1, hc.2.2.symm.trans hh.2.2⟩
    · exact h4 n' h5 (by omega)
  · simp only [List.mem_cons, List.not_mem_nil, or_false] at hy
    subst hy
    exact ⟨j, by omega, by rw [hx, hx2]; exact hh, hk, fun n' h5 h6 => by omega⟩
theorem inv_skip {l : List AA} {j : Nat} {its : List It} (h : InvT l j its) (hk : (l.getD j default).kind % 3 ≠ 0) : InvT l (j + 1) its := by
  intro y hy
  obtain ⟨n, h1, h2, h3, h4⟩ := h y hy
  refine ⟨n, by omega, h2, h3, fun n' h5 h6 => ?_⟩
  by_cases e : n' = j
  · subst e; exact fun hc => hk hc.1
  · exact h4 n' h5 (by omega)
def TellRel (B g bm rb room : Nat) (l : List AA) (w1 : World) (j : Nat) (wr : World) : Prop := ∃ its, OwnC B wr g bm rb (room : Int) (total its : Int) its ∧ InvT l j its ∧ (total its : Int) ≤ (room : Int) ∧ Below B w1 wr ∧ (∀ x ∈ its, x.keys.length ≤ 20)
/-- where the search for the last one stands -/
def TInn (l : List AA) (j : Nat) (xf xb : Int) (fd : Bool) (m : Nat) (z : Int) : Prop := fd = false → m ≤ j + 1 ∧ z = (m : Int) - 1 ∧ ∀ n', m ≤ n' → n' < j + 1 → ¬ Hit l n' xf xb
def TInnA (B g bm rb room gx : Nat) (tot : Int) (l : List AA) (j : Nat) (w2 wx : World) (row : Obj) (its3 : List It) (xf xb : Int) (ka : Option Addr) (kk : List ByteArray) (fd : Bool) (m : Nat) (z : Int) : Prop := OwnC B wx g bm rb (room : Int) tot its3 ∧ Below B w2 wx ∧ wx.heap[gx]? = some row ∧ IsStrs wx ka kk ∧ TInn l j xf xb fd m z
theorem TInnA.below {B g bm rb room gx : Nat} {tot : Int} {l : List AA} {j : Nat} {w2 wx wy : World} {row : Obj} {its3 : List It} {xf xb : Int} {ka : Option Addr} {kk : List ByteArray} {fd : Bool} {m : Nat} {z : Int} (hB : B ≤ w2.heap.size) (h : TInnA B g bm rb room gx tot l j w2 wx row its3 xf xb ka kk fd m z) (hb : Below wx.heap.size wx wy) : TInnA B g bm rb room gx tot l j w2 wy row its3 xf xb ka kk fd m z :=
  ⟨⟨h.1.1.below hb, h.1.2⟩, h.2.1.trans (hb.mono (Nat.le_trans hB h.2.1.size)), (hb.block gx (heap_lt h.2.2.1)).trans h.2.2.1, h.2.2.2.1.below hb, h.2.2.2.2⟩
theorem acts_at {w : World} {b off : Nat} {l : List AA} (h : IsActs w (some ⟨b, off, none⟩) l) {k : Nat} (hk : k < l.length) : w.cell? ⟨b, off + k * 4, none⟩ = some (.int .u8 ((l.getD k default).kind : Int)) ∧ w.cell? ⟨b, off + k * 4 + 1, none⟩ = some (.int .i64 (l.getD k default).file) ∧ w.cell? ⟨b, off + k * 4 + 2, none⟩ = some (.int .i64 (l.getD k default).blk) ∧ w.cell? ⟨b, off + k * 4 + 3, none⟩ = some (.slice (l.getD k default).a (l.getD k default).keys.length (l.getD k default).kc) ∧ IsStrs w (l.getD k default).a (l.getD k default).keys := by
  obtain ⟨b', off', ha, hbw, hc⟩ := h (by omega)
  simp only [Option.some.injEq, Addr.mk.injEq, and_true] at ha
  obtain ⟨rfl, rfl⟩ := ha
  obtain ⟨c0, c1, c2, c3, c4⟩ := hc k hk
  exact ⟨c0, c1, c2, c3, c4.2.2.2.2⟩
theorem tmod3 (k : Nat) : ((k : Int)).tmod 3 = ((k % 3 : Nat) : Int) ∧ ((k : Int)) % 3 = ((k % 3 : Nat) : Int) := ⟨rfl, rfl⟩
theorem same_at (a a2 : Option Addr) (cap cap2 n n2 : Nat) (l l2 : List ByteArray) (w : World) (hn : l.length = n) (hn2 : l2.length = n2) (hl : n ≤ 1000000000) (hl2 : n2 ≤ 1000000000) (h : IsStrs w a l) (h2 : IsStrs w a2 l2) (he : l = l2) :
    Calls Try.prog 12 #[.slice a n cap, .slice a2 n2 cap2] w fun e w' => e = .returned (.bool true) ∧ Below w.heap.size w w' := by
  subst hn hn2
  refine (same_any a a2 cap cap2 l l2 w hl hl2 h h2).mono fun e w' hs => ?_
  obtain ⟨rfl, n, rfl⟩ := hs
  exact ⟨by rw [decide_eq_true he], Below.drewN (Below.refl _ _) n⟩
set_option maxRecDepth 100000 in
set_option maxHeartbeats 4000000 in
theorem lawTells (room : Nat) (a : Option Addr) (cap : Nat) (l : List AA) (w : World) (hr : room < 65536) (hl : l.length ≤ 9223372036854775807) (h : IsActs w a l) :
    Calls Try.prog 3 #[.int .u16 (room : Int), .slice a l.length cap] w fun e w' => e = .returned (.bool true) ∧ Below w.heap.size w w' := by
  have HF := Lib.hid (fixed_any w)
  have H := Lib.hid h
  clear h
  go_enter Try.func3, Try.ntmps3
  go_wp2_with fail
  refine HF.out.mono ?_
  clear HF
  rintro e w1 ⟨rfl, hB1⟩
  have HFew := Lib.hid (few_any a cap l w1 hl (H.out.below hB1))
  go_wp2_with fail
  refine HFew.out.mono ?_
  clear HFew
  rintro e w2 ⟨⟨r, rfl, hr2⟩, hb2⟩
  have hB2 := hB1.trans (hb2.mono hB1.size)
  cases r with
  | false =>
    go_wp2_with fail
    go_ret
    exact ⟨rfl, hB2⟩
  | true =>
    obtain ⟨h150, hsh⟩ := hr2 rfl
    have HSh := Lib.hid hsh
    have HN := Lib.hid (new_any (room : Int) w2)
    clear hr2 hsh hb2
    go_wp2_with fail
    refine HN.out.mono ?_
    clear HN
    rintro e w3 ⟨g, bm, rb, rfl, hg, hbm, hrb, hca, hb3⟩
    have hmx : max (room : Int) 0 = (room : Int) := by omega
    rw [hmx] at hca
    have hrel0 : Hid (TellRel w2.heap.size g bm rb room l w2 0 w3) := ⟨[], ⟨hca, hg, hbm, hrb, fun i hi => absurd hi (Nat.not_lt_zero _)⟩, (fun x hx => by cases hx), (show ((0 : Nat) : Int) ≤ (room : Int) by omega), hb3, (fun x hx => by cases hx)⟩
    clear hca hb3 hmx
    go_wp2_with fail
    go_loopw [22] (fun i wr => ∃ j : Nat, i = .int .i64 j ∧ j ≤ l.length ∧ Hid (TellRel w2.heap.size g bm rb room l w2 j wr)) (fun i _ => l.length - (intOf i).toNat)
    case atStart => exact ⟨0, rfl, Nat.zero_le _, hrel0⟩
    case round =>
      clear hrel0
      obtain ⟨j, rfl, hj, hst⟩ := hrel
      obtain ⟨its, hown, hinv, htot, hB, hkl⟩ := hst.out
      clear hst
      by_cases hjl : j < l.length
      · have dj : decide ((j : Int) < (l.length : Int)) = true := decide_eq_true (by omega)
        have hij : (j : Int) < (l.length : Int) := by omega
        obtain ⟨ab, ao, rfl, hab, hac⟩ := ((H.out.below hB2).below hB) (by omega)
        obtain ⟨c0, c1, c2, c3, hk256, hkc, hkl9, _, hst⟩ := hac j hjl
        have hshort := HSh.out j hjl
        have HHit : Hid (∀ f b, Hit l j f b ↔ (l.getD j default).kind % 3 = 0 ∧ (l.getD j default).file = f ∧ (l.getD j default).blk = b) := fun f b => Iff.rfl
        have HInv := Lib.hid hinv
        have HTot := Lib.hid htot
        have HKl := Lib.hid hkl
        generalize hx : l.getD j default = x at *
        have HX := Lib.hid hx
        clear hx hac hinv htot hkl
        obtain ⟨xk, xf, xb, xa, xkc, keys⟩ := x
        simp only at c0 c1 c2 c3 hk256 hkc hkl9 hst hshort HHit
        have hA := hB.alloc hB.size (.cells #[.int .u8 (xk : Int), .int .i64 xf, .int .i64 xb, .slice xa keys.length xkc] 30)
        have hx0 := heap_alloc_new wr (.cells #[.int .u8 (xk : Int), .int .i64 xf, .int .i64 xb, .slice xa keys.length xkc] 30)
        have hBe := (Below.refl wr.heap.size wr).alloc (Nat.le_refl _) (.cells #[.int .u8 (xk : Int), .int .i64 xf, .int .i64 xb, .slice xa keys.length xkc] 30)
        have hoA : OwnC w2.heap.size (wr.alloc (.cells #[.int .u8 (xk : Int), .int .i64 xf, .int .i64 xb, .slice xa keys.length xkc] 30)) g bm rb (room : Int) (total its : Int) its := ⟨hown.1.below hBe, hown.2⟩
        have HStr := Lib.hid (hst.below hBe)
        have HOw := Lib.hid hoA
        have HB := Lib.hid hA
        have HX0 := Lib.hid hx0
        obtain ⟨K3, hK3⟩ : ∃ K3, K3 = xk % 3 := ⟨_, rfl⟩
        have ht3 : ((xk : Int)).tmod 3 = (K3 : Int) := by rw [hK3]; rfl
        have hm3 : ((xk : Int)) % 3 = (K3 : Int) := by rw [hK3]; rfl
        have hK3l : K3 < 3 := by rw [hK3]; omega
        have HK3 := Lib.hid hK3
        clear hK3 hst hown hB hA hBe hoA hx0
        go_upto_region 9 with (fail)
        generalize (wr.alloc (.cells #[.int .u8 (xk : Int), .int .i64 xf, .int .i64 xb, .slice xa keys.length xkc] 30)) = wA at *
        generalize wr.heap.size = gx at *
        have p0 := heap_cell HX0.out 0
        have p1 := heap_cell HX0.out 1
        have p2 := heap_cell HX0.out 2
        have p3 := heap_cell HX0.out 3
        simp at p0 p1 p2 p3
        by_cases h3 : K3 = 0
        · have b3 : ((K3 : Int) == 0) = true := by rw [h3]; rfl
          have hXf : xk % 3 = 0 := by rw [← HK3.out]; exact h3
          have HHj : Hid (Hit l j xf xb ∧ (l.getD j default).keys = keys) := by
            have hX := HX.out
            exact ⟨(HHit.out _ _).2 ⟨hXf, rfl, rfl⟩, by rw [hX]⟩
          have HP := Lib.hid (put_any w2.heap.size g bm rb (room : Int) its wA HOw.out HB.out.size (by omega) xf xb xa xkc keys (by have := hshort.1; simp only at this; omega) (fun i => by have := hshort.2 i; simp only at this; omega) hkc (by have := HTot.out; omega) HStr.out)
          have hk20 : Hid (keys.length ≤ 20) := by have := hshort.1; simp only at this; exact this
          clear h3 hXf hshort
          go_wp2_with fail
          refine HP.out.mono ?_
          clear HP
          rintro e wP ⟨rfl, its1, xbl, xa', xkc', hwo, hxl, hOP, hbP, hkP⟩
          have hIP := inv_put (room := (room : Int)) (x := ⟨xbl, xf, xb, xa', xkc', keys⟩) HInv.out hwo HOw.out.1.names HHj.out.1 rfl rfl HHj.out.2
          have hTP := evict_le (room := (room : Int)) (by omega) (its1 ++ [⟨xbl, xf, xb, xa', xkc', keys⟩])
          have hBP := HB.out.trans hbP
          have hXP := hkP gx _ 30 (by decide) (by decide) HX0.out
          have hKP : ∀ x ∈ evict (room : Int) (its1 ++ [⟨xbl, xf, xb, xa', xkc', keys⟩]), x.keys.length ≤ 20 := fun x hx => by
            rcases List.mem_append.1 (mem_evict hx) with hx | hx
            · exact HKl.out x (without_sub hwo HOw.out.1.names x hx).1
            · simp only [List.mem_cons, List.not_mem_nil, or_false] at hx
              subst hx; exact hk20.out
          generalize evict (room : Int) (its1 ++ [⟨xbl, xf, xb, xa', xkc', keys⟩]) = its2 at *
          clear p0 p1 p2 p3 HOw HInv HTot HB HX0 HKl HStr hwo hxl hbP hkP HHj
          have HOP := Lib.hid hOP
          have HIP := Lib.hid hIP
          have HTP := Lib.hid hTP
          have HBP := Lib.hid hBP
          have HXP := Lib.hid hXP
          have HKP := Lib.hid hKP
          have HUs := Lib.hid (used_any g bm rb (room : Int) (total its2 : Int) its2 wP hOP.1)
          have HGet := Lib.hid (get_any w2.heap.size g bm rb (room : Int) its2 wP hOP hBP.size xf xb (fun x hx => by have := hKP x hx; omega))
          have dto : decide ((room : Int) < (total its2 : Int)) = false := decide_eq_false (by omega)
          have dto' : decide (room < total its2) = false := decide_eq_false (by omega)
          have p1 := heap_cell hXP 1
          have p2 := heap_cell hXP 2
          simp at p1 p2
          clear hOP hIP hTP hBP hXP hKP
          go_wp2_with fail
          refine HUs.out.mono ?_
          clear HUs
          rintro e wQ ⟨rfl, rfl⟩
          go_wp2_with fail
          refine HGet.out.mono ?_
          clear HGet
          rintro e wG ⟨hgn, hgy⟩
          by_cases hex : ∃ i, i < its2.length ∧ (its2.getD i default).file = xf ∧ (its2.getD i default).blk = xb
          · obtain ⟨i, hi, hif, hib⟩ := hex
            obtain ⟨ka, kkc, rfl, hrow, hOG, hBG, hKG⟩ := hgy i hi hif hib
            have hmem := getD_mem hi
            obtain ⟨n0, hn0, hh0, hk0, hl0⟩ := HIP.out _ hmem
            rw [hif, hib] at hh0 hl0
            have hkeq := HKP.out _ hmem
            generalize (its2.getD i default).keys = kk at *
            have HN0 : Hid (n0 < j + 1 ∧ Hit l n0 xf xb ∧ (l.getD n0 default).keys = kk ∧ ∀ n', n0 < n' → n' < j + 1 → ¬ Hit l n' xf xb) := ⟨hn0, hh0, hk0, hl0⟩
            have hXG := hKG gx _ 30 (by decide) (by decide) HXP.out
            have HMv : Hid (InvT l (j + 1) (its2.eraseIdx i ++ [its2.getD i default]) ∧ total (its2.eraseIdx i ++ [its2.getD i default]) = total its2 ∧ ∀ x ∈ its2.eraseIdx i ++ [its2.getD i default], x.keys.length ≤ 20) := by
              have hs : ∀ x ∈ its2.eraseIdx i ++ [its2.getD i default], x ∈ its2 := fun x hx => by
                rcases List.mem_append.1 hx with hx | hx
                · exact List.mem_of_mem_eraseIdx hx
                · simp only [List.mem_cons, List.not_mem_nil, or_false] at hx
                  subst hx; exact hmem
              exact ⟨fun x hx => HIP.out x (hs x hx), total_move its2 i hi, fun x hx => HKP.out x (hs x hx)⟩
            have hrel1 : Hid (TInnA w2.heap.size g bm rb room gx (total its2 : Int) l j w2 wG (.cells #[.int .u8 (xk : Int), .int .i64 xf, .int .i64 xb, .slice xa keys.length xkc] 30 (0, 0)) (its2.eraseIdx i ++ [its2.getD i default]) xf xb ka kk false (j + 1) (j : Int)) := ⟨hOG, HBP.out.trans hBG, hXG, (row_keys hrow).strs, fun _ => ⟨Nat.le_refl _, by omega, fun n' h1 h2 => by omega⟩⟩
            generalize its2.eraseIdx i ++ [its2.getD i default] = its3 at *
            clear hgn hgy hmem hn0 hh0 hk0 hl0 hXG hrow hOG hBG hKG hi hif hib
            go_wp2_with fail
            go_loopw [10, 11] (fun fv nv wx => ∃ (m : Nat) (z : Int) (fd : Bool), fv = .bool fd ∧ nv = .int .i64 z ∧ -2 ≤ z ∧ z ≤ 1000 ∧ m ≤ j + 1 ∧ Hid (TInnA w2.heap.size g bm rb room gx (total its2 : Int) l j w2 wx (.cells #[.int .u8 (xk : Int), .int .i64 xf, .int .i64 xb, .slice xa keys.length xkc] 30 (0, 0)) its3 xf xb ka kk fd m z)) (fun _ nv _ => (intOf nv + 2).toNat)
            case atStart => exact ⟨j + 1, j, false, rfl, rfl, by omega, by omega, Nat.le_refl _, hrel1⟩
            case round =>
              clear hrel1
              obtain ⟨m, z, fd, rfl, rfl, hz1, hz2, hmj, hst⟩ := hrel
              obtain ⟨hOx, hBx, hXx, hSx, hfd⟩ := hst.out
              have HFD := Lib.hid hfd
              clear hst hfd
              cases fd with
              | true =>
                by_cases hz0 : 0 ≤ z
                · have dz : decide ((0 : Int) ≤ z) = true := decide_eq_true hz0
                  have HOx := Lib.hid hOx
                  have HBx := Lib.hid hBx
                  clear hOx hBx hz0
                  go_wp2_with fail
                  go_roundw
                  case rel => exact ⟨j + 1, by go_num, by omega, ⟨its3, by rw [HMv.out.2.1]; exact HOx.out, HMv.out.1, by rw [HMv.out.2.1]; exact HTP.out, HBx.out, HMv.out.2.2⟩⟩
                  case measure => simp [intOf]; omega
                · have dz : decide ((0 : Int) ≤ z) = false := decide_eq_false hz0
                  have HOx := Lib.hid hOx
                  have HBx := Lib.hid hBx
                  clear hOx hBx hz0
                  go_wp2_with fail
                  go_roundw
                  case rel => exact ⟨j + 1, by go_num, by omega, ⟨its3, by rw [HMv.out.2.1]; exact HOx.out, HMv.out.1, by rw [HMv.out.2.1]; exact HTP.out, HBx.out, HMv.out.2.2⟩⟩
                  case measure => simp [intOf]; omega
              | false =>
                obtain ⟨_, hzm, hno⟩ := HFD.out rfl
                cases m with
                | zero =>
                  exfalso
                  exact hno n0 (Nat.zero_le _) HN0.out.1 HN0.out.2.1
                | succ n =>
                  obtain rfl : z = (n : Int) := by omega
                  have HNo := Lib.hid hno
                  have hnl : n < l.length := by omega
                  obtain ⟨y0, y1, y2, y3, yst⟩ := acts_at ((H.out.below hB2).below hBx) hnl
                  have HHn : Hid (∀ f b, Hit l n f b ↔ (l.getD n default).kind % 3 = 0 ∧ (l.getD n default).file = f ∧ (l.getD n default).blk = b) := fun f b => Iff.rfl
                  have HKn : Hid (n = n0 → (l.getD n default).keys = kk) := fun e => by rw [e]; exact HN0.out.2.2.1
                  generalize l.getD n default = y at *
                  obtain ⟨yk, yf, yb, ya, ykc, ykeys⟩ := y
                  simp only at y0 y1 y2 y3 yst HHn HKn
                  have q0 := heap_cell hXx 0
                  have q1 := heap_cell hXx 1
                  have q2 := heap_cell hXx 2
                  have q3 := heap_cell hXx 3
                  simp at q0 q1 q2 q3
                  obtain ⟨Y3, hY3⟩ : ∃ Y3, Y3 = yk % 3 := ⟨_, rfl⟩
                  have yt3 : ((yk : Int)).tmod 3 = (Y3 : Int) := by rw [hY3]; rfl
                  have ym3 : ((yk : Int)) % 3 = (Y3 : Int) := by rw [hY3]; rfl
                  have HY3 := Lib.hid hY3
                  clear hY3 hno hzm
                  by_cases hy0 : Y3 = 0
                  · have by0 : ((Y3 : Int) == 0) = true := by rw [hy0]; rfl
                    by_cases hyf : yf = xf
                    · have byf : (yf == xf) = true := by rw [hyf]; exact beq_self_eq_true _
                      by_cases hyb : yb = xb
                      · have byb : (yb == xb) = true := by rw [hyb]; exact beq_self_eq_true _
                        have hhit : Hit l n xf xb := (HHn.out _ _).2 ⟨HY3.out.symm.trans hy0, hyf, hyb⟩
                        have hnn : n = n0 := by
                          have h1 : ¬ n0 < n := fun hlt => HN0.out.2.2.2 n hlt (by omega) hhit
                          have h2 : ¬ n + 1 ≤ n0 := fun hle => HNo.out n0 hle HN0.out.1 HN0.out.2.1
                          omega
                        have hkeq2 := HKn.out hnn
                        have HSm : Hid (∀ k, Calls Try.prog 12 #[.slice ya ykeys.length ykc, .slice ka kk.length kkc] (wr.drewN k) fun e w' => e = .returned (.bool true) ∧ Below (wr.drewN k).heap.size (wr.drewN k) w') := fun k => same_at ya ka ykc kkc _ _ ykeys kk (wr.drewN k) rfl rfl (by rw [hkeq2]; omega) (by omega) (yst.below (Below.drewN (Below.refl _ _) k)) (hSx.below (Below.drewN (Below.refl _ _) k)) hkeq2
                        have hrelT : Hid (TInnA w2.heap.size g bm rb room gx (total its2 : Int) l j w2 wr (.cells #[.int .u8 (xk : Int), .int .i64 xf, .int .i64 xb, .slice xa keys.length xkc] 30 (0, 0)) its3 xf xb ka kk true n ((n : Int) - 1)) := ⟨hOx, hBx, hXx, hSx, fun h => by cases h⟩
                        clear hOx hBx hhit hnn hkeq2 hyb hyf hy0 yst
                        go_wp2_with (first | go_quiet (fail))
                        refine (HSm.out _).mono ?_
                        clear HSm
                        rintro e wS ⟨rfl, hbS⟩
                        have hrelS := Lib.hid (hrelT.out.below (Nat.le_refl _) ((Below.drewN (Below.refl _ _) _).trans hbS))
                        clear hbS hrelT
                        go_wp2_with fail
                        go_roundw
                        case rel => exact ⟨n, (n : Int) - 1, true, rfl, by go_num, by omega, by omega, by omega, hrelS⟩
                        case measure => simp [intOf]; omega
                      · have byb : (yb == xb) = false := by rw [beq_eq_false_iff_ne]; exact hyb
                        have hnh : ¬ Hit l n xf xb := fun hc => hyb ((HHn.out _ _).1 hc).2.2
                        clear hyb hyf hy0
                        have hrelN : Hid (TInnA w2.heap.size g bm rb room gx (total its2 : Int) l j w2 wr (.cells #[.int .u8 (xk : Int), .int .i64 xf, .int .i64 xb, .slice xa keys.length xkc] 30 (0, 0)) its3 xf xb ka kk false n ((n : Int) - 1)) := ⟨hOx, hBx, hXx, hSx, fun _ => ⟨by omega, rfl, fun n' h1 h2 => by
                          by_cases e : n' = n
                          · subst e; exact hnh
                          · exact HNo.out n' (by omega) h2⟩⟩
                        clear hOx hBx hnh
                        go_wp2_with (first | go_quiet (fail))
                        go_roundw
                        case rel => exact ⟨n, (n : Int) - 1, false, rfl, by go_num, by omega, by omega, by omega, hrelN.out.below (Nat.le_refl _) (Below.drewN (Below.refl _ _) _)⟩
                        case measure => simp [intOf]; omega
                    · have byf : (yf == xf) = false := by rw [beq_eq_false_iff_ne]; exact hyf
                      have hnh : ¬ Hit l n xf xb := fun hc => hyf ((HHn.out _ _).1 hc).2.1
                      clear hyf hy0
                      have hrelN : Hid (TInnA w2.heap.size g bm rb room gx (total its2 : Int) l j w2 wr (.cells #[.int .u8 (xk : Int), .int .i64 xf, .int .i64 xb, .slice xa keys.length xkc] 30 (0, 0)) its3 xf xb ka kk false n ((n : Int) - 1)) := ⟨hOx, hBx, hXx, hSx, fun _ => ⟨by omega, rfl, fun n' h1 h2 => by
                        by_cases e : n' = n
                        · subst e; exact hnh
                        · exact HNo.out n' (by omega) h2⟩⟩
                      clear hOx hBx hnh
                      go_wp2_with (first | go_quiet (fail))
                      go_roundw
                      case rel => exact ⟨n, (n : Int) - 1, false, rfl, by go_num, by omega, by omega, by omega, hrelN.out.below (Nat.le_refl _) (Below.drewN (Below.refl _ _) _)⟩
                      case measure => simp [intOf]; omega
                  · have by0 : ((Y3 : Int) == 0) = false := by rw [beq_eq_false_iff_ne]; omega
                    have hnh : ¬ Hit l n xf xb := fun hc => hy0 (HY3.out.trans ((HHn.out _ _).1 hc).1)
                    clear hy0
                    have hrelN : Hid (TInnA w2.heap.size g bm rb room gx (total its2 : Int) l j w2 wr (.cells #[.int .u8 (xk : Int), .int .i64 xf, .int .i64 xb, .slice xa keys.length xkc] 30 (0, 0)) its3 xf xb ka kk false n ((n : Int) - 1)) := ⟨hOx, hBx, hXx, hSx, fun _ => ⟨by omega, rfl, fun n' h1 h2 => by
                      by_cases e : n' = n
                      · subst e; exact hnh
                      · exact HNo.out n' (by omega) h2⟩⟩
                    clear hOx hBx hnh
                    go_wp2_with (first | go_quiet (fail))
                    go_roundw
                    case rel => exact ⟨n, (n : Int) - 1, false, rfl, by go_num, by omega, by omega, by omega, hrelN.out.below (Nat.le_refl _) (Below.drewN (Below.refl _ _) _)⟩
                    case measure => simp [intOf]; omega
          · obtain ⟨rfl, hOG, hBG⟩ := hgn (fun i hi hc => hex ⟨i, hi, hc.1, hc.2⟩)
            have HOG := Lib.hid hOG
            have HBG := Lib.hid (HBP.out.trans (hBG.mono HBP.out.size))
            clear hgn hgy hex hOG hBG
            go_wp2_with fail
            go_roundw
            case rel => exact ⟨j + 1, by go_num, by omega, ⟨its2, HOG.out, HIP.out, HTP.out, HBG.out, HKP.out⟩⟩
            case measure => simp [intOf]; omega
        · have b3 : ((K3 : Int) == 0) = false := by rw [beq_eq_false_iff_ne]; omega
          have hOP := HOw.out
          have hIP : InvT l (j + 1) its := inv_skip HInv.out (by rw [HX.out]; show xk % 3 ≠ 0; rw [← HK3.out]; exact h3)
          have hTP := HTot.out
          have hBP := HB.out
          have hXP := HX0.out
          have hKP := HKl.out
          obtain ⟨its2, hits⟩ : ∃ its2, its2 = its := ⟨_, rfl⟩
          rw [← hits] at hOP hIP hTP hKP
          obtain ⟨wP, hwP⟩ : ∃ wP, wP = wA := ⟨_, rfl⟩
          rw [← hwP] at hOP hBP hXP ⊢
          clear p1 p2 p3 HOw HInv HTot HB HX0 HKl HStr hits h3
          rw [← hwP] at p0
          clear hwP
          have HOP := Lib.hid hOP
          have HIP := Lib.hid hIP
          have HTP := Lib.hid hTP
          have HBP := Lib.hid hBP
          have HXP := Lib.hid hXP
          have HKP := Lib.hid hKP
          have HUs := Lib.hid (used_any g bm rb (room : Int) (total its2 : Int) its2 wP hOP.1)
          have HGet := Lib.hid (get_any w2.heap.size g bm rb (room : Int) its2 wP hOP hBP.size xf xb (fun x hx => by have := hKP x hx; omega))
          have dto : decide ((room : Int) < (total its2 : Int)) = false := decide_eq_false (by omega)
          have dto' : decide (room < total its2) = false := decide_eq_false (by omega)
          have p1 := heap_cell hXP 1
          have p2 := heap_cell hXP 2
          simp at p1 p2
          clear hOP hIP hTP hBP hXP hKP
          go_wp2_with fail
          refine HUs.out.mono ?_
          clear HUs
          rintro e wQ ⟨rfl, rfl⟩
          go_wp2_with fail
          refine HGet.out.mono ?_
          clear HGet
          rintro e wG ⟨hgn, hgy⟩
          by_cases hex : ∃ i, i < its2.length ∧ (its2.getD i default).file = xf ∧ (its2.getD i default).blk = xb
          · obtain ⟨i, hi, hif, hib⟩ := hex
            obtain ⟨ka, kkc, rfl, hrow, hOG, hBG, hKG⟩ := hgy i hi hif hib
            have hmem := getD_mem hi
            obtain ⟨n0, hn0, hh0, hk0, hl0⟩ := HIP.out _ hmem
            rw [hif, hib] at hh0 hl0
            have hkeq := HKP.out _ hmem
            generalize (its2.getD i default).keys = kk at *
            have HN0 : Hid (n0 < j + 1 ∧ Hit l n0 xf xb ∧ (l.getD n0 default).keys = kk ∧ ∀ n', n0 < n' → n' < j + 1 → ¬ Hit l n' xf xb) := ⟨hn0, hh0, hk0, hl0⟩
            have hXG := hKG gx _ 30 (by decide) (by decide) HXP.out
            have HMv : Hid (InvT l (j + 1) (its2.eraseIdx i ++ [its2.getD i default]) ∧ total (its2.eraseIdx i ++ [its2.getD i default]) = total its2 ∧ ∀ x ∈ its2.eraseIdx i ++ [its2.getD i default], x.keys.length ≤ 20) := by
              have hs : ∀ x ∈ its2.eraseIdx i ++ [its2.getD i default], x ∈ its2 := fun x hx => by
                rcases List.mem_append.1 hx with hx | hx
                · exact List.mem_of_mem_eraseIdx hx
                · simp only [List.mem_cons, List.not_mem_nil, or_false] at hx
                  subst hx; exact hmem
              exact ⟨fun x hx => HIP.out x (hs x hx), total_move its2 i hi, fun x hx => HKP.out x (hs x hx)⟩
            have hrel1 : Hid (TInnA w2.heap.size g bm rb room gx (total its2 : Int) l j w2 wG (.cells #[.int .u8 (xk : Int), .int .i64 xf, .int .i64 xb, .slice xa keys.length xkc] 30 (0, 0)) (its2.eraseIdx i ++ [its2.getD i default]) xf xb ka kk false (j + 1) (j : Int)) := ⟨hOG, HBP.out.trans hBG, hXG, (row_keys hrow).strs, fun _ => ⟨Nat.le_refl _, by omega, fun n' h1 h2 => by omega⟩⟩
            generalize its2.eraseIdx i ++ [its2.getD i default] = its3 at *
            clear hgn hgy hmem hn0 hh0 hk0 hl0 hXG hrow hOG hBG hKG hi hif hib
            go_wp2_with fail
            go_loopw [10, 11] (fun fv nv wx => ∃ (m : Nat) (z : Int) (fd : Bool), fv = .bool fd ∧ nv = .int .i64 z ∧ -2 ≤ z ∧ z ≤ 1000 ∧ m ≤ j + 1 ∧ Hid (TInnA w2.heap.size g bm rb room gx (total its2 : Int) l j w2 wx (.cells #[.int .u8 (xk : Int), .int .i64 xf, .int .i64 xb, .slice xa keys.length xkc] 30 (0, 0)) its3 xf xb ka kk fd m z)) (fun _ nv _ => (intOf nv + 2).toNat)
            case atStart => exact ⟨j + 1, j, false, rfl, rfl, by omega, by omega, Nat.le_refl _, hrel1⟩
            case round =>
              clear hrel1
              obtain ⟨m, z, fd, rfl, rfl, hz1, hz2, hmj, hst⟩ := hrel
              obtain ⟨hOx, hBx, hXx, hSx, hfd⟩ := hst.out
              have HFD := Lib.hid hfd
              clear hst hfd
              cases fd with
              | true =>
                by_cases hz0 : 0 ≤ z
                · have dz : decide ((0 : Int) ≤ z) = true := decide_eq_true hz0
                  have HOx := Lib.hid hOx
                  have HBx := Lib.hid hBx
                  clear hOx hBx hz0
                  go_wp2_with fail
                  go_roundw
                  case rel => exact ⟨j + 1, by go_num, by omega, ⟨its3, by rw [HMv.out.2.1]; exact HOx.out, HMv.out.1, by rw [HMv.out.2.1]; exact HTP.out, HBx.out, HMv.out.2.2⟩⟩
                  case measure => simp [intOf]; omega
                · have dz : decide ((0 : Int) ≤ z) = false := decide_eq_false hz0
                  have HOx := Lib.hid hOx
                  have HBx := Lib.hid hBx
                  clear hOx hBx hz0
                  go_wp2_with fail
                  go_roundw
                  case rel => exact ⟨j + 1, by go_num, by omega, ⟨its3, by rw [HMv.out.2.1]; exact HOx.out, HMv.out.1, by rw [HMv.out.2.1]; exact HTP.out, HBx.out, HMv.out.2.2⟩⟩
                  case measure => simp [intOf]; omega
              | false =>
                obtain ⟨_, hzm, hno⟩ := HFD.out rfl
                cases m with
                | zero =>
                  exfalso
                  exact hno n0 (Nat.zero_le _) HN0.out.1 HN0.out.2.1
                | succ n =>
                  obtain rfl : z = (n : Int) := by omega
                  have HNo := Lib.hid hno
                  have hnl : n < l.length := by omega
                  obtain ⟨y0, y1, y2, y3, yst⟩ := acts_at ((H.out.below hB2).below hBx) hnl
                  have HHn : Hid (∀ f b, Hit l n f b ↔ (l.getD n default).kind % 3 = 0 ∧ (l.getD n default).file = f ∧ (l.getD n default).blk = b) := fun f b => Iff.rfl
                  have HKn : Hid (n = n0 → (l.getD n default).keys = kk) := fun e => by rw [e]; exact HN0.out.2.2.1
                  generalize l.getD n default = y at *
                  obtain ⟨yk, yf, yb, ya, ykc, ykeys⟩ := y
                  simp only at y0 y1 y2 y3 yst HHn HKn
                  have q0 := heap_cell hXx 0
                  have q1 := heap_cell hXx 1
                  have q2 := heap_cell hXx 2
                  have q3 := heap_cell hXx 3
                  simp at q0 q1 q2 q3
                  obtain ⟨Y3, hY3⟩ : ∃ Y3, Y3 = yk % 3 := ⟨_, rfl⟩
                  have yt3 : ((yk : Int)).tmod 3 = (Y3 : Int) := by rw [hY3]; rfl
                  have ym3 : ((yk : Int)) % 3 = (Y3 : Int) := by rw [hY3]; rfl
                  have HY3 := Lib.hid hY3
                  clear hY3 hno hzm
                  by_cases hy0 : Y3 = 0
                  · have by0 : ((Y3 : Int) == 0) = true := by rw [hy0]; rfl
                    by_cases hyf : yf = xf
                    · have byf : (yf == xf) = true := by rw [hyf]; exact beq_self_eq_true _
                      by_cases hyb : yb = xb
                      · have byb : (yb == xb) = true := by rw [hyb]; exact beq_self_eq_true _
                        have hhit : Hit l n xf xb := (HHn.out _ _).2 ⟨HY3.out.symm.trans hy0, hyf, hyb⟩
                        have hnn : n = n0 := by
                          have h1 : ¬ n0 < n := fun hlt => HN0.out.2.2.2 n hlt (by omega) hhit
                          have h2 : ¬ n + 1 ≤ n0 := fun hle => HNo.out n0 hle HN0.out.1 HN0.out.2.1
                          omega
                        have hkeq2 := HKn.out hnn
                        have HSm : Hid (∀ k, Calls Try.prog 12 #[.slice ya ykeys.length ykc, .slice ka kk.length kkc] (wr.drewN k) fun e w' => e = .returned (.bool true) ∧ Below (wr.drewN k).heap.size (wr.drewN k) w') := fun k => same_at ya ka ykc kkc _ _ ykeys kk (wr.drewN k) rfl rfl (by rw [hkeq2]; omega) (by omega) (yst.below (Below.drewN (Below.refl _ _) k)) (hSx.below (Below.drewN (Below.refl _ _) k)) hkeq2
                        have hrelT : Hid (TInnA w2.heap.size g bm rb room gx (total its2 : Int) l j w2 wr (.cells #[.int .u8 (xk : Int), .int .i64 xf, .int .i64 xb, .slice xa keys.length xkc] 30 (0, 0)) its3 xf xb ka kk true n ((n : Int) - 1)) := ⟨hOx, hBx, hXx, hSx, fun h => by cases h⟩
                        clear hOx hBx hhit hnn hkeq2 hyb hyf hy0 yst
                        go_wp2_with (first | go_quiet (fail))
                        refine (HSm.out _).mono ?_
                        clear HSm
                        rintro e wS ⟨rfl, hbS⟩
                        have hrelS := Lib.hid (hrelT.out.below (Nat.le_refl _) ((Below.drewN (Below.refl _ _) _).trans hbS))
                        clear hbS hrelT
                        go_wp2_with fail
                        go_roundw
                        case rel => exact ⟨n, (n : Int) - 1, true, rfl, by go_num, by omega, by omega, by omega, hrelS⟩
                        case measure => simp [intOf]; omega
                      · have byb : (yb == xb) = false := by rw [beq_eq_false_iff_ne]; exact hyb
                        have hnh : ¬ Hit l n xf xb := fun hc => hyb ((HHn.out _ _).1 hc).2.2
                        clear hyb hyf hy0
                        have hrelN : Hid (TInnA w2.heap.size g bm rb room gx (total its2 : Int) l j w2 wr (.cells #[.int .u8 (xk : Int), .int .i64 xf, .int .i64 xb, .slice xa keys.length xkc] 30 (0, 0)) its3 xf xb ka kk false n ((n : Int) - 1)) := ⟨hOx, hBx, hXx, hSx, fun _ => ⟨by omega, rfl, fun n' h1 h2 => by
                          by_cases e : n' = n
                          · subst e; exact hnh
                          · exact HNo.out n' (by omega) h2⟩⟩
                        clear hOx hBx hnh
                        go_wp2_with (first | go_quiet (fail))
                        go_roundw
                        case rel => exact ⟨n, (n : Int) - 1, false, rfl, by go_num, by omega, by omega, by omega, hrelN.out.below (Nat.le_refl _) (Below.drewN (Below.refl _ _) _)⟩
                        case measure => simp [intOf]; omega
                    · have byf : (yf == xf) = false := by rw [beq_eq_false_iff_ne]; exact hyf
                      have hnh : ¬ Hit l n xf xb := fun hc => hyf ((HHn.out _ _).1 hc).2.1
                      clear hyf hy0
                      have hrelN : Hid (TInnA w2.heap.size g bm rb room gx (total its2 : Int) l j w2 wr (.cells #[.int .u8 (xk : Int), .int .i64 xf, .int .i64 xb, .slice xa keys.length xkc] 30 (0, 0)) its3 xf xb ka kk false n ((n : Int) - 1)) := ⟨hOx, hBx, hXx, hSx, fun _ => ⟨by omega, rfl, fun n' h1 h2 => by
                        by_cases e : n' = n
                        · subst e; exact hnh
                        · exact HNo.out n' (by omega) h2⟩⟩
                      clear hOx hBx hnh
                      go_wp2_with (first | go_quiet (fail))
                      go_roundw
                      case rel => exact ⟨n, (n : Int) - 1, false, rfl, by go_num, by omega, by omega, by omega, hrelN.out.below (Nat.le_refl _) (Below.drewN (Below.refl _ _) _)⟩
                      case measure => simp [intOf]; omega
                  · have by0 : ((Y3 : Int) == 0) = false := by rw [beq_eq_false_iff_ne]; omega
                    have hnh : ¬ Hit l n xf xb := fun hc => hy0 (HY3.out.trans ((HHn.out _ _).1 hc).1)
                    clear hy0
                    have hrelN : Hid (TInnA w2.heap.size g bm rb room gx (total its2 : Int) l j w2 wr (.cells #[.int .u8 (xk : Int), .int .i64 xf, .int .i64 xb, .slice xa keys.length xkc] 30 (0, 0)) its3 xf xb ka kk false n ((n : Int) - 1)) := ⟨hOx, hBx, hXx, hSx, fun _ => ⟨by omega, rfl, fun n' h1 h2 => by
                      by_cases e : n' = n
                      · subst e; exact hnh
                      · exact HNo.out n' (by omega) h2⟩⟩
                    clear hOx hBx hnh
                    go_wp2_with (first | go_quiet (fail))
                    go_roundw
                    case rel => exact ⟨n, (n : Int) - 1, false, rfl, by go_num, by omega, by omega, by omega, hrelN.out.below (Nat.le_refl _) (Below.drewN (Below.refl _ _) _)⟩
                    case measure => simp [intOf]; omega
          · obtain ⟨rfl, hOG, hBG⟩ := hgn (fun i hi hc => hex ⟨i, hi, hc.1, hc.2⟩)
            have HOG := Lib.hid hOG
            have HBG := Lib.hid (HBP.out.trans (hBG.mono HBP.out.size))
            clear hgn hgy hex hOG hBG
            go_wp2_with fail
            go_roundw
            case rel => exact ⟨j + 1, by go_num, by omega, ⟨its2, HOG.out, HIP.out, HTP.out, HBG.out, HKP.out⟩⟩
            case measure => simp [intOf]; omega
      · obtain rfl : j = l.length := by omega
        have dj : decide ((l.length : Int) < (l.length : Int)) = false := by simp
        have hBf := hB2.trans (hB.mono hB2.size)
        clear hown hB
        go_wp2_with fail
        go_ret
        exact ⟨rfl, hBf⟩
end Go.Proofs.Ytacjbgmnoiimbac
