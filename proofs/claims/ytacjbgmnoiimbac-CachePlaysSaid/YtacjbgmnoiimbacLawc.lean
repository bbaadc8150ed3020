/- CachePlays: the law walked. -/
import Derived.Test.YtacjbgmnoiimbacTwin
import Derived.Test.YtacjbgmnoiimbacLawb
namespace Go.Proofs.Ytacjbgmnoiimbac
set_option linter.unusedVariables false
set_option linter.unusedSimpArgs false
open Go.RowKit

theorem evict_small {room : Int} : ∀ l : List It, (evict room l).length ≤ l.length ∧ total (evict room l) ≤ total l
  | [] => ⟨Nat.le_refl _, Nat.le_refl _⟩
  | x :: r => by
    rw [evict]
    split
    · obtain ⟨h1, h2⟩ := evict_small (room := room) r
      rw [total_cons, List.length_cons]
      exact ⟨by omega, by omega⟩
    · exact ⟨Nat.le_refl _, Nat.le_refl _⟩
theorem others_total (f : Int) : ∀ l : List It, total (others f l) ≤ total l
  | [] => Nat.le_refl _
  | x :: r => by
    have h := others_total f r
    unfold others at *
    rw [List.filter_cons, total_cons]
    split
    · rw [total_cons]; omega
    · omega
def PlayRel (g bm rb r : Nat) (room : Int) (w0 : World) (j : Nat) (wr : World) : Prop := ∃ its itr v, OwnC w0.heap.size wr g bm rb room (total its : Int) its ∧ RefAt w0.heap.size wr r room v itr ∧ Twin its itr ∧ ItemsOk w0 itr ∧ Below w0.heap.size w0 wr ∧ itr.length ≤ j ∧ total itr ≤ 30000 * j
theorem ItemsOk.sub {w : World} {a b : List It} (h : ItemsOk w a) (hs : ∀ x ∈ b, x ∈ a) : ItemsOk w b := fun x hx => h x (hs x hx)
/-- what stands behind both calls of Put -/
theorem play_put {room : Int} {w0 : World} {j : Nat} {its itr its1 itr1 : List It} {x y : It} {f b : Int} (htw : Twin its itr) (hn : Names its) (hok : ItemsOk w0 itr) (hl : itr.length ≤ j) (ht : total itr ≤ 30000 * j)
    (hw1 : Without f b its its1) (hw2 : Without f b itr itr1) (hxy : nameK x = nameK y) (hy : y.keys.length ≤ 20 ∧ (∀ i, (y.keys.getD i ByteArray.empty).size ≤ 100) ∧ y.keys.length ≤ y.kc ∧ IsStrs w0 y.a y.keys) :
    Twin (evict room (its1 ++ [x])) (evict room (itr1 ++ [y])) ∧ ItemsOk w0 (evict room (itr1 ++ [y])) ∧ (evict room (itr1 ++ [y])).length ≤ j + 1 ∧ total (evict room (itr1 ++ [y])) ≤ 30000 * (j + 1) := by
  obtain ⟨h1, h2⟩ := without_len hw2
  obtain ⟨h3, h4⟩ := evict_small (room := room) (itr1 ++ [y])
  rw [List.length_append, List.length_singleton] at h3
  rw [total_snoc] at h4
  have hz := sizeK_le y.keys (fun i => by have := hy.2.1 i; omega) y.keys.length (Nat.le_refl _)
  rw [List.take_length] at hz
  refine ⟨((htw.without hn hw1 hw2).snoc hxy).evict, fun z hz => ?_, by omega, by omega⟩
  rcases List.mem_append.1 (mem_evict hz) with hz | hz
  · exact itemsOk_without hok hw2 z hz
  · simp only [List.mem_cons, List.not_mem_nil, or_false] at hz
    subst hz; exact hy
theorem Twin.short {w : World} {a b : List It} (h : Twin a b) (hb : ItemsOk w b) : ∀ x ∈ a, x.keys.length ≤ 20 := by
  intro x hx
  obtain ⟨i, hi, rfl⟩ := List.getElem_of_mem hx
  have e := (h.get hi).2.2
  have e2 : a.getD i default = a[i] := by rw [List.getD_eq_getElem?_getD, List.getElem?_eq_getElem hi, Option.getD_some]
  rw [e2] at e
  rw [e]
  exact (hb _ (getD_mem (by rw [← h.len]; exact hi))).1
/-- what stands ahead of the writing of '?' and '!' -/
def PlayX (g bm rb r : Nat) (room : Int) (w0 : World) (j : Nat) (wr : World) (n ob : Nat) : Prop := ∃ its itr v, OwnC w0.heap.size wr g bm rb room (total its : Int) its ∧ RefAt w0.heap.size wr r room v itr ∧ Twin its itr ∧ ItemsOk w0 itr ∧ Below w0.heap.size w0 wr ∧ itr.length ≤ j ∧ total itr ≤ 30000 * j ∧ (0 < n → w0.heap.size ≤ ob ∧ ∀ x ∈ its, 0 < x.keys.length → ∀ p, x.a = some p → p.block ≠ ob)
theorem PlayX.rel {g bm rb r : Nat} {room : Int} {w0 : World} {j : Nat} {wr : World} {n ob : Nat} (h : PlayX g bm rb r room w0 j wr n ob) : PlayRel g bm rb r room w0 j wr := by
  obtain ⟨a, b, c, h1, h2, h3, h4, h5, h6, h7, _⟩ := h
  exact ⟨a, b, c, h1, h2, h3, h4, h5, h6, h7⟩
theorem PlayX.below {g bm rb r : Nat} {room : Int} {w0 : World} {j : Nat} {wr wx : World} {n ob : Nat} (h : PlayX g bm rb r room w0 j wr n ob) (hb : Below wr.heap.size wr wx) : PlayX g bm rb r room w0 j wx n ob := by
  obtain ⟨a, b, c, h1, h2, h3, h4, h5, h6, h7, h8⟩ := h
  exact ⟨a, b, c, ⟨h1.1.below hb, h1.2⟩, h2.below hb, h3, h4, h5.trans (hb.mono h5.size), h6, h7, h8⟩
def blkOf : Option Addr → Nat | some p => p.block | none => 0
theorem RefAt.turn9 {B : Nat} {w w' : World} {r ob : Nat} {room : Int} {v : Value} {its : List It} (h : RefAt B w r room v its) (ht : Turn9 ob w w') {cs : Array Value} (ho : w.heap[ob]? = some (.cells cs 9 (0, 0))) : RefAt B w' r room v its := by
  have hk : ∀ (k : Nat) (o : Obj), w.heap[k]? = some o → (∀ cs, o ≠ .cells cs 9 (0, 0)) → w'.heap[k]? = some o := fun k o h1 h2 => by
    rw [ht.2.2.2.2.1 k (by rintro rfl; rw [ho] at h1; exact h2 cs (Option.some.inj h1).symm)]; exact h1
  exact ⟨h.1, hk r _ h.2.1 (fun cs e => by cases e), h.2.2.same (fun g cur _ hg => (hk g _ hg (fun cs e => by cases e)).trans hg.symm)⟩
theorem play_turn {g bm rb r ob : Nat} {room : Int} {w0 wQ wx : World} {j : Nat} {its itr : List It} {v1 : Value} {cs : Array Value} (hO : OwnC w0.heap.size wQ g bm rb room (total its : Int) its) (hR : RefAt w0.heap.size wQ r room v1 itr) (htw : Twin its itr) (hok : ItemsOk w0 itr) (hB : Below w0.heap.size w0 wQ) (hl : itr.length ≤ j) (htt : total itr ≤ 30000 * j)
    (ht : Turn9 ob wQ wx) (ho : wQ.heap[ob]? = some (.cells cs 9 (0, 0))) (hob : w0.heap.size ≤ ob) (hne : ∀ x ∈ its, 0 < x.keys.length → ∀ p, x.a = some p → p.block ≠ ob) : PlayRel g bm rb r room w0 j wx :=
  ⟨its, itr, v1, hO.apart9 ho hne (fun k hk _ => ht.2.2.2.2.1 k hk), hR.turn9 ht ho, htw, hok, hB.trans (ht.below hob), hl, htt⟩
theorem row9 {w : World} {B n : Nat} {oa : Option Addr} {m c : Nat} {xs : List Value} (h : w.ownsRow B 9 1 (.slice oa m c) n xs) (hn : 0 < n) : ∃ ob cs, oa = some ⟨ob, 0, none⟩ ∧ B ≤ ob ∧ w.heap[ob]? = some (.cells cs 9 (0, 0)) ∧ n ≤ cs.size ∧ m = n := by
  rcases h.2 with ⟨_, h0⟩ | ⟨g, cap, cur, h1, h2, h3, h4, _, h6, _⟩
  · omega
  · cases h1
    exact ⟨g, cur, rfl, h2, h3, by omega, rfl⟩
end Go.Proofs.Ytacjbgmnoiimbac
