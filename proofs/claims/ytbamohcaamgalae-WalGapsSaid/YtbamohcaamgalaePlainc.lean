/- A log that is cut: the plain laws. -/
import Derived.Test.YtbamohcaamgalaePlainr
namespace Go.Proofs.Ytbamohcaamgalae
set_option linter.unusedVariables false
set_option linter.unusedSimpArgs false

def logB (cs : List (Nat × List Ent)) : List UInt8 := cs.flatMap fun c => seal_ (recordB c.1 c.2)
/-- revisions follow one another behind 'last' -/
def Follows : Option Nat → List (Nat × List Ent) → Prop
  | _, [] => True
  | last, c :: cs => (last = none ∨ last = some (c.1 - 1)) ∧ Follows (some c.1) cs
def ComOk (c : Nat × List Ent) : Prop := Right c.1 c.2 ∧ c.1 < 18446744073709551616 ∧ (recordB c.1 c.2).length < 4294967296
theorem logB_cons (c : Nat × List Ent) (cs : List (Nat × List Ent)) : logB (c :: cs) = seal_ (recordB c.1 c.2) ++ logB cs := rfl
theorem rep_cut (cs : List (Nat × List Ent)) : ∀ (last : Option Nat) (cut whole : Nat), (∀ c ∈ cs, ComOk c) → Follows last cs → whole ≤ cs.length → (logB (cs.take whole)).length ≤ cut → (whole < cs.length → cut < (logB (cs.take (whole + 1))).length) →
    rep ((logB cs).take cut) last = (cs.take whole, (logB (cs.take whole)).length) := by
  induction cs with
  | nil =>
    intro last cut whole _ _ hw _ _
    have : (logB []).take cut = [] := by simp [logB]
    rw [this, rep_stop1 (by rw [nextE_nil]; decide)]
    simp [logB]
  | cons c cs ih =>
    intro last cut whole hok hf hw h1 h2
    obtain ⟨hr, hv, hl⟩ := hok c (by simp)
    have hsl := length_seal (recordB c.1 c.2)
    rw [logB_cons]
    cases whole with
    | zero =>
      have := h2 (by simp)
      have e1 : (c :: cs).take (0 + 1) = [c] := by simp
      rw [e1, logB_cons, List.length_append] at this
      have e2 : (logB []).length = 0 := rfl
      have hc : cut < 8 + (recordB c.1 c.2).length := by omega
      rw [rep_stop1 (by rw [nextE_cut (recordB c.1 c.2) (logB cs) cut hl hc]; decide)]
      rfl
    | succ k =>
      rw [List.take_succ_cons, logB_cons, List.length_append] at h1
      have e : (seal_ (recordB c.1 c.2) ++ logB cs).take cut = seal_ (recordB c.1 c.2) ++ (logB cs).take (cut - (seal_ (recordB c.1 c.2)).length) := by
        rw [List.take_append, List.take_of_length_le (by omega)]
      rw [e, List.take_succ_cons, logB_cons, List.length_append]
      have n1 := nextE_seal (recordB c.1 c.2) ((logB cs).take (cut - (seal_ (recordB c.1 c.2)).length)) hl
      have n2 := payload_seal (recordB c.1 c.2) ((logB cs).take (cut - (seal_ (recordB c.1 c.2)).length)) hl
      have n3 := num_seal (recordB c.1 c.2) ((logB cs).take (cut - (seal_ (recordB c.1 c.2)).length)) hl
      rw [rep_step n1 (by rw [n2]; exact decodes_record c.1 c.2 hv hr) hf.1, n3, ← hsl, List.drop_left]
      have := ih (some c.1) (cut - (seal_ (recordB c.1 c.2)).length) k (fun x hx => hok x (by simp [hx])) hf.2 (by simpa using hw) (by omega) (fun hk => by
        have := h2 (by simpa using hk)
        rw [List.take_succ_cons, logB_cons, List.length_append] at this
        omega)
      rw [this]
end Go.Proofs.Ytbamohcaamgalae
