/- The reference's parts: the plain law of its rounds. No program in sight. -/
import Derived.Test.YtbkpbcmjgbdbkaaDoorD4
namespace Go.Proofs.YtbkpbcmjgbdbkaaDoor
open Go.RowKit Go.Lib
set_option linter.unusedVariables false
set_option linter.unusedSimpArgs false

/-- At place k, the part under way from place f, the parts that stand. -/
def PartsAt (c : UInt8) (l : List UInt8) (k f : Nat) (done : List (List UInt8)) : Prop :=
  (k ≤ l.length ∧ f ≤ k ∧ done ++ splitL c (l.drop f) = splitL c l ∧ c ∉ (l.drop f).take (k - f)) ∨ (k = l.length + 1 ∧ f = l.length + 1 ∧ done = splitL c l)
theorem PartsAt.start (c : UInt8) (l : List UInt8) : PartsAt c l 0 0 [] := Or.inl ⟨Nat.zero_le _, Nat.le_refl _, rfl, by simp⟩
theorem drop_part {c : UInt8} {l : List UInt8} {k f : Nat} (hk : k < l.length) (hf : f ≤ k) (hc : l[k]? = some c) : l.drop f = (l.drop f).take (k - f) ++ c :: l.drop (k + 1) := by
  have e1 : (l.drop f).drop (k - f) = c :: l.drop (k + 1) := by
    rw [List.drop_drop, show f + (k - f) = k by omega, List.drop_eq_getElem_cons hk, (List.getElem?_eq_some_iff.1 hc).2]
  rw [← e1, List.take_append_drop]
theorem PartsAt.hit {c : UInt8} {l : List UInt8} {k f : Nat} {done : List (List UInt8)} (h : PartsAt c l k f done) (hk : k < l.length) (hc : l[k]? = some c) :
    PartsAt c l (k + 1) (k + 1) (done ++ [(l.drop f).take (k - f)]) := by
  rcases h with ⟨_, h2, h3, h4⟩ | ⟨h1, _⟩
  · refine Or.inl ⟨by omega, Nat.le_refl _, ?_, by simp⟩
    rw [← h3, List.append_assoc]
    congr 1
    have e := drop_part hk h2 hc
    have e2 := splitL_hit (q := l.drop (k + 1)) h4
    rw [← e] at e2
    rw [e2]; rfl
  · omega
theorem PartsAt.miss {c b : UInt8} {l : List UInt8} {k f : Nat} {done : List (List UInt8)} (h : PartsAt c l k f done) (hk : k < l.length) (hc : l[k]? = some b) (hb : b ≠ c) : PartsAt c l (k + 1) f done := by
  rcases h with ⟨_, h2, h3, h4⟩ | ⟨h1, _⟩
  · refine Or.inl ⟨by omega, by omega, h3, ?_⟩
    rw [show k + 1 - f = (k - f) + 1 by omega, List.take_add_one, List.getElem?_drop, show f + (k - f) = k by omega, hc]
    simp only [Option.toList_some, List.mem_append, List.mem_singleton, not_or]
    exact ⟨h4, fun e => hb e.symm⟩
  · omega
theorem PartsAt.last {c : UInt8} {l : List UInt8} {f : Nat} {done : List (List UInt8)} (h : PartsAt c l l.length f done) : PartsAt c l (l.length + 1) (l.length + 1) (done ++ [(l.drop f).take (l.length - f)]) := by
  rcases h with ⟨_, h2, h3, h4⟩ | ⟨h1, _⟩
  · have e : (l.drop f).take (l.length - f) = l.drop f := List.take_of_length_le (by simp)
    rw [e] at h4 ⊢
    exact Or.inr ⟨rfl, rfl, by rw [← h3, splitL_miss h4]⟩
  · omega
end Go.Proofs.YtbkpbcmjgbdbkaaDoor
