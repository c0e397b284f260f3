/- strings.Split at a sign of one byte: a plain function of the bytes. No program in sight. -/
import Derived.Test.YtbkpbcmjgbdbkaaDoorD3
import Derived.Lib.Split
import Derived.Lib.SplitLaws
import Derived.Lib.CountLaws
namespace Go.Proofs.YtbkpbcmjgbdbkaaDoor
open Go.RowKit Go.Lib
set_option linter.unusedVariables false
set_option linter.unusedSimpArgs false

def splitL (c : UInt8) : List UInt8 → List (List UInt8)
  | [] => [[]]
  | b :: l => if b = c then [] :: splitL c l else match splitL c l with
    | [] => [[b]]
    | p :: ps => (b :: p) :: ps
theorem splitL_ne (c : UInt8) (l : List UInt8) : splitL c l ≠ [] := by
  cases l with
  | nil => simp [splitL]
  | cons b l => unfold splitL; split; simp; split <;> simp
theorem splitL_miss {c : UInt8} {l : List UInt8} (h : c ∉ l) : splitL c l = [l] := by
  induction l with
  | nil => rfl
  | cons b l ih =>
    simp only [List.mem_cons, not_or] at h
    unfold splitL
    rw [if_neg (fun e => h.1 e.symm), ih h.2]
theorem splitL_hit {c : UInt8} {p q : List UInt8} (h : c ∉ p) : splitL c (p ++ c :: q) = p :: splitL c q := by
  induction p with
  | nil => simp [splitL]
  | cons b p ih =>
    simp only [List.mem_cons, not_or] at h
    have e1 : splitL c (b :: (p ++ c :: q)) = match splitL c (p ++ c :: q) with
      | [] => [[b]]
      | x :: xs => (b :: x) :: xs := by
      rw [splitL, if_neg (fun e => h.1 e.symm)]
    show splitL c (b :: (p ++ c :: q)) = _
    rw [e1, ih h.2]
theorem index_sign (c : UInt8) (l : List UInt8) : (index l [c] = -1 ∧ c ∉ l) ∨ ∃ p q, l = p ++ c :: q ∧ c ∉ p ∧ index l [c] = p.length := by
  induction l with
  | nil => exact Or.inl ⟨rfl, by simp⟩
  | cons b l ih =>
    by_cases hb : b = c
    · subst hb
      exact Or.inr ⟨[], l, rfl, by simp, by simp [index]⟩
    · have hp : ([c] : List UInt8).isPrefixOf (b :: l) = false := by simp [List.isPrefixOf]; exact fun e => hb e.symm
      rcases ih with ⟨h1, h2⟩ | ⟨p, q, h1, h2, h3⟩
      · refine Or.inl ⟨?_, by simp only [List.mem_cons, not_or]; exact ⟨fun e => hb e.symm, h2⟩⟩
        unfold index
        rw [hp, h1]; rfl
      · refine Or.inr ⟨b :: p, q, by rw [h1]; rfl, by simp only [List.mem_cons, not_or]; exact ⟨fun e => hb e.symm, h2⟩, ?_⟩
        unfold index
        rw [hp, h3]
        have : ¬ ((p.length : Int) == -1) = true := by rw [beq_iff_eq]; omega
        simp only [Bool.false_eq_true, if_false, this]
        simp
theorem splitK_sign (c : UInt8) (l : List UInt8) : splitK [c] 0 (count l [c]) l = splitL c l := by
  generalize hn : l.length = n
  induction n using Nat.strongRecOn generalizing l with
  | _ n ih =>
    rcases index_sign c l with ⟨h1, h2⟩ | ⟨p, q, rfl, h2, h3⟩
    · rw [count_miss h1, splitL_miss h2]; rfl
    · have e1 : (p ++ c :: q).drop (p.length + 1) = q := by
        rw [List.drop_append, List.drop_eq_nil_of_le (by omega)]; simp
      have hc := count_hit (s := p ++ c :: q) (sub := [c]) (by simp) h3
      simp only [List.length_singleton] at hc
      rw [e1] at hc
      rw [hc, Nat.add_comm, splitL_hit h2, ← ih q.length (by rw [← hn]; simp; omega) q rfl]
      have hm : ¬ (index (p ++ c :: q) [c] == -1) = true := by rw [beq_iff_eq, h3]; omega
      have ht : (p ++ c :: q).take p.length = p := by simp
      rw [splitK, if_neg hm, h3]
      simp only [Int.toNat_natCast, Nat.add_zero, List.length_singleton, e1, ht]
/-- What Split and parts leave: the parts of the text, as strings. -/
def partsOf (s : ByteArray) (c : UInt8) : List ByteArray := (splitL c s.data.toList).map fun l => ⟨l.toArray⟩
theorem split_parts (s : ByteArray) (c : UInt8) : splitB ⟨#[c]⟩ 0 (countB s ⟨#[c]⟩) s = partsOf s c := by
  have h := splitB_data ⟨#[c]⟩ 0 (countB s ⟨#[c]⟩) s
  have h2 : splitK [c] 0 (count s.data.toList [c]) s.data.toList = splitL c s.data.toList := splitK_sign c _
  have h3 : (splitB ⟨#[c]⟩ 0 (countB s ⟨#[c]⟩) s).map (·.data.toList) = splitL c s.data.toList := h.trans h2
  unfold partsOf
  rw [← h3, List.map_map]
  symm
  conv => rhs; rw [← List.map_id (splitB ⟨#[c]⟩ 0 (countB s ⟨#[c]⟩) s)]
  apply List.map_congr_left
  intro a _
  rfl
theorem split_len (s : ByteArray) (c : UInt8) : countB s ⟨#[c]⟩ + 1 = (partsOf s c).length := by
  unfold partsOf
  rw [List.length_map]
  generalize hn : s.data.toList.length = n
  have key : ∀ (n : Nat) (l : List UInt8), l.length = n → count l [c] + 1 = (splitL c l).length := by
    intro n
    induction n using Nat.strongRecOn with
    | _ n ih =>
      intro l hl
      rcases index_sign c l with ⟨h1, h2⟩ | ⟨p, q, rfl, h2, h3⟩
      · rw [count_miss h1, splitL_miss h2]; rfl
      · have e1 : (p ++ c :: q).drop (p.length + 1) = q := by
          rw [List.drop_append, List.drop_eq_nil_of_le (by omega)]; simp
        have hc := count_hit (s := p ++ c :: q) (sub := [c]) (by simp) h3
        simp only [List.length_singleton] at hc
        rw [e1] at hc
        rw [hc, splitL_hit h2, List.length_cons, ← ih q.length (by rw [← hl]; simp; omega) q rfl]
        omega
  exact key _ _ rfl
end Go.Proofs.YtbkpbcmjgbdbkaaDoor
