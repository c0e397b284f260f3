/- Names: the plain laws. No program in sight. -/
import Derived.Test.YtbkpbcmjgbdbkaaDoorD7
import Derived.Lib.ValidLaws
import Derived.Lib.ItoaNum
namespace Go.Proofs.YtbkpbcmjgbdbkaaDoor
open Go.RowKit Go.Lib
set_option linter.unusedVariables false
set_option linter.unusedSimpArgs false

theorem decL_digitsOf (n : Nat) : decDigits n = decL n := by
  induction n using Nat.strongRecOn with
  | _ n ih =>
    by_cases h : n < 10
    · rw [decL_one h, decDigits, dif_pos h]
    · rw [decL_more h, decDigits, dif_neg h, ih (n / 10) (by omega)]
theorem itoa_dec (n : Nat) : itoa (n : Int) = decL n := by
  unfold itoa
  rw [if_neg (by omega), Int.toNat_natCast, decL_digitsOf]

/-- A rune that may stand in a name (first: at its head). -/
def cls (first : Bool) (r : Nat) : Bool := decide ((97 ≤ r ∧ r ≤ 122) ∨ 128 ≤ r ∨ (first = false ∧ ((48 ≤ r ∧ r ≤ 57) ∨ r = 45)))
theorem cls_iff (first : Bool) (r : Nat) : cls first r = true ↔ (97 ≤ r ∧ r ≤ 122) ∨ 128 ≤ r ∨ (first = false ∧ ((48 ≤ r ∧ r ≤ 57) ∨ r = 45)) := by
  unfold cls; exact decide_eq_true_iff
theorem cls_false (first : Bool) (r : Nat) : cls first r = false ↔ ¬ ((97 ≤ r ∧ r ≤ 122) ∨ 128 ≤ r ∨ (first = false ∧ ((48 ≤ r ∧ r ≤ 57) ∨ r = 45))) := by
  unfold cls; exact decide_eq_false_iff_not
def runsGo : Nat → Bool → List UInt8 → Bool
  | 0, _, _ => true
  | n + 1, f, l => if l = [] then true else if cls f (decodeL l).1 then runsGo n false (l.drop (decodeL l).2) else false
def runs (f : Bool) (l : List UInt8) : Bool := runsGo l.length f l
theorem runsGo_nil (n : Nat) (f : Bool) : runsGo n f [] = true := by cases n <;> simp [runsGo]
theorem runsGo_fuel : ∀ (n m : Nat) (f : Bool) (l : List UInt8), l.length ≤ n → l.length ≤ m → runsGo n f l = runsGo m f l
  | 0, m, f, l, hn, _ => by
    have : l = [] := List.eq_nil_of_length_eq_zero (by omega)
    subst this
    rw [runsGo_nil, runsGo_nil]
  | n + 1, 0, f, l, _, hm => by
    have : l = [] := List.eq_nil_of_length_eq_zero (by omega)
    subst this
    rw [runsGo_nil, runsGo_nil]
  | n + 1, m + 1, f, l, hn, hm => by
    unfold runsGo
    by_cases hne : l = []
    · simp [hne]
    · have hw := decodeL_width l
      have hl : 0 < l.length := List.length_pos_iff.2 hne
      rw [if_neg hne, if_neg hne, runsGo_fuel n m false (l.drop (decodeL l).2) (by rw [List.length_drop]; omega) (by rw [List.length_drop]; omega)]
theorem runs_nil (f : Bool) : runs f [] = true := rfl
theorem runs_step (f : Bool) (l : List UInt8) (hne : l ≠ []) : runs f l = if cls f (decodeL l).1 then runs false (l.drop (decodeL l).2) else false := by
  have hl : 0 < l.length := List.length_pos_iff.2 hne
  have hw := decodeL_width l
  obtain ⟨n, hn⟩ : ∃ n, l.length = n + 1 := ⟨l.length - 1, by omega⟩
  unfold runs
  rw [hn]
  show (if l = [] then true else _) = _
  rw [if_neg hne, runsGo_fuel n (l.drop (decodeL l).2).length _ _ (by rw [List.length_drop]; omega) (Nat.le_refl _)]
/-- Runes that may stand there, and sound ones. -/
def rv (f : Bool) (l : List UInt8) : Bool := runs f l && validD l
theorem rv_nil (f : Bool) : rv f [] = true := rfl
theorem rv_low (f : Bool) (c : UInt8) (t : List UInt8) (h : c.toNat < 128) : rv f (c :: t) = if cls f c.toNat then rv false t else false := by
  unfold rv
  rw [runs_step f (c :: t) (by simp), validD_cons c t h, decodeL_ascii c t h]
  simp only [List.drop_succ_cons, List.drop_zero]
  split <;> simp
theorem rv_bad (f : Bool) (l : List UInt8) (hne : l ≠ []) (h : (decodeL l).1 = 65533 ∧ (decodeL l).2 = 1) : rv f l = false := by
  unfold rv
  rw [validD_step l hne, if_pos h, Bool.and_false]
theorem rv_high (f : Bool) (l : List UInt8) (hne : l ≠ []) (h0 : 128 ≤ (decodeL l).1) (h : ¬ ((decodeL l).1 = 65533 ∧ (decodeL l).2 = 1)) : rv f l = rv false (l.drop (decodeL l).2) := by
  unfold rv
  rw [validD_step l hne, if_neg h, runs_step f l hne, if_pos ((cls_iff _ _).2 (by omega))]
def nameOf (l : List UInt8) : Bool := decide (l ≠ [] ∧ l.length ≤ 32) && rv true l
theorem nameOf_no {l : List UInt8} (h : l = [] ∨ 32 < l.length) : nameOf l = false := by
  unfold nameOf
  rw [decide_eq_false (by rintro ⟨h1, h2⟩; rcases h with h | h; exact h1 h; omega), Bool.false_and]
theorem nameOf_some {l : List UInt8} (h1 : l ≠ []) (h2 : l.length ≤ 32) : nameOf l = rv true l := by
  unfold nameOf
  rw [decide_eq_true ⟨h1, h2⟩, Bool.true_and]
theorem nameOf_runs {l : List UInt8} (h : runs true l = false) : nameOf l = false := by
  unfold nameOf rv
  rw [h, Bool.false_and, Bool.and_false]
theorem nameOf_valid {l : List UInt8} (h : runs true l = true) (h1 : l ≠ []) (h2 : l.length ≤ 32) : nameOf l = validD l := by
  rw [nameOf_some h1 h2]
  unfold rv
  rw [h, Bool.true_and]
end Go.Proofs.YtbkpbcmjgbdbkaaDoor
