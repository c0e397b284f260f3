/- The reference's Dec. No condition but the number's bound. -/
import Derived.Test.YtbkpbcmjgbdbkaaDoorD2
namespace Go.Proofs.YtbkpbcmjgbdbkaaDoor
open Go.RowKit
set_option linter.unusedVariables false
set_option linter.unusedSimpArgs false

/-- A number's text. -/
def decL (n : Nat) : List UInt8 := if h : n < 10 then [UInt8.ofNat (48 + n)] else decL (n / 10) ++ [UInt8.ofNat (48 + n % 10)]
  termination_by n
theorem decL_one {n : Nat} (h : n < 10) : decL n = [UInt8.ofNat (48 + n)] := by rw [decL, dif_pos h]
theorem decL_more {n : Nat} (h : ¬ n < 10) : decL n = decL (n / 10) ++ [UInt8.ofNat (48 + n % 10)] := by rw [decL, dif_neg h]

set_option maxRecDepth 100000 in
set_option maxHeartbeats 1000000 in
theorem dec_one (n : Nat) (h : n < 10) (w : World) : Calls Tryd.prog 11 #[.int .u64 (n : Int)] w fun e w' => e = .returned (.string ⟨(decL n).toArray⟩) ∧ w = w' := by
  rw [decL_one h]
  rcases n with _ | _ | _ | _ | _ | _ | _ | _ | _ | _ | n
  case succ.succ.succ.succ.succ.succ.succ.succ.succ.succ => omega
  all_goals
    go_enter Tryd.func11, Tryd.ntmps11
    go_wp2_with fail
    go_ret
    exact ⟨rfl, rfl⟩

theorem decL_len (n : Nat) : (decL n).length ≤ n + 1 := by
  induction n using Nat.strongRecOn with
  | _ n ih =>
    by_cases h : n < 10
    · rw [decL_one h]; simp
    · rw [decL_more h]
      have := ih (n / 10) (by omega)
      simp only [List.length_append, List.length_singleton]
      omega

set_option maxRecDepth 100000 in
set_option maxHeartbeats 1000000 in
theorem dec_any (n : Nat) (hn : n < 4294967296) : ∀ w : World, Calls Tryd.prog 11 #[.int .u64 (n : Int)] w fun e w' => e = .returned (.string ⟨(decL n).toArray⟩) ∧ w = w' := by
  induction n using Nat.strongRecOn with
  | _ n ih =>
    intro w
    by_cases h : n < 10
    · exact dec_one n h w
    · have c1 := ih (n / 10) (by omega) (by omega)
      have c2 := dec_one (n % 10) (by omega)
      rw [decL_one (show n % 10 < 10 by omega)] at c2
      have hm := decL_more h
      have q1 : ((n / 10 : Nat) : Int) = (n : Int) / 10 := by omega
      have q2 : ((n % 10 : Nat) : Int) = (n : Int) % 10 := by omega
      rw [q1] at c1
      rw [q2] at c2
      have C := Lib.hid (And.intro c1 (And.intro c2 hm))
      have h' : ¬ ((n : Int) < 10) := by omega
      clear c1 c2 hm q1 q2 ih
      have hl := decL_len (n / 10)
      obtain ⟨A, hA⟩ : ∃ A : ByteArray, A = ⟨(decL (n / 10)).toArray⟩ := ⟨_, rfl⟩
      obtain ⟨D, hD⟩ : ∃ D : ByteArray, D = ⟨[UInt8.ofNat (48 + n % 10)].toArray⟩ := ⟨_, rfl⟩
      have hs1 : A.size ≤ 4294967296 := by rw [hA]; show (decL (n / 10)).toArray.size ≤ _; simp; omega
      have hs2 : D.size = 1 := by rw [hD]; rfl
      have hs3 : ¬ (A.size + D.size > 9223372036854775807) := by omega
      have hAD : (A ++ D : ByteArray) = ⟨(decL n).toArray⟩ := by rw [C.out.2.2, hA, hD]; exact ByteArray.ext (by rw [ByteArray.data_append]; simp only [List.append_toArray])
      have C1 := C.out.1
      have C2 := C.out.2.1
      rw [← hA] at C1
      rw [← hD] at C2
      have E := Lib.hid (And.intro C1 (And.intro C2 hAD))
      clear C C1 C2 hA hD hAD hl hs1 hs2
      go_enter Tryd.func11, Tryd.ntmps11
      go_wp2_with fail
      refine (E.out.1 _).mono ?_; rintro e w1 ⟨rfl, rfl⟩
      go_wp2_with fail
      refine (E.out.2.1 _).mono ?_; rintro e w1 ⟨rfl, rfl⟩
      go_wp2_with fail
      all_goals first
        | (exfalso; omega)
        | (go_ret; exact ⟨by rw [← E.out.2.2]; rfl, rfl⟩)
end Go.Proofs.YtbkpbcmjgbdbkaaDoor
