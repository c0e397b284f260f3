/- Strings laid behind one another, as steps; the reference's numerals. No condition. -/
import Derived.Test.YtbkpbcmjgbdbkaaGreatDoorU2
import Derived.Test.YtbkpbcmjgbdbkaaGreatDoorMC
namespace Go.Proofs.YtbkpbcmjgbdbkaaGreatDoor
open Go.RowKit Go.Lib
set_option linter.unusedVariables false
set_option linter.unusedSimpArgs false
set_option maxRecDepth 100000
set_option pp.maxSteps 3000

theorem run_add (l m : List UInt8) (h : l.length + m.length ≤ 1000000000) (W : World) : (binOp BinOp.add 9 (.string ⟨l.toArray⟩) (.string ⟨m.toArray⟩)).run Tryz.prog W = .ok (.string ⟨(l ++ m).toArray⟩) W := by
  have h1 : (⟨l.toArray⟩ : ByteArray).size = l.length := by show l.toArray.size = _; simp
  have h2 : (⟨m.toArray⟩ : ByteArray).size = m.length := by show m.toArray.size = _; simp
  rw [← str_append]
  simp [go_sem]
  omega
theorem wpQuiet_add {ops : Array Oper} {C : World → Prop} {Q : Act → Prop} {a : Act} {o : Oper} {rest : List Oper} (hgd : o.guard = none) (x y : Operand) (ho : o.op = .binOp .add 9 x y 9) (l m : List UInt8) (hx : a.eval x = .string ⟨l.toArray⟩) (hy : a.eval y = .string ⟨m.toArray⟩)
    (hl : l.length + m.length ≤ 1000000000) (h : wpQuiet Tryz.prog ops C Q rest (a.put o.dst (.string ⟨(l ++ m).toArray⟩))) : wpQuiet Tryz.prog ops C Q (o :: rest) a := by
  have hw : Region.wanted o (yielded ops a.tmps) = true := by simp [Region.wanted, hgd]
  unfold wpQuiet
  rw [if_pos hw]
  refine ⟨_, fun W hW => ?_, h⟩
  unfold Oper.quietAt execOp
  have hg : (eqGuard .add 9 x y (.string ⟨l.toArray⟩) (.string ⟨m.toArray⟩)).run Tryz.prog W = .ok () W := by simp [eqGuard, go_sem]
  simp only [ho, hx, hy, Sem.run_bind, hg, run_add l m hl W, Result.andThen_ok, Sem.run_pure]
  exact ⟨rfl, rfl⟩
theorem decL_short (d : Nat) : ∀ n, n < 10 ^ d → 0 < d → (decL n).length ≤ d := by
  induction d with
  | zero => intro n _ h; omega
  | succ d ih =>
    intro n hn _
    by_cases h : n < 10
    · rw [decL_one h]; simp
    · rw [decL_more h]
      have hd : 0 < d := by
        rcases Nat.eq_zero_or_pos d with e | e
        · subst e; simp at hn; omega
        · exact e
      have := ih (n / 10) (by rw [Nat.pow_succ] at hn; omega) hd
      simp only [List.length_append, List.length_singleton]
      omega
set_option maxHeartbeats 1000000 in
theorem dec_all (n : Nat) (hn : n < 18446744073709551616) : ∀ w : World, Calls Tryz.prog 43 #[.int .u64 (n : Int)] w fun e w' => e = .returned (.string ⟨(decL n).toArray⟩) ∧ w = w' := by
  induction n using Nat.strongRecOn with
  | _ n ih =>
    intro w
    by_cases h : n < 10
    · exact dec_one n h w
    · have c1 := ih (n / 10) (by omega) (by omega)
      have c2 := dec_one (n % 10) (by omega)
      rw [decL_one (show n % 10 < 10 by omega)] at c2
      have hm := decL_more h
      have q1 : ((n / 10 : Nat) : Int) = (n : Int) / 10 := by omega
      have q2 : ((n % 10 : Nat) : Int) = (n : Int) % 10 := by omega
      rw [q1] at c1
      rw [q2] at c2
      have C := Lib.hid (And.intro c1 (And.intro c2 hm))
      have h' : ¬ ((n : Int) < 10) := by omega
      clear c1 c2 hm q1 q2 ih
      have hl := decL_short 20 (n / 10) (by omega) (by omega)
      obtain ⟨A, hA⟩ : ∃ A : ByteArray, A = ⟨(decL (n / 10)).toArray⟩ := ⟨_, rfl⟩
      obtain ⟨D, hD⟩ : ∃ D : ByteArray, D = ⟨[UInt8.ofNat (48 + n % 10)].toArray⟩ := ⟨_, rfl⟩
      have hs1 : A.size ≤ 4294967296 := by rw [hA]; show (decL (n / 10)).toArray.size ≤ _; simp; omega
      have hs2 : D.size = 1 := by rw [hD]; rfl
      have hs3 : ¬ (A.size + D.size > 9223372036854775807) := by omega
      have hAD : (A ++ D : ByteArray) = ⟨(decL n).toArray⟩ := by rw [C.out.2.2, hA, hD]; exact ByteArray.ext (by rw [ByteArray.data_append]; simp only [List.append_toArray])
      have C1 := C.out.1
      have C2 := C.out.2.1
      rw [← hA] at C1
      rw [← hD] at C2
      have E := Lib.hid (And.intro C1 (And.intro C2 hAD))
      clear C C1 C2 hA hD hAD hl hs1 hs2
      go_enter Tryz.func43, Tryz.ntmps43
      go_wp2_with fail
      refine (E.out.1 _).mono ?_; rintro e w1 ⟨rfl, rfl⟩
      go_wp2_with fail
      refine (E.out.2.1 _).mono ?_; rintro e w1 ⟨rfl, rfl⟩
      go_wp2_with fail
      all_goals first
        | (exfalso; omega)
        | (go_ret; exact ⟨by rw [← E.out.2.2]; rfl, rfl⟩)
theorem rdec_any (n : Nat) (hn : n < 18446744073709551616) (w : World) : Calls Tryz.prog 43 #[.int .u64 (n : Int)] w (TextPost (decL n) w) := (dec_all n hn w).mono fun e w' ⟨h1, h2⟩ => ⟨h1, by rw [← h2]; exact Turn.refl _ _⟩
theorem rip_text (n : Nat) (hn : n < 4294967296) (w : World) : Calls Tryz.prog 40 #[.int .u32 (n : Int)] w (TextPost (ipText n) w) := (ripText_any n hn w).mono fun e w' ⟨h1, h2⟩ => ⟨h1, by rw [← h2]; exact Turn.refl _ _⟩
theorem rsdec_any (n : Nat) (hn : n ≤ 9223372036854775807) (w : World) : Calls Tryz.prog 44 #[.int .i64 (n : Int)] w (TextPost (decL n) w) := by
  have hc := rdec_any n (by omega) w
  have hw : IntKind.u64.wrap (n : Int) = (n : Int) := by unfold IntKind.wrap; simp [IntKind.bits, IntKind.signed]; omega
  have hn0 : ¬ (n : Int) < 0 := by omega
  clear hn
  go_enter Tryz.func44, Tryz.ntmps44
  go_wp2_with (go_at_call 43; refine hc.mono ?_; rintro e w1 ⟨rfl, t⟩)
  go_ret
  exact ⟨rfl, t⟩
end Go.Proofs.YtbkpbcmjgbdbkaaGreatDoor
