/- Are these tenants light? No condition. -/
import Derived.Test.YtbkpbcmjgbdbkaaGreatDoorMD
namespace Go.Proofs.YtbkpbcmjgbdbkaaGreatDoor
open Go.RowKit Go.Lib
set_option linter.unusedVariables false
set_option linter.unusedSimpArgs false
set_option maxRecDepth 100000

/-- A load that is known by its run, as one step of the walk. -/
theorem wpList_load_run {P : Program} {ops : Array Oper} {rest : List Oper} {o : Oper} {a : Act} {w : World} {Q : Exit → Act → World → Prop} (hgd : o.guard = none) (ty : TypeId) (x : Operand) (ho : o.op = .load ty x) (v : Value)
    (hl : (Instr.loadAt ty (a.eval x)).run P w = .ok v w) (h : wpList P ops Q rest (a.put o.dst v) w) : wpList P ops Q (o :: rest) a w :=
  wpList_plain hgd fun _ hK => by
    unfold Oper.wp execOp
    simp only [ho, Sem.run_bind, hl, Result.andThen_ok, Sem.run_pure]
    exact hK _ _ h
def LightsPost (n : Nat) (f : Nat → Bool) (most : Nat) (w : World) (e : Ending) (w' : World) : Prop :=
  ∃ b, e = .returned (.bool b) ∧ (b = true → n ≤ most ∧ ∀ i, i < n → f i = true) ∧ Turn (fun _ => False) w w'
set_option maxHeartbeats 2000000 in
theorem lights_any (R : List (Array Value)) (f : Nat → Bool) (most : Nat) (hm : most ≤ 1000000) (v : Value) (w : World) (ha : RowsIn w v R)
    (hL : ∀ (i : Nat) (r : Array Value), R[i]? = some r → ∀ W, Turn (fun _ => False) w W → Calls Tryz.prog 31 #[.agg r] W fun e w' => e = .returned (.bool (f i)) ∧ Turn (fun _ => False) W w') :
    Calls Tryz.prog 14 #[v, .int .i64 (most : Int)] w (LightsPost R.length f most w) := by
  obtain ⟨ao, ca, rfl, hl, hA⟩ := ha
  go_enter Tryz.func14, Tryz.ntmps14
  go_wp2_with fail
  go_loopg [5] R.length (fun g i wr => ∃ k : Nat, g = R.length - k ∧ k ≤ R.length ∧ k ≤ most ∧ i = .int .i64 (k : Int) ∧ Turn (fun _ => False) w wr ∧ ∀ i, i < k → f i = true)
  case atStart => exact ⟨0, rfl, Nat.zero_le _, Nat.zero_le _, rfl, Turn.refl _ _, fun i hi => by omega⟩
  case round =>
    obtain ⟨k, rfl, hk, hkm, rfl, t, hf⟩ := hrel
    by_cases hlt : k < R.length
    · have i2 : (k : Int) < (R.length : Int) := by omega
      by_cases hlm : k < most
      · obtain ⟨r, hr⟩ : ∃ x, R[k]? = some x := ⟨_, List.getElem?_eq_getElem hlt⟩
        obtain ⟨z1, b, off, rfl, h1, h2⟩ := hA k _ hr
        have kA := run_loadAt_at (W := wr) (b := b) (o := off + k * 33) z1 (fun j u hj => (World.cell?_of_block (t.block b h1 (fun h => h))).trans (h2 j u hj))
        have cT := hL k r hr wr t
        have i1 : (0 : Int) ≤ (k : Int) := by omega
        have i3 : (k : Int) < (most : Int) := by omega
        have HF := Lib.hid hf
        clear hA hL h2 hr hf
        cases hfk : f k with
        | true =>
          rw [hfk] at cT
          go_wp2_with (refine wpList_load_run rfl 45 _ rfl (.agg r) kA ?_)
          refine cT.mono ?_
          rintro e w1 ⟨rfl, t1⟩
          go_wp2_with fail
          go_roundg (R.length - (k + 1))
          case measure => omega
          case rel => exact ⟨k + 1, rfl, by omega, by omega, by go_num, t.trans t1, fun i hi => by
            rcases Nat.lt_or_ge i k with h | h
            · exact HF.out i h
            · have : i = k := by omega
              rw [this]; exact hfk⟩
        | false =>
          rw [hfk] at cT
          go_wp2_with (refine wpList_load_run rfl 45 _ rfl (.agg r) kA ?_)
          refine cT.mono ?_
          rintro e w1 ⟨rfl, t1⟩
          go_wp2_with fail
          go_ret
          exact ⟨false, rfl, (fun h => by cases h), t.trans t1⟩
      · have i3 : ¬ (k : Int) < (most : Int) := by omega
        have hkm' : k = most := by omega
        have i4 : ¬ (R.length : Int) ≤ (most : Int) := by omega
        clear hA hL
        go_wp2_with fail
        go_ret
        exact ⟨false, rfl, (fun h => by cases h), t⟩
    · obtain rfl : k = R.length := by omega
      have i4 : (R.length : Int) ≤ (most : Int) := by omega
      clear hA hL
      go_wp2_with fail
      go_ret
      exact ⟨true, rfl, fun _ => ⟨hkm, hf⟩, t⟩
end Go.Proofs.YtbkpbcmjgbdbkaaGreatDoor
