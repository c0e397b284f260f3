/- help.Place; help.Light. No condition. -/
import Derived.Test.YtbkpbcmjgbdbkaaGreatDoorMD
namespace Go.Proofs.YtbkpbcmjgbdbkaaGreatDoor
open Go.RowKit
set_option linter.unusedVariables false
set_option linter.unusedSimpArgs false
set_option maxRecDepth 100000

set_option maxHeartbeats 1000000 in
theorem place_fix (k : Int) (n : Nat) (hn : 0 < n) (hn' : n ≤ 1000000) (hk : -9223372036854775808 ≤ k ∧ k ≤ 9223372036854775807) :
    ∃ i : Nat, i < n ∧ ∀ w, Calls Tryz.prog 18 #[.int .i64 k, .int .i64 (n : Int)] w fun e w' => e = .returned (.int .i64 (i : Int)) ∧ w = w' := by
  have hr1 : -(n : Int) < k.tmod n := by
    have := Int.lt_tmod_of_pos k (show (0 : Int) < n by omega); omega
  have hr2 : k.tmod n < (n : Int) := Int.tmod_lt_of_pos k (by omega)
  have hw : IntKind.i64.wrap (k.tmod n) = k.tmod n := by rw [IntKind.wrap_i64]; omega
  have hn0 : ¬ ((n : Int) = 0) := by omega
  obtain ⟨r, hr⟩ : ∃ r, r = k.tmod (n : Int) := ⟨_, rfl⟩
  rw [← hr] at hr1 hr2 hw
  have hr' := hr.symm
  clear hr
  by_cases h0 : r < 0
  · have hw2 : IntKind.i64.wrap (r + (n : Int)) = r + (n : Int) := by rw [IntKind.wrap_i64]; omega
    obtain ⟨i, hi⟩ : ∃ i : Nat, r + (n : Int) = (i : Int) := ⟨(r + (n : Int)).toNat, by omega⟩
    refine ⟨i, by omega, fun w => ?_⟩
    go_enter Tryz.func18, Tryz.ntmps18
    go_wp2_with fail
    go_ret
    exact ⟨by rw [← hi]; rfl, rfl⟩
  · obtain ⟨i, hi⟩ : ∃ i : Nat, r = (i : Int) := ⟨r.toNat, by omega⟩
    refine ⟨i, by omega, fun w => ?_⟩
    go_enter Tryz.func18, Tryz.ntmps18
    go_wp2_with fail
    go_ret
    exact ⟨by rw [← hi]; rfl, rfl⟩

set_option maxHeartbeats 2000000 in
theorem light_any (s : ByteArray) (vni vt lo hi fi se qu ra bu k0 k1 k2 k3 k4 k5 k6 k7 m0 m1 m2 m3 m4 m5 x0 x1 x2 x3 x4 x5 : Int) (a1 a2 a3 : Option Addr) (l1 l2 l3 c1 c2 c3 : Nat) (w : World) :
    Calls Tryz.prog 31 #[.agg #[.string s, .int .u32 vni, .int .u8 k0, .int .u8 k1, .int .u8 k2, .int .u8 k3, .int .u8 k4, .int .u8 k5, .int .u8 k6, .int .u8 k7, .int .u32 vt, .int .u8 m0, .int .u8 m1, .int .u8 m2, .int .u8 m3, .int .u8 m4, .int .u8 m5, .int .u8 x0, .int .u8 x1, .int .u8 x2, .int .u8 x3, .int .u8 x4, .int .u8 x5, .slice a1 l1 c1, .int .u16 lo, .int .u16 hi, .int .i64 fi, .slice a2 l2 c2, .slice a3 l3 c3, .int .i64 se, .int .i64 qu, .int .u32 ra, .int .u32 bu]] w fun e w' => e = .returned (.bool (decide (s.size ≤ 300 ∧ l1 ≤ 300 ∧ l2 ≤ 300 ∧ l3 ≤ 300))) ∧ Turn (fun _ => False) w w' := by
  have t0 := (Turn.refl (fun _ => False) w).alloc (.cells #[.string s, .int .u32 vni, .int .u8 k0, .int .u8 k1, .int .u8 k2, .int .u8 k3, .int .u8 k4, .int .u8 k5, .int .u8 k6, .int .u8 k7, .int .u32 vt, .int .u8 m0, .int .u8 m1, .int .u8 m2, .int .u8 m3, .int .u8 m4, .int .u8 m5, .int .u8 x0, .int .u8 x1, .int .u8 x2, .int .u8 x3, .int .u8 x4, .int .u8 x5, .slice a1 l1 c1, .int .u16 lo, .int .u16 hi, .int .i64 fi, .slice a2 l2 c2, .slice a3 l3 c3, .int .i64 se, .int .i64 qu, .int .u32 ra, .int .u32 bu] 45)
  by_cases h1 : s.size ≤ 300
  · have h1' : (s.size : Int) ≤ 300 := by omega
    by_cases h2 : l1 ≤ 300
    · have h2' : (l1 : Int) ≤ 300 := by omega
      by_cases h3 : l2 ≤ 300
      · have h3' : (l2 : Int) ≤ 300 := by omega
        by_cases h4 : l3 ≤ 300
        · have h4' : (l3 : Int) ≤ 300 := by omega
          rw [decide_eq_true ⟨h1, h2, h3, h4⟩]
          clear h1 h2 h3 h4
          go_enter Tryz.func31, Tryz.ntmps31
          go_wp2_with fail
          go_ret
          exact ⟨rfl, t0⟩
        · have h4' : ¬ (l3 : Int) ≤ 300 := by omega
          rw [decide_eq_false (fun h => h4 h.2.2.2)]
          clear h1 h2 h3 h4
          go_enter Tryz.func31, Tryz.ntmps31
          go_wp2_with fail
          go_ret
          exact ⟨rfl, t0⟩
      · have h3' : ¬ (l2 : Int) ≤ 300 := by omega
        rw [decide_eq_false (fun h => h3 h.2.2.1)]
        clear h1 h2 h3
        go_enter Tryz.func31, Tryz.ntmps31
        go_wp2_with fail
        go_ret
        exact ⟨rfl, t0⟩
    · have h2' : ¬ (l1 : Int) ≤ 300 := by omega
      rw [decide_eq_false (fun h => h2 h.2.1)]
      clear h1 h2
      go_enter Tryz.func31, Tryz.ntmps31
      go_wp2_with fail
      go_ret
      exact ⟨rfl, t0⟩
  · have h1' : ¬ (s.size : Int) ≤ 300 := by omega
    rw [decide_eq_false (fun h => h1 h.1)]
    clear h1
    go_enter Tryz.func31, Tryz.ntmps31
    go_wp2_with fail
    go_ret
    exact ⟨rfl, t0⟩
end Go.Proofs.YtbkpbcmjgbdbkaaGreatDoor
