/- LimitFills: the walk. No condition. -/
import Derived.Test.YtpnobcffglohnaaL3
namespace Go.Proofs.Ytpnobcffglohnaa
open Go.RowKit

set_option maxHeartbeats 1000000 in
theorem fills_walk (r m : Int) (w : World) (hr0 : 0 ≤ r) (hr1 : r < 65536) (hm0 : 0 ≤ m) (hm1 : m < 65536) :
    Calls Try.prog 4 #[.int .u16 r, .int .u16 m] w fun e w' => e = .returned (.bool true) ∧ Below w.heap.size w w' := by
  obtain ⟨R, hR⟩ : ∃ R, R = r % 50 := ⟨_, rfl⟩
  obtain ⟨M, hM⟩ : ∃ M, M = m % 1000 := ⟨_, rfl⟩
  have hR0 : 0 ≤ R := by omega
  have hR1 : R < 50 := by omega
  have hM0 : 0 ≤ M := by omega
  have hM1 : M < 1000 := by omega
  go_enter Try.func4, Try.ntmps4
  go_wp2_with fail
  refine (known20 _).mono ?_; rintro e w0 ⟨rfl, t0⟩
  go_wp2_with fail
  rw [← hR, ← hM]
  clear hR hM
  refine (new_any _ _ _).mono ?_; rintro e w1 ⟨rfl, hw1⟩
  have h1 : Bk 73 w1 w0.heap.size R M M := by rw [hw1]; exact block_alloc_new _ _
  have t1 : Below w.heap.size w w1 := by rw [hw1]; exact t0.alloc t0.size _
  have hB : w.heap.size ≤ w0.heap.size := t0.size
  have hF : ∀ i, i < w.heap.size → ¬ (i = w0.heap.size) := fun i hi e => by omega
  clear hw1 t0
  generalize w0.heap.size = B at *
  go_wp2_with fail
  refine (take_yes _ R M M M _ h1 hM0 (Int.le_refl _) (by omega)).mono ?_; rintro e w2 ⟨rfl, h2, t2⟩
  have t3 := t2.onto t1 (Nat.le_refl _) hF
  have e0 : M - M = 0 := by omega
  rw [e0] at h2
  clear e0
  go_wp2_with fail
  refine (level_any _ _ _ _ _ h2).mono ?_; rintro e w3 ⟨rfl, rfl⟩
  go_wp2_with fail
  go_loopw [8, 9] (fun lv i wr => ∃ (k : Nat) (l : Int), k ≤ 30 ∧ i = .int .i64 k ∧ lv = .int .u32 l ∧ Bk 73 wr B R M l ∧ Below w.heap.size w wr ∧ 0 ≤ l ∧ l ≤ M) (fun _ i _ => 30 - (intOf i).toNat)
  case atStart => exact ⟨0, 0, by omega, rfl, rfl, h2, t3, by omega, by omega⟩
  case round =>
    obtain ⟨k, l, hk, rfl, rfl, hbk, ht, hl0, hl1⟩ := hrel
    by_cases hlt : k < 30
    · go_wp2_with fail
      refine (tick_any _ R M l _ hbk hR0 hl0 hl1 (by omega)).mono ?_; rintro e w4 ⟨rfl, h4, t4⟩
      have t5 := t4.onto ht (Nat.le_refl _) hF
      go_wp2_with fail
      · refine (level_any _ _ _ _ _ h4).mono ?_; rintro e w5 ⟨rfl, rfl⟩
        rw [show min (l + R) M = M by omega]
        rw [show min (l + R) M = M by omega] at h4
        go_wp2_with fail
        go_roundw
        case rel => exact ⟨k + 1, M, by omega, by go_num, rfl, h4, t5, by omega, by omega⟩
        case measure => simp [intOf]; omega
      · refine (level_any _ _ _ _ _ h4).mono ?_; rintro e w5 ⟨rfl, rfl⟩
        rw [show min (l + R) M = l + R by omega]
        rw [show min (l + R) M = l + R by omega] at h4
        go_wp2_with fail
        go_roundw
        case rel => exact ⟨k + 1, l + R, by omega, by go_num, rfl, h4, t5, by omega, by omega⟩
        case measure => simp [intOf]; omega
    · go_wp2_with fail
      refine (take_yes _ R M l l _ hbk hl0 (Int.le_refl _) (by omega)).mono ?_; rintro e w4 ⟨rfl, h4, t4⟩
      have t5 := t4.onto ht (Nat.le_refl _) hF
      have e0 : l - l = 0 := by omega
      rw [e0] at h4
      clear e0
      go_wp2_with fail
      refine (level_any _ _ _ _ _ h4).mono ?_; rintro e w3 ⟨rfl, rfl⟩
      go_wp2_with fail
      refine (take_no _ R M 0 1 _ h4 (by omega)).mono ?_; rintro e w5 ⟨rfl, h5, t6⟩
      go_wp2_with fail
      go_ret
      exact ⟨rfl, t6.onto t5 (Nat.le_refl _) hF⟩
end Go.Proofs.Ytpnobcffglohnaa
