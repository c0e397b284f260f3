/- lychlaw20.known returns true. No condition. -/
import Derived.Test.YtpnobcffglohnaaL1
namespace Go.Proofs.Ytpnobcffglohnaa
open Go.RowKit

set_option maxHeartbeats 1000000 in
theorem known20 (w : World) :
    Calls Try.prog 10 #[] w fun e w' => e = .returned (.bool true) ∧ Below w.heap.size w w' := by
  go_enter Try.func10, Try.ntmps10
  go_wp2_with fail
  refine (new_any 1 2 _).mono ?_; rintro e w0 ⟨rfl, hw0⟩
  have h0 : Bk 73 w0 w.heap.size 1 2 2 := by rw [hw0]; exact block_alloc_new _ _
  have t0 : Below w.heap.size w w0 := by rw [hw0]; exact (Below.refl _ _).alloc (Nat.le_refl _) _
  clear hw0
  have hb : ∀ k, k < w.heap.size → ¬ (k = w.heap.size) := fun k hk e => by omega
  go_wp2_with fail
  refine (take_yes _ 1 2 2 1 _ h0 (by decide) (by decide) (by decide)).mono ?_; rintro e w1 ⟨rfl, h1, t1⟩
  go_wp2_with fail
  refine (take_yes _ 1 2 1 1 _ h1 (by decide) (by decide) (by decide)).mono ?_; rintro e w2 ⟨rfl, h2, t2⟩
  go_wp2_with fail
  refine (take_no _ 1 2 0 1 _ h2 (by decide)).mono ?_; rintro e w3 ⟨rfl, h3, t3⟩
  go_wp2_with fail
  refine (tick_any _ 1 2 0 _ h3 (by decide) (by decide) (by decide) (by decide)).mono ?_; rintro e w4 ⟨rfl, h4, t4⟩
  go_wp2_with fail
  refine (take_yes _ 1 2 1 1 _ h4 (by decide) (by decide) (by decide)).mono ?_; rintro e w5 ⟨rfl, h5, t5⟩
  go_wp2_with fail
  refine (level_any _ 1 2 0 _ h5).mono ?_; rintro e w6 ⟨rfl, rfl⟩
  go_wp2_with fail
  go_ret
  exact ⟨rfl, t0.trans ((t1.below t0.size hb).trans ((t2.below (Nat.le_trans t0.size t1.size) hb).trans ((t3.below (by have := t0.size; have := t1.size; have := t2.size; omega) hb).trans
    ((t4.below (by have := t0.size; have := t1.size; have := t2.size; have := t3.size; omega) hb).trans (t5.below (by have := t0.size; have := t1.size; have := t2.size; have := t3.size; have := t4.size; omega) hb)))))⟩
end Go.Proofs.Ytpnobcffglohnaa
