/- PortsPlay: the walks at every argument. No condition. -/
import Derived.Test.YtpnobcffglohnaaR7
namespace Go.Proofs.Ytpnobcffglohnaa
open Go.RowKit
set_option linter.unusedVariables false
set_option linter.unusedSimpArgs false

set_option maxHeartbeats 1000000 in
theorem light_nil (ao : Option Addr) (cap : Nat) (w : World) : Calls Try.prog 23 #[.slice ao 0 cap] w fun e w' => e = .returned (.bool true) ∧ w' = w := by
  go_enter Try.func23, Try.ntmps23
  go_wp2_with fail
  refine wp_loop_rounds 1 ?_; rw [rounds_succ]
  go_wp2_with fail
  go_ret
  exact ⟨rfl, rfl⟩

set_option maxHeartbeats 1000000 in
theorem plays17_nil (ao : Option Addr) (cap : Nat) (w : World) :
    Calls Try.prog 8 #[.slice ao 0 cap] w fun e w' => e = .returned (.bool true) ∧ Below w.heap.size w w' := by
  go_enter Try.func8, Try.ntmps8
  go_wp2_with fail
  refine (known17 _).mono ?_; rintro e w0 ⟨rfl, t0⟩
  go_wp2_with fail
  refine (light_nil ao cap _).mono ?_; rintro e w1 ⟨rfl, rfl⟩
  go_wp2_with fail
  refine (pnew_any _).mono ?_; rintro e w2 ⟨rfl, p2, t2⟩
  have B2 : Below w.heap.size w w2 := t2.onto t0 (Nat.le_refl _) (fun _ _ h => h)
  have B3 : Below w.heap.size w (w2.alloc (.cells #[.slice none 0 0] 59)) := B2.alloc B2.size _
  clear p2 t2 t0 B2
  go_wp2_with fail
  refine wp_loop_rounds 1 ?_; rw [rounds_succ]
  go_wp2_with fail
  go_ret
  exact ⟨rfl, B3⟩

theorem plays17_all {H : Type} {enc : TypeId × Value → H} {w : World} {base : Nat} {spare : Nat → Bool} {held : Bool} {ao : Option Addr} {len cap : Nat} {d : DataW H} {p : List MemPlace}
    (h : DataW.Trod enc Try.prog w base spare held 54 (.slice ao len cap) d p) :
    Calls Try.prog 8 #[.slice ao len cap] w fun e w' => e = .returned (.bool true) ∧ Below w.heap.size w w' := by
  by_cases h0 : len = 0
  · subst h0; exact plays17_nil ao cap w
  · obtain ⟨b, off, f, rfl, hA⟩ := acts61_open h (by omega)
    exact plays17_walk b off len cap f w hA (slice_len Try.underlying54 h)
end Go.Proofs.Ytpnobcffglohnaa
