/- An error's place and number. Condition: what the package errors holds of the type 'error'. -/
import Derived.Test.YtbkpbcmjgbdbkaaGreatDoorK0
namespace Go.Proofs.YtbkpbcmjgbdbkaaGreatDoor
open Go.RowKit
set_option linter.unusedVariables false
set_option linter.unusedSimpArgs false

def ErrType (w : World) : Prop := w.cell? ⟨0, 0, none⟩ = some (.iface 156 (.agg #[.pointer (some ⟨7, 31, none⟩)]))
theorem told_nil (w : World) : Calls Tryz.prog 11 #[.nilIface] w fun e w' => e = .returned (.tuple #[.int .i64 0, .int .i64 0]) ∧ w' = w := by
  go_enter Tryz.func11, Tryz.ntmps11
  go_wp2_with fail
  go_ret2
  exact ⟨rfl, rfl⟩
theorem as_err (e t : Nat) (w : World) (hg : ErrType w) (ht : w.heap[t]? = some (.cells #[.pointer none] 58 (0, 0))) (h0 : 0 ≠ t) :
    Calls Tryz.prog 21 #[.iface 58 (.pointer (some ⟨e, 0, none⟩)), .iface 64 (.pointer (some ⟨t, 0, none⟩))] w fun ev w' => ev = .returned (.bool true) ∧ w'.heap[t]? = some (.cells #[.pointer (some ⟨e, 0, none⟩)] 58 (0, 0)) ∧ Turn (fun k => k = t) w w' := by
  refine (as_hit ⟨e, 0, none⟩ ⟨t, 0, none⟩ (.pointer none) w hg (cell_of_block ht 0) (free_of_block ht 0)).mono ?_
  rintro ev w' ⟨rfl, rfl⟩
  refine ⟨rfl, ?_, ((((((Turn.refl (fun k => k = t) w).alloc _).alloc _).alloc _).alloc _).setCell (p := ⟨t, 0, none⟩) _ (fun _ => rfl))⟩
  exact block_setCell (block_alloc_old (block_alloc_old (block_alloc_old (block_alloc_old ht)))) 0 _
set_option maxHeartbeats 1000000 in
theorem told_err (p a n : Nat) (w : World) (hg : ErrType w) (hp : w.heap[p]? = some (.cells #[.int .i64 (a : Int), .int .i64 (n : Int)] 67 (0, 0))) :
    Calls Tryz.prog 11 #[.iface 58 (.pointer (some ⟨p, 0, none⟩))] w fun e w' => e = .returned (.tuple #[.int .i64 (a : Int), .int .i64 (n : Int)]) ∧ Turn (fun _ => False) w w' := by
  have hlt : 0 < w.heap.size := by
    rcases Nat.eq_zero_or_pos w.heap.size with h0 | h
    · unfold ErrType at hg; simp [World.cell?, h0] at hg
    · exact h
  have hpl := block_lt hp
  have hpa := block_alloc_old (o := .cells #[.pointer none] 58) hp
  have hg1 : ErrType (w.alloc (.cells #[.pointer none] 58)) := by
    unfold ErrType
    rw [cell_turn0 ((Turn.refl (fun _ => False) w).alloc (.cells #[.pointer none] 58)) hlt (fun h => h)]
    exact hg
  have has := as_err p w.heap.size _ hg1 (block_alloc_new w (.cells #[.pointer none] 58)) (by omega)
  clear hg hg1
  go_enter Tryz.func11, Tryz.ntmps11
  go_wp2_with fail
  refine has.mono ?_
  rintro e w1 ⟨rfl, q1, q2⟩
  have hp1 := (q2.block p (block_lt hpa) (by omega)).trans hpa
  have c0 : w1.cell? ⟨w.heap.size, 0, none⟩ = some (.pointer (some ⟨p, 0, none⟩)) := cell_of_block q1 0
  have c1 : w1.cell? ⟨p, 0, none⟩ = some (.int .i64 (a : Int)) := cell_of_block hp1 0
  have c2 : w1.cell? ⟨p, 1, none⟩ = some (.int .i64 (n : Int)) := cell_of_block hp1 1
  have t1 : Turn (fun _ => False) w w1 := ((Turn.refl (fun _ => False) w).alloc (.cells #[.pointer none] 58)).trans2 q2 (fun i hi e => absurd hi (by omega))
  clear q1 q2 hp1 has hp hpa
  go_wp2_with fail
  go_quiet (fail)
  go_wp2_with fail
  go_ret2
  exact ⟨rfl, t1.drewN _⟩
end Go.Proofs.YtbkpbcmjgbdbkaaGreatDoor
