/- A line's readers: done, must, read. No condition. -/
import Derived.Test.YtbkpbcmjgbdbkaaGreatDoorMC
import Derived.Test.YtbkpbcmjgbdbkaaGreatDoorF3
namespace Go.Proofs.YtbkpbcmjgbdbkaaGreatDoor
open Go.RowKit
set_option linter.unusedVariables false
set_option linter.unusedSimpArgs false

/-- The next word, or the line's end as the place of the error. -/
def nextP (L : List Wd) (en n : Nat) : Except Nat (Wd × Nat) := match L[n]? with
  | some x => .ok (x, n + 1)
  | none => .error en
/-- What a reader of a line's words leaves. -/
def Took (w : World) (b g cap : Nat) (L : List Wd) (en : Nat) (r : Except Nat (Value × Nat)) (e : Ending) (w' : World) : Prop := match r with
  | .error pl => Fails pl (fun k => k = b) w e w'
  | .ok (v, m) => e = .returned v ∧ LineIs w' b g cap L en m ∧ Turn (fun k => k = b) w w'
theorem Fails.mono {pl : Nat} {F G : Nat → Prop} {w w' : World} {e : Ending} (h : Fails pl F w e w') (hG : ∀ i, i < w.heap.size → F i → G i) : Fails pl G w e w' := by
  obtain ⟨p, h1, h2, h3, h4⟩ := h
  exact ⟨p, h1, h2, h3, h4.mono hG⟩
theorem Fails.after {pl : Nat} {F G : Nat → Prop} {a w w' : World} {e : Ending} (h : Fails pl F w e w') (t : Turn G a w) (hF : ∀ i, i < a.heap.size → F i → G i) : Fails pl G a e w' := by
  obtain ⟨p, h1, h2, h3, h4⟩ := h
  exact ⟨p, h1, h2, Nat.le_trans t.size h3, t.trans2 h4 hF⟩
theorem LineIs.turn {w w' : World} {b g cap : Nat} {L : List Wd} {en n : Nat} {F : Nat → Prop} (h : LineIs w b g cap L en n) (t : Turn F w w') (hb : ¬ F b) (hg : ¬ F g) : LineIs w' b g cap L en n := by
  obtain ⟨h1, h2, h3, h4⟩ := h.ex
  exact ⟨⟨(t.block b (block_lt h1) hb).trans h1, h2, Nat.lt_of_lt_of_le h3 t.size, fun i x hi => by
    rw [cell_turn0 t h3 hg, cell_turn0 t h3 hg]; exact h4 i x hi⟩, h.len, h.le, h.size, h.low⟩
theorem LineIs.glt {w : World} {b g cap : Nat} {L : List Wd} {en n : Nat} (h : LineIs w b g cap L en n) : g < w.heap.size := h.ex.2.2.1
theorem LineIs.lt {w : World} {b g cap : Nat} {L : List Wd} {en n : Nat} (h : LineIs w b g cap L en n) : b < w.heap.size := by
  obtain ⟨h1, h2, h3, h4⟩ := h.ex
  exact block_lt h1
theorem nextP_some {L : List Wd} {en n : Nat} {x : Wd} (h : L[n]? = some x) : nextP L en n = .ok (x, n + 1) := by unfold nextP; rw [h]
theorem nextP_none {L : List Wd} {en n : Nat} (h : L[n]? = none) : nextP L en n = .error en := by unfold nextP; rw [h]

/-- Nothing is left, or the place of the next word as that of the error. -/
def doneP (L : List Wd) (n : Nat) : Except Nat Unit := match L[n]? with
  | some x => .error x.2
  | none => .ok ()
theorem done_ok (b g cap : Nat) (L : List Wd) (en n : Nat) (w : World) (h : LineIs w b g cap L en n) (hx : L[n]? = none) :
    Calls Tryz.prog 50 #[.pointer (some ⟨b, 0, none⟩)] w fun e w' => e = .returned (.tuple #[]) ∧ Turn (fun _ => False) w w' := by
  obtain ⟨h1, h2, h3, h4⟩ := h.ex
  have hn : n = L.length := Nat.le_antisymm h.le (List.getElem?_eq_none_iff.1 hx)
  subst hn
  have c0 : w.cell? ⟨b, 0, none⟩ = some (.slice (some ⟨g, 0, none⟩) L.length cap) := cell_of_block h1 0
  have c2 : w.cell? ⟨b, 2, none⟩ = some (.int .i64 (L.length : Int)) := cell_of_block h1 2
  clear h4 hx
  go_enter Tryz.func50, Tryz.ntmps50
  go_wp2_with fail
  go_quiet (fail)
  go_wp2_with fail
  go_end0
  exact ⟨rfl, (Turn.refl _ _).drewN _⟩
theorem done_world {w : World} {b g m : Nat} : (∀ i, (w.drewN m).drew.cell? ⟨b, i, none⟩ = w.cell? ⟨b, i, none⟩) ∧ (∀ i, (w.drewN m).drew.cell? ⟨g, i, none⟩ = w.cell? ⟨g, i, none⟩) ∧ Turn (fun _ => False) w (w.drewN m).drew :=
  ⟨fun i => World.cell?_of_block (block_drewN w m b), fun i => World.cell?_of_block (block_drewN w m g), ((Turn.refl _ _).drewN m).drew⟩
set_option maxRecDepth 100000 in
theorem done_no (b g cap : Nat) (L : List Wd) (en n : Nat) (w : World) (h : LineIs w b g cap L en n) (s : ByteArray) (a : Nat) (hx : L[n]? = some (s, a)) :
    Calls Tryz.prog 50 #[.pointer (some ⟨b, 0, none⟩)] w (Fails a (fun _ => False) w) := by
  obtain ⟨h1, h2, h3, h4⟩ := h.ex
  obtain ⟨x1, x2⟩ := h4 n _ hx
  have hn : n < L.length := (List.getElem?_eq_some_iff.1 hx).1
  have c0 : w.cell? ⟨b, 0, none⟩ = some (.slice (some ⟨g, 0, none⟩) L.length cap) := cell_of_block h1 0
  have c2 : w.cell? ⟨b, 2, none⟩ = some (.int .i64 (n : Int)) := cell_of_block h1 2
  have i1 : (0 : Int) ≤ (n : Int) := by omega
  have i2 : (n : Int) < (L.length : Int) := by omega
  clear h4 hx
  go_enter Tryz.func50, Tryz.ntmps50
  go_wp2_with fail
  go_quiet (fail)
  go_wp2_with fail
  obtain ⟨k1, k2, k3⟩ := done_world (w := w) (m := nq) (b := b) (g := g)
  refine region_tail 11 (by kernel_rfl) (by kernel_rfl) _ rfl ?_
  generalize World.drew _ = W at *
  rw [← k1] at c0 c2
  rw [← k2] at x1 x2
  simp only [List.take_succ_cons, List.take_zero, List.drop_succ_cons, List.drop_zero]
  repeat still_step
  try refine wpStill_nil ?_
  go_wp2_with (go_at_call 47; refine (fail_any a _).mono ?_; rintro e w1 ⟨p, rfl, q1, q2, q3⟩)
  exact ⟨rfl, p, rfl, q1, Nat.le_trans k3.size q2, k3.trans q3⟩
theorem str_ne {s t : ByteArray} (h : ¬ s = t) : (s.toList == t.toList) = false := by
  rw [beq_eq_false_iff_ne]
  intro e
  rw [ByteArray.toList_eq, ByteArray.toList_eq] at e
  exact h (ByteArray.ext (Array.toList_inj.1 e))
/-- A word that must stand there. -/
def mustP (s : ByteArray) (L : List Wd) (en n : Nat) : Except Nat Nat := match L[n]? with
  | some x => if x.1 = s then .ok (n + 1) else .error x.2
  | none => .error en
theorem line_end {w : World} {b g cap : Nat} {L : List Wd} {en n : Nat} (h : LineIs w b g cap L en n) (hx : L[n]? = none) : n = L.length := Nat.le_antisymm h.le (List.getElem?_eq_none_iff.1 hx)
theorem must_any (s : ByteArray) (b g cap : Nat) (L : List Wd) (en n : Nat) (w : World) (h : LineIs w b g cap L en n) :
    Calls Tryz.prog 75 #[.pointer (some ⟨b, 0, none⟩), .string s] w (Took w b g cap L en ((mustP s L en n).map fun m => (.tuple #[], m))) := by
  cases hx : L[n]? with
  | none =>
    have hn := line_end h hx
    subst hn
    have hr : mustP s L en L.length = .error en := by unfold mustP; rw [hx]
    rw [hr]
    clear hr hx
    go_enter Tryz.func75, Tryz.ntmps75
    go_wp2_with (go_at_call 51; refine (next_no b g cap L en _ h).mono ?_; rintro e w1 ⟨p, rfl, q1, q2, q3⟩)
    exact ⟨rfl, p, rfl, q1, q2, q3.mono (fun _ _ h => h.elim)⟩
  | some x =>
    obtain ⟨t, a⟩ := x
    have hnext := next_ok b g cap L en n w h t a hx
    by_cases hs : t = s
    · have hr : mustP s L en n = .ok (n + 1) := by unfold mustP; rw [hx]; exact if_pos hs
      rw [hr]
      clear hr hx
      go_enter Tryz.func75, Tryz.ntmps75
      subst hs
      go_wp2_with (go_at_call 51; refine hnext.mono ?_; rintro e w1 ⟨rfl, q1, q2⟩)
      go_end0
      exact ⟨rfl, q1.turn ((Turn.refl (fun _ => False) _).alloc _) (fun h => h) (fun h => h), q2.alloc _⟩
    · have hr : mustP s L en n = .error a := by unfold mustP; rw [hx]; exact if_neg hs
      rw [hr]
      have hne := str_ne hs
      clear hr hx hs
      go_enter Tryz.func75, Tryz.ntmps75
      go_wp2_with (first | (go_at_call 51; refine hnext.mono ?_; rintro e w1 ⟨rfl, q1, q2⟩) | (go_at_call 47; refine (fail_any a _).mono ?_; rintro e w2 ⟨p, rfl, r1, r2, r3⟩))
      exact ⟨rfl, p, rfl, r1, Nat.le_trans (q2.alloc _).size r2, (q2.alloc _).trans2 r3 (fun _ _ h => h.elim)⟩
end Go.Proofs.YtbkpbcmjgbdbkaaGreatDoor
