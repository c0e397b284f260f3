/- A word read by a reader. No condition but the reader's. -/
import Derived.Test.YtbkpbcmjgbdbkaaGreatDoorH1
import Derived.Test.YtbkpbcmjgbdbkaaGreatDoorF4
namespace Go.Proofs.YtbkpbcmjgbdbkaaGreatDoor
open Go.RowKit Go.Lib
set_option linter.unusedVariables false
set_option linter.unusedSimpArgs false

theorem Env.keep {w w' : World} (e : Env w) (t : Turn (fun _ => False) w w') : Env w' := e.turn t (fun _ _ h => h)
def ValPost (v : Value) (w : World) (e : Ending) (w' : World) : Prop := e = .returned v ∧ Turn (fun _ => False) w w'
theorem list6 : ∀ (M : List Nat) (_ : M.length = 6), ∃ m0 m1 m2 m3 m4 m5 : Nat, M = [m0, m1, m2, m3, m4, m5]
  | [m0, m1, m2, m3, m4, m5], _ => ⟨m0, m1, m2, m3, m4, m5, rfl⟩
theorem list8 : ∀ (M : List Nat) (_ : M.length = 8), ∃ m0 m1 m2 m3 m4 m5 m6 m7 : Nat, M = [m0, m1, m2, m3, m4, m5, m6, m7]
  | [m0, m1, m2, m3, m4, m5, m6, m7], _ => ⟨m0, m1, m2, m3, m4, m5, m6, m7, rfl⟩
/-- A word that a reader reads. -/
def readP {α : Type} (f : List UInt8 → Option α) (L : List Wd) (en n : Nat) : Except Nat (α × Nat) := match L[n]? with
  | some x => match f x.1.data.toList with
    | some v => .ok (v, n + 1)
    | none => .error x.2
  | none => .error en

theorem rip1_none (b g cap : Nat) (L : List Wd) (en n : Nat) (w : World) (h : LineIs w b g cap L en n) (hx : L[n]? = none) :
    Calls Tryz.prog 76 #[.pointer (some ⟨b, 0, none⟩), .func (.func 77) #[] #[]] w (Fails en (fun k => k = b) w) := by
  have hn := line_end h hx
  subst hn
  go_enter Tryz.func76, Tryz.ntmps76
  go_wp2_with (go_at_call 51; refine (next_no b g cap L en _ (h.turn (Turn.refl (fun _ => False) w) (fun h => h) (fun h => h))).mono ?_; rintro e w1 ⟨p, rfl, q1, q2, q3⟩)
  exact ⟨rfl, p, rfl, q1, Nat.le_trans (Turn.refl (fun _ => False) w).size q2, ((Turn.refl (fun _ => False) w).trans q3).mono (fun _ _ h => h.elim)⟩
set_option maxHeartbeats 1000000 in
theorem rip1_bad (x : Int) (e : Int) (he : ¬ e = 0) (b g cap : Nat) (L : List Wd) (en n : Nat) (w : World) (h : LineIs w b g cap L en n) (s : ByteArray) (a : Nat) (hx : L[n]? = some (s, a))
    (hc : ∀ W, Turn (fun k => k = b) w W → Calls Tryz.prog 77 #[.string s] W (ValPost (.tuple #[.int .u32 x, .int .i64 e]) W)) :
    Calls Tryz.prog 76 #[.pointer (some ⟨b, 0, none⟩), .func (.func 77) #[] #[]] w (Fails a (fun k => k = b) w) := by
  have hnext := next_ok b g cap L en n _ (h.turn (Turn.refl (fun _ => False) w) (fun h => h) (fun h => h)) s a hx
  have hne : (e == 0) = false := by rw [beq_eq_false_iff_ne]; exact he
  clear hx h
  go_enter Tryz.func76, Tryz.ntmps76
  go_wp2_with (first | (go_at_call 51; refine hnext.mono ?_; rintro e w1 ⟨rfl, q1, q2⟩))
  have t1 := ((Turn.refl (fun k => k = b) w).trans q2).alloc (.cells #[.string s, .int .i64 (a : Int)] 108)
  refine (hc _ t1).mono ?_
  rintro _ w2 ⟨rfl, r1⟩
  have z := (r1.block _ (block_lt (block_alloc_new w1 (.cells #[.string s, .int .i64 (a : Int)] 108))) (fun h => h)).trans (block_alloc_new w1 (.cells #[.string s, .int .i64 (a : Int)] 108))
  have c1 : w2.cell? ⟨w1.heap.size, 1, none⟩ = some (.int .i64 (a : Int)) := cell_of_block z 1
  have t2 := t1.trans2 r1 (fun _ _ h => h.elim)
  have HW := Lib.hid t2
  clear z t1 t2 q1 q2 r1 hc hnext
  go_wp2_with (go_at_call 47; refine (fail_any a _).mono ?_; rintro e w3 ⟨p, rfl, p1, p2, p3⟩)
  have t3 := HW.out
  exact ⟨rfl, p, rfl, p1, Nat.le_trans t3.size p2, t3.trans2 p3 (fun _ _ h => h.elim)⟩
set_option maxHeartbeats 1000000 in
theorem rip1_good (x : Int) (b g cap : Nat) (L : List Wd) (en n : Nat) (w : World) (h : LineIs w b g cap L en n) (s : ByteArray) (a : Nat) (hx : L[n]? = some (s, a))
    (hc : ∀ W, Turn (fun k => k = b) w W → Calls Tryz.prog 77 #[.string s] W (ValPost (.tuple #[.int .u32 x, .int .i64 0]) W)) :
    Calls Tryz.prog 76 #[.pointer (some ⟨b, 0, none⟩), .func (.func 77) #[] #[]] w fun e w' => e = .returned (.int .u32 x) ∧ LineIs w' b g cap L en (n + 1) ∧ Turn (fun k => k = b) w w' := by
  have hnext := next_ok b g cap L en n _ (h.turn (Turn.refl (fun _ => False) w) (fun h => h) (fun h => h)) s a hx
  have HB := Lib.hid (And.intro h.lt h.glt)
  clear hx h
  go_enter Tryz.func76, Tryz.ntmps76
  go_wp2_with (first | (go_at_call 51; refine hnext.mono ?_; rintro e w1 ⟨rfl, q1, q2⟩))
  have t1 := ((Turn.refl (fun k => k = b) w).trans q2).alloc (.cells #[.string s, .int .i64 (a : Int)] 108)
  have l1 := q1.turn ((Turn.refl (fun _ => False) _).alloc (.cells #[.string s, .int .i64 (a : Int)] 108)) (fun h => h) (fun h => h)
  refine (hc _ t1).mono ?_
  rintro _ w2 ⟨rfl, r1⟩
  have l2 := l1.turn r1 (fun h => h) (fun h => h)
  have t2 := t1.trans2 r1 (fun _ _ h => h.elim)
  have HW := Lib.hid (And.intro l2 t2)
  clear l1 l2 t1 t2 q1 q2 r1 hc hnext
  go_wp2_with fail
  go_ret
  exact ⟨rfl, HW.out.1, HW.out.2⟩

theorem rnum1_none (q : Nat) (b g cap : Nat) (L : List Wd) (en n : Nat) (w : World) (h : LineIs w b g cap L en n) (hx : L[n]? = none) :
    Calls Tryz.prog 76 #[.pointer (some ⟨b, 0, none⟩), .func (.func 102) #[] #[.pointer (some ⟨q, 0, none⟩)]] w (Fails en (fun k => k = b) w) := by
  have hn := line_end h hx
  subst hn
  go_enter Tryz.func76, Tryz.ntmps76
  go_wp2_with (go_at_call 51; refine (next_no b g cap L en _ (h.turn (Turn.refl (fun _ => False) w) (fun h => h) (fun h => h))).mono ?_; rintro e w1 ⟨p, rfl, q1, q2, q3⟩)
  exact ⟨rfl, p, rfl, q1, Nat.le_trans (Turn.refl (fun _ => False) w).size q2, ((Turn.refl (fun _ => False) w).trans q3).mono (fun _ _ h => h.elim)⟩
set_option maxHeartbeats 1000000 in
theorem rnum1_bad (q : Nat) (x : Int) (e : Int) (he : ¬ e = 0) (b g cap : Nat) (L : List Wd) (en n : Nat) (w : World) (h : LineIs w b g cap L en n) (s : ByteArray) (a : Nat) (hx : L[n]? = some (s, a))
    (hc : ∀ W, Turn (fun k => k = b) w W → Calls Tryz.prog 102 #[.string s, .pointer (some ⟨q, 0, none⟩)] W (ValPost (.tuple #[.int .u32 x, .int .i64 e]) W)) :
    Calls Tryz.prog 76 #[.pointer (some ⟨b, 0, none⟩), .func (.func 102) #[] #[.pointer (some ⟨q, 0, none⟩)]] w (Fails a (fun k => k = b) w) := by
  have hnext := next_ok b g cap L en n _ (h.turn (Turn.refl (fun _ => False) w) (fun h => h) (fun h => h)) s a hx
  have hne : (e == 0) = false := by rw [beq_eq_false_iff_ne]; exact he
  clear hx h
  go_enter Tryz.func76, Tryz.ntmps76
  go_wp2_with (first | (go_at_call 51; refine hnext.mono ?_; rintro e w1 ⟨rfl, q1, q2⟩))
  have t1 := ((Turn.refl (fun k => k = b) w).trans q2).alloc (.cells #[.string s, .int .i64 (a : Int)] 108)
  refine (hc _ t1).mono ?_
  rintro _ w2 ⟨rfl, r1⟩
  have z := (r1.block _ (block_lt (block_alloc_new w1 (.cells #[.string s, .int .i64 (a : Int)] 108))) (fun h => h)).trans (block_alloc_new w1 (.cells #[.string s, .int .i64 (a : Int)] 108))
  have c1 : w2.cell? ⟨w1.heap.size, 1, none⟩ = some (.int .i64 (a : Int)) := cell_of_block z 1
  have t2 := t1.trans2 r1 (fun _ _ h => h.elim)
  have HW := Lib.hid t2
  clear z t1 t2 q1 q2 r1 hc hnext
  go_wp2_with (go_at_call 47; refine (fail_any a _).mono ?_; rintro e w3 ⟨p, rfl, p1, p2, p3⟩)
  have t3 := HW.out
  exact ⟨rfl, p, rfl, p1, Nat.le_trans t3.size p2, t3.trans2 p3 (fun _ _ h => h.elim)⟩
set_option maxHeartbeats 1000000 in
theorem rnum1_good (q : Nat) (x : Int) (b g cap : Nat) (L : List Wd) (en n : Nat) (w : World) (h : LineIs w b g cap L en n) (s : ByteArray) (a : Nat) (hx : L[n]? = some (s, a))
    (hc : ∀ W, Turn (fun k => k = b) w W → Calls Tryz.prog 102 #[.string s, .pointer (some ⟨q, 0, none⟩)] W (ValPost (.tuple #[.int .u32 x, .int .i64 0]) W)) :
    Calls Tryz.prog 76 #[.pointer (some ⟨b, 0, none⟩), .func (.func 102) #[] #[.pointer (some ⟨q, 0, none⟩)]] w fun e w' => e = .returned (.int .u32 x) ∧ LineIs w' b g cap L en (n + 1) ∧ Turn (fun k => k = b) w w' := by
  have hnext := next_ok b g cap L en n _ (h.turn (Turn.refl (fun _ => False) w) (fun h => h) (fun h => h)) s a hx
  have HB := Lib.hid (And.intro h.lt h.glt)
  clear hx h
  go_enter Tryz.func76, Tryz.ntmps76
  go_wp2_with (first | (go_at_call 51; refine hnext.mono ?_; rintro e w1 ⟨rfl, q1, q2⟩))
  have t1 := ((Turn.refl (fun k => k = b) w).trans q2).alloc (.cells #[.string s, .int .i64 (a : Int)] 108)
  have l1 := q1.turn ((Turn.refl (fun _ => False) _).alloc (.cells #[.string s, .int .i64 (a : Int)] 108)) (fun h => h) (fun h => h)
  refine (hc _ t1).mono ?_
  rintro _ w2 ⟨rfl, r1⟩
  have l2 := l1.turn r1 (fun h => h) (fun h => h)
  have t2 := t1.trans2 r1 (fun _ _ h => h.elim)
  have HW := Lib.hid (And.intro l2 t2)
  clear l1 l2 t1 t2 q1 q2 r1 hc hnext
  go_wp2_with fail
  go_ret
  exact ⟨rfl, HW.out.1, HW.out.2⟩

theorem rmac1_none (b g cap : Nat) (L : List Wd) (en n : Nat) (w : World) (h : LineIs w b g cap L en n) (hx : L[n]? = none) :
    Calls Tryz.prog 78 #[.pointer (some ⟨b, 0, none⟩), .func (.func 79) #[] #[]] w (Fails en (fun k => k = b) w) := by
  have hn := line_end h hx
  subst hn
  go_enter Tryz.func78, Tryz.ntmps78
  go_wp2_with (go_at_call 51; refine (next_no b g cap L en _ (h.turn ((Turn.refl (fun _ => False) w).alloc (.cells #[.int .u8 0, .int .u8 0, .int .u8 0, .int .u8 0, .int .u8 0, .int .u8 0] 25)) (fun h => h) (fun h => h))).mono ?_; rintro e w1 ⟨p, rfl, q1, q2, q3⟩)
  exact ⟨rfl, p, rfl, q1, Nat.le_trans ((Turn.refl (fun _ => False) w).alloc (.cells #[.int .u8 0, .int .u8 0, .int .u8 0, .int .u8 0, .int .u8 0, .int .u8 0] 25)).size q2, (((Turn.refl (fun _ => False) w).alloc (.cells #[.int .u8 0, .int .u8 0, .int .u8 0, .int .u8 0, .int .u8 0, .int .u8 0] 25)).trans q3).mono (fun _ _ h => h.elim)⟩
set_option maxHeartbeats 1000000 in
theorem rmac1_bad (m0 m1 m2 m3 m4 m5 : Int) (e : Int) (he : ¬ e = 0) (b g cap : Nat) (L : List Wd) (en n : Nat) (w : World) (h : LineIs w b g cap L en n) (s : ByteArray) (a : Nat) (hx : L[n]? = some (s, a))
    (hc : ∀ W, Turn (fun k => k = b) w W → Calls Tryz.prog 79 #[.string s] W (ValPost (.tuple #[.agg #[.int .u8 m0, .int .u8 m1, .int .u8 m2, .int .u8 m3, .int .u8 m4, .int .u8 m5], .int .i64 e]) W)) :
    Calls Tryz.prog 78 #[.pointer (some ⟨b, 0, none⟩), .func (.func 79) #[] #[]] w (Fails a (fun k => k = b) w) := by
  have hnext := next_ok b g cap L en n _ (h.turn ((Turn.refl (fun _ => False) w).alloc (.cells #[.int .u8 0, .int .u8 0, .int .u8 0, .int .u8 0, .int .u8 0, .int .u8 0] 25)) (fun h => h) (fun h => h)) s a hx
  have hne : (e == 0) = false := by rw [beq_eq_false_iff_ne]; exact he
  clear hx h
  go_enter Tryz.func78, Tryz.ntmps78
  go_wp2_with (first | (go_at_call 51; refine hnext.mono ?_; rintro e w1 ⟨rfl, q1, q2⟩))
  have t1 := (((Turn.refl (fun k => k = b) w).alloc (.cells #[.int .u8 0, .int .u8 0, .int .u8 0, .int .u8 0, .int .u8 0, .int .u8 0] 25)).trans q2).alloc (.cells #[.string s, .int .i64 (a : Int)] 108)
  refine (hc _ t1).mono ?_
  rintro _ w2 ⟨rfl, r1⟩
  have z := (r1.block _ (block_lt (block_alloc_new w1 (.cells #[.string s, .int .i64 (a : Int)] 108))) (fun h => h)).trans (block_alloc_new w1 (.cells #[.string s, .int .i64 (a : Int)] 108))
  have c1 : (w2.alloc (.cells #[.int .u8 m0, .int .u8 m1, .int .u8 m2, .int .u8 m3, .int .u8 m4, .int .u8 m5] 25)).cell? ⟨w1.heap.size, 1, none⟩ = some (.int .i64 (a : Int)) := cell_of_block (block_alloc_old z) 1
  have t2 := t1.trans2 r1 (fun _ _ h => h.elim)
  have HW := Lib.hid t2
  clear z t1 t2 q1 q2 r1 hc hnext
  go_wp2_with (go_at_call 47; refine (fail_any a _).mono ?_; rintro e w3 ⟨p, rfl, p1, p2, p3⟩)
  have t3 := HW.out.alloc (.cells #[.int .u8 m0, .int .u8 m1, .int .u8 m2, .int .u8 m3, .int .u8 m4, .int .u8 m5] 25)
  exact ⟨rfl, p, rfl, p1, Nat.le_trans t3.size p2, t3.trans2 p3 (fun _ _ h => h.elim)⟩
set_option maxHeartbeats 1000000 in
theorem rmac1_good (m0 m1 m2 m3 m4 m5 : Int) (b g cap : Nat) (L : List Wd) (en n : Nat) (w : World) (h : LineIs w b g cap L en n) (s : ByteArray) (a : Nat) (hx : L[n]? = some (s, a))
    (hc : ∀ W, Turn (fun k => k = b) w W → Calls Tryz.prog 79 #[.string s] W (ValPost (.tuple #[.agg #[.int .u8 m0, .int .u8 m1, .int .u8 m2, .int .u8 m3, .int .u8 m4, .int .u8 m5], .int .i64 0]) W)) :
    Calls Tryz.prog 78 #[.pointer (some ⟨b, 0, none⟩), .func (.func 79) #[] #[]] w fun e w' => e = .returned (.agg #[.int .u8 m0, .int .u8 m1, .int .u8 m2, .int .u8 m3, .int .u8 m4, .int .u8 m5]) ∧ LineIs w' b g cap L en (n + 1) ∧ Turn (fun k => k = b) w w' := by
  have hnext := next_ok b g cap L en n _ (h.turn ((Turn.refl (fun _ => False) w).alloc (.cells #[.int .u8 0, .int .u8 0, .int .u8 0, .int .u8 0, .int .u8 0, .int .u8 0] 25)) (fun h => h) (fun h => h)) s a hx
  have HB := Lib.hid (And.intro h.lt h.glt)
  clear hx h
  go_enter Tryz.func78, Tryz.ntmps78
  go_wp2_with (first | (go_at_call 51; refine hnext.mono ?_; rintro e w1 ⟨rfl, q1, q2⟩))
  have t1 := (((Turn.refl (fun k => k = b) w).alloc (.cells #[.int .u8 0, .int .u8 0, .int .u8 0, .int .u8 0, .int .u8 0, .int .u8 0] 25)).trans q2).alloc (.cells #[.string s, .int .i64 (a : Int)] 108)
  have l1 := q1.turn ((Turn.refl (fun _ => False) _).alloc (.cells #[.string s, .int .i64 (a : Int)] 108)) (fun h => h) (fun h => h)
  refine (hc _ t1).mono ?_
  rintro _ w2 ⟨rfl, r1⟩
  have l2 := l1.turn r1 (fun h => h) (fun h => h)
  have t2 := t1.trans2 r1 (fun _ _ h => h.elim)
  have hz : w2.heap[w.heap.size]? = some (.cells #[.int .u8 0, .int .u8 0, .int .u8 0, .int .u8 0, .int .u8 0, .int .u8 0] 25 (0, 0)) := (r1.block _ (Nat.lt_of_lt_of_le (block_lt (block_alloc_new w (.cells #[.int .u8 0, .int .u8 0, .int .u8 0, .int .u8 0, .int .u8 0, .int .u8 0] 25))) (Nat.le_trans q2.size (by simp))) (fun h => h)).trans ((block_alloc_old ((q2.block _ (block_lt (block_alloc_new w (.cells #[.int .u8 0, .int .u8 0, .int .u8 0, .int .u8 0, .int .u8 0, .int .u8 0] 25))) (fun e => absurd HB.out.1 (by omega))).trans (block_alloc_new _ _))))
  obtain ⟨hce, hfr⟩ := row_facts (block_alloc_old (o := .cells #[.int .u8 m0, .int .u8 m1, .int .u8 m2, .int .u8 m3, .int .u8 m4, .int .u8 m5] 25) hz)
  have HW := Lib.hid (And.intro l2 t2)
  clear l1 l2 t1 t2 q1 q2 r1 hc hnext
  go_wp2_with fail
  exact bodyPost_ret (v := .agg #[.int .u8 m0, .int .u8 m1, .int .u8 m2, .int .u8 m3, .int .u8 m4, .int .u8 m5]) (by simp [results, Tryz.results78, go_sem, hce, hfr]) rfl ⟨rfl, HW.out.1.turn (F := fun k => k = w.heap.size) (turn_row6 (F := fun k => k = w.heap.size) (R := w.heap.size) (fun _ => rfl) ((Turn.refl _ w2).alloc _) _ _ _ _ _ _) (fun e => absurd HB.out.1 (by omega)) (fun e => absurd HB.out.2 (by omega)), HW.out.2.trans2 (G := fun k => k = w.heap.size) (turn_row6 (F := fun k => k = w.heap.size) (R := w.heap.size) (fun _ => rfl) ((Turn.refl _ w2).alloc _) _ _ _ _ _ _) (fun i hi e => absurd hi (by omega))⟩

theorem rkey1_none (b g cap : Nat) (L : List Wd) (en n : Nat) (w : World) (h : LineIs w b g cap L en n) (hx : L[n]? = none) :
    Calls Tryz.prog 80 #[.pointer (some ⟨b, 0, none⟩), .func (.func 81) #[] #[]] w (Fails en (fun k => k = b) w) := by
  have hn := line_end h hx
  subst hn
  go_enter Tryz.func80, Tryz.ntmps80
  go_wp2_with (go_at_call 51; refine (next_no b g cap L en _ (h.turn ((Turn.refl (fun _ => False) w).alloc (.cells #[.int .u8 0, .int .u8 0, .int .u8 0, .int .u8 0, .int .u8 0, .int .u8 0, .int .u8 0, .int .u8 0] 26)) (fun h => h) (fun h => h))).mono ?_; rintro e w1 ⟨p, rfl, q1, q2, q3⟩)
  exact ⟨rfl, p, rfl, q1, Nat.le_trans ((Turn.refl (fun _ => False) w).alloc (.cells #[.int .u8 0, .int .u8 0, .int .u8 0, .int .u8 0, .int .u8 0, .int .u8 0, .int .u8 0, .int .u8 0] 26)).size q2, (((Turn.refl (fun _ => False) w).alloc (.cells #[.int .u8 0, .int .u8 0, .int .u8 0, .int .u8 0, .int .u8 0, .int .u8 0, .int .u8 0, .int .u8 0] 26)).trans q3).mono (fun _ _ h => h.elim)⟩
set_option maxHeartbeats 1000000 in
theorem rkey1_bad (m0 m1 m2 m3 m4 m5 m6 m7 : Int) (e : Int) (he : ¬ e = 0) (b g cap : Nat) (L : List Wd) (en n : Nat) (w : World) (h : LineIs w b g cap L en n) (s : ByteArray) (a : Nat) (hx : L[n]? = some (s, a))
    (hc : ∀ W, Turn (fun k => k = b) w W → Calls Tryz.prog 81 #[.string s] W (ValPost (.tuple #[.agg #[.int .u8 m0, .int .u8 m1, .int .u8 m2, .int .u8 m3, .int .u8 m4, .int .u8 m5, .int .u8 m6, .int .u8 m7], .int .i64 e]) W)) :
    Calls Tryz.prog 80 #[.pointer (some ⟨b, 0, none⟩), .func (.func 81) #[] #[]] w (Fails a (fun k => k = b) w) := by
  have hnext := next_ok b g cap L en n _ (h.turn ((Turn.refl (fun _ => False) w).alloc (.cells #[.int .u8 0, .int .u8 0, .int .u8 0, .int .u8 0, .int .u8 0, .int .u8 0, .int .u8 0, .int .u8 0] 26)) (fun h => h) (fun h => h)) s a hx
  have hne : (e == 0) = false := by rw [beq_eq_false_iff_ne]; exact he
  clear hx h
  go_enter Tryz.func80, Tryz.ntmps80
  go_wp2_with (first | (go_at_call 51; refine hnext.mono ?_; rintro e w1 ⟨rfl, q1, q2⟩))
  have t1 := (((Turn.refl (fun k => k = b) w).alloc (.cells #[.int .u8 0, .int .u8 0, .int .u8 0, .int .u8 0, .int .u8 0, .int .u8 0, .int .u8 0, .int .u8 0] 26)).trans q2).alloc (.cells #[.string s, .int .i64 (a : Int)] 108)
  refine (hc _ t1).mono ?_
  rintro _ w2 ⟨rfl, r1⟩
  have z := (r1.block _ (block_lt (block_alloc_new w1 (.cells #[.string s, .int .i64 (a : Int)] 108))) (fun h => h)).trans (block_alloc_new w1 (.cells #[.string s, .int .i64 (a : Int)] 108))
  have c1 : (w2.alloc (.cells #[.int .u8 m0, .int .u8 m1, .int .u8 m2, .int .u8 m3, .int .u8 m4, .int .u8 m5, .int .u8 m6, .int .u8 m7] 26)).cell? ⟨w1.heap.size, 1, none⟩ = some (.int .i64 (a : Int)) := cell_of_block (block_alloc_old z) 1
  have t2 := t1.trans2 r1 (fun _ _ h => h.elim)
  have HW := Lib.hid t2
  clear z t1 t2 q1 q2 r1 hc hnext
  go_wp2_with (go_at_call 47; refine (fail_any a _).mono ?_; rintro e w3 ⟨p, rfl, p1, p2, p3⟩)
  have t3 := HW.out.alloc (.cells #[.int .u8 m0, .int .u8 m1, .int .u8 m2, .int .u8 m3, .int .u8 m4, .int .u8 m5, .int .u8 m6, .int .u8 m7] 26)
  exact ⟨rfl, p, rfl, p1, Nat.le_trans t3.size p2, t3.trans2 p3 (fun _ _ h => h.elim)⟩
set_option maxHeartbeats 1000000 in
theorem rkey1_good (m0 m1 m2 m3 m4 m5 m6 m7 : Int) (b g cap : Nat) (L : List Wd) (en n : Nat) (w : World) (h : LineIs w b g cap L en n) (s : ByteArray) (a : Nat) (hx : L[n]? = some (s, a))
    (hc : ∀ W, Turn (fun k => k = b) w W → Calls Tryz.prog 81 #[.string s] W (ValPost (.tuple #[.agg #[.int .u8 m0, .int .u8 m1, .int .u8 m2, .int .u8 m3, .int .u8 m4, .int .u8 m5, .int .u8 m6, .int .u8 m7], .int .i64 0]) W)) :
    Calls Tryz.prog 80 #[.pointer (some ⟨b, 0, none⟩), .func (.func 81) #[] #[]] w fun e w' => e = .returned (.agg #[.int .u8 m0, .int .u8 m1, .int .u8 m2, .int .u8 m3, .int .u8 m4, .int .u8 m5, .int .u8 m6, .int .u8 m7]) ∧ LineIs w' b g cap L en (n + 1) ∧ Turn (fun k => k = b) w w' := by
  have hnext := next_ok b g cap L en n _ (h.turn ((Turn.refl (fun _ => False) w).alloc (.cells #[.int .u8 0, .int .u8 0, .int .u8 0, .int .u8 0, .int .u8 0, .int .u8 0, .int .u8 0, .int .u8 0] 26)) (fun h => h) (fun h => h)) s a hx
  have HB := Lib.hid (And.intro h.lt h.glt)
  clear hx h
  go_enter Tryz.func80, Tryz.ntmps80
  go_wp2_with (first | (go_at_call 51; refine hnext.mono ?_; rintro e w1 ⟨rfl, q1, q2⟩))
  have t1 := (((Turn.refl (fun k => k = b) w).alloc (.cells #[.int .u8 0, .int .u8 0, .int .u8 0, .int .u8 0, .int .u8 0, .int .u8 0, .int .u8 0, .int .u8 0] 26)).trans q2).alloc (.cells #[.string s, .int .i64 (a : Int)] 108)
  have l1 := q1.turn ((Turn.refl (fun _ => False) _).alloc (.cells #[.string s, .int .i64 (a : Int)] 108)) (fun h => h) (fun h => h)
  refine (hc _ t1).mono ?_
  rintro _ w2 ⟨rfl, r1⟩
  have l2 := l1.turn r1 (fun h => h) (fun h => h)
  have t2 := t1.trans2 r1 (fun _ _ h => h.elim)
  have hz : w2.heap[w.heap.size]? = some (.cells #[.int .u8 0, .int .u8 0, .int .u8 0, .int .u8 0, .int .u8 0, .int .u8 0, .int .u8 0, .int .u8 0] 26 (0, 0)) := (r1.block _ (Nat.lt_of_lt_of_le (block_lt (block_alloc_new w (.cells #[.int .u8 0, .int .u8 0, .int .u8 0, .int .u8 0, .int .u8 0, .int .u8 0, .int .u8 0, .int .u8 0] 26))) (Nat.le_trans q2.size (by simp))) (fun h => h)).trans ((block_alloc_old ((q2.block _ (block_lt (block_alloc_new w (.cells #[.int .u8 0, .int .u8 0, .int .u8 0, .int .u8 0, .int .u8 0, .int .u8 0, .int .u8 0, .int .u8 0] 26))) (fun e => absurd HB.out.1 (by omega))).trans (block_alloc_new _ _))))
  obtain ⟨hce, hfr⟩ := row_facts (block_alloc_old (o := .cells #[.int .u8 m0, .int .u8 m1, .int .u8 m2, .int .u8 m3, .int .u8 m4, .int .u8 m5, .int .u8 m6, .int .u8 m7] 26) hz)
  have HW := Lib.hid (And.intro l2 t2)
  clear l1 l2 t1 t2 q1 q2 r1 hc hnext
  go_wp2_with fail
  exact bodyPost_ret (v := .agg #[.int .u8 m0, .int .u8 m1, .int .u8 m2, .int .u8 m3, .int .u8 m4, .int .u8 m5, .int .u8 m6, .int .u8 m7]) (by simp [results, Tryz.results80, go_sem, hce, hfr]) rfl ⟨rfl, HW.out.1.turn (F := fun k => k = w.heap.size) (turn_row8 (F := fun k => k = w.heap.size) (R := w.heap.size) (fun _ => rfl) ((Turn.refl _ w2).alloc _) _ _ _ _ _ _ _ _) (fun e => absurd HB.out.1 (by omega)) (fun e => absurd HB.out.2 (by omega)), HW.out.2.trans2 (G := fun k => k = w.heap.size) (turn_row8 (F := fun k => k = w.heap.size) (R := w.heap.size) (fun _ => rfl) ((Turn.refl _ w2).alloc _) _ _ _ _ _ _ _ _) (fun i hi e => absurd hi (by omega))⟩

theorem rfil1_none (b g cap : Nat) (L : List Wd) (en n : Nat) (w : World) (h : LineIs w b g cap L en n) (hx : L[n]? = none) :
    Calls Tryz.prog 84 #[.pointer (some ⟨b, 0, none⟩), .func (.func 85) #[] #[]] w (Fails en (fun k => k = b) w) := by
  have hn := line_end h hx
  subst hn
  go_enter Tryz.func84, Tryz.ntmps84
  go_wp2_with (go_at_call 51; refine (next_no b g cap L en _ (h.turn (Turn.refl (fun _ => False) w) (fun h => h) (fun h => h))).mono ?_; rintro e w1 ⟨p, rfl, q1, q2, q3⟩)
  exact ⟨rfl, p, rfl, q1, Nat.le_trans (Turn.refl (fun _ => False) w).size q2, ((Turn.refl (fun _ => False) w).trans q3).mono (fun _ _ h => h.elim)⟩
set_option maxHeartbeats 1000000 in
theorem rfil1_bad (x : Int) (e : Int) (he : ¬ e = 0) (b g cap : Nat) (L : List Wd) (en n : Nat) (w : World) (h : LineIs w b g cap L en n) (s : ByteArray) (a : Nat) (hx : L[n]? = some (s, a))
    (hc : ∀ W, Turn (fun k => k = b) w W → Calls Tryz.prog 85 #[.string s] W (ValPost (.tuple #[.int .i64 x, .int .i64 e]) W)) :
    Calls Tryz.prog 84 #[.pointer (some ⟨b, 0, none⟩), .func (.func 85) #[] #[]] w (Fails a (fun k => k = b) w) := by
  have hnext := next_ok b g cap L en n _ (h.turn (Turn.refl (fun _ => False) w) (fun h => h) (fun h => h)) s a hx
  have hne : (e == 0) = false := by rw [beq_eq_false_iff_ne]; exact he
  clear hx h
  go_enter Tryz.func84, Tryz.ntmps84
  go_wp2_with (first | (go_at_call 51; refine hnext.mono ?_; rintro e w1 ⟨rfl, q1, q2⟩))
  have t1 := ((Turn.refl (fun k => k = b) w).trans q2).alloc (.cells #[.string s, .int .i64 (a : Int)] 108)
  refine (hc _ t1).mono ?_
  rintro _ w2 ⟨rfl, r1⟩
  have z := (r1.block _ (block_lt (block_alloc_new w1 (.cells #[.string s, .int .i64 (a : Int)] 108))) (fun h => h)).trans (block_alloc_new w1 (.cells #[.string s, .int .i64 (a : Int)] 108))
  have c1 : w2.cell? ⟨w1.heap.size, 1, none⟩ = some (.int .i64 (a : Int)) := cell_of_block z 1
  have t2 := t1.trans2 r1 (fun _ _ h => h.elim)
  have HW := Lib.hid t2
  clear z t1 t2 q1 q2 r1 hc hnext
  go_wp2_with (go_at_call 47; refine (fail_any a _).mono ?_; rintro e w3 ⟨p, rfl, p1, p2, p3⟩)
  have t3 := HW.out
  exact ⟨rfl, p, rfl, p1, Nat.le_trans t3.size p2, t3.trans2 p3 (fun _ _ h => h.elim)⟩
set_option maxHeartbeats 1000000 in
theorem rfil1_good (x : Int) (b g cap : Nat) (L : List Wd) (en n : Nat) (w : World) (h : LineIs w b g cap L en n) (s : ByteArray) (a : Nat) (hx : L[n]? = some (s, a))
    (hc : ∀ W, Turn (fun k => k = b) w W → Calls Tryz.prog 85 #[.string s] W (ValPost (.tuple #[.int .i64 x, .int .i64 0]) W)) :
    Calls Tryz.prog 84 #[.pointer (some ⟨b, 0, none⟩), .func (.func 85) #[] #[]] w fun e w' => e = .returned (.int .i64 x) ∧ LineIs w' b g cap L en (n + 1) ∧ Turn (fun k => k = b) w w' := by
  have hnext := next_ok b g cap L en n _ (h.turn (Turn.refl (fun _ => False) w) (fun h => h) (fun h => h)) s a hx
  have HB := Lib.hid (And.intro h.lt h.glt)
  clear hx h
  go_enter Tryz.func84, Tryz.ntmps84
  go_wp2_with (first | (go_at_call 51; refine hnext.mono ?_; rintro e w1 ⟨rfl, q1, q2⟩))
  have t1 := ((Turn.refl (fun k => k = b) w).trans q2).alloc (.cells #[.string s, .int .i64 (a : Int)] 108)
  have l1 := q1.turn ((Turn.refl (fun _ => False) _).alloc (.cells #[.string s, .int .i64 (a : Int)] 108)) (fun h => h) (fun h => h)
  refine (hc _ t1).mono ?_
  rintro _ w2 ⟨rfl, r1⟩
  have l2 := l1.turn r1 (fun h => h) (fun h => h)
  have t2 := t1.trans2 r1 (fun _ _ h => h.elim)
  have HW := Lib.hid (And.intro l2 t2)
  clear l1 l2 t1 t2 q1 q2 r1 hc hnext
  go_wp2_with fail
  go_ret
  exact ⟨rfl, HW.out.1, HW.out.2⟩
end Go.Proofs.YtbkpbcmjgbdbkaaGreatDoor
