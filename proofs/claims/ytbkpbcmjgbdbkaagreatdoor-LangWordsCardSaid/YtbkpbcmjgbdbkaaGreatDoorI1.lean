/- The reference's readers. No condition. -/
import Derived.Test.YtbkpbcmjgbdbkaaGreatDoorI0
import Derived.Test.YtbkpbcmjgbdbkaaGreatDoorMB
namespace Go.Proofs.YtbkpbcmjgbdbkaaGreatDoor
open Go.RowKit Go.Lib
set_option linter.unusedVariables false
set_option linter.unusedSimpArgs false

/-- A word that a reader reads, of what was read so far. -/
def readS {α : Type} (f : List UInt8 → Option α) (st : Except Nat Nat) (L : List Wd) (en : Nat) : Except Nat (α × Nat) := match st with
  | .ok n => readP f L en n
  | .error pl => .error pl
theorem readS_yes {α : Type} {f : List UInt8 → Option α} {t : ByteArray} {a : Nat} {st : Except Nat Nat} {L : List Wd} {en : Nat} {v : α} (h : ∀ x m, nextS st L en = .ok (x, m) → x = (t, a)) (hf : f t.data.toList = some v) :
    (readS f st L en).map (·.2) = (nextS st L en).map (·.2) ∧ ∀ x m, readS f st L en = .ok (x, m) → x = v := by
  cases st with
  | error pl => exact ⟨rfl, fun x m h => by cases h⟩
  | ok n =>
    have h' : ∀ x m, nextP L en n = .ok (x, m) → x = (t, a) := h
    show (readP f L en n).map (·.2) = (nextP L en n).map (·.2) ∧ ∀ x m, readP f L en n = .ok (x, m) → x = v
    cases hx : L[n]? with
    | none => rw [readP_end hx, nextP_none hx]; exact ⟨rfl, fun x m h => by cases h⟩
    | some x =>
      have := h' x (n + 1) (nextP_some hx)
      subst this
      rw [readP_some hx hf, nextP_some hx]
      exact ⟨rfl, fun y m h => by cases h; rfl⟩
theorem readS_no {α : Type} {f : List UInt8 → Option α} {t : ByteArray} {a : Nat} {st : Except Nat Nat} {L : List Wd} {en : Nat} (h : ∀ x m, nextS st L en = .ok (x, m) → x = (t, a)) (hf : f t.data.toList = none) :
    (readS f st L en).map (·.2) = failS ((nextS st L en).map (·.2)) a ∧ ∀ x m, readS f st L en ≠ .ok (x, m) := by
  cases st with
  | error pl => exact ⟨rfl, fun x m h => by cases h⟩
  | ok n =>
    have h' : ∀ x m, nextP L en n = .ok (x, m) → x = (t, a) := h
    show (readP f L en n).map (·.2) = failS ((nextP L en n).map (·.2)) a ∧ ∀ x m, readP f L en n ≠ .ok (x, m)
    cases hx : L[n]? with
    | none => rw [readP_end hx, nextP_none hx]; exact ⟨rfl, fun x m h => by cases h⟩
    | some x =>
      have := h' x (n + 1) (nextP_some hx)
      subst this
      rw [readP_bad hx hf, nextP_some hx]
      exact ⟨rfl, fun y m h => by cases h⟩

set_option maxHeartbeats 1000000 in
theorem sip_good (x : Int) (b g cap : Nat) (L : List Wd) (en : Nat) (st : Except Nat Nat) (w : World) (h : RefIs w b g cap L en st) (s : ByteArray) (a : Nat)
    (hwd : Calls Tryz.prog 58 #[.pointer (some ⟨b, 0, none⟩)] w (WordPost w b g cap L en st s a))
    (hc : ∀ W, Turn (fun k => k = b) w W → Calls Tryz.prog 59 #[.string s] W (ValPost (.tuple #[.int .u32 x, .int .i64 0]) W)) :
    Calls Tryz.prog 24 #[.pointer (some ⟨b, 0, none⟩)] w fun e' w' => e' = .returned (.int .u32 x) ∧ RefIs w' b g cap L en ((nextS st L en).map (·.2)) ∧ Turn (fun k => k = b) w w' := by
  have hb := h.lt
  have hg := h.glt
  clear h
  go_enter Tryz.func24, Tryz.ntmps24
  go_wp2_with (go_at_call 58; refine hwd.mono ?_; rintro e' w1 ⟨rfl, q1, q2⟩)
  have t1 := ((Turn.refl (fun k => k = b) w).trans q2).alloc (.cells #[.string s, .int .i64 (a : Int)] 82)
  have l1 := q1.turn ((Turn.refl (fun _ => False) _).alloc (.cells #[.string s, .int .i64 (a : Int)] 82)) (fun h => h) (fun h => h)
  refine (hc _ t1).mono ?_
  rintro _ w2 ⟨rfl, r1⟩
  have z := (r1.block _ (block_lt (block_alloc_new w1 (.cells #[.string s, .int .i64 (a : Int)] 82))) (fun h => h)).trans (block_alloc_new w1 (.cells #[.string s, .int .i64 (a : Int)] 82))
  have l2 := l1.turn r1 (fun h => h) (fun h => h)
  have t2 := t1.trans2 r1 (fun _ _ h => h.elim)
  have H := Lib.hid (And.intro l2 t2)
  clear l1 l2 t1 t2 q1 q2 r1 hc hwd z
  go_wp2_with fail
  go_ret
  exact ⟨rfl, H.out.1, H.out.2⟩

set_option maxHeartbeats 1000000 in
theorem sip_bad (x : Int) (e : Int) (he : ¬ e = 0) (b g cap : Nat) (L : List Wd) (en : Nat) (st : Except Nat Nat) (w : World) (h : RefIs w b g cap L en st) (s : ByteArray) (a : Nat)
    (hwd : Calls Tryz.prog 58 #[.pointer (some ⟨b, 0, none⟩)] w (WordPost w b g cap L en st s a))
    (hc : ∀ W, Turn (fun k => k = b) w W → Calls Tryz.prog 59 #[.string s] W (ValPost (.tuple #[.int .u32 x, .int .i64 e]) W)) :
    Calls Tryz.prog 24 #[.pointer (some ⟨b, 0, none⟩)] w fun e' w' => e' = .returned (.int .u32 x) ∧ RefIs w' b g cap L en (failS ((nextS st L en).map (·.2)) a) ∧ Turn (fun k => k = b) w w' := by
  have hb := h.lt
  have hg := h.glt
  have hne : (e == 0) = false := by rw [beq_eq_false_iff_ne]; exact he
  clear h
  go_enter Tryz.func24, Tryz.ntmps24
  go_wp2_with (go_at_call 58; refine hwd.mono ?_; rintro e' w1 ⟨rfl, q1, q2⟩)
  have t1 := ((Turn.refl (fun k => k = b) w).trans q2).alloc (.cells #[.string s, .int .i64 (a : Int)] 82)
  have l1 := q1.turn ((Turn.refl (fun _ => False) _).alloc (.cells #[.string s, .int .i64 (a : Int)] 82)) (fun h => h) (fun h => h)
  refine (hc _ t1).mono ?_
  rintro _ w2 ⟨rfl, r1⟩
  have z := (r1.block _ (block_lt (block_alloc_new w1 (.cells #[.string s, .int .i64 (a : Int)] 82))) (fun h => h)).trans (block_alloc_new w1 (.cells #[.string s, .int .i64 (a : Int)] 82))
  have l2 := l1.turn r1 (fun h => h) (fun h => h)
  have t2 := t1.trans2 r1 (fun _ _ h => h.elim)
  have c1 : w2.cell? ⟨w1.heap.size, 1, none⟩ = some (.int .i64 (a : Int)) := cell_of_block z 1
  have H := Lib.hid (And.intro l2 t2)
  clear l1 l2 t1 t2 q1 q2 r1 hc hwd z
  go_wp2_with (go_at_call 29; refine (rfail_any b g cap L en _ a _ H.out.1).mono ?_; rintro e' w3 ⟨rfl, p1, p2⟩)
  go_ret
  exact ⟨rfl, p1, H.out.2.trans p2⟩

set_option maxHeartbeats 1000000 in
theorem snum_good (most : Nat) (x : Int) (b g cap : Nat) (L : List Wd) (en : Nat) (st : Except Nat Nat) (w : World) (h : RefIs w b g cap L en st) (s : ByteArray) (a : Nat)
    (hwd : Calls Tryz.prog 58 #[.pointer (some ⟨b, 0, none⟩)] w (WordPost w b g cap L en st s a))
    (hc : ∀ W, Turn (fun k => k = b) w W → Calls Tryz.prog 62 #[.string s, .int .u32 (most : Int)] W (ValPost (.tuple #[.int .u32 x, .int .i64 0]) W)) :
    Calls Tryz.prog 27 #[.pointer (some ⟨b, 0, none⟩), .int .u32 (most : Int)] w fun e' w' => e' = .returned (.int .u32 x) ∧ RefIs w' b g cap L en ((nextS st L en).map (·.2)) ∧ Turn (fun k => k = b) w w' := by
  have hb := h.lt
  have hg := h.glt
  clear h
  go_enter Tryz.func27, Tryz.ntmps27
  go_wp2_with (go_at_call 58; refine hwd.mono ?_; rintro e' w1 ⟨rfl, q1, q2⟩)
  have t1 := ((Turn.refl (fun k => k = b) w).trans q2).alloc (.cells #[.string s, .int .i64 (a : Int)] 82)
  have l1 := q1.turn ((Turn.refl (fun _ => False) _).alloc (.cells #[.string s, .int .i64 (a : Int)] 82)) (fun h => h) (fun h => h)
  refine (hc _ t1).mono ?_
  rintro _ w2 ⟨rfl, r1⟩
  have z := (r1.block _ (block_lt (block_alloc_new w1 (.cells #[.string s, .int .i64 (a : Int)] 82))) (fun h => h)).trans (block_alloc_new w1 (.cells #[.string s, .int .i64 (a : Int)] 82))
  have l2 := l1.turn r1 (fun h => h) (fun h => h)
  have t2 := t1.trans2 r1 (fun _ _ h => h.elim)
  have H := Lib.hid (And.intro l2 t2)
  clear l1 l2 t1 t2 q1 q2 r1 hc hwd z
  go_wp2_with fail
  go_ret
  exact ⟨rfl, H.out.1, H.out.2⟩

set_option maxHeartbeats 1000000 in
theorem snum_bad (most : Nat) (x : Int) (e : Int) (he : ¬ e = 0) (b g cap : Nat) (L : List Wd) (en : Nat) (st : Except Nat Nat) (w : World) (h : RefIs w b g cap L en st) (s : ByteArray) (a : Nat)
    (hwd : Calls Tryz.prog 58 #[.pointer (some ⟨b, 0, none⟩)] w (WordPost w b g cap L en st s a))
    (hc : ∀ W, Turn (fun k => k = b) w W → Calls Tryz.prog 62 #[.string s, .int .u32 (most : Int)] W (ValPost (.tuple #[.int .u32 x, .int .i64 e]) W)) :
    Calls Tryz.prog 27 #[.pointer (some ⟨b, 0, none⟩), .int .u32 (most : Int)] w fun e' w' => e' = .returned (.int .u32 x) ∧ RefIs w' b g cap L en (failS ((nextS st L en).map (·.2)) a) ∧ Turn (fun k => k = b) w w' := by
  have hb := h.lt
  have hg := h.glt
  have hne : (e == 0) = false := by rw [beq_eq_false_iff_ne]; exact he
  clear h
  go_enter Tryz.func27, Tryz.ntmps27
  go_wp2_with (go_at_call 58; refine hwd.mono ?_; rintro e' w1 ⟨rfl, q1, q2⟩)
  have t1 := ((Turn.refl (fun k => k = b) w).trans q2).alloc (.cells #[.string s, .int .i64 (a : Int)] 82)
  have l1 := q1.turn ((Turn.refl (fun _ => False) _).alloc (.cells #[.string s, .int .i64 (a : Int)] 82)) (fun h => h) (fun h => h)
  refine (hc _ t1).mono ?_
  rintro _ w2 ⟨rfl, r1⟩
  have z := (r1.block _ (block_lt (block_alloc_new w1 (.cells #[.string s, .int .i64 (a : Int)] 82))) (fun h => h)).trans (block_alloc_new w1 (.cells #[.string s, .int .i64 (a : Int)] 82))
  have l2 := l1.turn r1 (fun h => h) (fun h => h)
  have t2 := t1.trans2 r1 (fun _ _ h => h.elim)
  have c1 : w2.cell? ⟨w1.heap.size, 1, none⟩ = some (.int .i64 (a : Int)) := cell_of_block z 1
  have H := Lib.hid (And.intro l2 t2)
  clear l1 l2 t1 t2 q1 q2 r1 hc hwd z
  go_wp2_with (go_at_call 29; refine (rfail_any b g cap L en _ a _ H.out.1).mono ?_; rintro e' w3 ⟨rfl, p1, p2⟩)
  go_ret
  exact ⟨rfl, p1, H.out.2.trans p2⟩

set_option maxHeartbeats 1000000 in
theorem smac_good (m0 m1 m2 m3 m4 m5 : Int) (b g cap : Nat) (L : List Wd) (en : Nat) (st : Except Nat Nat) (w : World) (h : RefIs w b g cap L en st) (s : ByteArray) (a : Nat)
    (hwd : Calls Tryz.prog 58 #[.pointer (some ⟨b, 0, none⟩)] (w.alloc (.cells #[.int .u8 0, .int .u8 0, .int .u8 0, .int .u8 0, .int .u8 0, .int .u8 0] 25)) (WordPost (w.alloc (.cells #[.int .u8 0, .int .u8 0, .int .u8 0, .int .u8 0, .int .u8 0, .int .u8 0] 25)) b g cap L en st s a))
    (hc : ∀ W, Turn (fun k => k = b) w W → Calls Tryz.prog 60 #[.string s] W (ValPost (.tuple #[.agg #[.int .u8 m0, .int .u8 m1, .int .u8 m2, .int .u8 m3, .int .u8 m4, .int .u8 m5], .int .i64 0]) W)) :
    Calls Tryz.prog 25 #[.pointer (some ⟨b, 0, none⟩)] w fun e' w' => e' = .returned (.agg #[.int .u8 m0, .int .u8 m1, .int .u8 m2, .int .u8 m3, .int .u8 m4, .int .u8 m5]) ∧ RefIs w' b g cap L en ((nextS st L en).map (·.2)) ∧ Turn (fun k => k = b) w w' := by
  have hb := h.lt
  have hg := h.glt
  clear h
  go_enter Tryz.func25, Tryz.ntmps25
  go_wp2_with (go_at_call 58; refine hwd.mono ?_; rintro e' w1 ⟨rfl, q1, q2⟩)
  have t1 := (((Turn.refl (fun k => k = b) w).alloc (.cells #[.int .u8 0, .int .u8 0, .int .u8 0, .int .u8 0, .int .u8 0, .int .u8 0] 25)).trans q2).alloc (.cells #[.string s, .int .i64 (a : Int)] 82)
  have l1 := q1.turn ((Turn.refl (fun _ => False) _).alloc (.cells #[.string s, .int .i64 (a : Int)] 82)) (fun h => h) (fun h => h)
  refine (hc _ t1).mono ?_
  rintro _ w2 ⟨rfl, r1⟩
  have z := (r1.block _ (block_lt (block_alloc_new w1 (.cells #[.string s, .int .i64 (a : Int)] 82))) (fun h => h)).trans (block_alloc_new w1 (.cells #[.string s, .int .i64 (a : Int)] 82))
  have hz : w2.heap[w.heap.size]? = some (.cells #[.int .u8 0, .int .u8 0, .int .u8 0, .int .u8 0, .int .u8 0, .int .u8 0] 25 (0, 0)) := (r1.block _ (Nat.lt_of_lt_of_le (block_lt (block_alloc_new w (.cells #[.int .u8 0, .int .u8 0, .int .u8 0, .int .u8 0, .int .u8 0, .int .u8 0] 25))) (Nat.le_trans q2.size (by simp))) (fun h => h)).trans ((block_alloc_old ((q2.block _ (block_lt (block_alloc_new w (.cells #[.int .u8 0, .int .u8 0, .int .u8 0, .int .u8 0, .int .u8 0, .int .u8 0] 25))) (by omega)).trans (block_alloc_new _ _))))
  have l2 := l1.turn r1 (fun h => h) (fun h => h)
  have t2 := t1.trans2 r1 (fun _ _ h => h.elim)
  obtain ⟨hce, hfr⟩ := row_facts (block_alloc_old (o := .cells #[.int .u8 m0, .int .u8 m1, .int .u8 m2, .int .u8 m3, .int .u8 m4, .int .u8 m5] 25) hz)
  have H := Lib.hid (And.intro l2 t2)
  clear l1 l2 t1 t2 q1 q2 r1 hc hwd z
  go_wp2_with fail
  exact bodyPost_ret (v := .agg #[.int .u8 m0, .int .u8 m1, .int .u8 m2, .int .u8 m3, .int .u8 m4, .int .u8 m5]) (by simp [results, Tryz.results25, go_sem, hce, hfr]) rfl ⟨rfl, H.out.1.turn (F := fun k => k = w.heap.size) (turn_row6 (F := fun k => k = w.heap.size) (R := w.heap.size) (fun _ => rfl) ((Turn.refl _ w2).alloc _) _ _ _ _ _ _) (by omega) (by omega), H.out.2.trans2 (G := fun k => k = w.heap.size) (turn_row6 (F := fun k => k = w.heap.size) (R := w.heap.size) (fun _ => rfl) ((Turn.refl _ w2).alloc _) _ _ _ _ _ _) (fun i hi e => absurd hi (by omega))⟩

set_option maxHeartbeats 1000000 in
theorem smac_bad (m0 m1 m2 m3 m4 m5 : Int) (e : Int) (he : ¬ e = 0) (b g cap : Nat) (L : List Wd) (en : Nat) (st : Except Nat Nat) (w : World) (h : RefIs w b g cap L en st) (s : ByteArray) (a : Nat)
    (hwd : Calls Tryz.prog 58 #[.pointer (some ⟨b, 0, none⟩)] (w.alloc (.cells #[.int .u8 0, .int .u8 0, .int .u8 0, .int .u8 0, .int .u8 0, .int .u8 0] 25)) (WordPost (w.alloc (.cells #[.int .u8 0, .int .u8 0, .int .u8 0, .int .u8 0, .int .u8 0, .int .u8 0] 25)) b g cap L en st s a))
    (hc : ∀ W, Turn (fun k => k = b) w W → Calls Tryz.prog 60 #[.string s] W (ValPost (.tuple #[.agg #[.int .u8 m0, .int .u8 m1, .int .u8 m2, .int .u8 m3, .int .u8 m4, .int .u8 m5], .int .i64 e]) W)) :
    Calls Tryz.prog 25 #[.pointer (some ⟨b, 0, none⟩)] w fun e' w' => e' = .returned (.agg #[.int .u8 m0, .int .u8 m1, .int .u8 m2, .int .u8 m3, .int .u8 m4, .int .u8 m5]) ∧ RefIs w' b g cap L en (failS ((nextS st L en).map (·.2)) a) ∧ Turn (fun k => k = b) w w' := by
  have hb := h.lt
  have hg := h.glt
  have hne : (e == 0) = false := by rw [beq_eq_false_iff_ne]; exact he
  clear h
  go_enter Tryz.func25, Tryz.ntmps25
  go_wp2_with (go_at_call 58; refine hwd.mono ?_; rintro e' w1 ⟨rfl, q1, q2⟩)
  have t1 := (((Turn.refl (fun k => k = b) w).alloc (.cells #[.int .u8 0, .int .u8 0, .int .u8 0, .int .u8 0, .int .u8 0, .int .u8 0] 25)).trans q2).alloc (.cells #[.string s, .int .i64 (a : Int)] 82)
  have l1 := q1.turn ((Turn.refl (fun _ => False) _).alloc (.cells #[.string s, .int .i64 (a : Int)] 82)) (fun h => h) (fun h => h)
  refine (hc _ t1).mono ?_
  rintro _ w2 ⟨rfl, r1⟩
  have z := (r1.block _ (block_lt (block_alloc_new w1 (.cells #[.string s, .int .i64 (a : Int)] 82))) (fun h => h)).trans (block_alloc_new w1 (.cells #[.string s, .int .i64 (a : Int)] 82))
  have hz : w2.heap[w.heap.size]? = some (.cells #[.int .u8 0, .int .u8 0, .int .u8 0, .int .u8 0, .int .u8 0, .int .u8 0] 25 (0, 0)) := (r1.block _ (Nat.lt_of_lt_of_le (block_lt (block_alloc_new w (.cells #[.int .u8 0, .int .u8 0, .int .u8 0, .int .u8 0, .int .u8 0, .int .u8 0] 25))) (Nat.le_trans q2.size (by simp))) (fun h => h)).trans ((block_alloc_old ((q2.block _ (block_lt (block_alloc_new w (.cells #[.int .u8 0, .int .u8 0, .int .u8 0, .int .u8 0, .int .u8 0, .int .u8 0] 25))) (by omega)).trans (block_alloc_new _ _))))
  have l2 := l1.turn r1 (fun h => h) (fun h => h)
  have t2 := t1.trans2 r1 (fun _ _ h => h.elim)
  have c1 : (w2.alloc (.cells #[.int .u8 m0, .int .u8 m1, .int .u8 m2, .int .u8 m3, .int .u8 m4, .int .u8 m5] 25)).cell? ⟨w1.heap.size, 1, none⟩ = some (.int .i64 (a : Int)) := cell_of_block (block_alloc_old z) 1
  have l3 := l2.turn ((Turn.refl (fun _ => False) _).alloc (.cells #[.int .u8 m0, .int .u8 m1, .int .u8 m2, .int .u8 m3, .int .u8 m4, .int .u8 m5] 25)) (fun h => h) (fun h => h)
  have t3 := t2.alloc (.cells #[.int .u8 m0, .int .u8 m1, .int .u8 m2, .int .u8 m3, .int .u8 m4, .int .u8 m5] 25)
  have hm := block_alloc_new w2 (.cells #[.int .u8 m0, .int .u8 m1, .int .u8 m2, .int .u8 m3, .int .u8 m4, .int .u8 m5] 25)
  have hz3 := block_alloc_old (o := .cells #[.int .u8 m0, .int .u8 m1, .int .u8 m2, .int .u8 m3, .int .u8 m4, .int .u8 m5] 25) hz
  have hw2 : b < w2.heap.size := Nat.lt_of_lt_of_le hb t2.size
  have HH := Lib.hid (And.intro l3 (And.intro t3 (And.intro hm (And.intro hz3 hw2))))
  clear l1 l2 t1 t2 q1 q2 r1 hc hwd z hz l3 t3 hm hz3
  go_wp2_with fail
  obtain ⟨l3, t3, hm, hz3, hw2⟩ := HH.out
  refine (rfail_any b g cap L en _ a _ l3).mono ?_
  rintro e' w3 ⟨rfl, p1, p2⟩
  have hz4 := (p2.block _ (block_lt hz3) (by omega)).trans hz3
  have hm4 := (p2.block _ (block_lt hm) (by omega)).trans hm
  obtain ⟨hce, hfr⟩ := row_facts hz4
  obtain ⟨mce, mfr⟩ := row_facts hm4
  have t4 := t3.trans p2
  have H := Lib.hid (And.intro p1 t4)
  clear l3 t3 hm hz3 p1 p2 hz4 hm4 t4 HH c1
  go_wp2_with fail
  exact bodyPost_ret (v := .agg #[.int .u8 m0, .int .u8 m1, .int .u8 m2, .int .u8 m3, .int .u8 m4, .int .u8 m5]) (by simp [results, Tryz.results25, go_sem, hce, hfr, mce, mfr]) rfl ⟨rfl, H.out.1.turn (F := fun k => k = w.heap.size) (turn_row6 (F := fun k => k = w.heap.size) (R := w.heap.size) (fun _ => rfl) (Turn.refl _ w3) _ _ _ _ _ _) (by omega) (by omega), H.out.2.trans2 (G := fun k => k = w.heap.size) (turn_row6 (F := fun k => k = w.heap.size) (R := w.heap.size) (fun _ => rfl) (Turn.refl _ w3) _ _ _ _ _ _) (fun i hi e => absurd hi (by omega))⟩

set_option maxHeartbeats 1000000 in
theorem skey_good (m0 m1 m2 m3 m4 m5 m6 m7 : Int) (b g cap : Nat) (L : List Wd) (en : Nat) (st : Except Nat Nat) (w : World) (h : RefIs w b g cap L en st) (s : ByteArray) (a : Nat)
    (hwd : Calls Tryz.prog 58 #[.pointer (some ⟨b, 0, none⟩)] (w.alloc (.cells #[.int .u8 0, .int .u8 0, .int .u8 0, .int .u8 0, .int .u8 0, .int .u8 0, .int .u8 0, .int .u8 0] 26)) (WordPost (w.alloc (.cells #[.int .u8 0, .int .u8 0, .int .u8 0, .int .u8 0, .int .u8 0, .int .u8 0, .int .u8 0, .int .u8 0] 26)) b g cap L en st s a))
    (hc : ∀ W, Turn (fun k => k = b) w W → Calls Tryz.prog 61 #[.string s] W (ValPost (.tuple #[.agg #[.int .u8 m0, .int .u8 m1, .int .u8 m2, .int .u8 m3, .int .u8 m4, .int .u8 m5, .int .u8 m6, .int .u8 m7], .int .i64 0]) W)) :
    Calls Tryz.prog 26 #[.pointer (some ⟨b, 0, none⟩)] w fun e' w' => e' = .returned (.agg #[.int .u8 m0, .int .u8 m1, .int .u8 m2, .int .u8 m3, .int .u8 m4, .int .u8 m5, .int .u8 m6, .int .u8 m7]) ∧ RefIs w' b g cap L en ((nextS st L en).map (·.2)) ∧ Turn (fun k => k = b) w w' := by
  have hb := h.lt
  have hg := h.glt
  clear h
  go_enter Tryz.func26, Tryz.ntmps26
  go_wp2_with (go_at_call 58; refine hwd.mono ?_; rintro e' w1 ⟨rfl, q1, q2⟩)
  have t1 := (((Turn.refl (fun k => k = b) w).alloc (.cells #[.int .u8 0, .int .u8 0, .int .u8 0, .int .u8 0, .int .u8 0, .int .u8 0, .int .u8 0, .int .u8 0] 26)).trans q2).alloc (.cells #[.string s, .int .i64 (a : Int)] 82)
  have l1 := q1.turn ((Turn.refl (fun _ => False) _).alloc (.cells #[.string s, .int .i64 (a : Int)] 82)) (fun h => h) (fun h => h)
  refine (hc _ t1).mono ?_
  rintro _ w2 ⟨rfl, r1⟩
  have z := (r1.block _ (block_lt (block_alloc_new w1 (.cells #[.string s, .int .i64 (a : Int)] 82))) (fun h => h)).trans (block_alloc_new w1 (.cells #[.string s, .int .i64 (a : Int)] 82))
  have hz : w2.heap[w.heap.size]? = some (.cells #[.int .u8 0, .int .u8 0, .int .u8 0, .int .u8 0, .int .u8 0, .int .u8 0, .int .u8 0, .int .u8 0] 26 (0, 0)) := (r1.block _ (Nat.lt_of_lt_of_le (block_lt (block_alloc_new w (.cells #[.int .u8 0, .int .u8 0, .int .u8 0, .int .u8 0, .int .u8 0, .int .u8 0, .int .u8 0, .int .u8 0] 26))) (Nat.le_trans q2.size (by simp))) (fun h => h)).trans ((block_alloc_old ((q2.block _ (block_lt (block_alloc_new w (.cells #[.int .u8 0, .int .u8 0, .int .u8 0, .int .u8 0, .int .u8 0, .int .u8 0, .int .u8 0, .int .u8 0] 26))) (by omega)).trans (block_alloc_new _ _))))
  have l2 := l1.turn r1 (fun h => h) (fun h => h)
  have t2 := t1.trans2 r1 (fun _ _ h => h.elim)
  obtain ⟨hce, hfr⟩ := row_facts (block_alloc_old (o := .cells #[.int .u8 m0, .int .u8 m1, .int .u8 m2, .int .u8 m3, .int .u8 m4, .int .u8 m5, .int .u8 m6, .int .u8 m7] 26) hz)
  have H := Lib.hid (And.intro l2 t2)
  clear l1 l2 t1 t2 q1 q2 r1 hc hwd z
  go_wp2_with fail
  exact bodyPost_ret (v := .agg #[.int .u8 m0, .int .u8 m1, .int .u8 m2, .int .u8 m3, .int .u8 m4, .int .u8 m5, .int .u8 m6, .int .u8 m7]) (by simp [results, Tryz.results26, go_sem, hce, hfr]) rfl ⟨rfl, H.out.1.turn (F := fun k => k = w.heap.size) (turn_row8 (F := fun k => k = w.heap.size) (R := w.heap.size) (fun _ => rfl) ((Turn.refl _ w2).alloc _) _ _ _ _ _ _ _ _) (by omega) (by omega), H.out.2.trans2 (G := fun k => k = w.heap.size) (turn_row8 (F := fun k => k = w.heap.size) (R := w.heap.size) (fun _ => rfl) ((Turn.refl _ w2).alloc _) _ _ _ _ _ _ _ _) (fun i hi e => absurd hi (by omega))⟩

set_option maxHeartbeats 1000000 in
theorem skey_bad (m0 m1 m2 m3 m4 m5 m6 m7 : Int) (e : Int) (he : ¬ e = 0) (b g cap : Nat) (L : List Wd) (en : Nat) (st : Except Nat Nat) (w : World) (h : RefIs w b g cap L en st) (s : ByteArray) (a : Nat)
    (hwd : Calls Tryz.prog 58 #[.pointer (some ⟨b, 0, none⟩)] (w.alloc (.cells #[.int .u8 0, .int .u8 0, .int .u8 0, .int .u8 0, .int .u8 0, .int .u8 0, .int .u8 0, .int .u8 0] 26)) (WordPost (w.alloc (.cells #[.int .u8 0, .int .u8 0, .int .u8 0, .int .u8 0, .int .u8 0, .int .u8 0, .int .u8 0, .int .u8 0] 26)) b g cap L en st s a))
    (hc : ∀ W, Turn (fun k => k = b) w W → Calls Tryz.prog 61 #[.string s] W (ValPost (.tuple #[.agg #[.int .u8 m0, .int .u8 m1, .int .u8 m2, .int .u8 m3, .int .u8 m4, .int .u8 m5, .int .u8 m6, .int .u8 m7], .int .i64 e]) W)) :
    Calls Tryz.prog 26 #[.pointer (some ⟨b, 0, none⟩)] w fun e' w' => e' = .returned (.agg #[.int .u8 m0, .int .u8 m1, .int .u8 m2, .int .u8 m3, .int .u8 m4, .int .u8 m5, .int .u8 m6, .int .u8 m7]) ∧ RefIs w' b g cap L en (failS ((nextS st L en).map (·.2)) a) ∧ Turn (fun k => k = b) w w' := by
  have hb := h.lt
  have hg := h.glt
  have hne : (e == 0) = false := by rw [beq_eq_false_iff_ne]; exact he
  clear h
  go_enter Tryz.func26, Tryz.ntmps26
  go_wp2_with (go_at_call 58; refine hwd.mono ?_; rintro e' w1 ⟨rfl, q1, q2⟩)
  have t1 := (((Turn.refl (fun k => k = b) w).alloc (.cells #[.int .u8 0, .int .u8 0, .int .u8 0, .int .u8 0, .int .u8 0, .int .u8 0, .int .u8 0, .int .u8 0] 26)).trans q2).alloc (.cells #[.string s, .int .i64 (a : Int)] 82)
  have l1 := q1.turn ((Turn.refl (fun _ => False) _).alloc (.cells #[.string s, .int .i64 (a : Int)] 82)) (fun h => h) (fun h => h)
  refine (hc _ t1).mono ?_
  rintro _ w2 ⟨rfl, r1⟩
  have z := (r1.block _ (block_lt (block_alloc_new w1 (.cells #[.string s, .int .i64 (a : Int)] 82))) (fun h => h)).trans (block_alloc_new w1 (.cells #[.string s, .int .i64 (a : Int)] 82))
  have hz : w2.heap[w.heap.size]? = some (.cells #[.int .u8 0, .int .u8 0, .int .u8 0, .int .u8 0, .int .u8 0, .int .u8 0, .int .u8 0, .int .u8 0] 26 (0, 0)) := (r1.block _ (Nat.lt_of_lt_of_le (block_lt (block_alloc_new w (.cells #[.int .u8 0, .int .u8 0, .int .u8 0, .int .u8 0, .int .u8 0, .int .u8 0, .int .u8 0, .int .u8 0] 26))) (Nat.le_trans q2.size (by simp))) (fun h => h)).trans ((block_alloc_old ((q2.block _ (block_lt (block_alloc_new w (.cells #[.int .u8 0, .int .u8 0, .int .u8 0, .int .u8 0, .int .u8 0, .int .u8 0, .int .u8 0, .int .u8 0] 26))) (by omega)).trans (block_alloc_new _ _))))
  have l2 := l1.turn r1 (fun h => h) (fun h => h)
  have t2 := t1.trans2 r1 (fun _ _ h => h.elim)
  have c1 : (w2.alloc (.cells #[.int .u8 m0, .int .u8 m1, .int .u8 m2, .int .u8 m3, .int .u8 m4, .int .u8 m5, .int .u8 m6, .int .u8 m7] 26)).cell? ⟨w1.heap.size, 1, none⟩ = some (.int .i64 (a : Int)) := cell_of_block (block_alloc_old z) 1
  have l3 := l2.turn ((Turn.refl (fun _ => False) _).alloc (.cells #[.int .u8 m0, .int .u8 m1, .int .u8 m2, .int .u8 m3, .int .u8 m4, .int .u8 m5, .int .u8 m6, .int .u8 m7] 26)) (fun h => h) (fun h => h)
  have t3 := t2.alloc (.cells #[.int .u8 m0, .int .u8 m1, .int .u8 m2, .int .u8 m3, .int .u8 m4, .int .u8 m5, .int .u8 m6, .int .u8 m7] 26)
  have hm := block_alloc_new w2 (.cells #[.int .u8 m0, .int .u8 m1, .int .u8 m2, .int .u8 m3, .int .u8 m4, .int .u8 m5, .int .u8 m6, .int .u8 m7] 26)
  have hz3 := block_alloc_old (o := .cells #[.int .u8 m0, .int .u8 m1, .int .u8 m2, .int .u8 m3, .int .u8 m4, .int .u8 m5, .int .u8 m6, .int .u8 m7] 26) hz
  have hw2 : b < w2.heap.size := Nat.lt_of_lt_of_le hb t2.size
  have HH := Lib.hid (And.intro l3 (And.intro t3 (And.intro hm (And.intro hz3 hw2))))
  clear l1 l2 t1 t2 q1 q2 r1 hc hwd z hz l3 t3 hm hz3
  go_wp2_with fail
  obtain ⟨l3, t3, hm, hz3, hw2⟩ := HH.out
  refine (rfail_any b g cap L en _ a _ l3).mono ?_
  rintro e' w3 ⟨rfl, p1, p2⟩
  have hz4 := (p2.block _ (block_lt hz3) (by omega)).trans hz3
  have hm4 := (p2.block _ (block_lt hm) (by omega)).trans hm
  obtain ⟨hce, hfr⟩ := row_facts hz4
  obtain ⟨mce, mfr⟩ := row_facts hm4
  have t4 := t3.trans p2
  have H := Lib.hid (And.intro p1 t4)
  clear l3 t3 hm hz3 p1 p2 hz4 hm4 t4 HH c1
  go_wp2_with fail
  exact bodyPost_ret (v := .agg #[.int .u8 m0, .int .u8 m1, .int .u8 m2, .int .u8 m3, .int .u8 m4, .int .u8 m5, .int .u8 m6, .int .u8 m7]) (by simp [results, Tryz.results26, go_sem, hce, hfr, mce, mfr]) rfl ⟨rfl, H.out.1.turn (F := fun k => k = w.heap.size) (turn_row8 (F := fun k => k = w.heap.size) (R := w.heap.size) (fun _ => rfl) (Turn.refl _ w3) _ _ _ _ _ _ _ _) (by omega) (by omega), H.out.2.trans2 (G := fun k => k = w.heap.size) (turn_row8 (F := fun k => k = w.heap.size) (R := w.heap.size) (fun _ => rfl) (Turn.refl _ w3) _ _ _ _ _ _ _ _) (fun i hi e => absurd hi (by omega))⟩
end Go.Proofs.YtbkpbcmjgbdbkaaGreatDoor
