/- The reference's line: fail, word, must. No condition. -/
import Derived.Test.YtbkpbcmjgbdbkaaGreatDoorMD
namespace Go.Proofs.YtbkpbcmjgbdbkaaGreatDoor
open Go.RowKit Go.Lib
set_option linter.unusedVariables false
set_option linter.unusedSimpArgs false

/-- The reference's line, field by field. -/
structure RefAt (w : World) (b g cap : Nat) (L : List Wd) (en i pl : Nat) (bad : Bool) : Prop where
  ex : w.heap[b]? = some (.cells #[.slice (some ⟨g, 0, none⟩) L.length cap, .int .i64 (i : Int), .int .i64 (en : Int), .int .i64 (pl : Int), .bool bad] 72 (0, 0)) ∧ b ≠ g ∧ g < w.heap.size ∧
    (∀ (i : Nat) (x : Wd), L[i]? = some x → w.cell? ⟨g, i * 2, none⟩ = some (.string x.1) ∧ w.cell? ⟨g, i * 2 + 1, none⟩ = some (.int .i64 (x.2 : Int)))
  len : L.length ≤ 1000000
  le : i ≤ L.length
  size : ∀ (i : Nat) (x : Wd), L[i]? = some x → x.1.size ≤ 1000000
  low : 7 ≤ b
theorem RefAt.lt {w : World} {b g cap : Nat} {L : List Wd} {en i pl : Nat} {bad : Bool} (h : RefAt w b g cap L en i pl bad) : b < w.heap.size := block_lt h.ex.1
theorem RefAt.glt {w : World} {b g cap : Nat} {L : List Wd} {en i pl : Nat} {bad : Bool} (h : RefAt w b g cap L en i pl bad) : g < w.heap.size := h.ex.2.2.1
theorem RefAt.turn {w w' : World} {b g cap : Nat} {L : List Wd} {en i pl : Nat} {bad : Bool} {F : Nat → Prop} (h : RefAt w b g cap L en i pl bad) (t : Turn F w w') (hb : ¬ F b) (hg : ¬ F g) : RefAt w' b g cap L en i pl bad := by
  obtain ⟨h1, h2, h3, h4⟩ := h.ex
  exact ⟨⟨(t.block b (block_lt h1) hb).trans h1, h2, Nat.lt_of_lt_of_le h3 t.size, fun i x hi => by
    rw [cell_turn0 t h3 hg, cell_turn0 t h3 hg]; exact h4 i x hi⟩, h.len, h.le, h.size, h.low⟩
/-- The block turned, the words' array not. -/
theorem RefAt.put {w w' : World} {b g cap : Nat} {L : List Wd} {en i pl i' pl' : Nat} {bad bad' : Bool} (h : RefAt w b g cap L en i pl bad) (t : Turn (fun k => k = b) w w') (hi : i' ≤ L.length)
    (hb : w'.heap[b]? = some (.cells #[.slice (some ⟨g, 0, none⟩) L.length cap, .int .i64 (i' : Int), .int .i64 (en : Int), .int .i64 (pl' : Int), .bool bad'] 72 (0, 0))) : RefAt w' b g cap L en i' pl' bad' := by
  obtain ⟨h1, h2, h3, h4⟩ := h.ex
  have hg : ¬ g = b := fun e => h2 e.symm
  exact ⟨⟨hb, h2, Nat.lt_of_lt_of_le h3 t.size, fun i x hi => by
    rw [cell_turn0 t h3 hg, cell_turn0 t h3 hg]; exact h4 i x hi⟩, h.len, hi, h.size, h.low⟩

def plAt (bad : Bool) (pl a : Nat) : Nat := if bad then pl else a
theorem rfail_raw (b g cap : Nat) (L : List Wd) (en i pl : Nat) (bad : Bool) (a : Nat) (w : World) (h : RefAt w b g cap L en i pl bad) :
    Calls Tryz.prog 29 #[.pointer (some ⟨b, 0, none⟩), .int .i64 (a : Int)] w fun e w' => e = .returned (.tuple #[]) ∧ RefAt w' b g cap L en i (plAt bad pl a) true ∧ Turn (fun k => k = b) w w' := by
  have h1 := h.ex.1
  obtain ⟨hce, hfr⟩ := row_facts h1
  have c4 : w.cell? ⟨b, 4, none⟩ = some (.bool bad) := hce 4
  have c3 : w.cell? ⟨b, 3, none⟩ = some (.int .i64 (pl : Int)) := hce 3
  clear hce
  have H := Lib.hid h
  clear h
  cases bad with
  | true =>
    go_enter Tryz.func29, Tryz.ntmps29
    go_wp2_with fail
    go_end0
    exact ⟨rfl, H.out, Turn.refl _ _⟩
  | false =>
    go_enter Tryz.func29, Tryz.ntmps29
    go_wp2_with fail
    go_end0
    have t : Turn (fun k => k = b) w ((w.setCell ⟨b, 4, none⟩ (.bool true)).setCell ⟨b, 3, none⟩ (.int .i64 (a : Int))) := ((Turn.refl (fun k => k = b) w).setCell (p := ⟨b, 4, none⟩) _ (fun _ => rfl)).setCell (p := ⟨b, 3, none⟩) _ (fun _ => rfl)
    exact ⟨rfl, H.out.put t H.out.le (block_setCell (block_setCell h1 4 (.bool true)) 3 (.int .i64 (a : Int))), t⟩
set_option maxRecDepth 100000 in
theorem rword_none (b g cap : Nat) (L : List Wd) (en pl : Nat) (bad : Bool) (w : World) (h : RefAt w b g cap L en L.length pl bad) :
    Calls Tryz.prog 58 #[.pointer (some ⟨b, 0, none⟩)] w fun e w' => e = .returned (.agg #[.string ⟨#[]⟩, .int .i64 (en : Int)]) ∧ RefAt w' b g cap L en L.length (plAt bad pl en) true ∧ Turn (fun k => k = b) w w' := by
  have h0 := h.turn ((Turn.refl (fun _ => False) w).alloc (.cells #[.string ⟨#[]⟩, .int .i64 0] 82)) (fun h => h) (fun h => h)
  obtain ⟨hce, hfr⟩ := row_facts h0.ex.1
  have c0 := hce 0
  have c1 := hce 1
  have c2 := hce 2
  simp only [List.getElem?_toArray, List.getElem?_cons_zero, List.getElem?_cons_succ] at c0 c1 c2
  clear hce
  go_enter Tryz.func58, Tryz.ntmps58
  go_wp2_with fail
  go_quiet (fail)
  go_wp2_with fail
  refine (rfail_raw b g cap L en L.length pl bad en _ (h0.turn ((Turn.refl (fun _ => False) _).drewN nq) (fun h => h) (fun h => h))).mono ?_
  rintro e w1 ⟨rfl, q1, q2⟩
  have hR : w1.heap[w.heap.size]? = some (.cells #[.string ⟨#[]⟩, .int .i64 0] 82 (0, 0)) := (q2.block _ (block_lt ((block_drewN _ nq _).trans (block_alloc_new w (.cells #[.string ⟨#[]⟩, .int .i64 0] 82)))) (by have := h.lt; omega)).trans ((block_drewN _ nq _).trans (block_alloc_new w _))
  have tt : Turn (fun k => k = b) w w1 := (((Turn.refl (fun k => k = b) w).alloc _).drewN nq).trans q2
  obtain ⟨hce, hfr2⟩ := row_facts q1.ex.1
  have d2 := hce 2
  simp only [List.getElem?_toArray, List.getElem?_cons_zero, List.getElem?_cons_succ] at d2
  obtain ⟨rce, rfr⟩ := row_facts hR
  have e0 := rce 0
  have e1 := rce 1
  simp only [List.getElem?_toArray, List.getElem?_cons_zero, List.getElem?_cons_succ] at e0 e1
  have hbs : ¬ b = w.heap.size := by have := h.lt; omega
  have hgs : ¬ g = w.heap.size := by have := h.glt; omega
  have H := Lib.hid (And.intro q1 (And.intro tt hR))
  clear q1 q2 tt hR hce rce h0 h hfr c0 c1 c2
  go_wp2_with fail
  obtain ⟨q1, tt, hR⟩ := H.out
  have t3 : Turn (fun k => k = w.heap.size) w1 ((w1.setCell ⟨w.heap.size, 0, none⟩ (.string ⟨#[]⟩)).setCell ⟨w.heap.size, 1, none⟩ (.int .i64 (en : Int))) := ((Turn.refl (fun k => k = w.heap.size) w1).setCell (p := ⟨w.heap.size, 0, none⟩) _ (fun _ => rfl)).setCell (p := ⟨w.heap.size, 1, none⟩) _ (fun _ => rfl)
  exact bodyPost_ret (results_row Tryz.results58 _ _ w.heap.size _ rfl (block_setCell (block_setCell hR 0 _) 1 _) _ Tryz.underlying82 rfl (by kernel_rfl)) rfl ⟨rfl, q1.turn t3 hbs hgs, tt.trans2 t3 (fun i hi e => absurd hi (by omega))⟩
set_option maxRecDepth 100000 in
set_option maxHeartbeats 2000000 in
theorem rword_some (b g cap : Nat) (L : List Wd) (en i pl : Nat) (bad : Bool) (w : World) (h : RefAt w b g cap L en i pl bad) (s : ByteArray) (a : Nat) (hx : L[i]? = some (s, a)) :
    Calls Tryz.prog 58 #[.pointer (some ⟨b, 0, none⟩)] w fun e w' => e = .returned (.agg #[.string s, .int .i64 (a : Int)]) ∧ RefAt w' b g cap L en (i + 1) pl bad ∧ Turn (fun k => k = b) w w' := by
  obtain ⟨h1, h2, h3, h4⟩ := h.ex
  have hb := block_lt h1
  have hn : i < L.length := (List.getElem?_eq_some_iff.1 hx).1
  have hL := h.len
  have hbn : ¬ b = w.heap.size := by omega
  have hgn : ¬ g = w.heap.size := by omega
  obtain ⟨x1, x2⟩ := h4 i _ hx
  obtain ⟨hce, hfr⟩ := row_facts (block_alloc_old (o := .cells #[.string ⟨#[]⟩, .int .i64 0] 82) h1)
  have c0 := hce 0
  have c1 := hce 1
  simp only [List.getElem?_toArray, List.getElem?_cons_zero, List.getElem?_cons_succ] at c0 c1
  have ne : ¬ (L.length : Int) ≤ (i : Int) := by omega
  have f2 : ∀ m, ((w.alloc (.cells #[.string ⟨#[]⟩, .int .i64 0] 82)).drewN m).frozen? ⟨b, 1, none⟩ = false := fun m => free_of_block ((block_drewN _ _ _).trans (block_alloc_old h1)) 1
  have H0 := Lib.hid (And.intro h (And.intro h1 hx))
  clear hce hfr h h4 hx
  go_enter Tryz.func58, Tryz.ntmps58
  go_wp2_with fail
  go_quiet (fail)
  go_wp2_with fail
  have t1 : Turn (fun k => k = b) w (((((w.alloc (.cells #[.string ⟨#[]⟩, .int .i64 0] 82)).drewN nq).setCell ⟨b, 1, none⟩ (.int .i64 ((i : Int) + 1)))).drew) := ((((Turn.refl (fun k => k = b) w).alloc _).drewN nq).setCell (p := ⟨b, 1, none⟩) _ (fun _ => rfl)).drew
  have k1 : ((((w.alloc (.cells #[.string ⟨#[]⟩, .int .i64 0] 82)).drewN nq).setCell ⟨b, 1, none⟩ (.int .i64 ((i : Int) + 1))).drew).heap[b]? = some _ := block_setCell ((block_drewN (w.alloc (.cells #[.string ⟨#[]⟩, .int .i64 0] 82)) nq b).trans (block_alloc_old H0.out.2.1)) 1 (.int .i64 ((i : Int) + 1))
  have k3 : ((((w.alloc (.cells #[.string ⟨#[]⟩, .int .i64 0] 82)).drewN nq).setCell ⟨b, 1, none⟩ (.int .i64 ((i : Int) + 1))).drew).heap[w.heap.size]? = some (.cells #[.string ⟨#[]⟩, .int .i64 0] 82 (0, 0)) := by
    show ((((w.alloc (.cells #[.string ⟨#[]⟩, .int .i64 0] 82)).drewN nq).setCell ⟨b, 1, none⟩ (.int .i64 ((i : Int) + 1)))).heap[w.heap.size]? = _
    rw [Below.heap_setCell _ _ _ _ (show w.heap.size ≠ b by omega)]
    exact (block_drewN _ nq _).trans (block_alloc_new _ _)
  clear c0 c1 f2
  refine region_tail 11 (by kernel_rfl) (by kernel_rfl) _ rfl ?_
  generalize World.drew _ = W at *
  have hRA : RefAt W b g cap L en (i + 1) pl bad := H0.out.1.put t1 hn k1
  obtain ⟨y1, y2⟩ := hRA.ex.2.2.2 i _ H0.out.2.2
  obtain ⟨hce, hfr⟩ := row_facts hRA.ex.1
  have c0 := hce 0
  have c1 := hce 1
  obtain ⟨rce, rfr⟩ := row_facts k3
  have e0 := rce 0
  have e1 := rce 1
  simp only [List.getElem?_toArray, List.getElem?_cons_zero, List.getElem?_cons_succ] at c0 c1 e0 e1 y1 y2
  have hwr : IntKind.i64.wrap (i : Int) = i := by rw [IntKind.wrap_i64]; omega
  have i1 : (0 : Int) ≤ (i : Int) := by omega
  have i2 : (i : Int) < (L.length : Int) := by omega
  have H4 := Lib.hid (And.intro hRA (And.intro k3 t1))
  clear hRA k1 k3 t1 H0 hce hfr rce h1 x1 x2
  simp only [List.take_succ_cons, List.take_zero, List.drop_succ_cons, List.drop_zero]
  repeat still_step
  try refine wpStill_nil ?_
  go_wp2_with fail
  obtain ⟨q1, k3, t1⟩ := H4.out
  have t3 : Turn (fun k => k = w.heap.size) W ((W.setCell ⟨w.heap.size, 0, none⟩ (.string s)).setCell ⟨w.heap.size, 1, none⟩ (.int .i64 (a : Int))) := ((Turn.refl (fun k => k = w.heap.size) W).setCell (p := ⟨w.heap.size, 0, none⟩) _ (fun _ => rfl)).setCell (p := ⟨w.heap.size, 1, none⟩) _ (fun _ => rfl)
  exact bodyPost_ret (results_row Tryz.results58 _ _ w.heap.size _ rfl (block_setCell (block_setCell k3 0 _) 1 _) _ Tryz.underlying82 rfl (by kernel_rfl)) rfl ⟨rfl, q1.turn t3 hbn hgn, t1.trans2 t3 (fun i hi e => absurd hi (by omega))⟩
/-- The reference's line, by what was read so far: the next word's place, or the first error's. -/
def RefIs (w : World) (b g cap : Nat) (L : List Wd) (en : Nat) : Except Nat Nat → Prop
  | .ok n => ∃ pl, RefAt w b g cap L en n pl false
  | .error pl => ∃ i, RefAt w b g cap L en i pl true
theorem RefIs.turn {w w' : World} {b g cap : Nat} {L : List Wd} {en : Nat} {st : Except Nat Nat} {F : Nat → Prop} (h : RefIs w b g cap L en st) (t : Turn F w w') (hb : ¬ F b) (hg : ¬ F g) : RefIs w' b g cap L en st := by
  cases st with
  | ok n => obtain ⟨pl, h⟩ := h; exact ⟨pl, h.turn t hb hg⟩
  | error pl => obtain ⟨i, h⟩ := h; exact ⟨i, h.turn t hb hg⟩
theorem RefIs.at_ {w : World} {b g cap : Nat} {L : List Wd} {en : Nat} {st : Except Nat Nat} (h : RefIs w b g cap L en st) : ∃ i pl bad, RefAt w b g cap L en i pl bad := by
  cases st with
  | ok n => obtain ⟨pl, h⟩ := h; exact ⟨_, _, _, h⟩
  | error pl => obtain ⟨i, h⟩ := h; exact ⟨_, _, _, h⟩
theorem RefIs.lt {w : World} {b g cap : Nat} {L : List Wd} {en : Nat} {st : Except Nat Nat} (h : RefIs w b g cap L en st) : b < w.heap.size := by
  obtain ⟨i, pl, bad, h⟩ := h.at_
  exact h.lt
theorem RefIs.glt {w : World} {b g cap : Nat} {L : List Wd} {en : Nat} {st : Except Nat Nat} (h : RefIs w b g cap L en st) : g < w.heap.size := by
  obtain ⟨i, pl, bad, h⟩ := h.at_
  exact h.glt
theorem RefIs.low {w : World} {b g cap : Nat} {L : List Wd} {en : Nat} {st : Except Nat Nat} (h : RefIs w b g cap L en st) : 7 ≤ b := by
  obtain ⟨i, pl, bad, h⟩ := h.at_
  exact h.low
/-- An error, if none was yet. -/
def failS (st : Except Nat Nat) (a : Nat) : Except Nat Nat := match st with
  | .ok _ => .error a
  | .error pl => .error pl
theorem rfail_any (b g cap : Nat) (L : List Wd) (en : Nat) (st : Except Nat Nat) (a : Nat) (w : World) (h : RefIs w b g cap L en st) :
    Calls Tryz.prog 29 #[.pointer (some ⟨b, 0, none⟩), .int .i64 (a : Int)] w fun e w' => e = .returned (.tuple #[]) ∧ RefIs w' b g cap L en (failS st a) ∧ Turn (fun k => k = b) w w' := by
  cases st with
  | ok n =>
    obtain ⟨pl, h⟩ := h
    exact (rfail_raw b g cap L en n pl false a w h).mono fun e w' ⟨h1, h2, h3⟩ => ⟨h1, ⟨n, h2⟩, h3⟩
  | error pl =>
    obtain ⟨i, h⟩ := h
    exact (rfail_raw b g cap L en i pl true a w h).mono fun e w' ⟨h1, h2, h3⟩ => ⟨h1, ⟨i, h2⟩, h3⟩
/-- The next word, of what was read so far. -/
def nextS (st : Except Nat Nat) (L : List Wd) (en : Nat) : Except Nat (Wd × Nat) := match st with
  | .ok n => nextP L en n
  | .error pl => .error pl
def WordPost (w : World) (b g cap : Nat) (L : List Wd) (en : Nat) (st : Except Nat Nat) (s : ByteArray) (a : Nat) (e : Ending) (w' : World) : Prop :=
  e = .returned (.agg #[.string s, .int .i64 (a : Int)]) ∧ RefIs w' b g cap L en ((nextS st L en).map (·.2)) ∧ Turn (fun k => k = b) w w'
/-- Before the call it is known what it hands back. -/
theorem rword_any (b g cap : Nat) (L : List Wd) (en : Nat) (st : Except Nat Nat) (w : World) (h : RefIs w b g cap L en st) :
    ∃ s a, Calls Tryz.prog 58 #[.pointer (some ⟨b, 0, none⟩)] w (WordPost w b g cap L en st s a) ∧ s.size ≤ 1000000 ∧ ∀ x m, nextS st L en = .ok (x, m) → x = (s, a) := by
  cases st with
  | ok n =>
    obtain ⟨pl, h⟩ := h
    cases hx : L[n]? with
    | some x =>
      have hr : nextS (.ok n) L en = .ok (x, n + 1) := nextP_some hx
      refine ⟨x.1, x.2, (rword_some b g cap L en n pl false w h x.1 x.2 hx).mono fun e w' ⟨h1, h2, h3⟩ => ⟨h1, ?_, h3⟩, h.size n x hx, fun y m hy => ?_⟩
      · rw [hr]; exact ⟨pl, h2⟩
      · rw [hr] at hy; cases hy; rfl
    | none =>
      have hn : n = L.length := Nat.le_antisymm h.le (List.getElem?_eq_none_iff.1 hx)
      subst hn
      have hr : nextS (.ok L.length) L en = .error en := nextP_none hx
      refine ⟨⟨#[]⟩, en, (rword_none b g cap L en pl false w h).mono fun e w' ⟨h1, h2, h3⟩ => ⟨h1, ?_, h3⟩, Nat.zero_le _, fun y m hy => ?_⟩
      · rw [hr]; exact ⟨_, h2⟩
      · rw [hr] at hy; cases hy
  | error pl =>
    obtain ⟨i, h⟩ := h
    cases hx : L[i]? with
    | some x =>
      exact ⟨x.1, x.2, (rword_some b g cap L en i pl true w h x.1 x.2 hx).mono fun e w' ⟨h1, h2, h3⟩ => ⟨h1, ⟨_, h2⟩, h3⟩, h.size i x hx, fun y m hy => by cases hy⟩
    | none =>
      have hn : i = L.length := Nat.le_antisymm h.le (List.getElem?_eq_none_iff.1 hx)
      subst hn
      exact ⟨⟨#[]⟩, en, (rword_none b g cap L en pl true w h).mono fun e w' ⟨h1, h2, h3⟩ => ⟨h1, ⟨_, h2⟩, h3⟩, Nat.zero_le _, fun y m hy => by cases hy⟩
/-- A word that must stand there. -/
def mustS (s : ByteArray) (st : Except Nat Nat) (L : List Wd) (en : Nat) : Except Nat Nat := match st with
  | .ok n => mustP s L en n
  | .error pl => .error pl
theorem mustS_yes {s t : ByteArray} {a : Nat} {st : Except Nat Nat} {L : List Wd} {en : Nat} (h : ∀ x m, nextS st L en = .ok (x, m) → x = (t, a)) (hs : t = s) : mustS s st L en = (nextS st L en).map (·.2) := by
  subst hs
  cases st with
  | error pl => rfl
  | ok n =>
    show mustP t L en n = (nextP L en n).map (·.2)
    have h' : ∀ x m, nextP L en n = .ok (x, m) → x = (t, a) := h
    unfold mustP nextP at *
    cases hx : L[n]? with
    | none => rfl
    | some x =>
      rw [hx] at h'
      have := h' x (n + 1) rfl
      subst this
      simp only [if_true]
      rfl
theorem mustS_no {s t : ByteArray} {a : Nat} {st : Except Nat Nat} {L : List Wd} {en : Nat} (h : ∀ x m, nextS st L en = .ok (x, m) → x = (t, a)) (hs : ¬ t = s) : mustS s st L en = failS ((nextS st L en).map (·.2)) a := by
  cases st with
  | error pl => rfl
  | ok n =>
    show mustP s L en n = failS ((nextP L en n).map (·.2)) a
    have h' : ∀ x m, nextP L en n = .ok (x, m) → x = (t, a) := h
    unfold mustP nextP at *
    cases hx : L[n]? with
    | none => rfl
    | some x =>
      rw [hx] at h'
      have := h' x (n + 1) rfl
      subst this
      simp only [if_neg hs]
      rfl
theorem rmust_any (s : ByteArray) (b g cap : Nat) (L : List Wd) (en : Nat) (st : Except Nat Nat) (w : World) (h : RefIs w b g cap L en st) :
    Calls Tryz.prog 23 #[.pointer (some ⟨b, 0, none⟩), .string s] w fun e w' => e = .returned (.tuple #[]) ∧ RefIs w' b g cap L en (mustS s st L en) ∧ Turn (fun k => k = b) w w' := by
  obtain ⟨t, a, hc, hsz, hw⟩ := rword_any b g cap L en st w h
  by_cases hs : t = s
  · rw [mustS_yes hw hs]
    subst hs
    clear hw h
    go_enter Tryz.func23, Tryz.ntmps23
    go_wp2_with (go_at_call 58; refine hc.mono ?_; rintro e w1 ⟨rfl, q1, q2⟩)
    go_end0
    exact ⟨rfl, q1.turn ((Turn.refl (fun _ => False) _).alloc _) (fun h => h) (fun h => h), q2.alloc _⟩
  · rw [mustS_no hw hs]
    have hne := str_ne hs
    clear hw hs h
    go_enter Tryz.func23, Tryz.ntmps23
    go_wp2_with (first | (go_at_call 58; refine hc.mono ?_; rintro e w1 ⟨rfl, q1, q2⟩) | (go_at_call 29; refine (rfail_any b g cap L en _ a _ (q1.turn ((Turn.refl (fun _ => False) _).alloc _) (fun h => h) (fun h => h))).mono ?_; rintro e w2 ⟨rfl, r1, r2⟩))
    go_end0
    exact ⟨rfl, r1, (q2.alloc _).trans r2⟩
end Go.Proofs.YtbkpbcmjgbdbkaaGreatDoor
