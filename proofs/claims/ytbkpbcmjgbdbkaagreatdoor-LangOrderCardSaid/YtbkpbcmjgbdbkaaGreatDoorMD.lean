/- Reading an address, a number, a hardware address, a key, a filter's word. Condition: the library's tables (Env). A reading function's stages: the line, the tables, the function's own blocks. No condition. strconv.FormatUint in base 10; lang.num. Condition: the library's tables (Env). (The walk of the digits: after the library's own of FormatInt.) Lists of tenants held against one another, given each pair of tenants. No condition. Lists held against one another: numbers. No condition. Lists held against one another: pairs. No condition. lang.lines' word: the closure that ends a word. No condition but sizes. lang.lines' ended: the closure that ends a line. No condition but sizes. -/
import Derived.Test.YtbkpbcmjgbdbkaaGreatDoorH2
import Derived.Laws.CopyRow
import Derived.Test.YtbkpbcmjgbdbkaaGreatDoorMC
import Derived.Lib.AppendIntMem
import Derived.Test.YtbkpbcmjgbdbkaaGreatDoorMA
import Derived.Deep.AppendLies
import Derived.Deep.RegionLaw
import Derived.Deep.RegionHeld3
import Derived.Deep.DeepCutAuto
/-! H3 -/
namespace Go.Proofs.YtbkpbcmjgbdbkaaGreatDoor
open Go.RowKit Go.Lib
set_option linter.unusedVariables false
set_option linter.unusedSimpArgs false

theorem ip_env (s : ByteArray) (hs : s.size ≤ 1000000) (w : World) (he : Env w) : Calls Tryz.prog 77 #[.string s] w (IpPost s w) := pip_any s hs w (psplit s 46 w he hs)
theorem mac_env (s : ByteArray) (hs : s.size ≤ 1000000) (w : World) (he : Env w) : Calls Tryz.prog 79 #[.string s] w (RowPost 6 (macOf s.data.toList) w) :=
  pmac_any s hs w (fun W t => psplit s 58 W (he.keep t) hs)
theorem readP_some {α : Type} {f : List UInt8 → Option α} {L : List Wd} {en n : Nat} {s : ByteArray} {a : Nat} {v : α} (hx : L[n]? = some (s, a)) (hf : f s.data.toList = some v) : readP f L en n = .ok (v, n + 1) := by
  unfold readP; rw [hx]; simp only [hf]
theorem readP_bad {α : Type} {f : List UInt8 → Option α} {L : List Wd} {en n : Nat} {s : ByteArray} {a : Nat} (hx : L[n]? = some (s, a)) (hf : f s.data.toList = none) : readP f L en n = .error a := by
  unfold readP; rw [hx]; simp only [hf]
theorem readP_end {α : Type} {f : List UInt8 → Option α} {L : List Wd} {en n : Nat} (hx : L[n]? = none) : readP f L en n = .error en := by
  unfold readP; rw [hx]
theorem Env.line {w W : World} {b : Nat} (he : Env w) (hb : 7 ≤ b) (t : Turn (fun k => k = b) w W) : Env W := he.turn t (fun i hi e => by omega)

theorem readIp_any (b g cap : Nat) (L : List Wd) (en n : Nat) (w : World) (h : LineIs w b g cap L en n) (he : Env w) :
    Calls Tryz.prog 76 #[.pointer (some ⟨b, 0, none⟩), .func (.func 77) #[] #[]] w (Took w b g cap L en ((readP ipOf L en n).map fun r => (.int .u32 (r.1 : Int), r.2))) := by
  cases hx : L[n]? with
  | none => rw [readP_end hx]; exact rip1_none b g cap L en n w h hx
  | some x =>
    obtain ⟨s, a⟩ := x
    have hs := h.size n _ hx
    cases hf : ipOf s.data.toList with
    | none =>
      rw [readP_bad hx hf]
      exact rip1_bad 0 60 (by omega) b g cap L en n w h s a hx (fun W t => (ip_env s hs W (he.line h.low t)).mono fun e w' ⟨h1, h2⟩ => ⟨by rw [h1, hf]; rfl, h2⟩)
    | some v =>
      rw [readP_some hx hf]
      exact rip1_good (v : Int) b g cap L en n w h s a hx (fun W t => (ip_env s hs W (he.line h.low t)).mono fun e w' ⟨h1, h2⟩ => ⟨by rw [h1, hf]; rfl, h2⟩)
theorem readMac_any (b g cap : Nat) (L : List Wd) (en n : Nat) (w : World) (h : LineIs w b g cap L en n) (he : Env w) :
    Calls Tryz.prog 78 #[.pointer (some ⟨b, 0, none⟩), .func (.func 79) #[] #[]] w (Took w b g cap L en ((readP macOf L en n).map fun r => (.agg (u8row r.1), r.2))) := by
  cases hx : L[n]? with
  | none => rw [readP_end hx]; exact rmac1_none b g cap L en n w h hx
  | some x =>
    obtain ⟨s, a⟩ := x
    have hs := h.size n _ hx
    cases hf : macOf s.data.toList with
    | none =>
      rw [readP_bad hx hf]
      exact rmac1_bad 0 0 0 0 0 0 60 (by omega) b g cap L en n w h s a hx (fun W t => (mac_env s hs W (he.line h.low t)).mono fun e w' ⟨h1, h2⟩ => ⟨by rw [h1, hf]; rfl, h2⟩)
    | some v =>
      rw [readP_some hx hf]
      obtain ⟨m0, m1, m2, m3, m4, m5, rfl⟩ := list6 v (macOf_read hf).2.1
      exact rmac1_good m0 m1 m2 m3 m4 m5 b g cap L en n w h s a hx (fun W t => (mac_env s hs W (he.line h.low t)).mono fun e w' ⟨h1, h2⟩ => ⟨by rw [h1, hf]; rfl, h2⟩)
theorem readKey_any (b g cap : Nat) (L : List Wd) (en n : Nat) (w : World) (h : LineIs w b g cap L en n) (he : Env w) :
    Calls Tryz.prog 80 #[.pointer (some ⟨b, 0, none⟩), .func (.func 81) #[] #[]] w (Took w b g cap L en ((readP keyOf L en n).map fun r => (.agg (u8row r.1), r.2))) := by
  cases hx : L[n]? with
  | none => rw [readP_end hx]; exact rkey1_none b g cap L en n w h hx
  | some x =>
    obtain ⟨s, a⟩ := x
    have hs := h.size n _ hx
    cases hf : keyOf s.data.toList with
    | none =>
      rw [readP_bad hx hf]
      exact rkey1_bad 0 0 0 0 0 0 0 0 60 (by omega) b g cap L en n w h s a hx (fun W t => (pkey_any s hs W).mono fun e w' ⟨h1, h2⟩ => ⟨by rw [h1, hf]; rfl, h2⟩)
    | some v =>
      rw [readP_some hx hf]
      obtain ⟨m0, m1, m2, m3, m4, m5, m6, m7, rfl⟩ := list8 v (keyOf_read hf).2.1
      exact rkey1_good m0 m1 m2 m3 m4 m5 m6 m7 b g cap L en n w h s a hx (fun W t => (pkey_any s hs W).mono fun e w' ⟨h1, h2⟩ => ⟨by rw [h1, hf]; rfl, h2⟩)

/-- A filter's word. -/
def filterOf (l : List UInt8) : Option Nat := if l = [97, 110, 121] then some 0 else if l = [97, 100, 100, 114, 101, 115, 115] then some 1 else if l = [112, 111, 114, 116] then some 2 else none
def filV : Option Nat → Value
  | some n => .tuple #[.int .i64 (n : Int), .int .i64 0]
  | none => .tuple #[.int .i64 0, .int .i64 60]
theorem eq_bytes (s : ByteArray) (l : List UInt8) : (s.toList == l) = decide (s.data.toList = l) := by
  rw [ByteArray.toList_eq]
  by_cases h : s.data.toList = l <;> simp [h]
theorem filter_any (s : ByteArray) (w : World) : Calls Tryz.prog 85 #[.string s] w (ValPost (filV (filterOf s.data.toList)) w) := by
  have e1 := eq_bytes s [97, 110, 121]
  have e2 := eq_bytes s [97, 100, 100, 114, 101, 115, 115]
  have e3 := eq_bytes s [112, 111, 114, 116]
  unfold filterOf
  by_cases h1 : s.data.toList = [97, 110, 121]
  · rw [decide_eq_true h1] at e1
    rw [if_pos h1]
    clear e2 e3 h1
    go_enter Tryz.func85, Tryz.ntmps85
    go_wp2_with fail
    go_ret2
    exact ⟨rfl, Turn.refl _ _⟩
  · rw [decide_eq_false h1] at e1
    rw [if_neg h1]
    clear h1
    by_cases h2 : s.data.toList = [97, 100, 100, 114, 101, 115, 115]
    · rw [decide_eq_true h2] at e2
      rw [if_pos h2]
      clear e3 h2
      go_enter Tryz.func85, Tryz.ntmps85
      go_wp2_with fail
      go_ret2
      exact ⟨rfl, Turn.refl _ _⟩
    · rw [decide_eq_false h2] at e2
      rw [if_neg h2]
      clear h2
      by_cases h3 : s.data.toList = [112, 111, 114, 116]
      · rw [decide_eq_true h3] at e3
        rw [if_pos h3]
        clear h3
        go_enter Tryz.func85, Tryz.ntmps85
        go_wp2_with fail
        go_ret2
        exact ⟨rfl, Turn.refl _ _⟩
      · rw [decide_eq_false h3] at e3
        rw [if_neg h3]
        clear h3
        go_enter Tryz.func85, Tryz.ntmps85
        go_wp2_with fail
        go_ret2
        exact ⟨rfl, Turn.refl _ _⟩
theorem readFil_any (b g cap : Nat) (L : List Wd) (en n : Nat) (w : World) (h : LineIs w b g cap L en n) :
    Calls Tryz.prog 84 #[.pointer (some ⟨b, 0, none⟩), .func (.func 85) #[] #[]] w (Took w b g cap L en ((readP filterOf L en n).map fun r => (.int .i64 (r.1 : Int), r.2))) := by
  cases hx : L[n]? with
  | none => rw [readP_end hx]; exact rfil1_none b g cap L en n w h hx
  | some x =>
    obtain ⟨s, a⟩ := x
    cases hf : filterOf s.data.toList with
    | none =>
      rw [readP_bad hx hf]
      exact rfil1_bad 0 60 (by omega) b g cap L en n w h s a hx (fun W t => (filter_any s W).mono fun e w' ⟨h1, h2⟩ => ⟨by rw [h1, hf]; rfl, h2⟩)
    | some v =>
      rw [readP_some hx hf]
      exact rfil1_good (v : Int) b g cap L en n w h s a hx (fun W t => (filter_any s W).mono fun e w' ⟨h1, h2⟩ => ⟨by rw [h1, hf]; rfl, h2⟩)

theorem num1_any (s : ByteArray) (q most : Nat) (hm : most < 4294967296) (hs : s.size ≤ 1000000) (w : World) (hq : w.cell? ⟨q, 0, none⟩ = some (.int .u32 (most : Int))) :
    Calls Tryz.prog 102 #[.string s, .pointer (some ⟨q, 0, none⟩)] w (ValPost (numV (numOf s.data.toList most)) w) := by
  have hc : Calls Tryz.prog 100 #[.string s, .int .u32 (most : Int)] w (ValPost (numV (numOf s.data.toList most)) w) := by
    cases hn : numOf s.data.toList most with
    | none => exact (pnum_no hm (by omega) hn w).mono fun e w' ⟨h1, h2⟩ => ⟨h1, h2⟩
    | some x => exact (pnum_ok hm (by omega) hn w).mono fun e w' ⟨h1, h2⟩ => ⟨h1, h2⟩
  obtain ⟨x, y, hv⟩ : ∃ x y : Int, numV (numOf s.data.toList most) = .tuple #[.int .u32 x, .int .i64 y] := by
    cases numOf s.data.toList most with
    | none => exact ⟨_, _, rfl⟩
    | some x => exact ⟨_, _, rfl⟩
  rw [hv] at hc ⊢
  go_enter Tryz.func102, Tryz.ntmps102
  go_wp2_with (go_at_call 100; refine hc.mono ?_; rintro e w1 ⟨rfl, t⟩)
  go_ret2
  exact ⟨rfl, t⟩
theorem readNum1_any (q most : Nat) (hm : most < 4294967296) (b g cap : Nat) (L : List Wd) (en n : Nat) (w : World) (h : LineIs w b g cap L en n) (hq : w.cell? ⟨q, 0, none⟩ = some (.int .u32 (most : Int))) (hqb : q ≠ b) (hql : q < w.heap.size) :
    Calls Tryz.prog 76 #[.pointer (some ⟨b, 0, none⟩), .func (.func 102) #[] #[.pointer (some ⟨q, 0, none⟩)]] w (Took w b g cap L en ((readP (fun l => numOf l most) L en n).map fun r => (.int .u32 (r.1 : Int), r.2))) := by
  have hc : ∀ W, Turn (fun k => k = b) w W → W.cell? ⟨q, 0, none⟩ = some (.int .u32 (most : Int)) := fun W t => (cell_turn0 t hql hqb).trans hq
  cases hx : L[n]? with
  | none => rw [readP_end hx]; exact rnum1_none q b g cap L en n w h hx
  | some x =>
    obtain ⟨s, a⟩ := x
    have hs := h.size n _ hx
    cases hf : numOf s.data.toList most with
    | none =>
      rw [readP_bad (f := fun l => numOf l most) hx hf]
      exact rnum1_bad q 0 60 (by omega) b g cap L en n w h s a hx (fun W t => (num1_any s q most hm hs W (hc W t)).mono fun e w' ⟨h1, h2⟩ => ⟨by rw [h1, hf]; rfl, h2⟩)
    | some v =>
      rw [readP_some (f := fun l => numOf l most) hx hf]
      exact rnum1_good q (v : Int) b g cap L en n w h s a hx (fun W t => (num1_any s q most hm hs W (hc W t)).mono fun e w' ⟨h1, h2⟩ => ⟨by rw [h1, hf]; rfl, h2⟩)
theorem readNum_any (most : Nat) (hm : most < 4294967296) (b g cap : Nat) (L : List Wd) (en n : Nat) (w : World) (h : LineIs w b g cap L en n) :
    Calls Tryz.prog 82 #[.pointer (some ⟨b, 0, none⟩), .int .u32 (most : Int)] w (Took w b g cap L en ((readP (fun l => numOf l most) L en n).map fun r => (.int .u32 (r.1 : Int), r.2))) := by
  have hmf : ∀ (fn : Fn) (first cap : Array Value) (w : World), (Instr.makeFunc fn first cap).run Tryz.prog w = .ok (.func fn first cap) w := fun _ _ _ _ => rfl
  have t0 := (Turn.refl (fun _ => False) w).alloc (.cells #[.int .u32 (most : Int)] 23)
  have hb := h.lt
  have hr := readNum1_any w.heap.size most hm b g cap L en n _ (h.turn t0 (fun h => h) (fun h => h)) (cell_of_block (block_alloc_new _ _) 0) (by omega) (by simp)
  cases hv : readP (fun l => numOf l most) L en n with
  | error pl =>
    rw [hv] at hr
    go_enter Tryz.func82, Tryz.ntmps82
    go_wp2_with (go_at_call 76; refine hr.mono ?_; rintro e w1 ⟨p, rfl, q1, q2, q3⟩)
    exact ⟨rfl, p, rfl, q1, Nat.le_trans t0.size q2, ((Turn.refl (fun k => k = b) w).alloc _).trans q3⟩
  | ok r =>
    rw [hv] at hr
    go_enter Tryz.func82, Tryz.ntmps82
    go_wp2_with (go_at_call 76; refine hr.mono ?_; rintro e w1 ⟨rfl, q1, q2⟩)
    go_ret
    exact ⟨rfl, q1, ((Turn.refl (fun k => k = b) w).alloc _).trans q2⟩
end Go.Proofs.YtbkpbcmjgbdbkaaGreatDoor

/-! H4 -/
namespace Go.Proofs.YtbkpbcmjgbdbkaaGreatDoor
open Go.RowKit Go.Lib
set_option linter.unusedVariables false
set_option linter.unusedSimpArgs false

/-- How the world stands in the midst of a reading function: the line; all else but the line's block as at the start w; blocks of its own. -/
structure Stage (w : World) (b g cap : Nat) (L : List Wd) (en n : Nat) (B : List (Nat × Obj)) (W : World) : Prop where
  line : LineIs W b g cap L en n
  turn : Turn (fun k => k = b) w W
  env : Env W
  keep : ∀ p ∈ B, W.heap[p.1]? = some p.2
  apart : ∀ p ∈ B, w.heap.size ≤ p.1
  inb : b < w.heap.size
  ing : g < w.heap.size
theorem Stage.start {w : World} {b g cap : Nat} {L : List Wd} {en n : Nat} (h : LineIs w b g cap L en n) (he : Env w) : Stage w b g cap L en n [] w :=
  ⟨h, Turn.refl _ _, he, fun _ h => by simp at h, fun _ h => by simp at h, h.lt, h.glt⟩
theorem Stage.alloc {w W : World} {b g cap : Nat} {L : List Wd} {en n : Nat} {B : List (Nat × Obj)} (h : Stage w b g cap L en n B W) (o : Obj) : Stage w b g cap L en n ((W.heap.size, o) :: B) (W.alloc o) :=
  ⟨h.line.turn ((Turn.refl (fun _ => False) W).alloc o) (fun h => h) (fun h => h), h.turn.alloc o, h.env.keep ((Turn.refl (fun _ => False) W).alloc o), fun p hp => by
    rcases List.mem_cons.1 hp with rfl | hp
    · exact block_alloc_new _ _
    · exact block_alloc_old (h.keep p hp), fun p hp => by
    rcases List.mem_cons.1 hp with rfl | hp
    · exact h.turn.size
    · exact h.apart p hp, h.inb, h.ing⟩
theorem Stage.call {w W W' : World} {b g cap : Nat} {L : List Wd} {en n m : Nat} {B : List (Nat × Obj)} (h : Stage w b g cap L en n B W) (hl : LineIs W' b g cap L en m) (t : Turn (fun k => k = b) W W') : Stage w b g cap L en m B W' :=
  ⟨hl, h.turn.trans t, h.env.line hl.low t, fun p hp => (t.block p.1 (block_lt (h.keep p hp)) (fun e => by have := h.apart p hp; have := h.inb; omega)).trans (h.keep p hp), h.apart, h.inb, h.ing⟩
theorem Stage.quiet {w W W' : World} {b g cap : Nat} {L : List Wd} {en n : Nat} {B : List (Nat × Obj)} (h : Stage w b g cap L en n B W) (t : Turn (fun _ => False) W W') : Stage w b g cap L en n B W' :=
  h.call (h.line.turn t (fun h => h) (fun h => h)) (t.mono (fun _ _ h => h.elim))
theorem Stage.drew {w W : World} {b g cap : Nat} {L : List Wd} {en n : Nat} {B : List (Nat × Obj)} (h : Stage w b g cap L en n B W) : Stage w b g cap L en n B W.drew := h.quiet (Turn.refl _ _).drew
theorem Stage.cell {w W : World} {b g cap : Nat} {L : List Wd} {en n : Nat} {B : List (Nat × Obj)} {c : Nat} {cs : Array Value} {T : TypeId} (h : Stage w b g cap L en n ((c, .cells cs T (0, 0)) :: B) W) (hB : ∀ p ∈ B, p.1 ≠ c) (i : Nat) (v : Value) :
    Stage w b g cap L en n ((c, .cells (cs.setIfInBounds i v) T (0, 0)) :: B) (W.setCell ⟨c, i, none⟩ v) := by
  have hc := h.keep (c, .cells cs T (0, 0)) (List.mem_cons_self ..)
  have ha := h.apart (c, .cells cs T (0, 0)) (List.mem_cons_self ..)
  have h1 := h.inb
  have h2 := h.ing
  have t : Turn (fun k => k = c) W (W.setCell ⟨c, i, none⟩ v) := (Turn.refl (fun k => k = c) W).setCell (p := ⟨c, i, none⟩) v (fun _ => rfl)
  have ha : w.heap.size ≤ c := ha
  refine ⟨h.line.turn t (by omega) (by omega), h.turn.trans2 t (fun k hk e => by omega), h.env.turn t (fun k hk e => ?_), fun p hp => ?_, fun p hp => ?_, h1, h2⟩
  · have := h.line.low; omega
  · rcases List.mem_cons.1 hp with rfl | hp
    · exact block_setCell hc i v
    · exact (t.block p.1 (block_lt (h.keep p (List.mem_cons_of_mem _ hp))) (hB p hp)).trans (h.keep p (List.mem_cons_of_mem _ hp))
  · rcases List.mem_cons.1 hp with rfl | hp
    · exact ha
    · exact h.apart p (List.mem_cons_of_mem _ hp)
theorem Stage.fails {w W w' : World} {b g cap : Nat} {L : List Wd} {en n : Nat} {B : List (Nat × Obj)} {pl : Nat} {e : Ending} (h : Stage w b g cap L en n B W) (f : Fails pl (fun k => k = b) W e w') : Fails pl (fun k => k = b) w e w' :=
  f.after h.turn (fun _ _ h => h)
/-- A function's result that lies in a cell: read whole. -/
theorem results_row {P : Program} {fn : Func} {t : Tmp} {T T' : TypeId} (h : fn.results = #[.cell t T]) (tmps : Array Value) (W : World) (c : Nat) (cs : Array Value) (ht : tmps[t]?.getD undef = .pointer (some ⟨c, 0, none⟩))
    (hc : W.heap[c]? = some (.cells cs T' (0, 0))) (d : TypeDesc) (hu : P.underlying T = some d) (hd : (match d with | .struct _ | .array _ _ => true | _ => false) = true) (hi : (P.info? T).map (·.size) = some cs.size) :
    (results fn tmps).run P W = .ok (.agg cs) W := by
  have hl := run_loadVar_row W c T' T cs (0, 0) d hc hu hd hi
  have ha : (asAddr (.pointer (some ⟨c, 0, none⟩))).run P W = .ok ⟨c, 0, none⟩ W := rfl
  simp only [results, h]
  simp [ht, ha, hl]
theorem took_error {α : Type} {w w' : World} {b g cap : Nat} {L : List Wd} {en pl : Nat} {r : Except Nat α} {f : α → Value × Nat} {e : Ending} (hr : r = .error pl) (h : Fails pl (fun k => k = b) w e w') : Took w b g cap L en (r.map f) e w' := by
  rw [hr]; exact h
theorem took_ok {α : Type} {w w' : World} {b g cap : Nat} {L : List Wd} {en m : Nat} {r : Except Nat α} {f : α → Value × Nat} {x : α} {v : Value} {e : Ending} (hr : r = .ok x) (hf : f x = (v, m)) (he : e = .returned v) (h : LineIs w' b g cap L en m) (t : Turn (fun k => k = b) w w') : Took w b g cap L en (r.map f) e w' := by
  rw [hr]
  show Took w b g cap L en (.ok (f x)) e w'
  rw [hf]
  exact ⟨he, h, t⟩
theorem readP_is {α : Type} {f : List UInt8 → Option α} {L : List Wd} {en n m : Nat} {v : α} (h : readP f L en n = .ok (v, m)) : ∃ l, f l = some v := by
  unfold readP at h
  split at h
  · split at h
    · rename_i x _ v' hv
      cases h
      exact ⟨_, hv⟩
    · cases h
  · cases h
theorem readP_mac {L : List Wd} {en n m : Nat} {v : List Nat} (h : readP macOf L en n = .ok (v, m)) : v.length = 6 := by
  obtain ⟨l, hl⟩ := readP_is h
  exact (macOf_read hl).2.1
theorem readP_key {L : List Wd} {en n m : Nat} {v : List Nat} (h : readP keyOf L en n = .ok (v, m)) : v.length = 8 := by
  obtain ⟨l, hl⟩ := readP_is h
  exact (keyOf_read hl).2.1
/-- Cells laid over a row from a place on. -/
def rowPut (cs : Array Value) (o : Nat) (vs : List Value) : Array Value := (cs.toList.take o ++ vs ++ cs.toList.drop (o + vs.length)).toArray
theorem rowPut_size {cs : Array Value} {o : Nat} {vs : List Value} (h : o + vs.length ≤ cs.size) : (rowPut cs o vs).size = cs.size := by
  have : cs.toList.length = cs.size := rfl
  simp only [rowPut, List.size_toArray, List.length_append, List.length_take, List.length_drop]
  omega
theorem turn_setRow (w : World) (c : Nat) (cs : Array Value) : Turn (fun k => k = c) w (w.setRow c cs) :=
  ⟨rfl, rfl, rfl, by simp [World.setRow], fun k hk hne => by
    have hne : ¬ c = k := fun e => hne e.symm
    simp [World.setRow, Array.getElem?_modify, hne]⟩
theorem Stage.row {w W : World} {b g cap : Nat} {L : List Wd} {en n : Nat} {B : List (Nat × Obj)} {c : Nat} {cs : Array Value} {T : TypeId} (h : Stage w b g cap L en n ((c, .cells cs T (0, 0)) :: B) W) (hB : ∀ p ∈ B, p.1 ≠ c) (o : Nat) (vs : List Value)
    (ho : o + vs.length ≤ cs.size) (h1 : ∀ v ∈ vs, v.oneCell' = true) :
    (storeCells ⟨c, o, none⟩ vs 0).run Tryz.prog W = .ok () (W.setRow c (rowPut cs o vs)) ∧ Stage w b g cap L en n ((c, .cells (rowPut cs o vs) T (0, 0)) :: B) (W.setRow c (rowPut cs o vs)) := by
  have hc := h.keep (c, .cells cs T (0, 0)) (List.mem_cons_self ..)
  have ha := h.apart (c, .cells cs T (0, 0)) (List.mem_cons_self ..)
  have h1' := h.inb
  have h2 := h.ing
  refine ⟨run_storeCells_at (P := Tryz.prog) c o T vs 0 cs W hc (by omega) h1, ?_⟩
  have t := turn_setRow W c (rowPut cs o vs)
  have ha : w.heap.size ≤ c := ha
  refine ⟨h.line.turn t (by omega) (by omega), h.turn.trans2 t (fun k hk e => by omega), h.env.turn t (fun k hk e => ?_), fun p hp => ?_, fun p hp => ?_, h1', h2⟩
  · have := h.line.low; omega
  · rcases List.mem_cons.1 hp with rfl | hp
    · exact setRow_heap W c cs _ T (0, 0) hc
    · exact (t.block p.1 (block_lt (h.keep p (List.mem_cons_of_mem _ hp))) (hB p hp)).trans (h.keep p (List.mem_cons_of_mem _ hp))
  · rcases List.mem_cons.1 hp with rfl | hp
    · exact ha
    · exact h.apart p (List.mem_cons_of_mem _ hp)
theorem load_row {W : World} {c : Nat} {cs : Array Value} {T : TypeId} {fr : Nat × Nat} (hc : W.heap[c]? = some (.cells cs T fr)) {k : Nat} (hk : cs.size = k) : (loadCellsFrom ⟨c, 0, none⟩ 0 k #[]).run Tryz.prog W = .ok cs W := by
  have := run_loadCells_list (P := Tryz.prog) W ⟨c, 0, none⟩ cs.toList (fun j v hj => by
    have ha : (⟨c, 0, none⟩ : Addr).add j = ⟨c, j, none⟩ := by unfold Addr.add; split <;> simp_all
    rw [ha, cell_of_block hc]
    simpa using hj)
  subst hk
  simpa [loadCells] using this
theorem u8row_one (M : List Nat) : ∀ v ∈ (u8row M).toList, v.oneCell' = true := by
  intro v hv
  simp only [u8row, List.toList_toArray, List.mem_map] at hv
  obtain ⟨x, _, rfl⟩ := hv
  rfl
theorem u8row_len (M : List Nat) : (u8row M).toList.length = M.length := by simp [u8row]
/-- The two blocks of a function that fills a row: its result's, its own. -/
theorem Stage.swap {w W : World} {b g cap : Nat} {L : List Wd} {en n : Nat} {B : List (Nat × Obj)} {x y : Nat × Obj} (h : Stage w b g cap L en n (x :: y :: B) W) : Stage w b g cap L en n (y :: x :: B) W :=
  ⟨h.line, h.turn, h.env, fun p hp => h.keep p (by simp at hp ⊢; rcases hp with h | h | h <;> simp [h]), fun p hp => h.apart p (by simp at hp ⊢; rcases hp with h | h | h <;> simp [h]), h.inb, h.ing⟩
/-- A row stored whole, from a place of a block on: as one step. -/
theorem wpList_store_put {P : Program} {ops : Array Oper} {rest : List Oper} {o : Oper} {a : Act} {w : World} {Q : Exit → Act → World → Prop} (hgd : o.guard = none) (ty : TypeId) (x y : Operand) (ho : o.op = .store ty x y)
    (c k : Nat) (cells : Array Value) (hx : a.eval x = .pointer (some ⟨c, k, none⟩)) (hy : a.eval y = .agg cells) (hi : (P.info? ty).map (·.size) = some cells.size) (w' : World)
    (hst : (storeCells ⟨c, k, none⟩ cells.toList 0).run P w = .ok () w') (h : wpList P ops Q rest (a.put o.dst undef) w') : wpList P ops Q (o :: rest) a w :=
  wpList_plain hgd fun _ hK => by
    unfold Oper.wp execOp
    have hv : (storeVar ty ⟨c, k, none⟩ (.agg cells)).run P w = .ok () w' := by
      cases hq : P.info? ty with
      | none => simp [hq] at hi
      | some i =>
        have hs : cells.size = i.size := by simp [hq] at hi; omega
        simp [storeVar, sizeOf, typeInfo, hq, Value.cells, hs, hst]
    simp only [ho, hx, hy, Instr.storeAt, Instr.sureAddr, Sem.run_bind, Sem.run_pure, Result.andThen_ok, hv]
    exact hK _ _ h
theorem row_all {cs ds : Array Value} (h : ds.size = cs.size) : rowPut ds 0 cs.toList = cs := by
  apply Array.ext'
  have h2 : ds.toList.length = cs.toList.length := h
  simp [rowPut, ← h]
/-- The same block filled whole. -/
theorem Stage.whole {w W : World} {b g cap : Nat} {L : List Wd} {en n : Nat} {B : List (Nat × Obj)} {c : Nat} {ds : Array Value} {T : TypeId} (h : Stage w b g cap L en n ((c, .cells ds T (0, 0)) :: B) W) (hB : ∀ p ∈ B, p.1 ≠ c) (cs : Array Value)
    (hs : ds.size = cs.size) (h1 : ∀ v ∈ cs.toList, v.oneCell' = true) :
    (storeCells ⟨c, 0, none⟩ cs.toList 0).run Tryz.prog W = .ok () (W.setRow c cs) ∧ Stage w b g cap L en n ((c, .cells cs T (0, 0)) :: B) (W.setRow c cs) := by
  have hl : cs.toList.length = cs.size := rfl
  have := h.row hB 0 cs.toList (by omega) h1
  rwa [row_all hs] at this
/-- The result's block filled whole, at the end. -/
theorem Stage.last {w W : World} {b g cap : Nat} {L : List Wd} {en n : Nat} {B : List (Nat × Obj)} {c : Nat} {cs ds : Array Value} {T : TypeId} (h : Stage w b g cap L en n B W) (hc : W.heap[c]? = some (.cells ds T (0, 0)))
    (h1 : ∀ v ∈ cs.toList, v.oneCell' = true) (hs : ds.size = cs.size) (ha : w.heap.size ≤ c) :
    (storeCells ⟨c, 0, none⟩ cs.toList 0).run Tryz.prog W = .ok () (W.setRow c cs) ∧ LineIs (W.setRow c cs) b g cap L en n ∧ Turn (fun k => k = b) w (W.setRow c cs) ∧ (W.setRow c cs).heap[c]? = some (.cells cs T (0, 0)) := by
  have hl : cs.toList.length = cs.size := rfl
  have hst := run_storeCells_at (P := Tryz.prog) c 0 T cs.toList 0 ds W hc (by omega) h1
  have hr := row_all hs
  unfold rowPut at hr
  simp only [Nat.zero_add] at hst hr
  rw [hr] at hst
  have t := turn_setRow W c cs
  have h2 := h.inb
  have h3 := h.ing
  exact ⟨hst, h.line.turn t (by omega) (by omega), h.turn.trans2 t (fun k hk e => by omega), setRow_heap W c ds _ T (0, 0) hc⟩
end Go.Proofs.YtbkpbcmjgbdbkaaGreatDoor

/-! C0 -/
namespace Go.Proofs.YtbkpbcmjgbdbkaaGreatDoor
open Go.RowKit Go.Lib Go.Sort
set_option linter.unusedVariables false
set_option linter.unusedSimpArgs false
set_option maxRecDepth 100000

set_option maxHeartbeats 1000000 in
theorem fuint_any (n : Nat) (hn : n < 18446744073709551616) (w : World) (he : Env w) : Calls Tryz.prog 97 #[.int .u64 (n : Int), .int .i64 10] w (TextPost (decL n) w) := by
  rw [← decL_digitsOf]
  by_cases hs : n < 100
  · go_enter Tryz.func97, Tryz.ntmps97
    go_wp2_with (go_at_call 108; refine (Tryz.internal_strconv_small n hs _).mono ?_; rintro e w' ⟨rfl, rfl⟩)
    go_ret
    exact ⟨rfl, Turn.refl _ _⟩
  · have hu1 : 1 ≤ n := by omega
    have hnd20 : Lib.nDigits n ≤ 20 := by have := Lib.numDigits_eq n hu1 hn; split at this <;> omega
    have hb4 : Lib.nDigits n ≤ 24 := by omega
    have hal : Tryz.prog.arrayLen 186 = 24 := by simp [Program.arrayLen, Tryz.underlying186]
    have hH0 := Lib.holds_zero0 w 186 (Lib.nDigits n) (by omega)
    have hfmt := Tryz.internal_strconv_formatBase10 w.heap.size 0 24 n (Array.replicate (Lib.nDigits n) 0) (w.alloc (.cells Lib.zeros24 186)) hH0 (by rw [Array.size_replicate]; exact Lib.lt_pow_nDigits n) hn (by rw [Array.size_replicate]; omega)
    rw [Array.size_replicate] at hfmt
    have HH0 := Lib.hid hH0
    have htab := he.pow10
    have hsl : ∀ W, (Instr.sliceAt 186 (.pointer (some ⟨w.heap.size, 0, none⟩)) none (some (.int .i64 (Lib.nDigits n : Int))) none).run Tryz.prog W = .ok (.slice (some ⟨w.heap.size, 0, none⟩) (Lib.nDigits n) 24) W := fun W => by
      rw [run_sliceAt_array_h W 186 ⟨w.heap.size, 0, none⟩ (by simp [Program.arrayLen, Program.elem, Tryz.underlying186]) .i64 (Lib.nDigits n : Int) (by omega) (by rw [hal]; omega)]
      go_simp
    clear hH0 hal
    go_enter Tryz.func97, Tryz.ntmps97
    go_wp2_with (first | (go_at_call 109; refine (Tryz.internal_strconv_numDigits n hu1 hn _ (Lib.tabIs_alloc htab _)).mono ?_; rintro e w' ⟨rfl, rfl⟩))
    refine hfmt.mono ?_
    rintro e w' ⟨rfl, k, v', dk, rfl, hF⟩
    have hcv : (convert 49 9 (.slice (some ⟨w.heap.size, 0, none⟩) (Lib.nDigits n) 24)).run Tryz.prog ((putRow (fun (b : UInt8) => Value.int .u8 (b.toNat : Int)) (w.alloc (.cells Lib.zeros24 186)) w.heap.size 0 dk).drewN k) = .ok (.string ⟨(Lib.decDigits n).toArray⟩) ((putRow (fun (b : UInt8) => Value.int .u8 (b.toNat : Int)) (w.alloc (.cells Lib.zeros24 186)) w.heap.size 0 dk).drewN k) := by
      have h := run_convert_bytes_back (P := Tryz.prog) ((putRow (fun (b : UInt8) => Value.int .u8 (b.toNat : Int)) (w.alloc (.cells Lib.zeros24 186)) w.heap.size 0 dk).drewN k) 49 9 5 ⟨w.heap.size, 0, none⟩ 24 (Lib.decDigits n) Tryz.underlying49 Tryz.underlying5 Tryz.underlying9 (fun j hj => by
        rw [Lib.row_is_numeral hF j hj, Lib.add_plain, World.cell?_drewN]
        exact cell?_putRow (fun (b : UInt8) => Value.int .u8 (b.toNat : Int)) _ w.heap.size 0 _ dk HH0.out (by rw [hF.size, Array.size_replicate]) j (by rw [hF.size]; rw [Lib.decDigits_length] at hj; exact hj))
      rw [Lib.decDigits_length] at h
      exact h
    go_wp2
    go_ret
    obtain ⟨os, eo⟩ := Lib.fin_at w (.cells Lib.zeros24 186) dk k 0
    exact ⟨rfl, by rw [eo]; exact turn_grow _ _ _⟩
theorem num_any (n : Nat) (hn : n < 4294967296) (w : World) (he : Env w) : Calls Tryz.prog 36 #[.int .u32 (n : Int)] w (TextPost (decL n) w) := by
  have h0 : Calls Tryz.prog 69 #[.int .u64 (n : Int), .int .i64 10] w (TextPost (decL n) w) := by
    have h := fuint_any n (by omega) w he
    clear hn he
    go_enter Tryz.func69, Tryz.ntmps69
    go_wp2_with (go_at_call 97; refine h.mono ?_; rintro e w1 ⟨rfl, t⟩)
    go_ret
    exact ⟨rfl, t⟩
  have hc : IntKind.u64.wrap (n : Int) = n := by rw [IntKind.wrap_u64]; omega
  go_enter Tryz.func36, Tryz.ntmps36
  go_wp2_with (go_at_call 69; refine h0.mono ?_; rintro e w1 ⟨rfl, t⟩)
  go_ret
  exact ⟨rfl, t⟩
/-- A filter's word, of any number. -/
def filterL (n : Int) : List UInt8 := if n = 1 then [97, 100, 100, 114, 101, 115, 115] else if n = 2 then [112, 111, 114, 116] else [97, 110, 121]
theorem filterText_any (n : Int) (w : World) : Calls Tryz.prog 37 #[.int .i64 n] w (TextPost (filterL n) w) := by
  unfold filterL
  by_cases h1 : n = 1
  · subst h1
    go_enter Tryz.func37, Tryz.ntmps37
    go_wp2_with fail
    go_ret
    exact ⟨rfl, Turn.refl _ _⟩
  · by_cases h2 : n = 2
    · subst h2
      go_enter Tryz.func37, Tryz.ntmps37
      go_wp2_with fail
      go_ret
      exact ⟨rfl, Turn.refl _ _⟩
    · have e1 : (n == 1) = false := by rw [beq_eq_false_iff_ne]; exact h1
      have e2 : (n == 2) = false := by rw [beq_eq_false_iff_ne]; exact h2
      rw [if_neg h1, if_neg h2]
      clear h1 h2
      go_enter Tryz.func37, Tryz.ntmps37
      go_wp2_with fail
      go_ret
      exact ⟨rfl, Turn.refl _ _⟩
end Go.Proofs.YtbkpbcmjgbdbkaaGreatDoor

/-! N5 -/
namespace Go.Proofs.YtbkpbcmjgbdbkaaGreatDoor
open Go.RowKit Go.Lib
set_option linter.unusedVariables false
set_option linter.unusedSimpArgs false
set_option maxRecDepth 100000

/-- A slice of tenants, each by its row of cells. -/
def RowsIn (w : World) (v : Value) (R : List (Array Value)) : Prop :=
  ∃ ao cap, v = .slice ao R.length cap ∧ R.length ≤ 1000000 ∧ ∀ (i : Nat) (r : Array Value), R[i]? = some r → r.size = 33 ∧ ∃ b off, ao = some ⟨b, off, none⟩ ∧ b < w.heap.size ∧ ∀ (j : Nat) (u : Value), r.toList[j]? = some u → w.cell? ⟨b, off + i * 33 + j, none⟩ = some u
theorem load_at {W : World} {b o k : Nat} {r : Array Value} (hk : r.size = k) (h : ∀ (j : Nat) (u : Value), r.toList[j]? = some u → W.cell? ⟨b, o + j, none⟩ = some u) : (loadCellsFrom ⟨b, o, none⟩ 0 k #[]).run Tryz.prog W = .ok r W := by
  have := run_loadCells_list (P := Tryz.prog) W ⟨b, o, none⟩ r.toList (fun j v hj => by
    have ha : (⟨b, o, none⟩ : Addr).add j = ⟨b, o + j, none⟩ := by unfold Addr.add; split <;> simp_all
    rw [ha]
    exact h j v hj)
  subst hk
  simpa [loadCells] using this
/-- A row loaded, at a step of a quiet region. -/
theorem wpQuiet_load {P : Program} {ops : Array Oper} {C : World → Prop} {Q : Act → Prop} {a : Act} {o : Oper} {rest : List Oper} (hgd : o.guard = none) (ty : TypeId) (x : Operand) (ho : o.op = .load ty x) (v : Value)
    (hl : ∀ W, C W → (Instr.loadAt ty (a.eval x)).run P W = .ok v W) (h : wpQuiet P ops C Q rest (a.put o.dst v)) : wpQuiet P ops C Q (o :: rest) a := by
  have hw : Region.wanted o (yielded ops a.tmps) = true := by simp [Region.wanted, hgd]
  unfold wpQuiet
  rw [if_pos hw]
  refine ⟨v, fun W hW => ?_, h⟩
  unfold Oper.quietAt execOp
  simp only [ho, Sem.run_bind, hl W hW, Result.andThen_ok, Sem.run_pure]
  exact ⟨rfl, rfl⟩
theorem run_loadAt_at {W : World} {b o : Nat} {r : Array Value} (hk : r.size = 33) (h : ∀ (j : Nat) (u : Value), r.toList[j]? = some u → W.cell? ⟨b, o + j, none⟩ = some u) : (Instr.loadAt 45 (.pointer (some ⟨b, o, none⟩))).run Tryz.prog W = .ok (.agg r) W := by
  have hl := load_at hk h
  have ha : (isAgg 45).run Tryz.prog W = .ok true W := by kernel_rfl
  have hs : (sizeOf 45).run Tryz.prog W = .ok 33 W := by kernel_rfl
  simp only [Instr.loadAt, Instr.sureAddr, Sem.run_bind, Sem.run_pure, Result.andThen_ok, loadVar, ha, if_true, hs, loadCells, hl]
set_option maxHeartbeats 2000000 in
theorem tens_eq (R S : List (Array Value)) (hRS : R.length = S.length) (va vb : Value) (w : World) (ha : RowsIn w va R) (hb : RowsIn w vb S)
    (hT : ∀ (i : Nat) (r s : Array Value), R[i]? = some r → S[i]? = some s → ∀ W, Turn (fun _ => False) w W → Calls Tryz.prog 64 #[.agg r, .agg s] W fun e w' => e = .returned (.bool true) ∧ Turn (fun _ => False) W w') :
    Calls Tryz.prog 30 #[va, vb] w fun e w' => e = .returned (.bool true) ∧ Turn (fun _ => False) w w' := by
  obtain ⟨ao, ca, rfl, hl, hA⟩ := ha
  obtain ⟨bo, cb, rfl, _, hB⟩ := hb
  rw [← hRS]
  have hmix : Tryz.prog.follows .mixedOrders = true := by kernel_rfl
  go_enter Tryz.func30, Tryz.ntmps30
  go_wp2_with fail
  go_loopg [5] R.length (fun g i wr => ∃ k : Nat, g = R.length - k ∧ k ≤ R.length ∧ i = .int .i64 (k : Int) ∧ Turn (fun _ => False) w wr)
  case atStart => exact ⟨0, rfl, Nat.zero_le _, rfl, Turn.refl _ _⟩
  case round =>
    obtain ⟨k, rfl, hk, rfl, t⟩ := hrel
    by_cases hlt : k < R.length
    · obtain ⟨r, hr⟩ : ∃ x, R[k]? = some x := ⟨_, List.getElem?_eq_getElem hlt⟩
      obtain ⟨s, hs⟩ : ∃ x, S[k]? = some x := ⟨_, List.getElem?_eq_getElem (by omega)⟩
      obtain ⟨z1, b, off, rfl, h1, h2⟩ := hA k _ hr
      obtain ⟨z2, b', off', rfl, h3, h4⟩ := hB k _ hs
      have kA : ∀ W, (∃ p : Regrown, W = Sort.grow (redrawn wr p.d) p.os) → (Instr.loadAt 45 (.pointer (some ⟨b, off + k * 33, none⟩))).run Tryz.prog W = .ok (.agg r) W := fun W hW => by
        obtain ⟨p, rfl⟩ := hW
        exact run_loadAt_at z1 (fun j u hj => (World.cell?_of_block ((t.trans (turn_of_below0 (below_regrown wr p.d p.os))).block b h1 (fun h => h))).trans (h2 j u hj))
      have kB : ∀ W, (∃ p : Regrown, W = Sort.grow (redrawn wr p.d) p.os) → (Instr.loadAt 45 (.pointer (some ⟨b', off' + k * 33, none⟩))).run Tryz.prog W = .ok (.agg s) W := fun W hW => by
        obtain ⟨p, rfl⟩ := hW
        exact run_loadAt_at z2 (fun j u hj => (World.cell?_of_block ((t.trans (turn_of_below0 (below_regrown wr p.d p.os))).block b' h3 (fun h => h))).trans (h4 j u hj))
      have KAB := Lib.hid (And.intro kA kB)
      clear kA kB
      have cT := quiet_val (w := wr) (f := 64) (args := #[.agg r, .agg s]) (v := .bool true) (fun W tW => hT k r s hr hs W (t.trans tW))
      have i1 : (0 : Int) ≤ (k : Int) := by omega
      have i2 : (k : Int) < (R.length : Int) := by omega
      have HH := Lib.hid (And.intro hA (And.intro hB hT))
      clear hA hB hT h2 h4 hr hs
      go_wp2_with fail
      refine wp_region_quiet_below hmix (by kernel_rfl) ?_
      repeat (quiet_step (fail))
      refine wpQuiet_load rfl 45 _ rfl (.agg r) KAB.out.1 ?_
      repeat (quiet_step (fail))
      refine wpQuiet_load rfl 45 _ rfl (.agg s) KAB.out.2 ?_
      repeat (quiet_step (exact cT _ _))
      refine wpQuiet_nil ?_
      intro _ hw'
      obtain ⟨⟨dq, osq⟩, hw''⟩ := hw'
      subst hw''
      have t4 := t.trans (turn_of_below0 (below_regrown wr dq osq))
      generalize Sort.grow (redrawn wr dq) osq = w2 at *
      clear KAB cT
      go_wp2_with fail
      go_roundg (R.length - (k + 1))
      case measure => omega
      case rel => exact ⟨k + 1, rfl, by omega, by go_num, t4⟩
    · obtain rfl : k = R.length := by omega
      clear hA hB hT
      go_wp2_with fail
      go_ret
      exact ⟨rfl, t⟩
end Go.Proofs.YtbkpbcmjgbdbkaaGreatDoor

/-! N0 -/
namespace Go.Proofs.YtbkpbcmjgbdbkaaGreatDoor
open Go.RowKit
set_option linter.unusedVariables false
set_option linter.unusedSimpArgs false
set_option maxRecDepth 100000

/-- A slice that reads as these numbers. -/
def NumsIn (w : World) (v : Value) (l : List Nat) : Prop :=
  ∃ ao cap, v = .slice ao l.length cap ∧ l.length ≤ 1000000 ∧ ∀ (i x : Nat), l[i]? = some x → ∃ b off, ao = some ⟨b, off, none⟩ ∧ b < w.heap.size ∧ w.cell? ⟨b, off + i, none⟩ = some (.int .u32 (x : Int))
theorem nums_eq (l : List Nat) (va vb : Value) (w : World) (ha : NumsIn w va l) (hb : NumsIn w vb l) :
    Calls Tryz.prog 93 #[va, vb] w fun e w' => e = .returned (.bool true) ∧ Turn (fun _ => False) w w' := by
  obtain ⟨ao, ca, rfl, hl, hA⟩ := ha
  obtain ⟨bo, cb, rfl, _, hB⟩ := hb
  go_enter Tryz.func93, Tryz.ntmps93
  go_wp2_with fail
  go_loopg [5] l.length (fun g i wr => ∃ k : Nat, g = l.length - k ∧ k ≤ l.length ∧ i = .int .i64 (k : Int) ∧ Turn (fun _ => False) w wr)
  case atStart => exact ⟨0, rfl, Nat.zero_le _, rfl, Turn.refl _ _⟩
  case round =>
    obtain ⟨k, rfl, hk, rfl, t⟩ := hrel
    by_cases hlt : k < l.length
    · obtain ⟨x, hx⟩ : ∃ x, l[k]? = some x := ⟨_, List.getElem?_eq_getElem hlt⟩
      obtain ⟨b, off, rfl, h1, h2⟩ := hA k x hx
      obtain ⟨b', off', rfl, h3, h4⟩ := hB k x hx
      have c1 : wr.cell? ⟨b, off + k, none⟩ = some (.int .u32 (x : Int)) := (World.cell?_of_block (t.block b h1 (fun h => h))).trans h2
      have c2 : wr.cell? ⟨b', off' + k, none⟩ = some (.int .u32 (x : Int)) := (World.cell?_of_block (t.block b' h3 (fun h => h))).trans h4
      have i1 : (0 : Int) ≤ (k : Int) := by omega
      have i2 : (k : Int) < (l.length : Int) := by omega
      clear hA hB h2 h4 hx
      go_wp2_with fail
      go_quiet (fail)
      go_wp2_with fail
      go_roundg (l.length - (k + 1))
      case measure => omega
      case rel => exact ⟨k + 1, rfl, by omega, by go_num, t.drewN _⟩
    · obtain rfl : k = l.length := by omega
      clear hA hB
      go_wp2_with fail
      go_ret
      exact ⟨rfl, t⟩
end Go.Proofs.YtbkpbcmjgbdbkaaGreatDoor

/-! N1 -/
namespace Go.Proofs.YtbkpbcmjgbdbkaaGreatDoor
open Go.RowKit
set_option linter.unusedVariables false
set_option linter.unusedSimpArgs false
set_option maxRecDepth 100000

/-- A slice that reads as these pairs. -/
def PairsIn (w : World) (v : Value) (l : List (Nat × Nat)) : Prop :=
  ∃ ao cap, v = .slice ao l.length cap ∧ l.length ≤ 1000000 ∧ ∀ (i : Nat) (x : Nat × Nat), l[i]? = some x → ∃ b off, ao = some ⟨b, off, none⟩ ∧ b < w.heap.size ∧ w.cell? ⟨b, off + i * 2, none⟩ = some (.int .u32 (x.1 : Int)) ∧ w.cell? ⟨b, off + i * 2 + 1, none⟩ = some (.int .u32 (x.2 : Int))
theorem pairs_eq (l : List (Nat × Nat)) (va vb : Value) (w : World) (ha : PairsIn w va l) (hb : PairsIn w vb l) :
    Calls Tryz.prog 94 #[va, vb] w fun e w' => e = .returned (.bool true) ∧ Turn (fun _ => False) w w' := by
  obtain ⟨ao, ca, rfl, hl, hA⟩ := ha
  obtain ⟨bo, cb, rfl, _, hB⟩ := hb
  go_enter Tryz.func94, Tryz.ntmps94
  go_wp2_with fail
  go_loopg [5] l.length (fun g i wr => ∃ k : Nat, g = l.length - k ∧ k ≤ l.length ∧ i = .int .i64 (k : Int) ∧ Turn (fun _ => False) w wr)
  case atStart => exact ⟨0, rfl, Nat.zero_le _, rfl, Turn.refl _ _⟩
  case round =>
    obtain ⟨k, rfl, hk, rfl, t⟩ := hrel
    by_cases hlt : k < l.length
    · obtain ⟨⟨x, y⟩, hx⟩ : ∃ x, l[k]? = some x := ⟨_, List.getElem?_eq_getElem hlt⟩
      obtain ⟨b, off, rfl, h1, h2, h2'⟩ := hA k _ hx
      obtain ⟨b', off', rfl, h3, h4, h4'⟩ := hB k _ hx
      have c1 : wr.cell? ⟨b, off + k * 2, none⟩ = some (.int .u32 (x : Int)) := (World.cell?_of_block (t.block b h1 (fun h => h))).trans h2
      have c2 : wr.cell? ⟨b', off' + k * 2, none⟩ = some (.int .u32 (x : Int)) := (World.cell?_of_block (t.block b' h3 (fun h => h))).trans h4
      have c3 : wr.cell? ⟨b, off + k * 2 + 1, none⟩ = some (.int .u32 (y : Int)) := (World.cell?_of_block (t.block b h1 (fun h => h))).trans h2'
      have c4 : wr.cell? ⟨b', off' + k * 2 + 1, none⟩ = some (.int .u32 (y : Int)) := (World.cell?_of_block (t.block b' h3 (fun h => h))).trans h4'
      have i1 : (0 : Int) ≤ (k : Int) := by omega
      have i2 : (k : Int) < (l.length : Int) := by omega
      clear hA hB h2 h4 hx h2' h4'
      go_wp2_with fail
      go_quiet (fail)
      go_wp2_with fail
      go_roundg (l.length - (k + 1))
      case measure => omega
      case rel => exact ⟨k + 1, rfl, by omega, by go_num, t.drewN _⟩
    · obtain rfl : k = l.length := by omega
      clear hA hB
      go_wp2_with fail
      go_ret
      exact ⟨rfl, t⟩
end Go.Proofs.YtbkpbcmjgbdbkaaGreatDoor

/-! J0 -/
namespace Go.Proofs.YtbkpbcmjgbdbkaaGreatDoor
open Go.RowKit Go.Lib
set_option linter.unusedVariables false
set_option linter.unusedSimpArgs false
set_option maxRecDepth 100000

def wdCells (ws : List Wd) : List Value := ws.flatMap fun x => [.string x.1, .int .i64 (x.2 : Int)]
theorem wdCells_len (ws : List Wd) : (wdCells ws).length = ws.length * 2 := by
  induction ws with
  | nil => rfl
  | cons x ws ih => simp [wdCells] at ih ⊢; omega
theorem wdCells_snoc (ws : List Wd) (x : Wd) : wdCells (ws ++ [x]) = wdCells ws ++ [.string x.1, .int .i64 (x.2 : Int)] := by simp [wdCells]
theorem info108 : (Tryz.prog.info? 108).map (fun i => (i.zero, i.size, i.bytes)) = some (some (.agg #[.string ⟨#[]⟩, .int .i64 0]), 2, 24) := by kernel_rfl
theorem own_slice {g n c g' : Nat} (h : (Value.slice (some ⟨g, 0, none⟩) n c).ownBlock = some g') : g = g' := Option.some.inj h
/-- No word was begun: nothing. -/
theorem word1_none (i : Nat) (bb bx bt : Nat) (w : World) (hb : w.heap[bb]? = some (.cells #[.int .i64 (-1)] 3 (0, 0))) :
    Calls Tryz.prog 73 #[.int .i64 (i : Int), .pointer (some ⟨bb, 0, none⟩), .pointer (some ⟨bx, 0, none⟩), .pointer (some ⟨bt, 0, none⟩)] w fun e w' => e = .returned (.tuple #[]) ∧ w'.heap[bb]? = some (.cells #[.int .i64 (-1)] 3 (0, 0)) ∧ Turn (fun k => k = bb) w w' := by
  have c0 : w.cell? ⟨bb, 0, none⟩ = some (.int .i64 (-1)) := cell_of_block hb 0
  have f0 : w.frozen? ⟨bb, 0, none⟩ = false := free_of_block hb 0
  have hmix : Tryz.prog.follows .mixedOrders = true := by kernel_rfl
  go_enter Tryz.func73, Tryz.ntmps73
  go_wp2_with fail
  go_end0
  exact ⟨rfl, block_setCell hb 0 _, (Turn.refl (fun k => k = bb) w).setCell (p := ⟨bb, 0, none⟩) _ (fun _ => rfl)⟩
set_option maxHeartbeats 2000000 in
theorem word1_some (s : ByteArray) (ws : List Wd) (B i beg en : Nat) (bb bx bt X : Nat) (v : Value) (w : World) (hb : w.heap[bb]? = some (.cells #[.int .i64 (beg : Int)] 3 (0, 0))) (hx : w.heap[bx]? = some (.cells #[.pointer (some ⟨X, 0, none⟩)] 106 (0, 0)))
    (ht : w.heap[bt]? = some (.cells #[.string s] 9 (0, 0))) (hX : w.heap[X]? = some (.cells #[v, .int .i64 (en : Int), .int .i64 0] 145 (0, 0))) (hown : w.ownsRow B 108 2 v ws.length (wdCells ws))
    (hi : beg ≤ i) (hs : i ≤ s.size) (hsz : s.size ≤ 1000000) (hws : ws.length ≤ 1000000) (hB : B ≤ w.heap.size) :
    Calls Tryz.prog 73 #[.int .i64 (i : Int), .pointer (some ⟨bb, 0, none⟩), .pointer (some ⟨bx, 0, none⟩), .pointer (some ⟨bt, 0, none⟩)] w (fun e w' => e = .returned (.tuple #[]) ∧ ∃ v', w'.heap[X]? = some (.cells #[v', .int .i64 (en : Int), .int .i64 0] 145 (0, 0)) ∧ w'.ownsRow B 108 2 v' (ws ++ [(s.extract beg i, beg)]).length (wdCells (ws ++ [(s.extract beg i, beg)])) ∧
      w'.heap[bb]? = some (.cells #[.int .i64 (-1)] 3 (0, 0)) ∧ Turn (fun k => k = bb ∨ k = X ∨ v.ownBlock = some k) w w' ∧ (∀ k, v'.ownBlock = some k → v.ownBlock = some k ∨ w.heap.size ≤ k)) := by
  obtain ⟨i0, hi0, hz0, hz1, hz2⟩ := info_parts info108
  have c0 : w.cell? ⟨bb, 0, none⟩ = some (.int .i64 (beg : Int)) := cell_of_block hb 0
  have f0 : w.frozen? ⟨bb, 0, none⟩ = false := free_of_block hb 0
  have hX2 : w.drew.heap[X]? = some (.cells #[v, .int .i64 (en : Int), .int .i64 0] 145 (0, 0)) := hX
  have d0 : w.drew.cell? ⟨bb, 0, none⟩ = some (.int .i64 (beg : Int)) := cell_of_block hb 0
  have d1 : w.drew.cell? ⟨bx, 0, none⟩ = some (.pointer (some ⟨X, 0, none⟩)) := cell_of_block hx 0
  have d2 : w.drew.cell? ⟨bt, 0, none⟩ = some (.string s) := cell_of_block ht 0
  have d3 : w.drew.cell? ⟨X, 0, none⟩ = some v := cell_of_block hX2 0
  have e1 : w.cell? ⟨bx, 0, none⟩ = some (.pointer (some ⟨X, 0, none⟩)) := d1
  have e2 : w.cell? ⟨bt, 0, none⟩ = some (.string s) := d2
  have e3 : w.cell? ⟨X, 0, none⟩ = some v := d3
  have g1 : (0 : Int) ≤ (beg : Int) := by omega
  have g2 : (beg : Int) ≤ (i : Int) := by omega
  have g3 : (i : Int) ≤ (s.size : Int) := by omega
  have hvX : v.ownBlock ≠ some X := by obtain ⟨_, _, _, hvX⟩ := own_form hown hX (by decide); exact hvX
  have hvb : v.ownBlock ≠ some bb := by obtain ⟨_, _, _, hvb⟩ := own_form hown hb (by decide); exact hvb
  have hvx : v.ownBlock ≠ some bx := by obtain ⟨_, _, _, h⟩ := own_form hown hx (by decide); exact h
  have hvt : v.ownBlock ≠ some bt := by obtain ⟨_, _, _, h⟩ := own_form hown ht (by decide); exact h
  have hbxX : bx ≠ X := fun e => by rw [e, hX] at hx; cases hx
  have hbtX : bt ≠ X := fun e => by rw [e, hX] at ht; cases ht
  have hXl := block_lt hX
  have hxl := block_lt hx
  have htl := block_lt ht
  have hbl := block_lt hb
  have hbX : bb ≠ X := fun e => by rw [e, hX] at hb; cases hb
  go_enter Tryz.func73, Tryz.ntmps73
  go_wp2_with fail
  refine wp_region_held_drew (S := fun w' => w'.cell? ⟨bx, 0, none⟩ = some (.pointer (some ⟨X, 0, none⟩)) ∧ w'.cell? ⟨bt, 0, none⟩ = some (.string s) ∧ w'.cell? ⟨bb, 0, none⟩ = some (.int .i64 (beg : Int))) (by kernel_rfl) ⟨d1, d2, d0⟩ (fun hHeld => ?_)
  refine wpAnyH_take (i := 0) (v := .pointer (some ⟨X, 0, none⟩)) rfl (by kernel_rfl) (by kernel_rfl) (by kernel_rfl) (fun _ _ _ h => h) (Or.inl ⟨by rfl, fun w' hSw => by dsimp only at hSw; go_simp⟩) hHeld ?_
  simp only [Act.put, List.setIfInBounds_toArray, List.set_cons_zero, List.set_cons_succ]
  refine wpAnyH_take (i := 1) (v := .pointer (some ⟨X, 0, none⟩)) rfl (by kernel_rfl) (by kernel_rfl) (by kernel_rfl) (fun _ _ _ h => h) (Or.inl ⟨by rfl, fun w' hSw => by dsimp only at hSw; go_simp⟩) hHeld ?_
  simp only [Act.put, List.setIfInBounds_toArray, List.set_cons_zero, List.set_cons_succ]
  refine wpAnyH_take (i := 2) (v := .pointer (some ⟨X, 0, none⟩)) rfl (by kernel_rfl) (by kernel_rfl) (by kernel_rfl) (fun _ _ _ h => h) (Or.inl ⟨by rfl, fun w' hSw => by dsimp only at hSw; go_simp⟩) hHeld ?_
  simp only [Act.put, List.setIfInBounds_toArray, List.set_cons_zero, List.set_cons_succ]
  refine wpAnyH_take (i := 3) (v := .pointer (some ⟨X, 0, none⟩)) rfl (by kernel_rfl) (by kernel_rfl) (by kernel_rfl) (fun _ _ _ h => h) (Or.inl ⟨by rfl, fun w' hSw => by dsimp only at hSw; go_simp⟩) hHeld ?_
  simp only [Act.put, List.setIfInBounds_toArray, List.set_cons_zero, List.set_cons_succ]
  refine wpAnyH_take (i := 5) (v := .string s) rfl (by kernel_rfl) (by kernel_rfl) (by kernel_rfl) (fun _ _ _ h => h) (Or.inl ⟨by rfl, fun w' hSw => by dsimp only at hSw; go_simp⟩) hHeld ?_
  simp only [Act.put, List.setIfInBounds_toArray, List.set_cons_zero, List.set_cons_succ]
  refine wpAnyH_take (i := 6) (v := .int .i64 (beg : Int)) rfl (by kernel_rfl) (by kernel_rfl) (by kernel_rfl) (fun _ _ _ h => h) (Or.inl ⟨by rfl, fun w' hSw => by dsimp only at hSw; go_simp⟩) hHeld ?_
  simp only [Act.put, List.setIfInBounds_toArray, List.set_cons_zero, List.set_cons_succ]
  refine wpAnyH_take (i := 7) (v := .int .i64 (i : Int)) rfl (by kernel_rfl) (by kernel_rfl) (by kernel_rfl) (fun _ _ _ h => h) (Or.inl ⟨by rfl, fun w' hSw => by dsimp only at hSw; go_simp⟩) hHeld ?_
  simp only [Act.put, List.setIfInBounds_toArray, List.set_cons_zero, List.set_cons_succ]
  refine wpAnyH_take (i := 8) (v := .string (s.extract beg i)) rfl (by kernel_rfl) (by kernel_rfl) (by kernel_rfl) (fun _ _ _ h => h) (Or.inl ⟨by rfl, fun w' hSw => by dsimp only at hSw; go_simp⟩) hHeld ?_
  simp only [Act.put, List.setIfInBounds_toArray, List.set_cons_zero, List.set_cons_succ]
  refine wpAnyH_take (i := 9) (v := .int .i64 (beg : Int)) rfl (by kernel_rfl) (by kernel_rfl) (by kernel_rfl) (fun _ _ _ h => h) (Or.inl ⟨by rfl, fun w' hSw => by dsimp only at hSw; go_simp⟩) hHeld ?_
  simp only [Act.put, List.setIfInBounds_toArray, List.set_cons_zero, List.set_cons_succ]
  refine wpAnyH_take (i := 10) (v := .agg #[.string (s.extract beg i), .int .i64 (beg : Int)]) rfl (by kernel_rfl) (by kernel_rfl) (by kernel_rfl) (fun _ _ _ h => h) (Or.inl ⟨by rfl, fun w' hSw => by dsimp only at hSw; go_simp⟩) hHeld ?_
  simp only [Act.put, List.setIfInBounds_toArray, List.set_cons_zero, List.set_cons_succ]
  refine wpAnyH_ready (rs := [4, 11]) (by kernel_rfl) (by simp) ?_
  refine AllReadyH.cons rfl (fun K hK => ?_) (AllReadyH.cons rfl (fun K hK => ?_) AllReadyH.nil)
  all_goals first
    | (rw [if_pos (by rfl)]
       go_simp
       refine hK.out _ _ (by (first
          | go_keep
          | (go_split_ands
             refine ⟨?_, ?_, ?_⟩
             · (rw [hgrow.cell_far _ (by simp; omega) (Ne.symm hvx)]; assumption)
             · (rw [hgrow.cell_far _ (by simp; omega) (Ne.symm hvt)]; assumption)
             · (rw [hgrow.cell_far _ (by simp; omega) (Ne.symm hvb)]; assumption))
          | (go_split_ands
             refine ⟨?_, ?_, ?_⟩
             · (rw [World.cell?_setCell_other _ _ _ _ (by simp [hbxX])]; assumption)
             · (rw [World.cell?_setCell_other _ _ _ _ (by simp [hbtX])]; assumption)
             · (rw [World.cell?_setCell_other _ _ _ _ (by simp [hbX])]; assumption)))) (fun hHeld => ?_)
       clear hK K
       try simp only [Act.put, List.setIfInBounds_toArray, List.set_cons_zero, List.set_cons_succ]
       refine wpAnyH_ready (rs := [11]) (by kernel_rfl) (by simp) ?_
       refine AllReadyH.cons rfl (fun K hK => ?_) AllReadyH.nil
       rw [if_pos (by rfl)]
       go_simp
       refine hK.out _ _ (by (first
          | go_keep
          | (go_split_ands
             refine ⟨?_, ?_, ?_⟩
             · (rw [hgrow.cell_far _ (by simp; omega) (Ne.symm hvx)]; assumption)
             · (rw [hgrow.cell_far _ (by simp; omega) (Ne.symm hvt)]; assumption)
             · (rw [hgrow.cell_far _ (by simp; omega) (Ne.symm hvb)]; assumption))
          | (go_split_ands
             refine ⟨?_, ?_, ?_⟩
             · (rw [World.cell?_setCell_other _ _ _ _ (by simp [hbxX])]; assumption)
             · (rw [World.cell?_setCell_other _ _ _ _ (by simp [hbtX])]; assumption)
             · (rw [World.cell?_setCell_other _ _ _ _ (by simp [hbX])]; assumption)))) (fun hHeld => ?_)
       clear hK K
       try simp only [Act.put, List.setIfInBounds_toArray, List.set_cons_zero, List.set_cons_succ]
       refine wpAnyH_ready (rs := [12]) (by kernel_rfl) (by simp) ?_
       refine AllReadyH.cons rfl (fun K hK => ?_) AllReadyH.nil
       refine step_append_lies _ (by rfl) _ _ _ (by rfl) B 108 i0 (.agg #[.string ⟨#[]⟩, .int .i64 0]) 2 24 Tryz.underlying143 hi0 hz0 hz1 hz2 rfl (by decide) v ws.length _ (by rfl) (by first | exact hown.alloc _ | exact (hown.alloc _).drew) ⟨w.heap.size, 0, none⟩ 1 1 [.string (s.extract beg i), .int .i64 (beg : Int)] (by rfl) (by rfl) (by first | exact World.news_of_block (block_alloc_new _ _) | exact World.news_of_block (cs := #[.string (s.extract beg i), .int .i64 (beg : Int)]) (t := 108) (fr := (0, 0)) (heap_alloc_new w _)) (by intro u hu; simp at hu; rcases hu with rfl | rfl <;> rfl) (by omega) (by unfold maxLen; omega) (by omega) (by simp; omega) (w.heap.size + 1) (by simp) ?_
       intro g cap w' hown' hgrow hwhere hlt'
       have hX3 : w'.heap[X]? = some (.cells #[v, .int .i64 (en : Int), .int .i64 0] 145 (0, 0)) := ((turn_of_grown hgrow).block X (block_lt (block_alloc_old hX2)) hvX).trans (block_alloc_old hX2)
       have hce3 : w'.cell? ⟨X, 0, none⟩ = some v := cell_of_block hX3 0
       have hfr3 := free_of_block hX3 0
       refine hK.out _ _ (by (first
          | go_keep
          | (go_split_ands
             refine ⟨?_, ?_, ?_⟩
             · (rw [hgrow.cell_far _ (by simp; omega) (Ne.symm hvx)]; assumption)
             · (rw [hgrow.cell_far _ (by simp; omega) (Ne.symm hvt)]; assumption)
             · (rw [hgrow.cell_far _ (by simp; omega) (Ne.symm hvb)]; assumption))
          | (go_split_ands
             refine ⟨?_, ?_, ?_⟩
             · (rw [World.cell?_setCell_other _ _ _ _ (by simp [hbxX])]; assumption)
             · (rw [World.cell?_setCell_other _ _ _ _ (by simp [hbtX])]; assumption)
             · (rw [World.cell?_setCell_other _ _ _ _ (by simp [hbX])]; assumption)))) (fun hHeld => ?_)
       clear hK K
       try simp only [Act.put, List.setIfInBounds_toArray, List.set_cons_zero, List.set_cons_succ]
       refine wpAnyH_take (i := 13) (v := .pointer (some ⟨X, 0, none⟩)) rfl (by kernel_rfl) (by kernel_rfl) (by kernel_rfl) (fun _ _ _ h => h) (Or.inl ⟨by rfl, fun w' hSw => by dsimp only at hSw; go_simp⟩) hHeld ?_
       simp only [Act.put, List.setIfInBounds_toArray, List.set_cons_zero, List.set_cons_succ]
       refine wpAnyH_take (i := 14) (v := .pointer (some ⟨X, 0, none⟩)) rfl (by kernel_rfl) (by kernel_rfl) (by kernel_rfl) (fun _ _ _ h => h) (Or.inl ⟨by rfl, fun w' hSw => by dsimp only at hSw; go_simp⟩) hHeld ?_
       simp only [Act.put, List.setIfInBounds_toArray, List.set_cons_zero, List.set_cons_succ]
       refine wpAnyH_ready (rs := [15]) (by kernel_rfl) (by simp) ?_
       refine AllReadyH.cons rfl (fun K hK => ?_) AllReadyH.nil
       rw [if_pos (by rfl)]
       go_simp
       refine hK.out _ _ (by (first
          | go_keep
          | (go_split_ands
             refine ⟨?_, ?_, ?_⟩
             · (rw [hgrow.cell_far _ (by simp; omega) (Ne.symm hvx)]; assumption)
             · (rw [hgrow.cell_far _ (by simp; omega) (Ne.symm hvt)]; assumption)
             · (rw [hgrow.cell_far _ (by simp; omega) (Ne.symm hvb)]; assumption))
          | (go_split_ands
             refine ⟨?_, ?_, ?_⟩
             · (rw [World.cell?_setCell_other _ _ _ _ (by simp [hbxX])]; assumption)
             · (rw [World.cell?_setCell_other _ _ _ _ (by simp [hbtX])]; assumption)
             · (rw [World.cell?_setCell_other _ _ _ _ (by simp [hbX])]; assumption)))) (fun hHeld => ?_)
       clear hK K
       try simp only [Act.put, List.setIfInBounds_toArray, List.set_cons_zero, List.set_cons_succ]
       refine wpAnyH_done (by kernel_rfl) ?_ _)
    | (rw [if_pos (by rfl)]
       go_simp
       refine hK.out _ _ (by (first
          | go_keep
          | (go_split_ands
             refine ⟨?_, ?_, ?_⟩
             · (rw [hgrow.cell_far _ (by simp; omega) (Ne.symm hvx)]; assumption)
             · (rw [hgrow.cell_far _ (by simp; omega) (Ne.symm hvt)]; assumption)
             · (rw [hgrow.cell_far _ (by simp; omega) (Ne.symm hvb)]; assumption))
          | (go_split_ands
             refine ⟨?_, ?_, ?_⟩
             · (rw [World.cell?_setCell_other _ _ _ _ (by simp [hbxX])]; assumption)
             · (rw [World.cell?_setCell_other _ _ _ _ (by simp [hbtX])]; assumption)
             · (rw [World.cell?_setCell_other _ _ _ _ (by simp [hbX])]; assumption)))) (fun hHeld => ?_)
       clear hK K
       try simp only [Act.put, List.setIfInBounds_toArray, List.set_cons_zero, List.set_cons_succ]
       refine wpAnyH_ready (rs := [4]) (by kernel_rfl) (by simp) ?_
       refine AllReadyH.cons rfl (fun K hK => ?_) AllReadyH.nil
       rw [if_pos (by rfl)]
       go_simp
       refine hK.out _ _ (by (first
          | go_keep
          | (go_split_ands
             refine ⟨?_, ?_, ?_⟩
             · (rw [hgrow.cell_far _ (by simp; omega) (Ne.symm hvx)]; assumption)
             · (rw [hgrow.cell_far _ (by simp; omega) (Ne.symm hvt)]; assumption)
             · (rw [hgrow.cell_far _ (by simp; omega) (Ne.symm hvb)]; assumption))
          | (go_split_ands
             refine ⟨?_, ?_, ?_⟩
             · (rw [World.cell?_setCell_other _ _ _ _ (by simp [hbxX])]; assumption)
             · (rw [World.cell?_setCell_other _ _ _ _ (by simp [hbtX])]; assumption)
             · (rw [World.cell?_setCell_other _ _ _ _ (by simp [hbX])]; assumption)))) (fun hHeld => ?_)
       clear hK K
       try simp only [Act.put, List.setIfInBounds_toArray, List.set_cons_zero, List.set_cons_succ]
       refine wpAnyH_ready (rs := [12]) (by kernel_rfl) (by simp) ?_
       refine AllReadyH.cons rfl (fun K hK => ?_) AllReadyH.nil
       refine step_append_lies _ (by rfl) _ _ _ (by rfl) B 108 i0 (.agg #[.string ⟨#[]⟩, .int .i64 0]) 2 24 Tryz.underlying143 hi0 hz0 hz1 hz2 rfl (by decide) v ws.length _ (by rfl) (by first | exact hown.alloc _ | exact (hown.alloc _).drew) ⟨w.heap.size, 0, none⟩ 1 1 [.string (s.extract beg i), .int .i64 (beg : Int)] (by rfl) (by rfl) (by first | exact World.news_of_block (block_alloc_new _ _) | exact World.news_of_block (cs := #[.string (s.extract beg i), .int .i64 (beg : Int)]) (t := 108) (fr := (0, 0)) (heap_alloc_new w _)) (by intro u hu; simp at hu; rcases hu with rfl | rfl <;> rfl) (by omega) (by unfold maxLen; omega) (by omega) (by simp; omega) (w.heap.size + 1) (by simp) ?_
       intro g cap w' hown' hgrow hwhere hlt'
       have hX3 : w'.heap[X]? = some (.cells #[v, .int .i64 (en : Int), .int .i64 0] 145 (0, 0)) := ((turn_of_grown hgrow).block X (block_lt (block_alloc_old hX2)) hvX).trans (block_alloc_old hX2)
       have hce3 : w'.cell? ⟨X, 0, none⟩ = some v := cell_of_block hX3 0
       have hfr3 := free_of_block hX3 0
       refine hK.out _ _ (by (first
          | go_keep
          | (go_split_ands
             refine ⟨?_, ?_, ?_⟩
             · (rw [hgrow.cell_far _ (by simp; omega) (Ne.symm hvx)]; assumption)
             · (rw [hgrow.cell_far _ (by simp; omega) (Ne.symm hvt)]; assumption)
             · (rw [hgrow.cell_far _ (by simp; omega) (Ne.symm hvb)]; assumption))
          | (go_split_ands
             refine ⟨?_, ?_, ?_⟩
             · (rw [World.cell?_setCell_other _ _ _ _ (by simp [hbxX])]; assumption)
             · (rw [World.cell?_setCell_other _ _ _ _ (by simp [hbtX])]; assumption)
             · (rw [World.cell?_setCell_other _ _ _ _ (by simp [hbX])]; assumption)))) (fun hHeld => ?_)
       clear hK K
       try simp only [Act.put, List.setIfInBounds_toArray, List.set_cons_zero, List.set_cons_succ]
       refine wpAnyH_take (i := 13) (v := .pointer (some ⟨X, 0, none⟩)) rfl (by kernel_rfl) (by kernel_rfl) (by kernel_rfl) (fun _ _ _ h => h) (Or.inl ⟨by rfl, fun w' hSw => by dsimp only at hSw; go_simp⟩) hHeld ?_
       simp only [Act.put, List.setIfInBounds_toArray, List.set_cons_zero, List.set_cons_succ]
       refine wpAnyH_take (i := 14) (v := .pointer (some ⟨X, 0, none⟩)) rfl (by kernel_rfl) (by kernel_rfl) (by kernel_rfl) (fun _ _ _ h => h) (Or.inl ⟨by rfl, fun w' hSw => by dsimp only at hSw; go_simp⟩) hHeld ?_
       simp only [Act.put, List.setIfInBounds_toArray, List.set_cons_zero, List.set_cons_succ]
       refine wpAnyH_ready (rs := [15]) (by kernel_rfl) (by simp) ?_
       refine AllReadyH.cons rfl (fun K hK => ?_) AllReadyH.nil
       rw [if_pos (by rfl)]
       go_simp
       refine hK.out _ _ (by (first
          | go_keep
          | (go_split_ands
             refine ⟨?_, ?_, ?_⟩
             · (rw [hgrow.cell_far _ (by simp; omega) (Ne.symm hvx)]; assumption)
             · (rw [hgrow.cell_far _ (by simp; omega) (Ne.symm hvt)]; assumption)
             · (rw [hgrow.cell_far _ (by simp; omega) (Ne.symm hvb)]; assumption))
          | (go_split_ands
             refine ⟨?_, ?_, ?_⟩
             · (rw [World.cell?_setCell_other _ _ _ _ (by simp [hbxX])]; assumption)
             · (rw [World.cell?_setCell_other _ _ _ _ (by simp [hbtX])]; assumption)
             · (rw [World.cell?_setCell_other _ _ _ _ (by simp [hbX])]; assumption)))) (fun hHeld => ?_)
       clear hK K
       try simp only [Act.put, List.setIfInBounds_toArray, List.set_cons_zero, List.set_cons_succ]
       refine wpAnyH_done (by kernel_rfl) ?_ _)
  all_goals
    have hb3 : w'.heap[bb]? = some (.cells #[.int .i64 (beg : Int)] 3 (0, 0)) := ((turn_of_grown hgrow).block bb (block_lt (block_alloc_old (w := w.drew) hb)) hvb).trans (block_alloc_old (w := w.drew) hb)
    have hb4 : (w'.setCell ⟨X, 0, none⟩ (.slice (some ⟨g, 0, none⟩) (ws.length + 1) cap)).heap[bb]? = some (.cells #[.int .i64 (beg : Int)] 3 (0, 0)) := (Below.heap_setCell _ _ _ _ hbX).trans hb3
    have hX4 : (w'.setCell ⟨X, 0, none⟩ (.slice (some ⟨g, 0, none⟩) (ws.length + 1) cap)).heap[X]? = some (.cells #[.slice (some ⟨g, 0, none⟩) (ws.length + 1) cap, .int .i64 (en : Int), .int .i64 0] 145 (0, 0)) := block_setCell hX3 0 (.slice (some ⟨g, 0, none⟩) (ws.length + 1) cap)
    have hgX : g ≠ X := fun e => by obtain ⟨_, _, _, h⟩ := own_form hown' hX3 (by decide); exact h (by rw [← e]; rfl)
    have hgb : g ≠ bb := fun e => by obtain ⟨_, _, _, h⟩ := own_form hown' hb3 (by decide); exact h (by rw [← e]; rfl)
    have t1 : Turn (fun k => k = bb ∨ k = X ∨ v.ownBlock = some k) w w' := (((Turn.refl (fun k => k = bb ∨ k = X ∨ v.ownBlock = some k) w).alloc (.cells #[.string (s.extract beg i), .int .i64 (beg : Int)] 108)).drew).trans2 (turn_of_grown hgrow) (fun i _ h => Or.inr (Or.inr h))
    have t2 := t1.setCell (p := ⟨X, 0, none⟩) (.slice (some ⟨g, 0, none⟩) (ws.length + 1) cap) (fun _ => Or.inr (Or.inl rfl))
    have o2 : (w'.setCell ⟨X, 0, none⟩ (.slice (some ⟨g, 0, none⟩) (ws.length + 1) cap)).ownsRow B 108 2 (.slice (some ⟨g, 0, none⟩) (ws.length + 1) cap) (ws.length + 1) (wdCells ws ++ [.string (s.extract beg i), .int .i64 (beg : Int)]) := ownsRow_turn hown' (F := fun k => k = X) ((Turn.refl (fun k => k = X) w').setCell (p := ⟨X, 0, none⟩) _ (fun _ => rfl)) (fun g' hg' e => hgX ((own_slice hg').trans e))
    generalize w'.setCell ⟨X, 0, none⟩ (.slice (some ⟨g, 0, none⟩) (ws.length + 1) cap) = W at *
    have hc5 : W.cell? ⟨bb, 0, none⟩ = some (.int .i64 (beg : Int)) := cell_of_block hb4 0
    have hf5 : W.frozen? ⟨bb, 0, none⟩ = false := free_of_block hb4 0
    have HZ := Lib.hid (And.intro hX4 (And.intro t2 (And.intro o2 (And.intro hb4 (And.intro hgb hwhere)))))
    clear hX4 t1 t2 o2 hb4 hgb hgX hwhere hb3 hX3 hce3 hfr3 hgrow hown' hlt' d0 d1 d2 d3 e1 e2 e3 c0 f0 hX2
    go_wp2_with fail
    go_end0
    obtain ⟨hX4, t2, o2, hb4, hgb, hwhere⟩ := HZ.out
    have t3 : Turn (fun k => k = bb) W (W.setCell ⟨bb, 0, none⟩ (.int .i64 (-1))) := (Turn.refl (fun k => k = bb) W).setCell (p := ⟨bb, 0, none⟩) _ (fun _ => rfl)
    refine ⟨rfl, .slice (some ⟨g, 0, none⟩) (ws.length + 1) cap, (t3.block X (block_lt hX4) (fun e => hbX e.symm)).trans hX4, ?_, block_setCell hb4 0 _, t2.trans2 t3 (fun i _ h => Or.inl h), fun k hk => ?_⟩
    · rw [List.length_append, wdCells_snoc]
      exact ownsRow_turn o2 t3 (fun g' hg' e => hgb ((own_slice hg').trans e))
    · have : g = k := own_slice hk
      subst this
      rcases hwhere with h | h
      · exact Or.inl h
      · exact Or.inr (by omega)
end Go.Proofs.YtbkpbcmjgbdbkaaGreatDoor

/-! J1 -/
namespace Go.Proofs.YtbkpbcmjgbdbkaaGreatDoor
open Go.RowKit Go.Lib
set_option linter.unusedVariables false
set_option linter.unusedSimpArgs false
set_option maxRecDepth 100000

/-- Where a word began, or that none did. -/
def begV : Option Nat → Int
  | some n => (n : Int)
  | none => -1
/-- The words, the one under way ended at i. -/
def wordEnd (s : ByteArray) (ws : List Wd) (bg : Option Nat) (i : Nat) : List Wd := match bg with
  | some n => ws ++ [(s.extract n i, n)]
  | none => ws
def WordPost1 (s : ByteArray) (ws : List Wd) (bg : Option Nat) (i B en bb X : Nat) (v : Value) (w : World) (e : Ending) (w' : World) : Prop :=
  e = .returned (.tuple #[]) ∧ ∃ v', w'.heap[X]? = some (.cells #[v', .int .i64 (en : Int), .int .i64 0] 145 (0, 0)) ∧ w'.ownsRow B 108 2 v' (wordEnd s ws bg i).length (wdCells (wordEnd s ws bg i)) ∧
    w'.heap[bb]? = some (.cells #[.int .i64 (-1)] 3 (0, 0)) ∧ Turn (fun k => k = bb ∨ k = X ∨ v.ownBlock = some k) w w' ∧ (∀ k, v'.ownBlock = some k → v.ownBlock = some k ∨ w.heap.size ≤ k)
theorem word1_any (s : ByteArray) (ws : List Wd) (bg : Option Nat) (B i en : Nat) (bb bx bt X : Nat) (v : Value) (w : World) (hb : w.heap[bb]? = some (.cells #[.int .i64 (begV bg)] 3 (0, 0))) (hx : w.heap[bx]? = some (.cells #[.pointer (some ⟨X, 0, none⟩)] 106 (0, 0)))
    (ht : w.heap[bt]? = some (.cells #[.string s] 9 (0, 0))) (hX : w.heap[X]? = some (.cells #[v, .int .i64 (en : Int), .int .i64 0] 145 (0, 0))) (hown : w.ownsRow B 108 2 v ws.length (wdCells ws))
    (hi : ∀ n, bg = some n → n ≤ i) (hs : i ≤ s.size) (hsz : s.size ≤ 1000000) (hws : ws.length ≤ 1000000) (hB : B ≤ w.heap.size) :
    Calls Tryz.prog 73 #[.int .i64 (i : Int), .pointer (some ⟨bb, 0, none⟩), .pointer (some ⟨bx, 0, none⟩), .pointer (some ⟨bt, 0, none⟩)] w (WordPost1 s ws bg i B en bb X v w) := by
  cases bg with
  | some n => exact word1_some s ws B i n en bb bx bt X v w hb hx ht hX hown (hi n rfl) hs hsz hws hB
  | none =>
    have hbX : X ≠ bb := fun e => by rw [← e, hX] at hb; cases hb
    have hvb : v.ownBlock ≠ some bb := by obtain ⟨_, _, _, h⟩ := own_form hown hb (by decide); exact h
    refine (word1_none i bb bx bt w hb).mono fun e w' ⟨h1, h2, t⟩ => ⟨h1, v, (t.block X (block_lt hX) hbX).trans hX, ownsRow_turn hown t (fun g hg e => hvb (by rw [hg, e])), h2, t.mono (fun _ _ h => Or.inl h), fun k hk => Or.inl hk⟩
theorem info106 : (Tryz.prog.info? 106).map (fun i => (i.zero, i.size, i.bytes)) = some (some (.pointer none), 1, 8) := by kernel_rfl
def ptrCells (l : List Nat) : List Value := l.map fun x => .pointer (some ⟨x, 0, none⟩)
/-- The lines told, this one too if it has words. -/
def outEnd (outs : List Nat) (ws : List Wd) (X : Nat) : List Nat := if 0 < ws.length then outs ++ [X] else outs
structure Ended (s : ByteArray) (ws : List Wd) (outs : List Nat) (i B bb bx bo br X : Nat) (v ov : Value) (w w' : World) (v' ov' : Value) (X' : Nat) : Prop where
  line : w'.heap[X]? = some (.cells #[v', .int .i64 (i : Int), .int .i64 0] 145 (0, 0))
  own : w'.ownsRow B 108 2 v' ws.length (wdCells ws)
  out : w'.heap[bo]? = some (.cells #[ov'] 103 (0, 0))
  outs : w'.ownsRow B 106 1 ov' (outEnd outs ws X).length (ptrCells (outEnd outs ws X))
  cur : w'.heap[bx]? = some (.cells #[.pointer (some ⟨X', 0, none⟩)] 106 (0, 0))
  new : w.heap.size ≤ X'
  zero : w'.heap[X']? = some (.cells #[.slice none 0 0, .int .i64 0, .int .i64 0] 145 (0, 0))
  beg : w'.heap[bb]? = some (.cells #[.int .i64 (-1)] 3 (0, 0))
  rest : w'.heap[br]? = some (.cells #[.bool false] 4 (0, 0))
  turn : Turn (fun k => k = bb ∨ k = X ∨ k = bo ∨ k = bx ∨ k = br ∨ v.ownBlock = some k ∨ ov.ownBlock = some k) w w'
  vown : ∀ k, v'.ownBlock = some k → v.ownBlock = some k ∨ w.heap.size ≤ k
  oown : ∀ k, ov'.ownBlock = some k → ov.ownBlock = some k ∨ w.heap.size ≤ k
theorem own_apart {w : World} {B B' : Nat} {v v' : Value} {n n' : Nat} {xs xs' : List Value} {e e' size size' k : Nat} (h : w.ownsRow B e size v n xs) (h' : w.ownsRow B' e' size' v' n' xs') (ht : e ≠ e') (h1 : v.ownBlock = some k) (h2 : v'.ownBlock = some k) : False := by
  rcases h.2 with ⟨hv, _⟩ | ⟨g, cap, cur, hv, r⟩
  · rw [hv] at h1; cases h1
  · rcases h'.2 with ⟨hv', _⟩ | ⟨g', cap', cur', hv', r'⟩
    · rw [hv'] at h2; cases h2
    · have e1 : g = k := own_slice (by rw [hv] at h1; exact h1)
      have e2 : g' = k := own_slice (by rw [hv'] at h2; exact h2)
      subst e1
      subst e2
      have := r.2.1
      rw [r'.2.1] at this
      cases this
      exact ht rfl
theorem ended_fin {s : ByteArray} {ws : List Wd} {outs : List Nat} {i B bb bx bo br X : Nat} {v ov v' ov' : Value} {w W : World} {rs : Bool}
    (hX : W.heap[X]? = some (.cells #[v', .int .i64 (i : Int), .int .i64 0] 145 (0, 0))) (v2 : W.ownsRow B 108 2 v' ws.length (wdCells ws)) (o2 : W.heap[bo]? = some (.cells #[ov'] 103 (0, 0)))
    (u2 : W.ownsRow B 106 1 ov' (outEnd outs ws X).length (ptrCells (outEnd outs ws X))) (x2 : W.heap[bx]? = some (.cells #[.pointer (some ⟨X, 0, none⟩)] 106 (0, 0))) (b2 : W.heap[bb]? = some (.cells #[.int .i64 (-1)] 3 (0, 0)))
    (r2 : W.heap[br]? = some (.cells #[.bool rs] 4 (0, 0))) (tA : Turn (fun k => k = bb ∨ k = X ∨ k = bo ∨ k = bx ∨ k = br ∨ v.ownBlock = some k ∨ ov.ownBlock = some k) w W)
    (hv : ∀ k, v'.ownBlock = some k → v.ownBlock = some k ∨ w.heap.size ≤ k) (ho : ∀ k, ov'.ownBlock = some k → ov.ownBlock = some k ∨ w.heap.size ≤ k)
    (h1 : bx ≠ X) (h2 : bx ≠ bb) (h3 : bo ≠ bx) (h4 : br ≠ X) (h5 : br ≠ bb) (h6 : br ≠ bo) (h7 : br ≠ bx) (p1 : v'.ownBlock ≠ some bx) (p2 : v'.ownBlock ≠ some br) (p3 : ov'.ownBlock ≠ some bx) (p4 : ov'.ownBlock ≠ some br) :
    Ended s ws outs i B bb bx bo br X v ov w (((W.setCell ⟨bx, 0, none⟩ (.pointer (some ⟨W.heap.size, 0, none⟩))).setCell ⟨br, 0, none⟩ (.bool false)).alloc (.cells #[.slice none 0 0, .int .i64 0, .int .i64 0] 145)) v' ov' W.heap.size := by
  have t : Turn (fun k => k = bx ∨ k = br) W (((W.setCell ⟨bx, 0, none⟩ (.pointer (some ⟨W.heap.size, 0, none⟩))).setCell ⟨br, 0, none⟩ (.bool false)).alloc (.cells #[.slice none 0 0, .int .i64 0, .int .i64 0] 145)) :=
    (((Turn.refl (fun k => k = bx ∨ k = br) W).setCell (p := ⟨bx, 0, none⟩) _ (fun _ => Or.inl rfl)).setCell (p := ⟨br, 0, none⟩) _ (fun _ => Or.inr rfl)).alloc _
  have hbxl := block_lt x2
  have hbrl := block_lt r2
  have keep : ∀ {k : Nat} {o : Obj}, W.heap[k]? = some o → k ≠ bx → k ≠ br → (((W.setCell ⟨bx, 0, none⟩ (.pointer (some ⟨W.heap.size, 0, none⟩))).setCell ⟨br, 0, none⟩ (.bool false)).alloc (.cells #[.slice none 0 0, .int .i64 0, .int .i64 0] 145)).heap[k]? = some o :=
    fun hk e1 e2 => (t.block _ (block_lt hk) (by rintro (h | h); exact e1 h; exact e2 h)).trans hk
  refine ⟨keep hX h1.symm h4.symm, ownsRow_turn v2 t (fun g hg => by rintro (h | h); exact p1 (by rw [hg, h]); exact p2 (by rw [hg, h])), keep o2 h3 h6.symm,
    ownsRow_turn u2 t (fun g hg => by rintro (h | h); exact p3 (by rw [hg, h]); exact p4 (by rw [hg, h])), ?_, tA.size, ?_, keep b2 h2.symm h5.symm, ?_, tA.trans2 t (fun k _ h => by rcases h with h | h <;> simp [h]), hv, ho⟩
  · refine block_alloc_old ?_
    rw [Below.heap_setCell _ _ _ _ h7.symm]
    exact block_setCell x2 0 _
  · have hs : ((W.setCell ⟨bx, 0, none⟩ (.pointer (some ⟨W.heap.size, 0, none⟩))).setCell ⟨br, 0, none⟩ (.bool false)).heap.size = W.heap.size := by simp [World.setCell]
    have := block_alloc_new ((W.setCell ⟨bx, 0, none⟩ (.pointer (some ⟨W.heap.size, 0, none⟩))).setCell ⟨br, 0, none⟩ (.bool false)) (.cells #[.slice none 0 0, .int .i64 0, .int .i64 0] 145)
    rwa [hs] at this
  · refine block_alloc_old ?_
    have : (W.setCell ⟨bx, 0, none⟩ (.pointer (some ⟨W.heap.size, 0, none⟩))).heap[br]? = some (.cells #[.bool rs] 4 (0, 0)) := (Below.heap_setCell _ _ _ _ h7).trans r2
    exact block_setCell this 0 _
set_option maxHeartbeats 2000000 in
theorem ended_any (s : ByteArray) (ws : List Wd) (outs : List Nat) (bg : Option Nat) (B i en : Nat) (bw bb bx bt bo br X : Nat) (v ov : Value) (rs : Bool) (w : World)
    (hw : w.heap[bw]? = some (.cells #[.func (.func 73) #[] #[.pointer (some ⟨bb, 0, none⟩), .pointer (some ⟨bx, 0, none⟩), .pointer (some ⟨bt, 0, none⟩)]] 80 (0, 0)))
    (hb : w.heap[bb]? = some (.cells #[.int .i64 (begV bg)] 3 (0, 0))) (hx : w.heap[bx]? = some (.cells #[.pointer (some ⟨X, 0, none⟩)] 106 (0, 0)))
    (ht : w.heap[bt]? = some (.cells #[.string s] 9 (0, 0))) (hX : w.heap[X]? = some (.cells #[v, .int .i64 (en : Int), .int .i64 0] 145 (0, 0))) (hown : w.ownsRow B 108 2 v ws.length (wdCells ws))
    (ho : w.heap[bo]? = some (.cells #[ov] 103 (0, 0))) (hout : w.ownsRow B 106 1 ov outs.length (ptrCells outs)) (hr : w.heap[br]? = some (.cells #[.bool rs] 4 (0, 0))) (hbx : bx < B)
    (hi : ∀ n, bg = some n → n ≤ i) (hs : i ≤ s.size) (hsz : s.size ≤ 1000000) (hws : ws.length ≤ 1000000) (hos : outs.length ≤ 1000000) (hB : B ≤ w.heap.size) :
    Calls Tryz.prog 74 #[.int .i64 (i : Int), .pointer (some ⟨bw, 0, none⟩), .pointer (some ⟨bx, 0, none⟩), .pointer (some ⟨bo, 0, none⟩), .pointer (some ⟨br, 0, none⟩)] w
      fun e w' => e = .returned (.tuple #[]) ∧ ∃ v' ov' X', Ended s (wordEnd s ws bg i) outs i B bb bx bo br X v ov w w' v' ov' X' := by
  have hword := word1_any s ws bg B i en bb bx bt X v w hb hx ht hX hown hi hs hsz hws hB
  obtain ⟨i0, hi0, hz0, hz1, hz2⟩ := info_parts info106
  have cw : w.cell? ⟨bw, 0, none⟩ = some (.func (.func 73) #[] #[.pointer (some ⟨bb, 0, none⟩), .pointer (some ⟨bx, 0, none⟩), .pointer (some ⟨bt, 0, none⟩)]) := cell_of_block hw 0
  go_enter Tryz.func74, Tryz.ntmps74
  go_wp2_with fail
  refine hword.mono ?_
  rintro e w1 ⟨rfl, v', q1, q2, q3, q4, q5⟩
  have hbxX : bx ≠ X := fun e => by rw [e, hX] at hx; cases hx
  have hbxb : bx ≠ bb := fun e => by rw [e, hb] at hx; cases hx
  have hboX : bo ≠ X := fun e => by rw [e, hX] at ho; cases ho
  have hbob : bo ≠ bb := fun e => by rw [e, hb] at ho; cases ho
  have hbox : bo ≠ bx := fun e => by rw [e, hx] at ho; cases ho
  have hbrX : br ≠ X := fun e => by rw [e, hX] at hr; cases hr
  have hbrb : br ≠ bb := fun e => by rw [e, hb] at hr; cases hr
  have hbrx : br ≠ bx := fun e => by rw [e, hx] at hr; cases hr
  have hbro : br ≠ bo := fun e => by rw [e, ho] at hr; cases hr
  have hbX : bb ≠ X := fun e => by rw [e, hX] at hb; cases hb
  have n1 : v.ownBlock ≠ some bx := by obtain ⟨_, _, _, h⟩ := own_form hown hx (by decide); exact h
  have n2 : v.ownBlock ≠ some bo := by obtain ⟨_, _, _, h⟩ := own_form hown ho (by decide); exact h
  have n3 : v.ownBlock ≠ some br := by obtain ⟨_, _, _, h⟩ := own_form hown hr (by decide); exact h
  have m1 : ov.ownBlock ≠ some bb := by obtain ⟨_, _, _, h⟩ := own_form hout hb (by decide); exact h
  have m2 : ov.ownBlock ≠ some X := by obtain ⟨_, _, _, h⟩ := own_form hout hX (by decide); exact h
  have m3 : ov.ownBlock ≠ some bo := by obtain ⟨_, _, _, h⟩ := own_form hout ho (by decide); exact h
  have m4 : ov.ownBlock ≠ some br := by obtain ⟨_, _, _, h⟩ := own_form hout hr (by decide); exact h
  have m5 : ov.ownBlock ≠ some bx := fun e => by have := own1_low hout e; omega
  have m6 : ∀ k, v.ownBlock = some k → ov.ownBlock ≠ some k := fun k h1 h2 => own_apart hown hout (by decide) h1 h2
  have x1 := (q4.block bx (block_lt hx) (by rintro (h | h | h); exact hbxb h; exact hbxX h; exact n1 h)).trans hx
  have o1 := (q4.block bo (block_lt ho) (by rintro (h | h | h); exact hbob h; exact hboX h; exact n2 h)).trans ho
  have r1 := (q4.block br (block_lt hr) (by rintro (h | h | h); exact hbrb h; exact hbrX h; exact n3 h)).trans hr
  have u1 := ownsRow_turn hout q4 (fun g hg => by rintro (h | h | h); exact m1 (by rw [hg, h]); exact m2 (by rw [hg, h]); exact m6 g h hg)
  obtain ⟨ws', hws⟩ : ∃ x, x = wordEnd s ws bg i := ⟨_, rfl⟩
  rw [← hws] at q2
  have HWS := Lib.hid hws
  clear hws
  have hX2 := block_setCell q1 1 (.int .i64 (i : Int))
  have t2 : Turn (fun k => k = X) w1 (w1.setCell ⟨X, 1, none⟩ (.int .i64 (i : Int))) := (Turn.refl (fun k => k = X) w1).setCell (p := ⟨X, 1, none⟩) _ (fun _ => rfl)
  have x2 := (t2.block bx (block_lt x1) hbxX).trans x1
  have o2 := (t2.block bo (block_lt o1) hboX).trans o1
  have r2 := (t2.block br (block_lt r1) hbrX).trans r1
  have b2 := (t2.block bb (block_lt q3) hbX).trans q3
  obtain ⟨ao, cap0, hv', hvX'⟩ := own_form q2 q1 (by decide)
  have n4 : v'.ownBlock ≠ some bx := by obtain ⟨_, _, _, h⟩ := own_form q2 x1 (by decide); exact h
  have n5 : v'.ownBlock ≠ some br := by obtain ⟨_, _, _, h⟩ := own_form q2 r1 (by decide); exact h
  have v2 := ownsRow_turn q2 t2 (fun g hg e => hvX' (by rw [hg, e]))
  have u2 := ownsRow_turn u1 t2 (fun g hg e => m2 (by rw [hg, e]))
  have cx1 : w1.cell? ⟨bx, 0, none⟩ = some (.pointer (some ⟨X, 0, none⟩)) := cell_of_block x1 0
  have cX1 : w1.cell? ⟨X, 1, none⟩ = some (.int .i64 (en : Int)) := cell_of_block q1 1
  have fX1 : w1.frozen? ⟨X, 1, none⟩ = false := free_of_block q1 1
  have cX0 : w1.cell? ⟨X, 0, none⟩ = some v' := cell_of_block q1 0
  have cbo : w1.cell? ⟨bo, 0, none⟩ = some ov := cell_of_block o1 0
  rw [hv'] at cX0
  go_upto_region 2 with (fail)
  have tA : Turn (fun k => k = bb ∨ k = X ∨ k = bo ∨ k = bx ∨ k = br ∨ v.ownBlock = some k ∨ ov.ownBlock = some k) w (w1.setCell ⟨X, 1, none⟩ (.int .i64 (i : Int))) :=
    (q4.mono (G := fun k => k = bb ∨ k = X ∨ k = bo ∨ k = bx ∨ k = br ∨ v.ownBlock = some k ∨ ov.ownBlock = some k) (fun i _ h => by rcases h with h | h | h <;> simp [h])).trans2 t2 (fun i _ h => Or.inr (Or.inl h))
  generalize w1.setCell ⟨X, 1, none⟩ (.int .i64 (i : Int)) = W at *
  have cx2 : W.cell? ⟨bx, 0, none⟩ = some (.pointer (some ⟨X, 0, none⟩)) := cell_of_block x2 0
  have cX2 : W.cell? ⟨X, 0, none⟩ = some (.slice ao ws'.length cap0) := by rw [← hv']; exact cell_of_block hX2 0
  have cbo2 : W.cell? ⟨bo, 0, none⟩ = some ov := cell_of_block o2 0
  have HV := Lib.hid hv'
  clear hv' cx1 cX1 fX1 cX0 cbo x1 o1 r1 u1 q1 q2 q3 t2 cw hword
  by_cases h0 : 0 < ws'.length
  · have i1 : (0 : Int) < (ws'.length : Int) := by omega
    have hoe : outEnd outs ws' X = outs ++ [X] := if_pos h0
    have u5 := u2.alloc (.cells #[.pointer (some ⟨X, 0, none⟩)] 106)
    have hsW := tA.size
    have H := Lib.hid (And.intro x2 (And.intro o2 (And.intro r2 (And.intro b2 (And.intro v2 (And.intro tA (And.intro hX2 u2)))))))
    clear x2 o2 r2 b2 v2 tA hX2 u2
    go_wp2_with (at_builtin; refine wpList_append_own_at _ rfl _ _ 103 rfl B 106 i0 (.pointer none) 1 8 Tryz.underlying103 hi0 hz0 hz1 hz2 rfl (by decide) _ _ _ rfl u5 ⟨W.heap.size, 0, none⟩ 1 1 [.pointer (some ⟨X, 0, none⟩)] rfl rfl (cell_one_new _ _ _) (by intro u hu; simp at hu; rw [hu]; rfl) (by unfold maxLen; omega) (by omega) (by simp; omega) ?_)
    intro v'' w' own2 hgrow _ hat
    obtain ⟨x2, o2, r2, b2, v2, tA, hX2, u2⟩ := H.out
    have t3 := turn_of_grown hgrow
    have x3 := (t3.block bx (block_lt (block_alloc_old (o := .cells #[.pointer (some ⟨X, 0, none⟩)] 106) x2)) m5).trans (block_alloc_old x2)
    have o3 := (t3.block bo (block_lt (block_alloc_old (o := .cells #[.pointer (some ⟨X, 0, none⟩)] 106) o2)) m3).trans (block_alloc_old o2)
    have r3 := (t3.block br (block_lt (block_alloc_old (o := .cells #[.pointer (some ⟨X, 0, none⟩)] 106) r2)) m4).trans (block_alloc_old r2)
    have b3 := (t3.block bb (block_lt (block_alloc_old (o := .cells #[.pointer (some ⟨X, 0, none⟩)] 106) b2)) m1).trans (block_alloc_old b2)
    have X3 := (t3.block X (block_lt (block_alloc_old (o := .cells #[.pointer (some ⟨X, 0, none⟩)] 106) hX2)) m2).trans (block_alloc_old hX2)
    have v3 := ownsRow_turn (v2.alloc (.cells #[.pointer (some ⟨X, 0, none⟩)] 106)) t3 (fun g hg e => own_apart v2 u2 (by decide) hg e)
    obtain ⟨ao2, cap2, hv2, nbo⟩ := own_form own2 o3 (by decide)
    have nbr : v''.ownBlock ≠ some br := by obtain ⟨_, _, _, h⟩ := own_form own2 r3 (by decide); exact h
    have nbx : v''.ownBlock ≠ some bx := fun e => by
      rcases hat with h | h
      · exact m5 (h ▸ e)
      · rw [e] at h
        have := block_lt x2
        simp at h
        omega
    have oo : ∀ k, v''.ownBlock = some k → ov.ownBlock = some k ∨ w.heap.size ≤ k := fun k hk => by
      rcases hat with h | h
      · exact Or.inl (h ▸ hk)
      · rw [hk] at h
        simp at h
        exact Or.inr (by omega)
    have tB := (tA.alloc (.cells #[.pointer (some ⟨X, 0, none⟩)] 106)).trans2 t3 (fun k _ h => Or.inr (Or.inr (Or.inr (Or.inr (Or.inr (Or.inr h))))))
    have tC := tB.setCell (p := ⟨bo, 0, none⟩) v'' (fun _ => Or.inr (Or.inr (Or.inl rfl)))
    have t4 : Turn (fun k => k = bo) w' (w'.setCell ⟨bo, 0, none⟩ v'') := (Turn.refl (fun k => k = bo) w').setCell (p := ⟨bo, 0, none⟩) _ (fun _ => rfl)
    have x4 := (t4.block bx (block_lt x3) (fun e => hbox e.symm)).trans x3
    have o4 := block_setCell o3 0 v''
    have r4 := (t4.block br (block_lt r3) hbro).trans r3
    have b4 := (t4.block bb (block_lt b3) (fun e => hbob e.symm)).trans b3
    have X4 := (t4.block X (block_lt X3) (fun e => hboX e.symm)).trans X3
    have n6 : v'.ownBlock ≠ some bo := by obtain ⟨_, _, _, h⟩ := own_form v3 o3 (by decide); exact h
    have v4 := ownsRow_turn v3 t4 (fun g hg e => n6 (by rw [hg, e]))
    have u4 := ownsRow_turn own2 t4 (fun g hg e => nbo (by rw [hg, e]))
    have hpc : ptrCells outs ++ [.pointer (some ⟨X, 0, none⟩)] = ptrCells (outs ++ [X]) := by simp [ptrCells]
    have hln : outs.length + 1 = (outs ++ [X]).length := by simp
    rw [hpc, hln, ← hoe] at u4
    have cbo3 : w'.cell? ⟨bo, 0, none⟩ = some ov := cell_of_block o3 0
    have fbo3 : w'.frozen? ⟨bo, 0, none⟩ = false := free_of_block o3 0
    have cx3 : w'.cell? ⟨bx, 0, none⟩ = some (.pointer (some ⟨X, 0, none⟩)) := cell_of_block x3 0
    have fx3 : w'.frozen? ⟨bx, 0, none⟩ = false := free_of_block x3 0
    have cr3 : w'.cell? ⟨br, 0, none⟩ = some (.bool rs) := cell_of_block r3 0
    have fr3 : w'.frozen? ⟨br, 0, none⟩ = false := free_of_block r3 0
    have lx3 := block_lt x3
    have lr3 := block_lt r3
    have lo3' := block_lt o3
    have HH := Lib.hid (And.intro x4 (And.intro o4 (And.intro r4 (And.intro b4 (And.intro X4 (And.intro v4 (And.intro u4 tC)))))))
    clear x4 o4 r4 b4 X4 v4 u4 tC tB t3 x3 o3 r3 b3 X3 v3 own2 hgrow x2 o2 r2 b2 v2 tA hX2 u2 u5 t4 H cX2 cbo2 cx2 hat
    subst hv2
    have HQ := Lib.hid (And.intro q5 (And.intro oo (And.intro n4 (And.intro n5 (And.intro nbx nbr)))))
    have lo3 := lo3'
    clear q4 q5 oo n4 n5 nbx nbr nbo n1 n2 n3 n6 m1 m2 m3 m4 m5 m6 hown hout hb hx ht hX ho hr hw hi hpc hln hoe
    go_wp2_with fail
    go_end0
    obtain ⟨x4, o4, r4, b4, X4, v4, u4, tC⟩ := HH.out
    obtain ⟨q5, oo, n4, n5, nbx, nbr⟩ := HQ.out
    have hfin := ended_fin (s := s) (i := i) (rs := rs) X4 v4 o4 u4 x4 b4 r4 tC q5 oo hbxX hbxb hbox hbrX hbrb hbro hbrx n4 n5 nbx nbr
    have hs4 : (w'.setCell ⟨bo, 0, none⟩ (.slice ao2 (outs.length + 1) cap2)).heap.size = w'.heap.size := by simp [World.setCell]
    rw [hs4] at hfin
    exact ⟨rfl, v', .slice ao2 (outs.length + 1) cap2, w'.heap.size, by rw [← HWS.out]; exact hfin⟩
  · have i1 : ¬ (0 : Int) < (ws'.length : Int) := by omega
    have hoe : outEnd outs ws' X = outs := if_neg h0
    have fx : W.frozen? ⟨bx, 0, none⟩ = false := free_of_block x2 0
    have fr : W.frozen? ⟨br, 0, none⟩ = false := free_of_block r2 0
    have cr : W.cell? ⟨br, 0, none⟩ = some (.bool rs) := cell_of_block r2 0
    have hbxl := block_lt x2
    have hbrl := block_lt r2
    rw [← hoe] at u2
    have H := Lib.hid (ended_fin (s := s) (i := i) (rs := rs) hX2 v2 o2 u2 x2 b2 r2 tA q5 (fun k hk => Or.inl hk) hbxX hbxb hbox hbrX hbrb hbro hbrx n4 n5 m5 m4)
    clear x2 o2 r2 b2 v2 tA hX2 u2
    go_wp2_with fail
    go_end0
    exact ⟨rfl, v', ov, W.heap.size, by rw [← HWS.out]; exact H.out⟩
end Go.Proofs.YtbkpbcmjgbdbkaaGreatDoor
