/- lang.Parse's deferred closure. No condition. -/
import Derived.Test.YtbkpbcmjgbdbkaaGreatDoorP3
import Derived.Defers
import Derived.Recover
namespace Go.Proofs.YtbkpbcmjgbdbkaaGreatDoor
open Go.RowKit Go.Lib
set_option linter.unusedVariables false
set_option linter.unusedSimpArgs false
set_option maxRecDepth 100000
set_option pp.maxSteps 3000

theorem catch_idle (p q : Addr) (w : World) :
    CallsD Tryz.prog 19 #[.pointer (some p), .pointer (some q)] .returning w fun e u' w' => e = .returned (.tuple #[]) ∧ u' = .returning ∧ w' = w := by
  refine callsD_of_wpS Tryz.func19 rfl fun c₀ cs hu => ?_
  apply wpS_seq
  apply wpS_region
  simp [wpOpsS, go_sem, recoverD, hu, Tryz.ntmps19, Exit.thenS]
  refine wpS_of_wp ?_
  have hb : ∀ w : World, (binOp BinOp.neq 20 .nilIface .nilIface).run Tryz.prog w = .ok (.bool false) w := fun _ => by kernel_rfl
  simp [Array.replicate]
  go_wp2_with fail
  cases c₀
  simp_all [bodyPostS, results, Tryz.results19]
/-- A row stored whole, as one operation. -/
theorem wp_store_put {P : Program} {o : Oper} {a : Act} {w : World} {K : Act → World → Prop} {Q : Exit → Act → World → Prop} (ty : TypeId) (x y : Operand) (ho : o.op = .store ty x y)
    (c k : Nat) (cells : Array Value) (hx : a.eval x = .pointer (some ⟨c, k, none⟩)) (hy : a.eval y = .agg cells) (hi : (P.info? ty).map (·.size) = some cells.size) (w' : World)
    (hst : (storeCells ⟨c, k, none⟩ cells.toList 0).run P w = .ok () w') (h : K (a.put o.dst undef) w') : o.wp P a w K Q := by
  unfold Oper.wp execOp
  have hv : (storeVar ty ⟨c, k, none⟩ (.agg cells)).run P w = .ok () w' := by
    cases hq : P.info? ty with
    | none => simp [hq] at hi
    | some i =>
      have hs : cells.size = i.size := by simp [hq] at hi; omega
      simp [storeVar, sizeOf, typeInfo, hq, Value.cells, hs, hst]
  simp only [ho, hx, hy, Instr.storeAt, Instr.sureAddr, Sem.run_bind, Sem.run_pure, Result.andThen_ok, hv]
  exact h
set_option maxHeartbeats 2000000 in
theorem catch_panicking (r x pp : Nat) (cs0 : Array Value) (v : Value) (w : World) (hr : w.heap[r]? = some (.cells cs0 29 (0, 0))) (hs : cs0.size = 29) (hx : w.heap[x]? = some (.cells #[v] 31 (0, 0))) :
    CallsD Tryz.prog 19 #[.pointer (some ⟨r, 0, none⟩), .pointer (some ⟨x, 0, none⟩)] (.panicking [{ v := .iface 60 (.agg #[.pointer (some ⟨pp, 0, none⟩)]), recovered := false }]) w fun e u' w' =>
      e = .returned (.tuple #[]) ∧ u' = .panicking [{ v := .iface 60 (.agg #[.pointer (some ⟨pp, 0, none⟩)]), recovered := true }] ∧ w'.heap[r]? = some (.cells (cfgZero 0) 29 (0, 0)) ∧ w'.heap[x]? = some (.cells #[.iface 58 (.pointer (some ⟨pp, 0, none⟩))] 31 (0, 0)) ∧ Turn (fun k => k = r ∨ k = x) w w' := by
  refine callsD_of_wpS Tryz.func19 rfl fun c₀ cs hu => ?_
  apply wpS_seq
  apply wpS_region
  simp [wpOpsS, go_sem, recoverD, hu, Tryz.ntmps19, Exit.thenS]
  refine wpS_of_wp ?_
  simp [Array.replicate]
  have hta : ∀ w : World, (Instr.typeAssert (.iface 60 (.agg #[.pointer (some ⟨pp, 0, none⟩)])) 20 60 true).run Tryz.prog w = .ok (.tuple #[.agg #[.pointer (some ⟨pp, 0, none⟩)], .bool true]) w := fun _ => by kernel_rfl
  go_wp2_with fail
  have r1 := block_alloc_old (o := .cells #[.pointer (some ⟨pp, 0, none⟩)] 60) hr
  have x1 := block_alloc_old (o := .cells #[.pointer (some ⟨pp, 0, none⟩)] 60) hx
  have n1 := block_alloc_new w (.cells #[.pointer (some ⟨pp, 0, none⟩)] 60)
  have t1 := (Turn.refl (fun k => k = r ∨ k = x) w).alloc (.cells #[.pointer (some ⟨pp, 0, none⟩)] 60)
  have hrx : r ≠ x := tag_ne hr hx (by decide)
  have hrn : w.heap.size ≠ r := by have := block_lt hr; omega
  have hrn2 : w.heap.size ≠ x := by have := block_lt hx; omega
  generalize w.alloc (.cells #[.pointer (some ⟨pp, 0, none⟩)] 60) = W at *
  obtain ⟨st, k2, t2⟩ := store_whole (W := W.drew) r1 (cs := cfgZero 0) (by rw [hs]; rfl) (by intro v hv; simp [cfgZero] at hv; rcases hv with rfl | rfl | rfl | rfl <;> rfl)
  have cn : W.drew.cell? ⟨w.heap.size, 0, none⟩ = some (.pointer (some ⟨pp, 0, none⟩)) := cell_of_block n1 0
  have hzv : ∀ w : World, (Instr.build 29 #[]).run Tryz.prog w = .ok (.agg (cfgZero 0)) w := fun _ => by kernel_rfl
  refine wp_region_held_drew (S := fun w' => w'.cell? ⟨w.heap.size, 0, none⟩ = some (.pointer (some ⟨pp, 0, none⟩))) (by kernel_rfl) cn (fun hHeld => ?_)
  refine wpAnyH_take (i := 0) (v := .agg (cfgZero 0)) rfl (by kernel_rfl) (by kernel_rfl) (by kernel_rfl) (fun _ _ _ h => h) (Or.inl ⟨by rfl, fun w' hS => by kernel_rfl⟩) hHeld ?_
  simp only [Act.put, List.setIfInBounds_toArray, List.set_cons_zero, List.set_cons_succ]
  refine wpAnyH_take (i := 1) (v := .pointer (some ⟨w.heap.size, 0, none⟩)) rfl (by kernel_rfl) (by kernel_rfl) (by kernel_rfl) (fun _ _ _ h => h) (Or.inl ⟨by rfl, fun w' hS => by kernel_rfl⟩) hHeld ?_
  simp only [Act.put, List.setIfInBounds_toArray, List.set_cons_zero, List.set_cons_succ]
  refine wpAnyH_take (i := 2) (v := .pointer (some ⟨pp, 0, none⟩)) rfl (by kernel_rfl) (by kernel_rfl) (by kernel_rfl) (fun _ _ _ h => h) (Or.inl ⟨by rfl, fun w' hS => ?_⟩) hHeld ?_
  · dsimp only at hS
    go_simp
  simp only [Act.put, List.setIfInBounds_toArray, List.set_cons_zero, List.set_cons_succ]
  refine wpAnyH_take (i := 3) (v := .iface 58 (.pointer (some ⟨pp, 0, none⟩))) rfl (by kernel_rfl) (by kernel_rfl) (by kernel_rfl) (fun _ _ _ h => h) (Or.inl ⟨by rfl, fun w' hS => by kernel_rfl⟩) hHeld ?_
  simp only [Act.put, List.setIfInBounds_toArray, List.set_cons_zero, List.set_cons_succ]
  refine wpAnyH_ready (rs := [4]) (by kernel_rfl) (by simp) ?_
  refine AllReadyH.cons rfl (fun K hK => ?_) AllReadyH.nil
  rw [if_pos (by rfl)]
  refine wp_store_put 29 _ _ rfl r 0 (cfgZero 0) rfl rfl (by kernel_rfl) _ st ?_
  have cn2 : (W.drew.setRow r (cfgZero 0)).cell? ⟨w.heap.size, 0, none⟩ = some (.pointer (some ⟨pp, 0, none⟩)) := (World.cell?_of_block (t2.block w.heap.size (block_lt (w := W.drew) n1) hrn)).trans cn
  have x2 : (W.drew.setRow r (cfgZero 0)).heap[x]? = some (.cells #[v] 31 (0, 0)) := (t2.block x (block_lt (w := W.drew) x1) (Ne.symm hrx)).trans x1
  have t3 : Turn (fun k => k = r ∨ k = x) w (W.drew.setRow r (cfgZero 0)) := t1.drew.trans2 t2 (fun _ _ e => Or.inl e)
  refine hK.out _ _ cn2 (fun _ => ?_)
  clear hK K st t2
  generalize W.drew.setRow r (cfgZero 0) = W2 at *
  simp only [Act.put]
  refine wpAnyH_ready (rs := [5]) (by kernel_rfl) (by simp) ?_
  refine AllReadyH.cons rfl (fun K hK => ?_) AllReadyH.nil
  rw [if_pos (by rfl)]
  have cx := cell_of_block x2 0
  have fx := free_of_block x2 0
  go_simp
  have t4 : Turn (fun k => k = x) W2 (W2.setCell ⟨x, 0, none⟩ (.iface 58 (.pointer (some ⟨pp, 0, none⟩)))) := (Turn.refl (fun k => k = x) W2).setCell (p := ⟨x, 0, none⟩) _ (fun _ => rfl)
  have nl := Nat.lt_of_lt_of_le (block_lt n1) (Nat.le_of_eq (rfl : W.heap.size = W.drew.heap.size))
  refine hK.out _ _ ?_ (fun _ => ?_)
  · rw [World.cell?_setCell_other _ _ _ _ (by simp [hrn2])]; exact cn2
  clear hK K
  try simp only [Act.put]
  refine wpAnyH_done (by kernel_rfl) ?_ _
  have kr := (t4.block r (block_lt k2) hrx).trans k2
  have kx := block_setCell x2 0 (.iface 58 (.pointer (some ⟨pp, 0, none⟩)))
  have t5 := t3.trans2 t4 (fun _ _ e => Or.inr e)
  generalize W2.setCell ⟨x, 0, none⟩ (.iface 58 (.pointer (some ⟨pp, 0, none⟩))) = W3 at *
  have HF := Lib.hid (And.intro kr (And.intro kx t5))
  clear kr kx t5 t4 cx fx cn2 k2 x2 t3 hHeld cn n1 r1 x1 t1
  go_wp2_with fail
  exact ⟨rfl, _, rfl, .tuple #[], by simp [results, Tryz.results19], rfl, rfl, HF.out.1, HF.out.2.1, HF.out.2.2⟩
theorem results_two (tmps : Array Value) (W : World) (r x : Nat) (cs : Array Value) (v : Value) (h2 : tmps[2]?.getD undef = .pointer (some ⟨r, 0, none⟩)) (h3 : tmps[3]?.getD undef = .pointer (some ⟨x, 0, none⟩)) (hr : W.heap[r]? = some (.cells cs 29 (0, 0))) (hs : cs.size = 29) (hx : W.heap[x]? = some (.cells #[v] 31 (0, 0))) (hv : v.oneCell' = true) :
    (results Tryz.f10 tmps).run Tryz.prog W = .ok (.tuple #[.agg cs, v]) W := by
  have hl := run_loadVar_row (P := Tryz.prog) W r 29 29 cs (0, 0) _ hr Tryz.underlying29 rfl (by rw [hs]; kernel_rfl)
  have cx : W.cell? ⟨x, 0, none⟩ = some v := cell_of_block hx 0
  have hl2 : (loadVar 31 ⟨x, 0, none⟩).run Tryz.prog W = .ok v W := by
    simp [go_sem, cx]
  have ha : ∀ b : Nat, (asAddr (.pointer (some ⟨b, 0, none⟩))).run Tryz.prog W = .ok ⟨b, 0, none⟩ W := fun _ => rfl
  simp only [results, Tryz.results10]
  simp [h2, h3, ha, hl, hl2]
/-- The error of a text that was refused at a place. -/
def errV (pp : Nat) : Value := .iface 58 (.pointer (some ⟨pp, 0, none⟩))
def ParsePost (r : Except Nat Cfg) (w : World) (e : Ending) (w' : World) : Prop := match r with
  | .error pl => ∃ pp, e = .returned (.tuple #[.agg (cfgZero 0), errV pp]) ∧ w'.heap[pp]? = some (.cells #[.int .i64 (pl : Int), .int .i64 60] 67 (0, 0)) ∧ Turn (fun _ => False) w w'
  | .ok c => ∃ tv l, e = .returned (.tuple #[.agg (cfgRow c tv), .nilIface]) ∧ TensAt w' w.heap.size tv l ∧ l.map (·.1) = c.tens ∧ WfCfg c ∧ Turn (fun _ => False) w w'
set_option maxHeartbeats 2000000 in
theorem parse_any (s : ByteArray) (hs : s.size ≤ 100000) (w : World) (he : Env w) : Calls Tryz.prog 10 #[.string s] w (ParsePost (configP s) w) := by
  have hmf : ∀ (fn : Fn) (first cap : Array Value) (w : World), (Instr.makeFunc fn first cap).run Tryz.prog w = .ok (.func fn first cap) w := fun _ _ _ _ => rfl
  have t0 := ((Turn.refl (fun _ => False) w).alloc (.cells (cfgZero 0) 29)).alloc (.cells #[.nilIface] 31)
  have b1 := block_alloc_old (o := .cells #[.nilIface] 31) (block_alloc_new w (.cells (cfgZero 0) 29))
  have b2 := block_alloc_new (w.alloc (.cells (cfgZero 0) 29)) (.cells #[.nilIface] 31)
  have hsz : (w.alloc (.cells (cfgZero 0) 29)).heap.size = w.heap.size + 1 := by simp
  rw [hsz] at b2
  have hconf := config_any s hs _ (he.keep t0)
  have HC := Lib.hid (And.intro hconf (And.intro t0 (And.intro b1 b2)))
  clear hconf t0 b1 b2
  go_enter_defers Tryz.func10, Tryz.ntmps10
  go_wp2_with fail
  obtain ⟨hconf, t0, b1, b2⟩ := HC.out
  refine hconf.mono ?_
  intro e w1 h1
  clear hconf
  rcases except_cases (configP s) with ⟨pl, r1⟩ | ⟨c, r1⟩
  · rw [r1] at h1 ⊢
    obtain ⟨pp, rfl, f1, f2, f3⟩ := h1
    have k1 := (f3.block _ (block_lt b1) (fun h => h)).trans b1
    have k2 := (f3.block _ (block_lt b2) (fun h => h)).trans b2
    have t1 := t0.trans f3
    have hpp : w.heap.size + 1 < pp := by have := block_lt b2; omega
    refine leaves_cons (f := 19) (args := #[.pointer (some ⟨w.heap.size, 0, none⟩), .pointer (some ⟨w.heap.size + 1, 0, none⟩)]) (by simp) (by simp [go_sem]) ?_
    refine (catch_panicking w.heap.size (w.heap.size + 1) pp _ .nilIface w1 k1 rfl k2).mono ?_
    rintro e u' w2 ⟨rfl, rfl, q1, q2, q3⟩
    refine ⟨_, results_two _ w2 w.heap.size (w.heap.size + 1) _ _ rfl rfl q1 rfl q2 rfl, pp, rfl, (q3.block pp (block_lt f1) (by omega)).trans f1, t1.trans2 q3 (fun i hi e => by omega)⟩
  · rw [r1] at h1 ⊢
    obtain ⟨tv, l, rfl, h2, h3, h4, h5⟩ := h1
    have k1 := (h5.block _ (block_lt b1) (fun h => h)).trans b1
    have k2 := (h5.block _ (block_lt b2) (fun h => h)).trans b2
    have hsz2 : ((w.alloc (.cells (cfgZero 0) 29)).alloc (.cells #[.nilIface] 31)).heap.size = w.heap.size + 2 := by simp
    rw [hsz2] at h2
    have t1 := t0.trans h5
    obtain ⟨ao, cp, htv, _⟩ := own_form h2.row k1 (by decide)
    have htv1 : tv.oneCell' = true := by rw [htv]; rfl
    have z29 := cfgRow_size h4 tv
    obtain ⟨st, k3, t2⟩ := store_whole k1 (cs := cfgRow c tv) (by rw [z29]; rfl) (cfgRow_one _ htv1)
    have hi29 : (Tryz.prog.info? 29).map (·.size) = some (cfgRow c tv).size := by rw [z29]; kernel_rfl
    have k4 := (t2.block _ (block_lt k2) (by omega)).trans k2
    have h6 := h2.low t2 (fun k e => by omega)
    have t3 : Turn (fun _ => False) w (w1.setRow w.heap.size (cfgRow c tv)) := t1.trans2 t2 (fun i hi e => by omega)
    have c4 := cell_of_block k4 0
    have f4 := free_of_block k4 0
    have HZ := Lib.hid (And.intro k3 (And.intro k4 (And.intro h6 (And.intro t3 (And.intro h3 h4)))))
    clear htv h2 h3 h4 h5 b1 b2 t0 t1 k1 k2 k3 k4 t2 h6 t3 HC hsz hsz2 he
    have HR1 := Lib.hid r1
    clear r1
    go_wp2_with (refine wpList_store_put rfl 29 _ _ rfl w.heap.size 0 (cfgRow c tv) rfl rfl hi29 _ st ?_)
    obtain ⟨k3, k4, h6, t3, h3, h4⟩ := HZ.out
    have t4 : Turn (fun k => k = w.heap.size + 1) (w1.setRow w.heap.size (cfgRow c tv)) ((w1.setRow w.heap.size (cfgRow c tv)).setCell ⟨w.heap.size + 1, 0, none⟩ .nilIface) := (Turn.refl (fun k => k = w.heap.size + 1) _).setCell (p := ⟨w.heap.size + 1, 0, none⟩) _ (fun _ => rfl)
    have k5 := block_setCell k4 0 .nilIface
    have k6 := (t4.block _ (block_lt k3) (by omega)).trans k3
    have h7 := h6.low t4 (fun k e => by omega)
    have t5 := t3.trans2 t4 (F := fun _ => False) (fun i hi e => by omega)
    refine leaves_cons (f := 19) (args := #[.pointer (some ⟨w.heap.size, 0, none⟩), .pointer (some ⟨w.heap.size + 1, 0, none⟩)]) (by simp) (by simp [go_sem]) ?_
    refine (catch_idle ⟨w.heap.size, 0, none⟩ ⟨w.heap.size + 1, 0, none⟩ _).mono ?_
    rintro e u' w2 ⟨rfl, rfl, rfl⟩
    refine ⟨_, results_two _ _ w.heap.size (w.heap.size + 1) _ _ rfl rfl k6 z29 k5 rfl, ?_⟩
    rw [HR1.out]
    exact ⟨tv, l, rfl, h7.mono (by omega), h3, h4, t5⟩
end Go.Proofs.YtbkpbcmjgbdbkaaGreatDoor
