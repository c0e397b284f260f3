/- The statements' own known settings, there and back. Conditions: Env, ErrType. -/
import Derived.Test.YtbkpbcmjgbdbkaaGreatDoorY3
namespace Go.Proofs.YtbkpbcmjgbdbkaaGreatDoor
open Go.RowKit Go.Lib
set_option linter.unusedVariables false
set_option linter.unusedSimpArgs false
set_option maxRecDepth 100000
set_option pp.maxSteps 2500

/-- Settings laid in a variable of their own. -/
theorem keep_cfg {w : World} {row : Array Value} (hs : row.size = 29) (h1 : ∀ u ∈ row.toList, u.oneCell' = true) : ∃ W', (storeCells ⟨w.heap.size, 0, none⟩ row.toList 0).run Tryz.prog (w.alloc (.cells (cfgZero 0) 29)) = .ok () W' ∧
    W'.heap[w.heap.size]? = some (.cells row 29 (0, 0)) ∧ Turn (fun _ => False) w W' := by
  have t1 := (Turn.refl (fun _ => False) w).alloc (.cells (cfgZero 0) 29)
  obtain ⟨a1, a2, a3⟩ := store_whole (block_alloc_new w (.cells (cfgZero 0) 29)) (cs := row) (by rw [hs]; rfl) h1
  exact ⟨_, a1, a2, t1.trans2 a3 (fun k hk e => by omega)⟩
theorem load_cfg {w : World} {C : Nat} {row : Array Value} (hs : row.size = 29) (h : w.heap[C]? = some (.cells row 29 (0, 0))) : (Instr.loadAt 29 (.pointer (some ⟨C, 0, none⟩))).run Tryz.prog w = .ok (.agg row) w := by
  refine loadAt_agg hs (agg29 w) (size29 w) (fun j u hj => ?_)
  rw [Nat.zero_add]
  exact (cell_of_block h j).trans (by rw [← Array.getElem?_toList]; exact hj)
theorem tens_one {w : World} {tv : Value} {l : List TenM} (h : TensIn w tv l) : tv.oneCell' = true := by
  obtain ⟨⟨ao, cap, h1, _⟩, _⟩ := h
  rw [h1]; rfl
theorem CfgIn.row {w : World} {c : Cfg} {v : Value} (h : CfgIn w c v) : ∃ row, v = .agg row ∧ row.size = 29 ∧ ∀ u ∈ row.toList, u.oneCell' = true := by
  obtain ⟨tv, l, h1, h2, h3, h4⟩ := h
  exact ⟨_, h1, cfgRow_size h2 tv, cfgRow_one _ (tens_one h3)⟩
theorem ErrType.turn {w w' : World} (h : ErrType w) (t : Turn (fun _ => False) w w') (h0 : 0 < w.heap.size) : ErrType w' := by
  unfold ErrType at *
  exact (cell_turn0 t h0 (fun h => h)).trans h
theorem Env.pos {w : World} (h : Env w) : 0 < w.heap.size := by have := h.six; omega
/-- A guarded load whose guard is met. -/
theorem wpList_load_met {P : Program} {ops : Array Oper} {rest : List Oper} {o : Oper} {a : Act} {w : World} {Q : Exit → Act → World → Prop} (hgd : Region.wanted o (yielded ops a.tmps) = true) (ty : TypeId) (x : Operand) (ho : o.op = .load ty x) (v : Value)
    (hl : (Instr.loadAt ty (a.eval x)).run P w = .ok v w) (h : wpList P ops Q rest (a.put o.dst v) w) : wpList P ops Q (o :: rest) a w :=
  wpList_step fun K hK => by
    rw [if_pos hgd]
    unfold Oper.wp execOp
    simp only [ho, Sem.run_bind, hl, Result.andThen_ok, Sem.run_pure]
    exact hK _ _ h
def knownC : Cfg := seatCfg [500, 3] 5
theorem known_ks : ∀ x ∈ [500, 3], x < 65536 := by decide
set_option maxHeartbeats 4000000 in
theorem known_any (w : World) (he : Env w) (hg : ErrType w) : Calls Tryz.prog 9 #[] w (BoolPost true w) := by
  have hp0 := he.pos
  have h17 := seat_cfg [500, 3] 5 (by decide) known_ks (.slice (some ⟨w.heap.size, 0, none⟩) 2 2) (w.alloc (.cells #[.int .u16 500, .int .u16 3] 42)) ⟨_, _, rfl, by decide, known_ks, fun i x hx => ⟨w.heap.size, 0, rfl, by simp, by
    match i, hx with
    | 0, hx => cases hx; exact cell_of_block (block_alloc_new _ _) 0
    | 1, hx => cases hx; exact cell_of_block (block_alloc_new _ _) 1⟩⟩
  have hrng : RngCfg knownC := seatCfg_rng known_ks 5
  have htl : (textL knownC).length ≤ 2200 := seatText_len known_ks 5
  have hback : configP ⟨(textL knownC).toArray⟩ = .ok knownC := back_ok [500, 3] 5 known_ks
  have hsm : SmallCfg knownC := seat_small [500, 3] 5 known_ks
  have t0 := (Turn.refl (fun _ => False) w).alloc (.cells #[.int .u16 500, .int .u16 3] 42)
  change Calls _ _ _ _ (fun e w' => ∃ v, e = .returned v ∧ CfgIn w' knownC v ∧ _) at h17
  generalize knownC = c at *
  have HP := Lib.hid (And.intro hrng (And.intro htl (And.intro hback hsm)))
  have HE := Lib.hid (And.intro he (And.intro hg t0))
  clear he hg t0 hrng htl hback hsm
  go_enter Tryz.func9, Tryz.ntmps9
  go_wp2_with fail
  refine h17.mono ?_
  rintro e w1 ⟨v1, rfl, hc1, t1⟩
  have t1 := HE.out.2.2.trans t1
  obtain ⟨row1, rfl, z1, o1⟩ := hc1.row
  obtain ⟨W1, st1, k1, s1⟩ := keep_cfg (w := w1) z1 o1
  have q1 := t1.trans s1
  have hc1 := hc1.turn s1
  have H1 := Lib.hid (And.intro hc1 (And.intro q1 k1))
  have i1 : (Tryz.prog.info? 29).map (·.size) = some row1.size := by rw [z1]; kernel_rfl
  have l1 := load_cfg z1 k1
  have h15 := text_cfg hc1 (HE.out.1.keep q1) HP.out.1 (by have := HP.out.2.1; omega)
  clear h17 hc1 t1 s1 q1 k1 o1
  go_wp2_with (first | (refine wpList_store_put rfl 29 _ _ rfl w1.heap.size 0 row1 rfl rfl i1 W1 st1 ?_) | (refine wpList_load_run rfl 29 _ rfl (.agg row1) l1 ?_))
  clear st1 l1 i1
  refine h15.mono ?_
  rintro e w2 ⟨rfl, t2⟩
  have q2 := H1.out.2.1.trans t2
  have h10 := parse_ok (c := c) (s := ⟨(textL c).toArray⟩) (by show (textL c).toArray.size ≤ _; simp; have := HP.out.2.1; omega) w2 (HE.out.1.keep q2) HP.out.2.2.1 HP.out.2.2.2
  have H2 := Lib.hid (And.intro t2 q2)
  clear h15 t2 q2
  go_wp2_with fail
  refine h10.mono ?_
  rintro e w3 ⟨v2, rfl, hc2, t3⟩
  have q3 := H2.out.1.trans t3
  obtain ⟨row2, rfl, z2, o2⟩ := hc2.row
  obtain ⟨W3, st2, k2, s2⟩ := keep_cfg (w := w3) z2 o2
  have p3 := q3.trans s2
  have i2 : (Tryz.prog.info? 29).map (·.size) = some row2.size := by rw [z2]; kernel_rfl
  have hc1 := H1.out.1.turn p3
  have hc2 := hc2.turn s2
  have r3 := H1.out.2.1.trans p3
  have k1 := (p3.block _ (block_lt H1.out.2.2) (fun h => h)).trans H1.out.2.2
  have h10b := parse_err (s := badText) (pl := 17) (by decide) W3 (HE.out.1.keep r3) badText_at
  have H3 := Lib.hid (And.intro hc1 (And.intro hc2 (And.intro r3 (And.intro k1 k2))))
  clear h10 t3 q3 o2 hc2 s2 p3 r3 k1 k2 hc1 H1 H2
  go_wp2_with (first | (refine wpList_store_put rfl 29 _ _ rfl w3.heap.size 0 row2 rfl rfl i2 W3 st2 ?_))
  clear st2 i2
  refine h10b.mono ?_
  rintro e w4 ⟨v3, pp, rfl, hc3, hpp, t4⟩
  obtain ⟨row3, rfl, z3, o3⟩ := hc3.row
  obtain ⟨W4, st4, k4, s4⟩ := keep_cfg (w := w4) z3 o3
  have q4 := t4.trans s4
  obtain ⟨hc1, hc2, r3, k1, k2⟩ := H3.out
  have hc1 := hc1.turn q4
  have hc2 := hc2.turn q4
  have r4 := r3.trans q4
  have k1 := (q4.block _ (block_lt k1) (fun h => h)).trans k1
  have k2 := (q4.block _ (block_lt k2) (fun h => h)).trans k2
  have hpp := (s4.block _ (block_lt hpp) (fun h => h)).trans hpp
  have h11 := told_err pp 17 60 W4 (HE.out.2.1.turn r4 hp0) hpp
  have i4 : (Tryz.prog.info? 29).map (·.size) = some row3.size := by rw [z3]; kernel_rfl
  have H4 := Lib.hid (And.intro hc1 (And.intro hc2 (And.intro r4 (And.intro k1 k2))))
  clear h10b t4 q4 hc1 hc2 hc3 r3 r4 k1 k2 hpp k4 s4 H3 z3 o3
  go_wp2_with (first | (refine wpList_store_put rfl 29 _ _ rfl w4.heap.size 0 row3 rfl rfl i4 W4 st4 ?_))
  clear st4 i4
  refine h11.mono ?_
  rintro e w5 ⟨rfl, t5⟩
  obtain ⟨hc1, hc2, r4, k1, k2⟩ := H4.out
  have h13 := hcfg_same (hc1.turn t5) (hc2.turn t5)
  have l1 := load_cfg z1 ((t5.block _ (block_lt k1) (fun h => h)).trans k1)
  have l2 := load_cfg z2 ((t5.block _ (block_lt k2) (fun h => h)).trans k2)
  have H5 := Lib.hid (r4.trans t5)
  clear h11 t5 hc1 hc2 r4 k1 k2 H4 z1 z2
  go_wp2_with (first | (refine wpList_load_met (by rfl) 29 _ rfl (.agg row1) l1 ?_) | (refine wpList_load_met (by rfl) 29 _ rfl (.agg row2) l2 ?_))
  refine h13.mono ?_
  rintro e w6 ⟨rfl, t6⟩
  have H6 := Lib.hid (H5.out.trans t6)
  clear h13 t6 l1 l2
  go_wp2_with fail
  go_ret
  exact ⟨rfl, H6.out⟩
end Go.Proofs.YtbkpbcmjgbdbkaaGreatDoor
