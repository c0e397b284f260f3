/- The reference's line: a tenant; any line. Conditions: Env; lengths. The reference's line: a tenant; any line. Conditions: Env; lengths. The reference's line: any line. Conditions: Env; lengths. -/
import Derived.Test.YtbkpbcmjgbdbkaaGreatDoorX3
import Derived.Test.YtbkpbcmjgbdbkaaGreatDoorF3
import Derived.Deep.AppendLies
import Derived.Test.YtbkpbcmjgbdbkaaGreatDoorMI
/-! X8 -/
namespace Go.Proofs.YtbkpbcmjgbdbkaaGreatDoor
open Go.RowKit Go.Lib
set_option linter.unusedVariables false
set_option linter.unusedSimpArgs false
set_option maxRecDepth 100000
set_option pp.maxSteps 2500

/-- A row loaded whole, in a region that draws its order. -/
theorem step_load_row {P : Program} {w : World} {ops : Array Oper} {o : Oper} {a : Act} {K : Act → World → Prop} {Q : Exit → Act → World → Prop} {E : Prop} (hgd : o.guard = none) (ty : TypeId) (x : Operand) (ho : o.op = .load ty x)
    (g : Nat) (hx : a.eval x = .pointer (some ⟨g, 0, none⟩)) (t : TypeId) (cs : Array Value) (fr : Nat × Nat) (d : TypeDesc) (hg : w.heap[g]? = some (.cells cs t fr))
    (hu : P.underlying ty = some d) (hd : (match d with | .struct _ | .array _ _ => true | _ => false) = true) (hi : (P.info? ty).map (·.size) = some cs.size)
    (h : K (a.put o.dst (.agg cs)) w) : if Region.wanted o (yielded ops a.tmps) = true then Oper.wp P o a w K Q else E := by
  have hw : Region.wanted o (yielded ops a.tmps) = true := by simp [Region.wanted, hgd]
  rw [if_pos hw]
  exact wp_load_row ty x ho g hx t cs fr d hg hu hd hi h
theorem exec_load_row {P : Program} {w : World} {o : Oper} {ρ : Operand → Value} (ty : TypeId) (x : Operand) (ho : o.op = .load ty x) (g : Nat) (hx : ρ x = .pointer (some ⟨g, 0, none⟩)) (t : TypeId) (cs : Array Value) (fr : Nat × Nat) (d : TypeDesc) (hg : w.heap[g]? = some (.cells cs t fr))
    (hu : P.underlying ty = some d) (hd : (match d with | .struct _ | .array _ _ => true | _ => false) = true) (hi : (P.info? ty).map (·.size) = some cs.size) : (execOp ρ o).run P w = .ok (.value (.agg cs)) w := by
  unfold execOp
  simp only [ho, hx, Instr.loadAt, Instr.sureAddr, Sem.run_bind, Sem.run_pure, Result.andThen_ok, run_loadVar_row w g t ty cs fr d hg hu hd hi]
/-- A tenant in the making: its block T, beside the line. -/
structure TSt (w0 : World) (b g cap : Nat) (L : List Wd) (en : Nat) (st : Except Nat Nat) (T : Nat) (cs : Array Value) (W : World) : Prop where
  line : RefIs W b g cap L en st
  turn : Turn (fun k => k = b) w0 W
  blk : W.heap[T]? = some (.cells cs 45 (0, 0))
  size : cs.size = 33
  fresh : w0.heap.size ≤ T
  bT : b < w0.heap.size
  gT : g < w0.heap.size
section
variable {w0 W W' : World} {lo b g cap en T C : Nat} {L : List Wd} {st st' : Except Nat Nat} {cs : Array Value} {c : Cfg} {tv tv' : Value} {l : List TenM} {t : Ten}
theorem TSt.start (h : RefIs w0 b g cap L en st) {cs : Array Value} (hs : cs.size = 33) (hT : w0.heap.size = T) : TSt w0 b g cap L en st T cs (w0.alloc (.cells cs 45)) :=
  ⟨h.turn ((Turn.refl (fun _ => False) w0).alloc _) (fun h => h) (fun h => h), (Turn.refl _ w0).alloc _, by rw [← hT]; exact block_alloc_new _ _, hs, by omega, h.lt, h.glt⟩
theorem TSt.call (h : TSt w0 b g cap L en st T cs W) (hl : RefIs W' b g cap L en st') (tn : Turn (fun k => k = b) W W') : TSt w0 b g cap L en st' T cs W' :=
  ⟨hl, h.turn.trans2 tn (fun _ _ e => e), (tn.block T (block_lt h.blk) (fun e => by have := h.fresh; have := h.bT; omega)).trans h.blk, h.size, h.fresh, h.bT, h.gT⟩
theorem TSt.quiet (h : TSt w0 b g cap L en st T cs W) (tn : Turn (fun _ => False) W W') : TSt w0 b g cap L en st T cs W' :=
  h.call (h.line.turn tn (fun h => h) (fun h => h)) (tn.mono (fun _ _ h => h.elim))
theorem TSt.cell (h : TSt w0 b g cap L en st T cs W) {j : Nat} (hj : j < 33) : ∃ v, W.cell? ⟨T, j, none⟩ = some v :=
  ⟨_, (cell_of_block h.blk j).trans (Array.getElem?_eq_getElem (by rw [h.size]; exact hj))⟩
theorem TSt.free (h : TSt w0 b g cap L en st T cs W) (j : Nat) : W.frozen? ⟨T, j, none⟩ = false := free_of_block h.blk j
theorem TSt.put (h : TSt w0 b g cap L en st T cs W) (j : Nat) (u : Value) : TSt w0 b g cap L en st T (cs.setIfInBounds j u) (W.setCell ⟨T, j, none⟩ u) := by
  have tn : Turn (fun k => k = T) W (W.setCell ⟨T, j, none⟩ u) := (Turn.refl (fun k => k = T) W).setCell (p := ⟨T, j, none⟩) u (fun _ => rfl)
  have h1 := h.fresh
  have h2 := h.bT
  have h3 := h.gT
  exact ⟨h.line.turn tn (by omega) (by omega), h.turn.trans2 tn (fun k hk e => by omega), block_setCell h.blk _ _, by rw [Array.size_setIfInBounds]; exact h.size, h1, h2, h3⟩
theorem TSt.row (h : TSt w0 b g cap L en st T cs W) (o : Nat) (vs : List Value) (ho : o + vs.length ≤ 33) (h1 : ∀ v ∈ vs, v.oneCell' = true) :
    (storeCells ⟨T, o, none⟩ vs 0).run Tryz.prog W = .ok () (W.setRow T (rowPut cs o vs)) ∧ TSt w0 b g cap L en st T (rowPut cs o vs) (W.setRow T (rowPut cs o vs)) := by
  have h0 := h.size
  refine ⟨run_storeCells_at (P := Tryz.prog) T o 45 vs 0 cs W h.blk (by omega) h1, ?_⟩
  have tn := turn_setRow W T (rowPut cs o vs)
  have h3 := h.fresh
  have h4 := h.bT
  have h5 := h.gT
  exact ⟨h.line.turn tn (by omega) (by omega), h.turn.trans2 tn (fun k hk e => by omega), setRow_heap W T cs _ 45 (0, 0) h.blk, (rowPut_size (by omega)).trans h0, h3, h4, h5⟩
/-- A tenant laid behind the others. -/
theorem RLine.tenant (h : RLine W lo b g cap L en st C c tv l) (hw : WfTen t) (h1 : t.pool = []) (h2 : t.statics = []) (h3 : t.twices = [])
    (hown : W'.ownsRow lo 45 33 tv' (l.length + 1) (tensCells l ++ (tenRow t (.slice none 0 0) (.slice none 0 0) (.slice none 0 0)).toList)) (tn : Turn (fun k => tv.ownBlock = some k) W W') :
    RLine (W'.setCell ⟨C, 28, none⟩ tv') lo b g cap L en st C { c with tens := c.tens ++ [t] } tv' (l ++ [(t, .slice none 0 0, .slice none 0 0, .slice none 0 0)]) ∧ W'.cell? ⟨C, 28, none⟩ = some tv ∧ W'.frozen? ⟨C, 28, none⟩ = false ∧
      Turn (fun k => k = C ∨ lo ≤ k) W (W'.setCell ⟨C, 28, none⟩ tv') := by
  have hC : tv.ownBlock ≠ some C := by obtain ⟨_, _, _, hne⟩ := own_form h.tens.row h.cel (by decide); exact hne
  obtain ⟨gs, hg⟩ := h.gty
  obtain ⟨bs, hb⟩ := h.line.bty
  have hbo : tv.ownBlock ≠ some b := by obtain ⟨_, _, _, hne⟩ := own_form h.tens.row hb (by decide); exact hne
  have hgo : tv.ownBlock ≠ some g := by obtain ⟨_, _, _, hne⟩ := own_form h.tens.row hg (by decide); exact hne
  have hgC : g ≠ C := tag_ne hg h.cel (by decide)
  have hbC : b ≠ C := tag_ne hb h.cel (by decide)
  have hlow : ∀ k, tv.ownBlock = some k → lo ≤ k := fun k hk => own1_low h.tens.row hk
  have cel' : W'.heap[C]? = some (.cells (cfgRow c tv) 29 (0, 0)) := (tn.block C (block_lt h.cel) hC).trans h.cel
  have t2 : Turn (fun k => k = C) W' (W'.setCell ⟨C, 28, none⟩ tv') := (Turn.refl (fun k => k = C) W').setCell (p := ⟨C, 28, none⟩) _ (fun _ => rfl)
  have t4 : Turn (fun k => k = C ∨ tv.ownBlock = some k) W (W'.setCell ⟨C, 28, none⟩ tv') := (tn.mono (fun k _ e => Or.inr e)).trans2 t2 (fun k _ e => Or.inl e)
  have t3 : Turn (fun k => k = C ∨ lo ≤ k) W (W'.setCell ⟨C, 28, none⟩ tv') := t4.mono (fun k _ e => e.imp id (hlow k))
  have ht := (h.tens.snoc hw h1 h2 h3 hown tn).other cel' (by decide) (by decide) (by decide) t2
  have h7 := h.lo7
  have hC7 := h.C7
  refine ⟨⟨h.line.turn t4 (by rintro (e | e); exact hbC e; exact hbo e) (by rintro (e | e); exact hgC e; exact hgo e), ⟨gs, (t4.block g (block_lt hg) (by rintro (e | e); exact hgC e; exact hgo e)).trans hg⟩, h.env.turn t3 (fun i hi e => by omega), ?_, h.wfc, ht, by rw [List.map_append, h.eqt]; rfl, h.lo7, h.C7, Nat.le_trans h.low t3.size, h.g7⟩, (cell_of_block cel' 28).trans (cfgRow_get h.wfc tv), free_of_block cel' 28, t3⟩
  rw [← cfgRow_set h.wfc tv tv' (c.tens ++ [t])]
  exact block_setCell cel' 28 tv'
end
/-- What a tenant's first line comes to, behind its name. -/
def tenRest (s : ByteArray) (L : List Wd) (en n : Nat) : Except Nat (Ten × Nat) := do
  let n ← mustP vniName L en n
  let (v, n) ← readP (fun l => numOf l 16777215) L en n
  let n ← mustP keyName L en n
  let (k, n) ← readP keyOf L en n
  let n ← mustP vtepName L en n
  let (p, n) ← readP ipOf L en n
  let (m, n) ← readP macOf L en n
  let n ← mustP hostName L en n
  let (h, n) ← readP macOf L en n
  .ok (⟨s, v, k, p, m, h, [], 0, 0, 0, [], [], 0, 0, 0, 0⟩, n)
def TenD (L : List Wd) (en : Nat) (s : ByteArray) : Except Nat Nat → Prop
  | .ok n => tenantP L en 1 = tenRest s L en n
  | .error pl => tenantP L en 1 = .error pl
theorem tenD_err {L : List Wd} {en pl : Nat} {s : ByteArray} (h : nextP L en 1 = .error pl) : TenD L en s (.error pl) := by
  show tenantP L en 1 = .error pl
  simp [tenantP, h, bind, Except.bind]
theorem tenD_bad {L : List Wd} {en a n : Nat} {s : ByteArray} (h : nextP L en 1 = .ok ((s, a), n)) (hn : nameOf s.data.toList = false) : TenD L en s (.error a) := by
  show tenantP L en 1 = .error a
  simp [tenantP, h, hn, bind, Except.bind]
theorem tenD_ok {L : List Wd} {en a n : Nat} {s : ByteArray} (h : nextP L en 1 = .ok ((s, a), n)) (hn : nameOf s.data.toList = true) : TenD L en s (.ok n) := by
  show tenantP L en 1 = tenRest s L en n
  simp only [tenantP, h, hn, if_true, bind, Except.bind]
  rfl
theorem tenS_is {L : List Wd} {en : Nat} {s : ByteArray} {s2 s3 s4 s5 s6 s7 s8 s9 s10 s11 : Except Nat Nat} {v p : Nat} {K M H : List Nat} (hD : TenD L en s s2)
    (e3 : s3 = mustS vniName s2 L en) (e4 : s4 = (readS (fun l => numOf l 16777215) s3 L en).map (·.2)) (v4 : ∀ x m, readS (fun l => numOf l 16777215) s3 L en = .ok (x, m) → x = v)
    (e5 : s5 = mustS keyName s4 L en) (e6 : s6 = (readS keyOf s5 L en).map (·.2)) (v6 : ∀ x m, readS keyOf s5 L en = .ok (x, m) → x = K)
    (e7 : s7 = mustS vtepName s6 L en) (e8 : s8 = (readS ipOf s7 L en).map (·.2)) (v8 : ∀ x m, readS ipOf s7 L en = .ok (x, m) → x = p)
    (e9 : s9 = (readS macOf s8 L en).map (·.2)) (v9 : ∀ x m, readS macOf s8 L en = .ok (x, m) → x = M)
    (e10 : s10 = mustS hostName s9 L en) (e11 : s11 = (readS macOf s10 L en).map (·.2)) (v11 : ∀ x m, readS macOf s10 L en = .ok (x, m) → x = H) :
    s11 = (tenantP L en 1).map (·.2) ∧ ∀ t m, tenantP L en 1 = .ok (t, m) → t = ⟨s, v, K, p, M, H, [], 0, 0, 0, [], [], 0, 0, 0, 0⟩ := by
  have E : ∀ pl : Nat, tenantP L en 1 = .error pl → s11 = .error pl → s11 = (tenantP L en 1).map (·.2) ∧ ∀ t m, tenantP L en 1 = .ok (t, m) → t = ⟨s, v, K, p, M, H, [], 0, 0, 0, [], [], 0, 0, 0, 0⟩ := fun pl h1 h2 => by
    rw [h1, h2]; exact ⟨rfl, fun t m h => by cases h⟩
  have mE : ∀ (x : ByteArray) (pl : Nat), mustS x (.error pl) L en = .error pl := fun _ _ => rfl
  cases s2 with
  | error pl =>
    refine E pl hD ?_
    subst e3; subst e4; subst e5; subst e6; subst e7; subst e8; subst e9; subst e10; subst e11
    rfl
  | ok n2 =>
    have hD : tenantP L en 1 = tenRest s L en n2 := hD
    have e3 : s3 = mustP vniName L en n2 := e3
    rcases except_cases (mustP vniName L en n2) with ⟨pl, r3⟩ | ⟨n3, r3⟩
    · rw [r3] at e3
      refine E pl (by rw [hD]; simp only [tenRest, r3, bind, Except.bind]) ?_
      subst e3; subst e4; subst e5; subst e6; subst e7; subst e8; subst e9; subst e10; subst e11
      rfl
    rw [r3] at e3
    subst e3
    have e4 : s4 = (readP (fun l => numOf l 16777215) L en n3).map (·.2) := e4
    have v4 : ∀ x m, readP (fun l => numOf l 16777215) L en n3 = .ok (x, m) → x = v := v4
    rcases except_cases (readP (fun l => numOf l 16777215) L en n3) with ⟨pl, r4⟩ | ⟨⟨a4, n4⟩, r4⟩
    · rw [r4] at e4
      refine E pl (by rw [hD]; simp only [tenRest, r3, r4, bind, Except.bind]) ?_
      subst e4; subst e5; subst e6; subst e7; subst e8; subst e9; subst e10; subst e11
      rfl
    obtain rfl := v4 a4 n4 r4
    rw [r4] at e4
    subst e4
    have e5 : s5 = mustP keyName L en n4 := e5
    rcases except_cases (mustP keyName L en n4) with ⟨pl, r5⟩ | ⟨n5, r5⟩
    · rw [r5] at e5
      refine E pl (by rw [hD]; simp only [tenRest, r3, r4, r5, bind, Except.bind]) ?_
      subst e5; subst e6; subst e7; subst e8; subst e9; subst e10; subst e11
      rfl
    rw [r5] at e5
    subst e5
    have e6 : s6 = (readP keyOf L en n5).map (·.2) := e6
    have v6 : ∀ x m, readP keyOf L en n5 = .ok (x, m) → x = K := v6
    rcases except_cases (readP keyOf L en n5) with ⟨pl, r6⟩ | ⟨⟨a6, n6⟩, r6⟩
    · rw [r6] at e6
      refine E pl (by rw [hD]; simp only [tenRest, r3, r4, r5, r6, bind, Except.bind]) ?_
      subst e6; subst e7; subst e8; subst e9; subst e10; subst e11
      rfl
    obtain rfl := v6 a6 n6 r6
    rw [r6] at e6
    subst e6
    have e7 : s7 = mustP vtepName L en n6 := e7
    rcases except_cases (mustP vtepName L en n6) with ⟨pl, r7⟩ | ⟨n7, r7⟩
    · rw [r7] at e7
      refine E pl (by rw [hD]; simp only [tenRest, r3, r4, r5, r6, r7, bind, Except.bind]) ?_
      subst e7; subst e8; subst e9; subst e10; subst e11
      rfl
    rw [r7] at e7
    subst e7
    have e8 : s8 = (readP ipOf L en n7).map (·.2) := e8
    have v8 : ∀ x m, readP ipOf L en n7 = .ok (x, m) → x = p := v8
    rcases except_cases (readP ipOf L en n7) with ⟨pl, r8⟩ | ⟨⟨a8, n8⟩, r8⟩
    · rw [r8] at e8
      refine E pl (by rw [hD]; simp only [tenRest, r3, r4, r5, r6, r7, r8, bind, Except.bind]) ?_
      subst e8; subst e9; subst e10; subst e11
      rfl
    obtain rfl := v8 a8 n8 r8
    rw [r8] at e8
    subst e8
    have e9 : s9 = (readP macOf L en n8).map (·.2) := e9
    have v9 : ∀ x m, readP macOf L en n8 = .ok (x, m) → x = M := v9
    rcases except_cases (readP macOf L en n8) with ⟨pl, r9⟩ | ⟨⟨a9, n9⟩, r9⟩
    · rw [r9] at e9
      refine E pl (by rw [hD]; simp only [tenRest, r3, r4, r5, r6, r7, r8, r9, bind, Except.bind]) ?_
      subst e9; subst e10; subst e11
      rfl
    obtain rfl := v9 a9 n9 r9
    rw [r9] at e9
    subst e9
    have e10 : s10 = mustP hostName L en n9 := e10
    rcases except_cases (mustP hostName L en n9) with ⟨pl, r10⟩ | ⟨n10, r10⟩
    · rw [r10] at e10
      refine E pl (by rw [hD]; simp only [tenRest, r3, r4, r5, r6, r7, r8, r9, r10, bind, Except.bind]) ?_
      subst e10; subst e11
      rfl
    rw [r10] at e10
    subst e10
    have e11 : s11 = (readP macOf L en n10).map (·.2) := e11
    have v11 : ∀ x m, readP macOf L en n10 = .ok (x, m) → x = H := v11
    rcases except_cases (readP macOf L en n10) with ⟨pl, r11⟩ | ⟨⟨a11, n11⟩, r11⟩
    · rw [r11] at e11
      refine E pl (by rw [hD]; simp only [tenRest, r3, r4, r5, r6, r7, r8, r9, r10, r11, bind, Except.bind]) ?_
      subst e11
      rfl
    obtain rfl := v11 a11 n11 r11
    have hR : tenantP L en 1 = .ok (⟨s, a4, a6, a8, a9, a11, [], 0, 0, 0, [], [], 0, 0, 0, 0⟩, n11) := by rw [hD]; simp only [tenRest, r3, r4, r5, r6, r7, r8, r9, r10, r11, bind, Except.bind]
    rw [hR, e11, r11]
    exact ⟨rfl, fun t m h => by cases h; rfl⟩
end Go.Proofs.YtbkpbcmjgbdbkaaGreatDoor

/-! X9 -/
namespace Go.Proofs.YtbkpbcmjgbdbkaaGreatDoor
open Go.RowKit Go.Lib
set_option linter.unusedVariables false
set_option linter.unusedSimpArgs false
set_option maxRecDepth 100000
set_option pp.maxSteps 2500

set_option maxHeartbeats 8000000 in
theorem rline_tenant {lo b g cap en C : Nat} {L : List Wd} {c : Cfg} {tv : Value} {l : List TenM} {w : World} {a0 : Nat} (h : RLine w lo b g cap L en (.ok 0) C c tv l) (hx : L[0]? = some (tenName, a0)) (hlen : l.length ≤ 1000000) :
    Calls Tryz.prog 28 #[.pointer (some ⟨b, 0, none⟩), .pointer (some ⟨C, 0, none⟩)] w (RLinePost w lo b g cap L en C (bodyR c L en)) := by
  obtain ⟨pl, hRA⟩ := h.line
  have hc58 := rword_some b g cap L en 0 pl false w hRA tenName a0 hx
  have e0 : (tenName.toList == [116, 101, 110, 97, 110, 116]) = true := by kernel_rfl
  obtain ⟨i0, hi0, hz0, hz1, hz2⟩ := info_parts tenInfo
  obtain ⟨ao, cp, htv⟩ : ∃ ao cp, tv = .slice ao l.length cp := by
    rcases h.tens.row.2 with ⟨hv, h0⟩ | ⟨G, cp, cur, hv, _⟩
    · exact ⟨none, 0, by rw [hv, h0]⟩
    · exact ⟨_, _, hv⟩
  have hl7 := h.lo7
  have H := Lib.hid (And.intro h hx)
  clear h hRA hx
  go_enter Tryz.func28, Tryz.ntmps28
  go_wp2_with fail
  refine hc58.mono ?_
  rintro e w1 ⟨rfl, q1, t1⟩
  have h1 : RLine w1 lo b g cap L en (.ok 1) C c tv l := H.out.1.call ⟨pl, q1⟩ t1
  have t2 := t1.alloc (.cells #[.string tenName, .int .i64 (a0 : Int)] 82)
  have h2 := h1.quiet ((Turn.refl (fun _ => False) w1).alloc (.cells #[.string tenName, .int .i64 (a0 : Int)] 82))
  have cd0 : (w1.alloc (.cells #[.string tenName, .int .i64 (a0 : Int)] 82)).cell? ⟨w1.heap.size, 0, none⟩ = some (.string tenName) := cell_of_block (block_alloc_new _ _) 0
  have hT := TSt.start h2.line (cs := tenZero ⟨#[]⟩) rfl (T := w1.heap.size + 1) (by simp)
  have H2 := Lib.hid (And.intro h2 t2)
  clear h1 h2 t2 q1 t1 hc58
  go_wp2_with fail
  change Calls _ _ _ ((w1.alloc (.cells #[.string tenName, .int .i64 (a0 : Int)] 82)).alloc (.cells (tenZero ⟨#[]⟩) 45)) _
  clear cd0
  generalize w1.alloc (.cells #[.string tenName, .int .i64 (a0 : Int)] 82) = w0 at *
  generalize w0.alloc (.cells (tenZero ⟨#[]⟩) 45) = W0 at *
  generalize w1.heap.size + 1 = T at *
  obtain ⟨s, a1, hcs, hsz, hw⟩ := rword_any b g cap L en (.ok 1) W0 hT.line
  refine hcs.mono ?_
  rintro e w3 ⟨rfl, q3, t3⟩
  have hT3 := (hT.call q3 t3).quiet ((Turn.refl (fun _ => False) w3).alloc (.cells #[.string s, .int .i64 (a1 : Int)] 82))
  have cn0 : (w3.alloc (.cells #[.string s, .int .i64 (a1 : Int)] 82)).cell? ⟨w3.heap.size, 0, none⟩ = some (.string s) := cell_of_block (block_alloc_new _ _) 0
  have cn1 : (w3.alloc (.cells #[.string s, .int .i64 (a1 : Int)] 82)).cell? ⟨w3.heap.size, 1, none⟩ = some (.int .i64 (a1 : Int)) := cell_of_block (block_alloc_new _ _) 1
  have hblkn : (w3.alloc (.cells #[.string s, .int .i64 (a1 : Int)] 82)).heap[w3.heap.size]? = some (.cells #[.string s, .int .i64 (a1 : Int)] 82 (0, 0)) := block_alloc_new _ _
  have hnb : w3.heap.size ≠ b := by have := hT3.bT; have := (hT.turn.trans2 t3 (fun _ _ e => e)).size; omega
  have hw : ∀ x m, nextP L en 1 = .ok (x, m) → x = (s, a1) := hw
  have hT3 : TSt w0 b g cap L en ((nextP L en 1).map (·.2)) T (tenZero ⟨#[]⟩) (w3.alloc (.cells #[.string s, .int .i64 (a1 : Int)] 82)) := hT3
  clear hT q3 t3 hcs
  go_upto_region 4 with (fail)
  generalize w3.alloc (.cells #[.string s, .int .i64 (a1 : Int)] 82) = W3 at *
  generalize w3.heap.size = q at *
  obtain ⟨vt0, hct0⟩ := hT3.cell (j := 0) (by decide)
  have hft0 := hT3.free 0
  rcases except_cases (nextP L en 1) with ⟨pl2, r1⟩ | ⟨⟨x2, n2⟩, r1⟩
  · rw [r1] at hT3
    obtain ⟨i2, hRA⟩ := hT3.line
    have c4 : W3.cell? ⟨b, 4, none⟩ = some (.bool true) := cell_of_block hRA.ex.1 4
    have HT := Lib.hid (And.intro hT3 (And.intro r1 hw))
    clear hT3 hRA r1 hw hblkn
    go_wp2_with fail
    obtain ⟨st2, hS6, hD⟩ : ∃ st2, TSt w0 b g cap L en st2 T ((tenZero ⟨#[]⟩).setIfInBounds 0 (.string s)) (W3.setCell ⟨T, 0, none⟩ (.string s)) ∧ TenD L en s st2 := ⟨_, HT.out.1.put 0 _, tenD_err HT.out.2.1⟩
    clear c4 cn0 cn1 hct0 hft0 hnb HT
    generalize W3.setCell ⟨T, 0, none⟩ (.string s) = W6 at *
    refine (rmust_any vniName b g cap L en st2 W6 hS6.line).mono ?_
    rintro e w7 ⟨rfl, q3, t3⟩
    have hS7 := hS6.call q3 t3
    clear q3 t3 hS6
    obtain ⟨st3, e3⟩ : ∃ x, x = mustS vniName st2 L en := ⟨_, rfl⟩
    rw [← e3] at hS7
    obtain ⟨v, hc4, hm4, hv4⟩ := rNum_any 16777215 (by decide) b g cap L en st3 w7 hS7.line
    have hS7h := Lib.hid hS7
    clear hS7
    go_wp2_with fail
    refine hc4.mono ?_
    rintro e w8 ⟨rfl, q4, t4⟩
    have hS8 := hS7h.out.call q4 t4
    clear q4 t4 hc4 hS7h
    obtain ⟨st4, e4⟩ : ∃ x, x = (readS (fun l => numOf l 16777215) st3 L en).map (·.2) := ⟨_, rfl⟩
    rw [← e4] at hS8
    obtain ⟨vt4, hct4⟩ := hS8.cell (j := 1) (by decide)
    have hft4 := hS8.free 1
    have hS8p := hS8.put 1 (.int .u32 (v : Int))
    have hS8ph := Lib.hid hS8p
    clear hS8 hS8p
    go_wp2_with fail
    have hS8p := hS8ph.out
    clear hct4 hft4 hS8ph
    generalize w8.setCell ⟨T, 1, none⟩ (.int .u32 (v : Int)) = W8 at *
    refine (rmust_any keyName b g cap L en st4 W8 hS8p.line).mono ?_
    rintro e w9 ⟨rfl, q5, t5⟩
    have hS9 := hS8p.call q5 t5
    clear q5 t5 hS8p
    obtain ⟨st5, e5⟩ : ∃ x, x = mustS keyName st4 L en := ⟨_, rfl⟩
    rw [← e5] at hS9
    obtain ⟨K, hz6, hc6, hv6⟩ := rKey_any b g cap L en st5 w9 hS9.line
    have hS9h := Lib.hid hS9
    clear hS9
    go_wp2_with fail
    refine hc6.mono ?_
    rintro e w10 ⟨rfl, q6, t6⟩
    have hS10 := hS9h.out.call q6 t6
    clear q6 t6 hc6 hS9h
    obtain ⟨st6, e6⟩ : ∃ x, x = (readS keyOf st5 L en).map (·.2) := ⟨_, rfl⟩
    rw [← e6] at hS10
    have hs6 : (u8row K).size = 8 := (u8row_len K).trans hz6
    obtain ⟨st6s, hS10p⟩ := hS10.row 2 (u8row K).toList (by rw [u8row_len, hz6]; decide) (u8row_one K)
    have hS10ph := Lib.hid hS10p
    clear hS10 hS10p
    go_wp2_with fail
    have hS10p := hS10ph.out
    clear st6s hs6 hS10ph
    generalize w10.setRow T (rowPut (((tenZero ⟨#[]⟩).setIfInBounds 0 (.string s)).setIfInBounds 1 (.int .u32 (v : Int))) 2 (u8row K).toList) = W10 at *
    refine (rmust_any vtepName b g cap L en st6 W10 hS10p.line).mono ?_
    rintro e w11 ⟨rfl, q7, t7⟩
    have hS11 := hS10p.call q7 t7
    clear q7 t7 hS10p
    obtain ⟨st7, e7⟩ : ∃ x, x = mustS vtepName st6 L en := ⟨_, rfl⟩
    rw [← e7] at hS11
    obtain ⟨p, hc8, hv8⟩ := rIp_any b g cap L en st7 w11 hS11.line
    have hS11h := Lib.hid hS11
    clear hS11
    go_wp2_with fail
    refine hc8.mono ?_
    rintro e w12 ⟨rfl, q8, t8⟩
    have hS12 := hS11h.out.call q8 t8
    clear q8 t8 hc8 hS11h
    obtain ⟨st8, e8⟩ : ∃ x, x = (readS ipOf st7 L en).map (·.2) := ⟨_, rfl⟩
    rw [← e8] at hS12
    obtain ⟨vt8, hct8⟩ := hS12.cell (j := 10) (by decide)
    have hft8 := hS12.free 10
    have hS12p := hS12.put 10 (.int .u32 (p : Int))
    have hS12ph := Lib.hid hS12p
    clear hS12 hS12p
    go_wp2_with fail
    have hS12p := hS12ph.out
    clear hct8 hft8 hS12ph
    generalize w12.setCell ⟨T, 10, none⟩ (.int .u32 (p : Int)) = W12 at *
    obtain ⟨M, hz9, hc9, hv9⟩ := rMac_any b g cap L en st8 W12 hS12p.line
    have hS12ph := Lib.hid hS12p
    clear hS12p
    go_wp2_with fail
    refine hc9.mono ?_
    rintro e w13 ⟨rfl, q9, t9⟩
    have hS13 := hS12ph.out.call q9 t9
    clear q9 t9 hc9 hS12ph
    obtain ⟨st9, e9⟩ : ∃ x, x = (readS macOf st8 L en).map (·.2) := ⟨_, rfl⟩
    rw [← e9] at hS13
    have hs9 : (u8row M).size = 6 := (u8row_len M).trans hz9
    obtain ⟨st9s, hS13p⟩ := hS13.row 11 (u8row M).toList (by rw [u8row_len, hz9]; decide) (u8row_one M)
    have hS13ph := Lib.hid hS13p
    clear hS13 hS13p
    go_wp2_with fail
    have hS13p := hS13ph.out
    clear st9s hs9 hS13ph
    generalize World.setRow w13 T _ = W13 at *
    refine (rmust_any hostName b g cap L en st9 W13 hS13p.line).mono ?_
    rintro e w14 ⟨rfl, q10, t10⟩
    have hS14 := hS13p.call q10 t10
    clear q10 t10 hS13p
    obtain ⟨st10, e10⟩ : ∃ x, x = mustS hostName st9 L en := ⟨_, rfl⟩
    rw [← e10] at hS14
    obtain ⟨Hm, hz11, hc11, hv11⟩ := rMac_any b g cap L en st10 w14 hS14.line
    have hS14h := Lib.hid hS14
    clear hS14
    go_wp2_with fail
    refine hc11.mono ?_
    rintro e w15 ⟨rfl, q11, t11⟩
    have hS15 := hS14h.out.call q11 t11
    clear q11 t11 hc11 hS14h
    obtain ⟨st11, e11⟩ : ∃ x, x = (readS macOf st10 L en).map (·.2) := ⟨_, rfl⟩
    rw [← e11] at hS15
    have hs11 : (u8row Hm).size = 6 := (u8row_len Hm).trans hz11
    obtain ⟨st11s, hS15p⟩ := hS15.row 17 (u8row Hm).toList (by rw [u8row_len, hz11]; decide) (u8row_one Hm)
    have hS15ph := Lib.hid hS15p
    clear hS15 hS15p
    go_upto_region 16 with (fail)
    have hS15p := hS15ph.out
    clear st11s hs11 hS15ph
    generalize World.setRow w15 T _ = W15 at *
    obtain ⟨row, hrow⟩ : ∃ row, row = tenRow ⟨s, v, K, p, M, Hm, [], 0, 0, 0, [], [], 0, 0, 0, 0⟩ (.slice none 0 0) (.slice none 0 0) (.slice none 0 0) := ⟨_, rfl⟩
    have hcr : (rowPut (rowPut ((rowPut (((tenZero ⟨#[]⟩).setIfInBounds 0 (.string s)).setIfInBounds 1 (.int .u32 (v : Int))) 2 (u8row K).toList).setIfInBounds 10 (.int .u32 (p : Int))) 11 (u8row M).toList) 17 (u8row Hm).toList) = row := (ten_cells s v p K M Hm hz6 hz9 hz11).trans hrow.symm
    rw [hcr] at hS15p
    have hwt : WfTen ⟨s, v, K, p, M, Hm, [], 0, 0, 0, [], [], 0, 0, 0, 0⟩ := ⟨hz6, hz9, hz11⟩
    have hrs : row.size = 33 := hS15p.size
    have hr1 : ∀ u ∈ row.toList, u.oneCell' = true := by rw [hrow]; exact ten_one _ _ _ _ rfl rfl rfl
    have hbs := fold_ten row hrs
    have hfin := tenS_is hD e3 e4 hv4 e5 e6 hv6 e7 e8 hv8 e9 hv9 e10 e11 hv11
    have hR := (H2.out.1.call hS15p.line hS15p.turn).quiet (Turn.refl _ _).drew
    have hblk : W15.drew.heap[T]? = some (.cells row 45 (0, 0)) := hS15p.blk
    have hi45 : (Tryz.prog.info? 45).map (·.size) = some row.size := by rw [hrs]; kernel_rfl
    have hcC : W15.drew.cell? ⟨C, 28, none⟩ = some (.slice ao l.length cp) := by rw [← htv]; exact hR.cell
    have hcC2 := alloc_cell (o := .cells row 45) hcC
    have hR0 := H2.out.1.call hS15p.line hS15p.turn
    have hRA8 := (hR0.quiet (Turn.refl (fun _ => False) W15).drew).quiet ((Turn.refl (fun _ => False) W15.drew).alloc (.cells row 45))
    have hRD8 := (hR0.quiet ((Turn.refl (fun _ => False) W15).alloc (.cells row 45))).quiet (Turn.refl (fun _ => False) (W15.alloc (.cells row 45))).drew
    have hOwn := hRA8.tens.row
    have hOwnD := hRD8.tens.row
    rw [htv] at hOwn hOwnD
    have hNews : ∀ j u, row.toList[j]? = some u → (W15.drew.alloc (.cells row 45)).cell? ((⟨W15.heap.size, 0, none⟩ : Addr).add j) = some u := World.news_of_block (cs := row) (t := 45) (fr := (0, 0)) (heap_alloc_new W15.drew _)
    have hNewsD : ∀ j u, row.toList[j]? = some u → ((W15.alloc (.cells row 45)).drew).cell? ((⟨W15.heap.size, 0, none⟩ : Addr).add j) = some u := World.news_of_block (cs := row) (t := 45) (fr := (0, 0)) (heap_alloc_new W15 _)
    have hTA : (W15.drew.alloc (.cells row 45)).heap[T]? = some (.cells row 45 (0, 0)) := block_alloc_old hblk
    have hTD : ((W15.alloc (.cells row 45)).drew).heap[T]? = some (.cells row 45 (0, 0)) := block_alloc_old (w := W15) hblk
    have hTl := block_lt hTA
    have hTlD := block_lt hTD
    have hTn : (Value.slice ao l.length cp).ownBlock ≠ some T := by
      intro e
      rw [← htv] at e
      obtain ⟨gs, hgs⟩ := own_cells H2.out.1.tens.row e
      have := block_lt hgs
      have := hS15p.fresh
      omega
    have hTC : T ≠ C := by have := block_lt H2.out.1.cel; have := hS15p.fresh; omega
    have hcC3 := alloc_cell (o := .cells row 45) (show W15.cell? ⟨C, 28, none⟩ = _ from hcC)
    have HR := Lib.hid (And.intro hR (And.intro hwt (And.intro hrow (And.intro hr1 (And.intro hfin hS15p.turn)))))
    clear hR hwt hrow hr1 hfin hcr hS15p hD e3 e4 hv4 e5 e6 hv6 e7 e8 hv8 e9 hv9 e10 e11 hv11 hz6 hz9 hz11 hm4
    refine wp_region_held_drew (S := fun w' => w'.heap[T]? = some (.cells row 45 (0, 0))) (by kernel_rfl) hblk (fun hHeld => ?_)
    refine wpAnyH_take (i := 0) (v := .pointer (some ⟨C, 0, none⟩)) rfl (by kernel_rfl) (by kernel_rfl) (by kernel_rfl) (fun _ _ _ h => h) (Or.inl ⟨by rfl, fun w' hSw => by dsimp only at hSw; go_simp⟩) hHeld ?_
    simp only [Act.put, List.setIfInBounds_toArray, List.set_cons_zero, List.set_cons_succ]
    refine wpAnyH_take (i := 1) (v := .pointer (some ⟨C, 0, none⟩)) rfl (by kernel_rfl) (by kernel_rfl) (by kernel_rfl) (fun _ _ _ h => h) (Or.inl ⟨by rfl, fun w' hSw => by dsimp only at hSw; go_simp⟩) hHeld ?_
    simp only [Act.put, List.setIfInBounds_toArray, List.set_cons_zero, List.set_cons_succ]
    refine wpAnyH_take (i := 2) (v := .pointer (some ⟨C, 0, none⟩)) rfl (by kernel_rfl) (by kernel_rfl) (by kernel_rfl) (fun _ _ _ h => h) (Or.inl ⟨by rfl, fun w' hSw => by dsimp only at hSw; go_simp⟩) hHeld ?_
    simp only [Act.put, List.setIfInBounds_toArray, List.set_cons_zero, List.set_cons_succ]
    refine wpAnyH_take (i := 3) (v := .pointer (some ⟨C, 28, none⟩)) rfl (by kernel_rfl) (by kernel_rfl) (by kernel_rfl) (fun _ _ _ h => h) (Or.inl ⟨by rfl, fun w' hSw => by dsimp only at hSw; go_simp⟩) hHeld ?_
    simp only [Act.put, List.setIfInBounds_toArray, List.set_cons_zero, List.set_cons_succ]
    refine wpAnyH_take (i := 5) (v := .agg row) rfl (by kernel_rfl) (by kernel_rfl) (by kernel_rfl) (fun _ _ _ h => h) (Or.inl ⟨by rfl, fun w' hSw => exec_load_row 45 (.tmp 5) rfl T rfl 45 row (0, 0) _ hSw Tryz.underlying45 rfl hi45⟩) hHeld ?_
    simp only [Act.put, List.setIfInBounds_toArray, List.set_cons_zero, List.set_cons_succ]
    refine wpAnyH_ready (rs := [4, 6]) (by kernel_rfl) (by simp) ?_
    refine AllReadyH.cons rfl (fun K hK => ?_) (AllReadyH.cons rfl (fun K hK => ?_) AllReadyH.nil)
    all_goals first
      | (rw [if_pos (by rfl)]
         go_simp
         refine hK.out _ _ (hblk) (fun hHeld => ?_)
         clear hK K
         try simp only [Act.put, List.setIfInBounds_toArray, List.set_cons_zero, List.set_cons_succ]
         refine wpAnyH_ready (rs := [6]) (by kernel_rfl) (by simp) ?_
         refine AllReadyH.cons rfl (fun K hK => ?_) AllReadyH.nil
         rw [if_pos (by rfl)]
         go_simp
         refine hK.out _ _ (by first | exact hTA | exact hTD) (fun hHeld => ?_)
         clear hK K
         try simp only [Act.put, List.setIfInBounds_toArray, List.set_cons_zero, List.set_cons_succ]
         refine wpAnyH_ready (rs := [7]) (by kernel_rfl) (by simp) ?_
         refine AllReadyH.cons rfl (fun K hK => ?_) AllReadyH.nil
         refine step_append_lies _ (by rfl) _ _ _ (by rfl) lo 45 i0 (.agg (tenZero ⟨#[]⟩)) 33 160 Tryz.underlying27 hi0 hz0 hz1 hz2 rfl (by decide) (.slice ao l.length cp) l.length _ (by rfl) (by first | exact hOwn | exact hOwnD) ⟨W15.heap.size, 0, none⟩ 1 1 row.toList (by rfl) (by rw [Array.length_toList]; exact hrs) (by first | exact hNews | exact hNewsD) HR.out.2.2.2.1 (by omega) (by unfold maxLen; omega) (by omega) (by have := HR.out.1.low; simp at this; simp; omega) (W15.heap.size + 1) (by simp) ?_
         intro g' cap' w' hown' hgrow hwhere hlt'
         obtain ⟨hR8, hc8, hf8, ht8⟩ := RLine.tenant (by first | exact hRA8 | exact hRD8) (tv' := .slice (some ⟨g', 0, none⟩) (l.length + 1) cap') HR.out.2.1 rfl rfl rfl (by rw [← HR.out.2.2.1]; exact hown') (by rw [htv]; exact turn_of_grown hgrow)
         rw [htv] at hc8
         have hT8 : w'.heap[T]? = some (.cells row 45 (0, 0)) := (turn_of_grown hgrow).block T (by first | exact hTl | exact hTlD) hTn |>.trans (by first | exact hTA | exact hTD)
         have hT9 : (w'.setCell ⟨C, 28, none⟩ (.slice (some ⟨g', 0, none⟩) (l.length + 1) cap')).heap[T]? = some (.cells row 45 (0, 0)) := by rw [Below.heap_setCell _ _ _ _ hTC]; exact hT8
         have HR8 := Lib.hid (And.intro hR8 ht8)
         clear hR8 ht8 hown' hgrow hwhere hlt'
         refine hK.out _ _ hT8 (fun hHeld => ?_)
         clear hK K
         try simp only [Act.put, List.setIfInBounds_toArray, List.set_cons_zero, List.set_cons_succ]
         refine wpAnyH_take (i := 8) (v := .pointer (some ⟨C, 0, none⟩)) rfl (by kernel_rfl) (by kernel_rfl) (by kernel_rfl) (fun _ _ _ h => h) (Or.inl ⟨by rfl, fun w' hSw => by dsimp only at hSw; go_simp⟩) hHeld ?_
         simp only [Act.put, List.setIfInBounds_toArray, List.set_cons_zero, List.set_cons_succ]
         refine wpAnyH_take (i := 9) (v := .pointer (some ⟨C, 28, none⟩)) rfl (by kernel_rfl) (by kernel_rfl) (by kernel_rfl) (fun _ _ _ h => h) (Or.inl ⟨by rfl, fun w' hSw => by dsimp only at hSw; go_simp⟩) hHeld ?_
         simp only [Act.put, List.setIfInBounds_toArray, List.set_cons_zero, List.set_cons_succ]
         refine wpAnyH_ready (rs := [10]) (by kernel_rfl) (by simp) ?_
         refine AllReadyH.cons rfl (fun K hK => ?_) AllReadyH.nil
         rw [if_pos (by rfl)]
         go_simp
         refine hK.out _ _ (hT9) (fun hHeld => ?_)
         clear hK K
         try simp only [Act.put, List.setIfInBounds_toArray, List.set_cons_zero, List.set_cons_succ]
         refine wpAnyH_done (by kernel_rfl) ?_ _)
      | (rw [if_pos (by rfl)]
         go_simp
         refine hK.out _ _ (by first | exact hTA | exact hTD) (fun hHeld => ?_)
         clear hK K
         try simp only [Act.put, List.setIfInBounds_toArray, List.set_cons_zero, List.set_cons_succ]
         refine wpAnyH_ready (rs := [4]) (by kernel_rfl) (by simp) ?_
         refine AllReadyH.cons rfl (fun K hK => ?_) AllReadyH.nil
         rw [if_pos (by rfl)]
         go_simp
         refine hK.out _ _ (by first | exact hTA | exact hTD) (fun hHeld => ?_)
         clear hK K
         try simp only [Act.put, List.setIfInBounds_toArray, List.set_cons_zero, List.set_cons_succ]
         refine wpAnyH_ready (rs := [7]) (by kernel_rfl) (by simp) ?_
         refine AllReadyH.cons rfl (fun K hK => ?_) AllReadyH.nil
         refine step_append_lies _ (by rfl) _ _ _ (by rfl) lo 45 i0 (.agg (tenZero ⟨#[]⟩)) 33 160 Tryz.underlying27 hi0 hz0 hz1 hz2 rfl (by decide) (.slice ao l.length cp) l.length _ (by rfl) (by first | exact hOwn | exact hOwnD) ⟨W15.heap.size, 0, none⟩ 1 1 row.toList (by rfl) (by rw [Array.length_toList]; exact hrs) (by first | exact hNews | exact hNewsD) HR.out.2.2.2.1 (by omega) (by unfold maxLen; omega) (by omega) (by have := HR.out.1.low; simp at this; simp; omega) (W15.heap.size + 1) (by simp) ?_
         intro g' cap' w' hown' hgrow hwhere hlt'
         obtain ⟨hR8, hc8, hf8, ht8⟩ := RLine.tenant (by first | exact hRA8 | exact hRD8) (tv' := .slice (some ⟨g', 0, none⟩) (l.length + 1) cap') HR.out.2.1 rfl rfl rfl (by rw [← HR.out.2.2.1]; exact hown') (by rw [htv]; exact turn_of_grown hgrow)
         rw [htv] at hc8
         have hT8 : w'.heap[T]? = some (.cells row 45 (0, 0)) := (turn_of_grown hgrow).block T (by first | exact hTl | exact hTlD) hTn |>.trans (by first | exact hTA | exact hTD)
         have hT9 : (w'.setCell ⟨C, 28, none⟩ (.slice (some ⟨g', 0, none⟩) (l.length + 1) cap')).heap[T]? = some (.cells row 45 (0, 0)) := by rw [Below.heap_setCell _ _ _ _ hTC]; exact hT8
         have HR8 := Lib.hid (And.intro hR8 ht8)
         clear hR8 ht8 hown' hgrow hwhere hlt'
         refine hK.out _ _ hT8 (fun hHeld => ?_)
         clear hK K
         try simp only [Act.put, List.setIfInBounds_toArray, List.set_cons_zero, List.set_cons_succ]
         refine wpAnyH_take (i := 8) (v := .pointer (some ⟨C, 0, none⟩)) rfl (by kernel_rfl) (by kernel_rfl) (by kernel_rfl) (fun _ _ _ h => h) (Or.inl ⟨by rfl, fun w' hSw => by dsimp only at hSw; go_simp⟩) hHeld ?_
         simp only [Act.put, List.setIfInBounds_toArray, List.set_cons_zero, List.set_cons_succ]
         refine wpAnyH_take (i := 9) (v := .pointer (some ⟨C, 28, none⟩)) rfl (by kernel_rfl) (by kernel_rfl) (by kernel_rfl) (fun _ _ _ h => h) (Or.inl ⟨by rfl, fun w' hSw => by dsimp only at hSw; go_simp⟩) hHeld ?_
         simp only [Act.put, List.setIfInBounds_toArray, List.set_cons_zero, List.set_cons_succ]
         refine wpAnyH_ready (rs := [10]) (by kernel_rfl) (by simp) ?_
         refine AllReadyH.cons rfl (fun K hK => ?_) AllReadyH.nil
         rw [if_pos (by rfl)]
         go_simp
         refine hK.out _ _ (hT9) (fun hHeld => ?_)
         clear hK K
         try simp only [Act.put, List.setIfInBounds_toArray, List.set_cons_zero, List.set_cons_succ]
         refine wpAnyH_done (by kernel_rfl) ?_ _)
    all_goals
      go_wp2_with fail
      go_end0
      have e : bodyR c L en = (tenantP L en 1).map fun r => ({ c with tens := c.tens ++ [r.1] }, r.2) := by
        unfold bodyR
        rw [nextP_some H.out.2]
        show bodyP c (tenName, a0) L en 1 = _
        unfold bodyP
        rw [if_pos rfl]
      obtain ⟨f1, f2⟩ := HR.out.2.2.2.2.1
      have e2 : (bodyR c L en).map (·.2) = st11 := by rw [e, f1]; cases tenantP L en 1 <;> rfl
      refine ⟨rfl, _, _, _, by rw [e2]; exact HR8.out.1, ?_, ?_⟩
      · have u1 : Turn (fun k => k = b ∨ k = C ∨ lo ≤ k) w W15.drew := (H2.out.2.trans (HR.out.2.2.2.2.2.trans (Turn.refl _ _).drew)).mono (fun _ _ e => Or.inl e)
        have u2 : Turn (fun k => k = b ∨ k = C ∨ lo ≤ k) w (W15.alloc (.cells row 45)) := (H2.out.2.trans (HR.out.2.2.2.2.2.alloc (.cells row 45))).mono (fun _ _ e => Or.inl e)
        first | exact (u1.trans ((Turn.refl (fun k => k = b ∨ k = C ∨ lo ≤ k) W15.drew).alloc (.cells row 45))).trans (HR8.out.2.mono (fun _ _ e => Or.inr e)) | exact (u2.trans (Turn.refl (fun k => k = b ∨ k = C ∨ lo ≤ k) (W15.alloc (.cells row 45))).drew).trans (HR8.out.2.mono (fun _ _ e => Or.inr e))
      · intro u m hu
        rw [e] at hu
        rcases except_cases (tenantP L en 1) with ⟨pl3, r3⟩ | ⟨⟨t3, m3⟩, r3⟩
        · rw [r3] at hu; cases hu
        · obtain rfl := f2 t3 m3 r3
          rw [r3] at hu
          cases hu
          rfl
  · obtain rfl := hw x2 n2 r1
    rw [r1] at hT3
    obtain ⟨i2, hRA⟩ := hT3.line
    have c4 : W3.cell? ⟨b, 4, none⟩ = some (.bool false) := cell_of_block hRA.ex.1 4
    have hname := rname_any s hsz W3 (H2.out.1.env.line hT3.line.low hT3.turn)
    have hqW := block_lt hblkn
    cases hn : nameOf s.data.toList with
    | true =>
      rw [hn] at hname
      have HT := Lib.hid (And.intro hT3 (And.intro r1 hn))
      clear hT3 hRA r1 hw hblkn hn hct0 hft0
      go_wp2_with fail
      refine hname.mono ?_
      rintro e w5 ⟨rfl, t5⟩
      have hT5 := HT.out.1.quiet t5
      have cn0' := (cell_turn0 t5 hqW (fun h => h)).trans cn0
      obtain ⟨vt1, hct1⟩ := hT5.cell (j := 0) (by decide)
      have hft1 := hT5.free 0
      have HT5 := Lib.hid hT5
      clear hT5 t5 cn0 cn1 c4 hname
      go_wp2_with fail
      obtain ⟨st2, hS6, hD⟩ : ∃ st2, TSt w0 b g cap L en st2 T ((tenZero ⟨#[]⟩).setIfInBounds 0 (.string s)) (w5.setCell ⟨T, 0, none⟩ (.string s)) ∧ TenD L en s st2 := ⟨_, HT5.out.put 0 _, tenD_ok HT.out.2.1 HT.out.2.2⟩
      clear cn0' hct1 hft1 hnb HT HT5 hqW
      generalize w5.setCell ⟨T, 0, none⟩ (.string s) = W6 at *
      refine (rmust_any vniName b g cap L en st2 W6 hS6.line).mono ?_
      rintro e w7 ⟨rfl, q3, t3⟩
      have hS7 := hS6.call q3 t3
      clear q3 t3 hS6
      obtain ⟨st3, e3⟩ : ∃ x, x = mustS vniName st2 L en := ⟨_, rfl⟩
      rw [← e3] at hS7
      obtain ⟨v, hc4, hm4, hv4⟩ := rNum_any 16777215 (by decide) b g cap L en st3 w7 hS7.line
      have hS7h := Lib.hid hS7
      clear hS7
      go_wp2_with fail
      refine hc4.mono ?_
      rintro e w8 ⟨rfl, q4, t4⟩
      have hS8 := hS7h.out.call q4 t4
      clear q4 t4 hc4 hS7h
      obtain ⟨st4, e4⟩ : ∃ x, x = (readS (fun l => numOf l 16777215) st3 L en).map (·.2) := ⟨_, rfl⟩
      rw [← e4] at hS8
      obtain ⟨vt4, hct4⟩ := hS8.cell (j := 1) (by decide)
      have hft4 := hS8.free 1
      have hS8p := hS8.put 1 (.int .u32 (v : Int))
      have hS8ph := Lib.hid hS8p
      clear hS8 hS8p
      go_wp2_with fail
      have hS8p := hS8ph.out
      clear hct4 hft4 hS8ph
      generalize w8.setCell ⟨T, 1, none⟩ (.int .u32 (v : Int)) = W8 at *
      refine (rmust_any keyName b g cap L en st4 W8 hS8p.line).mono ?_
      rintro e w9 ⟨rfl, q5, t5⟩
      have hS9 := hS8p.call q5 t5
      clear q5 t5 hS8p
      obtain ⟨st5, e5⟩ : ∃ x, x = mustS keyName st4 L en := ⟨_, rfl⟩
      rw [← e5] at hS9
      obtain ⟨K, hz6, hc6, hv6⟩ := rKey_any b g cap L en st5 w9 hS9.line
      have hS9h := Lib.hid hS9
      clear hS9
      go_wp2_with fail
      refine hc6.mono ?_
      rintro e w10 ⟨rfl, q6, t6⟩
      have hS10 := hS9h.out.call q6 t6
      clear q6 t6 hc6 hS9h
      obtain ⟨st6, e6⟩ : ∃ x, x = (readS keyOf st5 L en).map (·.2) := ⟨_, rfl⟩
      rw [← e6] at hS10
      have hs6 : (u8row K).size = 8 := (u8row_len K).trans hz6
      obtain ⟨st6s, hS10p⟩ := hS10.row 2 (u8row K).toList (by rw [u8row_len, hz6]; decide) (u8row_one K)
      have hS10ph := Lib.hid hS10p
      clear hS10 hS10p
      go_wp2_with fail
      have hS10p := hS10ph.out
      clear st6s hs6 hS10ph
      generalize w10.setRow T (rowPut (((tenZero ⟨#[]⟩).setIfInBounds 0 (.string s)).setIfInBounds 1 (.int .u32 (v : Int))) 2 (u8row K).toList) = W10 at *
      refine (rmust_any vtepName b g cap L en st6 W10 hS10p.line).mono ?_
      rintro e w11 ⟨rfl, q7, t7⟩
      have hS11 := hS10p.call q7 t7
      clear q7 t7 hS10p
      obtain ⟨st7, e7⟩ : ∃ x, x = mustS vtepName st6 L en := ⟨_, rfl⟩
      rw [← e7] at hS11
      obtain ⟨p, hc8, hv8⟩ := rIp_any b g cap L en st7 w11 hS11.line
      have hS11h := Lib.hid hS11
      clear hS11
      go_wp2_with fail
      refine hc8.mono ?_
      rintro e w12 ⟨rfl, q8, t8⟩
      have hS12 := hS11h.out.call q8 t8
      clear q8 t8 hc8 hS11h
      obtain ⟨st8, e8⟩ : ∃ x, x = (readS ipOf st7 L en).map (·.2) := ⟨_, rfl⟩
      rw [← e8] at hS12
      obtain ⟨vt8, hct8⟩ := hS12.cell (j := 10) (by decide)
      have hft8 := hS12.free 10
      have hS12p := hS12.put 10 (.int .u32 (p : Int))
      have hS12ph := Lib.hid hS12p
      clear hS12 hS12p
      go_wp2_with fail
      have hS12p := hS12ph.out
      clear hct8 hft8 hS12ph
      generalize w12.setCell ⟨T, 10, none⟩ (.int .u32 (p : Int)) = W12 at *
      obtain ⟨M, hz9, hc9, hv9⟩ := rMac_any b g cap L en st8 W12 hS12p.line
      have hS12ph := Lib.hid hS12p
      clear hS12p
      go_wp2_with fail
      refine hc9.mono ?_
      rintro e w13 ⟨rfl, q9, t9⟩
      have hS13 := hS12ph.out.call q9 t9
      clear q9 t9 hc9 hS12ph
      obtain ⟨st9, e9⟩ : ∃ x, x = (readS macOf st8 L en).map (·.2) := ⟨_, rfl⟩
      rw [← e9] at hS13
      have hs9 : (u8row M).size = 6 := (u8row_len M).trans hz9
      obtain ⟨st9s, hS13p⟩ := hS13.row 11 (u8row M).toList (by rw [u8row_len, hz9]; decide) (u8row_one M)
      have hS13ph := Lib.hid hS13p
      clear hS13 hS13p
      go_wp2_with fail
      have hS13p := hS13ph.out
      clear st9s hs9 hS13ph
      generalize World.setRow w13 T _ = W13 at *
      refine (rmust_any hostName b g cap L en st9 W13 hS13p.line).mono ?_
      rintro e w14 ⟨rfl, q10, t10⟩
      have hS14 := hS13p.call q10 t10
      clear q10 t10 hS13p
      obtain ⟨st10, e10⟩ : ∃ x, x = mustS hostName st9 L en := ⟨_, rfl⟩
      rw [← e10] at hS14
      obtain ⟨Hm, hz11, hc11, hv11⟩ := rMac_any b g cap L en st10 w14 hS14.line
      have hS14h := Lib.hid hS14
      clear hS14
      go_wp2_with fail
      refine hc11.mono ?_
      rintro e w15 ⟨rfl, q11, t11⟩
      have hS15 := hS14h.out.call q11 t11
      clear q11 t11 hc11 hS14h
      obtain ⟨st11, e11⟩ : ∃ x, x = (readS macOf st10 L en).map (·.2) := ⟨_, rfl⟩
      rw [← e11] at hS15
      have hs11 : (u8row Hm).size = 6 := (u8row_len Hm).trans hz11
      obtain ⟨st11s, hS15p⟩ := hS15.row 17 (u8row Hm).toList (by rw [u8row_len, hz11]; decide) (u8row_one Hm)
      have hS15ph := Lib.hid hS15p
      clear hS15 hS15p
      go_upto_region 16 with (fail)
      have hS15p := hS15ph.out
      clear st11s hs11 hS15ph
      generalize World.setRow w15 T _ = W15 at *
      obtain ⟨row, hrow⟩ : ∃ row, row = tenRow ⟨s, v, K, p, M, Hm, [], 0, 0, 0, [], [], 0, 0, 0, 0⟩ (.slice none 0 0) (.slice none 0 0) (.slice none 0 0) := ⟨_, rfl⟩
      have hcr : (rowPut (rowPut ((rowPut (((tenZero ⟨#[]⟩).setIfInBounds 0 (.string s)).setIfInBounds 1 (.int .u32 (v : Int))) 2 (u8row K).toList).setIfInBounds 10 (.int .u32 (p : Int))) 11 (u8row M).toList) 17 (u8row Hm).toList) = row := (ten_cells s v p K M Hm hz6 hz9 hz11).trans hrow.symm
      rw [hcr] at hS15p
      have hwt : WfTen ⟨s, v, K, p, M, Hm, [], 0, 0, 0, [], [], 0, 0, 0, 0⟩ := ⟨hz6, hz9, hz11⟩
      have hrs : row.size = 33 := hS15p.size
      have hr1 : ∀ u ∈ row.toList, u.oneCell' = true := by rw [hrow]; exact ten_one _ _ _ _ rfl rfl rfl
      have hbs := fold_ten row hrs
      have hfin := tenS_is hD e3 e4 hv4 e5 e6 hv6 e7 e8 hv8 e9 hv9 e10 e11 hv11
      have hR := (H2.out.1.call hS15p.line hS15p.turn).quiet (Turn.refl _ _).drew
      have hblk : W15.drew.heap[T]? = some (.cells row 45 (0, 0)) := hS15p.blk
      have hi45 : (Tryz.prog.info? 45).map (·.size) = some row.size := by rw [hrs]; kernel_rfl
      have hcC : W15.drew.cell? ⟨C, 28, none⟩ = some (.slice ao l.length cp) := by rw [← htv]; exact hR.cell
      have hcC2 := alloc_cell (o := .cells row 45) hcC
      have hR0 := H2.out.1.call hS15p.line hS15p.turn
      have hRA8 := (hR0.quiet (Turn.refl (fun _ => False) W15).drew).quiet ((Turn.refl (fun _ => False) W15.drew).alloc (.cells row 45))
      have hRD8 := (hR0.quiet ((Turn.refl (fun _ => False) W15).alloc (.cells row 45))).quiet (Turn.refl (fun _ => False) (W15.alloc (.cells row 45))).drew
      have hOwn := hRA8.tens.row
      have hOwnD := hRD8.tens.row
      rw [htv] at hOwn hOwnD
      have hNews : ∀ j u, row.toList[j]? = some u → (W15.drew.alloc (.cells row 45)).cell? ((⟨W15.heap.size, 0, none⟩ : Addr).add j) = some u := World.news_of_block (cs := row) (t := 45) (fr := (0, 0)) (heap_alloc_new W15.drew _)
      have hNewsD : ∀ j u, row.toList[j]? = some u → ((W15.alloc (.cells row 45)).drew).cell? ((⟨W15.heap.size, 0, none⟩ : Addr).add j) = some u := World.news_of_block (cs := row) (t := 45) (fr := (0, 0)) (heap_alloc_new W15 _)
      have hTA : (W15.drew.alloc (.cells row 45)).heap[T]? = some (.cells row 45 (0, 0)) := block_alloc_old hblk
      have hTD : ((W15.alloc (.cells row 45)).drew).heap[T]? = some (.cells row 45 (0, 0)) := block_alloc_old (w := W15) hblk
      have hTl := block_lt hTA
      have hTlD := block_lt hTD
      have hTn : (Value.slice ao l.length cp).ownBlock ≠ some T := by
        intro e
        rw [← htv] at e
        obtain ⟨gs, hgs⟩ := own_cells H2.out.1.tens.row e
        have := block_lt hgs
        have := hS15p.fresh
        omega
      have hTC : T ≠ C := by have := block_lt H2.out.1.cel; have := hS15p.fresh; omega
      have hcC3 := alloc_cell (o := .cells row 45) (show W15.cell? ⟨C, 28, none⟩ = _ from hcC)
      have HR := Lib.hid (And.intro hR (And.intro hwt (And.intro hrow (And.intro hr1 (And.intro hfin hS15p.turn)))))
      clear hR hwt hrow hr1 hfin hcr hS15p hD e3 e4 hv4 e5 e6 hv6 e7 e8 hv8 e9 hv9 e10 e11 hv11 hz6 hz9 hz11 hm4
      refine wp_region_held_drew (S := fun w' => w'.heap[T]? = some (.cells row 45 (0, 0))) (by kernel_rfl) hblk (fun hHeld => ?_)
      refine wpAnyH_take (i := 0) (v := .pointer (some ⟨C, 0, none⟩)) rfl (by kernel_rfl) (by kernel_rfl) (by kernel_rfl) (fun _ _ _ h => h) (Or.inl ⟨by rfl, fun w' hSw => by dsimp only at hSw; go_simp⟩) hHeld ?_
      simp only [Act.put, List.setIfInBounds_toArray, List.set_cons_zero, List.set_cons_succ]
      refine wpAnyH_take (i := 1) (v := .pointer (some ⟨C, 0, none⟩)) rfl (by kernel_rfl) (by kernel_rfl) (by kernel_rfl) (fun _ _ _ h => h) (Or.inl ⟨by rfl, fun w' hSw => by dsimp only at hSw; go_simp⟩) hHeld ?_
      simp only [Act.put, List.setIfInBounds_toArray, List.set_cons_zero, List.set_cons_succ]
      refine wpAnyH_take (i := 2) (v := .pointer (some ⟨C, 0, none⟩)) rfl (by kernel_rfl) (by kernel_rfl) (by kernel_rfl) (fun _ _ _ h => h) (Or.inl ⟨by rfl, fun w' hSw => by dsimp only at hSw; go_simp⟩) hHeld ?_
      simp only [Act.put, List.setIfInBounds_toArray, List.set_cons_zero, List.set_cons_succ]
      refine wpAnyH_take (i := 3) (v := .pointer (some ⟨C, 28, none⟩)) rfl (by kernel_rfl) (by kernel_rfl) (by kernel_rfl) (fun _ _ _ h => h) (Or.inl ⟨by rfl, fun w' hSw => by dsimp only at hSw; go_simp⟩) hHeld ?_
      simp only [Act.put, List.setIfInBounds_toArray, List.set_cons_zero, List.set_cons_succ]
      refine wpAnyH_take (i := 5) (v := .agg row) rfl (by kernel_rfl) (by kernel_rfl) (by kernel_rfl) (fun _ _ _ h => h) (Or.inl ⟨by rfl, fun w' hSw => exec_load_row 45 (.tmp 5) rfl T rfl 45 row (0, 0) _ hSw Tryz.underlying45 rfl hi45⟩) hHeld ?_
      simp only [Act.put, List.setIfInBounds_toArray, List.set_cons_zero, List.set_cons_succ]
      refine wpAnyH_ready (rs := [4, 6]) (by kernel_rfl) (by simp) ?_
      refine AllReadyH.cons rfl (fun K hK => ?_) (AllReadyH.cons rfl (fun K hK => ?_) AllReadyH.nil)
      all_goals first
        | (rw [if_pos (by rfl)]
           go_simp
           refine hK.out _ _ (hblk) (fun hHeld => ?_)
           clear hK K
           try simp only [Act.put, List.setIfInBounds_toArray, List.set_cons_zero, List.set_cons_succ]
           refine wpAnyH_ready (rs := [6]) (by kernel_rfl) (by simp) ?_
           refine AllReadyH.cons rfl (fun K hK => ?_) AllReadyH.nil
           rw [if_pos (by rfl)]
           go_simp
           refine hK.out _ _ (by first | exact hTA | exact hTD) (fun hHeld => ?_)
           clear hK K
           try simp only [Act.put, List.setIfInBounds_toArray, List.set_cons_zero, List.set_cons_succ]
           refine wpAnyH_ready (rs := [7]) (by kernel_rfl) (by simp) ?_
           refine AllReadyH.cons rfl (fun K hK => ?_) AllReadyH.nil
           refine step_append_lies _ (by rfl) _ _ _ (by rfl) lo 45 i0 (.agg (tenZero ⟨#[]⟩)) 33 160 Tryz.underlying27 hi0 hz0 hz1 hz2 rfl (by decide) (.slice ao l.length cp) l.length _ (by rfl) (by first | exact hOwn | exact hOwnD) ⟨W15.heap.size, 0, none⟩ 1 1 row.toList (by rfl) (by rw [Array.length_toList]; exact hrs) (by first | exact hNews | exact hNewsD) HR.out.2.2.2.1 (by omega) (by unfold maxLen; omega) (by omega) (by have := HR.out.1.low; simp at this; simp; omega) (W15.heap.size + 1) (by simp) ?_
           intro g' cap' w' hown' hgrow hwhere hlt'
           obtain ⟨hR8, hc8, hf8, ht8⟩ := RLine.tenant (by first | exact hRA8 | exact hRD8) (tv' := .slice (some ⟨g', 0, none⟩) (l.length + 1) cap') HR.out.2.1 rfl rfl rfl (by rw [← HR.out.2.2.1]; exact hown') (by rw [htv]; exact turn_of_grown hgrow)
           rw [htv] at hc8
           have hT8 : w'.heap[T]? = some (.cells row 45 (0, 0)) := (turn_of_grown hgrow).block T (by first | exact hTl | exact hTlD) hTn |>.trans (by first | exact hTA | exact hTD)
           have hT9 : (w'.setCell ⟨C, 28, none⟩ (.slice (some ⟨g', 0, none⟩) (l.length + 1) cap')).heap[T]? = some (.cells row 45 (0, 0)) := by rw [Below.heap_setCell _ _ _ _ hTC]; exact hT8
           have HR8 := Lib.hid (And.intro hR8 ht8)
           clear hR8 ht8 hown' hgrow hwhere hlt'
           refine hK.out _ _ hT8 (fun hHeld => ?_)
           clear hK K
           try simp only [Act.put, List.setIfInBounds_toArray, List.set_cons_zero, List.set_cons_succ]
           refine wpAnyH_take (i := 8) (v := .pointer (some ⟨C, 0, none⟩)) rfl (by kernel_rfl) (by kernel_rfl) (by kernel_rfl) (fun _ _ _ h => h) (Or.inl ⟨by rfl, fun w' hSw => by dsimp only at hSw; go_simp⟩) hHeld ?_
           simp only [Act.put, List.setIfInBounds_toArray, List.set_cons_zero, List.set_cons_succ]
           refine wpAnyH_take (i := 9) (v := .pointer (some ⟨C, 28, none⟩)) rfl (by kernel_rfl) (by kernel_rfl) (by kernel_rfl) (fun _ _ _ h => h) (Or.inl ⟨by rfl, fun w' hSw => by dsimp only at hSw; go_simp⟩) hHeld ?_
           simp only [Act.put, List.setIfInBounds_toArray, List.set_cons_zero, List.set_cons_succ]
           refine wpAnyH_ready (rs := [10]) (by kernel_rfl) (by simp) ?_
           refine AllReadyH.cons rfl (fun K hK => ?_) AllReadyH.nil
           rw [if_pos (by rfl)]
           go_simp
           refine hK.out _ _ (hT9) (fun hHeld => ?_)
           clear hK K
           try simp only [Act.put, List.setIfInBounds_toArray, List.set_cons_zero, List.set_cons_succ]
           refine wpAnyH_done (by kernel_rfl) ?_ _)
        | (rw [if_pos (by rfl)]
           go_simp
           refine hK.out _ _ (by first | exact hTA | exact hTD) (fun hHeld => ?_)
           clear hK K
           try simp only [Act.put, List.setIfInBounds_toArray, List.set_cons_zero, List.set_cons_succ]
           refine wpAnyH_ready (rs := [4]) (by kernel_rfl) (by simp) ?_
           refine AllReadyH.cons rfl (fun K hK => ?_) AllReadyH.nil
           rw [if_pos (by rfl)]
           go_simp
           refine hK.out _ _ (by first | exact hTA | exact hTD) (fun hHeld => ?_)
           clear hK K
           try simp only [Act.put, List.setIfInBounds_toArray, List.set_cons_zero, List.set_cons_succ]
           refine wpAnyH_ready (rs := [7]) (by kernel_rfl) (by simp) ?_
           refine AllReadyH.cons rfl (fun K hK => ?_) AllReadyH.nil
           refine step_append_lies _ (by rfl) _ _ _ (by rfl) lo 45 i0 (.agg (tenZero ⟨#[]⟩)) 33 160 Tryz.underlying27 hi0 hz0 hz1 hz2 rfl (by decide) (.slice ao l.length cp) l.length _ (by rfl) (by first | exact hOwn | exact hOwnD) ⟨W15.heap.size, 0, none⟩ 1 1 row.toList (by rfl) (by rw [Array.length_toList]; exact hrs) (by first | exact hNews | exact hNewsD) HR.out.2.2.2.1 (by omega) (by unfold maxLen; omega) (by omega) (by have := HR.out.1.low; simp at this; simp; omega) (W15.heap.size + 1) (by simp) ?_
           intro g' cap' w' hown' hgrow hwhere hlt'
           obtain ⟨hR8, hc8, hf8, ht8⟩ := RLine.tenant (by first | exact hRA8 | exact hRD8) (tv' := .slice (some ⟨g', 0, none⟩) (l.length + 1) cap') HR.out.2.1 rfl rfl rfl (by rw [← HR.out.2.2.1]; exact hown') (by rw [htv]; exact turn_of_grown hgrow)
           rw [htv] at hc8
           have hT8 : w'.heap[T]? = some (.cells row 45 (0, 0)) := (turn_of_grown hgrow).block T (by first | exact hTl | exact hTlD) hTn |>.trans (by first | exact hTA | exact hTD)
           have hT9 : (w'.setCell ⟨C, 28, none⟩ (.slice (some ⟨g', 0, none⟩) (l.length + 1) cap')).heap[T]? = some (.cells row 45 (0, 0)) := by rw [Below.heap_setCell _ _ _ _ hTC]; exact hT8
           have HR8 := Lib.hid (And.intro hR8 ht8)
           clear hR8 ht8 hown' hgrow hwhere hlt'
           refine hK.out _ _ hT8 (fun hHeld => ?_)
           clear hK K
           try simp only [Act.put, List.setIfInBounds_toArray, List.set_cons_zero, List.set_cons_succ]
           refine wpAnyH_take (i := 8) (v := .pointer (some ⟨C, 0, none⟩)) rfl (by kernel_rfl) (by kernel_rfl) (by kernel_rfl) (fun _ _ _ h => h) (Or.inl ⟨by rfl, fun w' hSw => by dsimp only at hSw; go_simp⟩) hHeld ?_
           simp only [Act.put, List.setIfInBounds_toArray, List.set_cons_zero, List.set_cons_succ]
           refine wpAnyH_take (i := 9) (v := .pointer (some ⟨C, 28, none⟩)) rfl (by kernel_rfl) (by kernel_rfl) (by kernel_rfl) (fun _ _ _ h => h) (Or.inl ⟨by rfl, fun w' hSw => by dsimp only at hSw; go_simp⟩) hHeld ?_
           simp only [Act.put, List.setIfInBounds_toArray, List.set_cons_zero, List.set_cons_succ]
           refine wpAnyH_ready (rs := [10]) (by kernel_rfl) (by simp) ?_
           refine AllReadyH.cons rfl (fun K hK => ?_) AllReadyH.nil
           rw [if_pos (by rfl)]
           go_simp
           refine hK.out _ _ (hT9) (fun hHeld => ?_)
           clear hK K
           try simp only [Act.put, List.setIfInBounds_toArray, List.set_cons_zero, List.set_cons_succ]
           refine wpAnyH_done (by kernel_rfl) ?_ _)
      all_goals
        go_wp2_with fail
        go_end0
        have e : bodyR c L en = (tenantP L en 1).map fun r => ({ c with tens := c.tens ++ [r.1] }, r.2) := by
          unfold bodyR
          rw [nextP_some H.out.2]
          show bodyP c (tenName, a0) L en 1 = _
          unfold bodyP
          rw [if_pos rfl]
        obtain ⟨f1, f2⟩ := HR.out.2.2.2.2.1
        have e2 : (bodyR c L en).map (·.2) = st11 := by rw [e, f1]; cases tenantP L en 1 <;> rfl
        refine ⟨rfl, _, _, _, by rw [e2]; exact HR8.out.1, ?_, ?_⟩
        · have u1 : Turn (fun k => k = b ∨ k = C ∨ lo ≤ k) w W15.drew := (H2.out.2.trans (HR.out.2.2.2.2.2.trans (Turn.refl _ _).drew)).mono (fun _ _ e => Or.inl e)
          have u2 : Turn (fun k => k = b ∨ k = C ∨ lo ≤ k) w (W15.alloc (.cells row 45)) := (H2.out.2.trans (HR.out.2.2.2.2.2.alloc (.cells row 45))).mono (fun _ _ e => Or.inl e)
          first | exact (u1.trans ((Turn.refl (fun k => k = b ∨ k = C ∨ lo ≤ k) W15.drew).alloc (.cells row 45))).trans (HR8.out.2.mono (fun _ _ e => Or.inr e)) | exact (u2.trans (Turn.refl (fun k => k = b ∨ k = C ∨ lo ≤ k) (W15.alloc (.cells row 45))).drew).trans (HR8.out.2.mono (fun _ _ e => Or.inr e))
        · intro u m hu
          rw [e] at hu
          rcases except_cases (tenantP L en 1) with ⟨pl3, r3⟩ | ⟨⟨t3, m3⟩, r3⟩
          · rw [r3] at hu; cases hu
          · obtain rfl := f2 t3 m3 r3
            rw [r3] at hu
            cases hu
            rfl
    | false =>
      rw [hn] at hname
      have HT := Lib.hid (And.intro hT3 (And.intro r1 hn))
      clear hT3 hRA r1 hw hblkn hn hct0 hft0
      go_wp2_with fail
      refine hname.mono ?_
      rintro e w5 ⟨rfl, t5⟩
      have hT5 := HT.out.1.quiet t5
      have cn0' := (cell_turn0 t5 hqW (fun h => h)).trans cn0
      have cn1' := (cell_turn0 t5 hqW (fun h => h)).trans cn1
      have hqW5 := Nat.lt_of_lt_of_le hqW t5.size
      have h29 := rfail_any b g cap L en _ a1 w5 hT5.line
      have HT5 := Lib.hid hT5
      clear hT5 t5 cn0 cn1 c4 hname hqW
      go_wp2_with fail
      refine h29.mono ?_
      rintro e w6 ⟨rfl, q6, t6⟩
      have hT6 := HT5.out.call q6 t6
      have cn0 := (cell_turn0 t6 hqW5 hnb).trans cn0'
      obtain ⟨vt1, hct1⟩ := hT6.cell (j := 0) (by decide)
      have hft1 := hT6.free 0
      have HT6 := Lib.hid hT6
      clear hT6 q6 t6 h29 cn0' cn1'
      go_wp2_with fail
      obtain ⟨st2, hS6, hD⟩ : ∃ st2, TSt w0 b g cap L en st2 T ((tenZero ⟨#[]⟩).setIfInBounds 0 (.string s)) (w6.setCell ⟨T, 0, none⟩ (.string s)) ∧ TenD L en s st2 := ⟨_, HT6.out.put 0 _, tenD_bad HT.out.2.1 HT.out.2.2⟩
      clear cn0 hct1 hft1 hnb HT HT5 HT6 hqW5
      generalize w6.setCell ⟨T, 0, none⟩ (.string s) = W6 at *
      refine (rmust_any vniName b g cap L en st2 W6 hS6.line).mono ?_
      rintro e w7 ⟨rfl, q3, t3⟩
      have hS7 := hS6.call q3 t3
      clear q3 t3 hS6
      obtain ⟨st3, e3⟩ : ∃ x, x = mustS vniName st2 L en := ⟨_, rfl⟩
      rw [← e3] at hS7
      obtain ⟨v, hc4, hm4, hv4⟩ := rNum_any 16777215 (by decide) b g cap L en st3 w7 hS7.line
      have hS7h := Lib.hid hS7
      clear hS7
      go_wp2_with fail
      refine hc4.mono ?_
      rintro e w8 ⟨rfl, q4, t4⟩
      have hS8 := hS7h.out.call q4 t4
      clear q4 t4 hc4 hS7h
      obtain ⟨st4, e4⟩ : ∃ x, x = (readS (fun l => numOf l 16777215) st3 L en).map (·.2) := ⟨_, rfl⟩
      rw [← e4] at hS8
      obtain ⟨vt4, hct4⟩ := hS8.cell (j := 1) (by decide)
      have hft4 := hS8.free 1
      have hS8p := hS8.put 1 (.int .u32 (v : Int))
      have hS8ph := Lib.hid hS8p
      clear hS8 hS8p
      go_wp2_with fail
      have hS8p := hS8ph.out
      clear hct4 hft4 hS8ph
      generalize w8.setCell ⟨T, 1, none⟩ (.int .u32 (v : Int)) = W8 at *
      refine (rmust_any keyName b g cap L en st4 W8 hS8p.line).mono ?_
      rintro e w9 ⟨rfl, q5, t5⟩
      have hS9 := hS8p.call q5 t5
      clear q5 t5 hS8p
      obtain ⟨st5, e5⟩ : ∃ x, x = mustS keyName st4 L en := ⟨_, rfl⟩
      rw [← e5] at hS9
      obtain ⟨K, hz6, hc6, hv6⟩ := rKey_any b g cap L en st5 w9 hS9.line
      have hS9h := Lib.hid hS9
      clear hS9
      go_wp2_with fail
      refine hc6.mono ?_
      rintro e w10 ⟨rfl, q6, t6⟩
      have hS10 := hS9h.out.call q6 t6
      clear q6 t6 hc6 hS9h
      obtain ⟨st6, e6⟩ : ∃ x, x = (readS keyOf st5 L en).map (·.2) := ⟨_, rfl⟩
      rw [← e6] at hS10
      have hs6 : (u8row K).size = 8 := (u8row_len K).trans hz6
      obtain ⟨st6s, hS10p⟩ := hS10.row 2 (u8row K).toList (by rw [u8row_len, hz6]; decide) (u8row_one K)
      have hS10ph := Lib.hid hS10p
      clear hS10 hS10p
      go_wp2_with fail
      have hS10p := hS10ph.out
      clear st6s hs6 hS10ph
      generalize w10.setRow T (rowPut (((tenZero ⟨#[]⟩).setIfInBounds 0 (.string s)).setIfInBounds 1 (.int .u32 (v : Int))) 2 (u8row K).toList) = W10 at *
      refine (rmust_any vtepName b g cap L en st6 W10 hS10p.line).mono ?_
      rintro e w11 ⟨rfl, q7, t7⟩
      have hS11 := hS10p.call q7 t7
      clear q7 t7 hS10p
      obtain ⟨st7, e7⟩ : ∃ x, x = mustS vtepName st6 L en := ⟨_, rfl⟩
      rw [← e7] at hS11
      obtain ⟨p, hc8, hv8⟩ := rIp_any b g cap L en st7 w11 hS11.line
      have hS11h := Lib.hid hS11
      clear hS11
      go_wp2_with fail
      refine hc8.mono ?_
      rintro e w12 ⟨rfl, q8, t8⟩
      have hS12 := hS11h.out.call q8 t8
      clear q8 t8 hc8 hS11h
      obtain ⟨st8, e8⟩ : ∃ x, x = (readS ipOf st7 L en).map (·.2) := ⟨_, rfl⟩
      rw [← e8] at hS12
      obtain ⟨vt8, hct8⟩ := hS12.cell (j := 10) (by decide)
      have hft8 := hS12.free 10
      have hS12p := hS12.put 10 (.int .u32 (p : Int))
      have hS12ph := Lib.hid hS12p
      clear hS12 hS12p
      go_wp2_with fail
      have hS12p := hS12ph.out
      clear hct8 hft8 hS12ph
      generalize w12.setCell ⟨T, 10, none⟩ (.int .u32 (p : Int)) = W12 at *
      obtain ⟨M, hz9, hc9, hv9⟩ := rMac_any b g cap L en st8 W12 hS12p.line
      have hS12ph := Lib.hid hS12p
      clear hS12p
      go_wp2_with fail
      refine hc9.mono ?_
      rintro e w13 ⟨rfl, q9, t9⟩
      have hS13 := hS12ph.out.call q9 t9
      clear q9 t9 hc9 hS12ph
      obtain ⟨st9, e9⟩ : ∃ x, x = (readS macOf st8 L en).map (·.2) := ⟨_, rfl⟩
      rw [← e9] at hS13
      have hs9 : (u8row M).size = 6 := (u8row_len M).trans hz9
      obtain ⟨st9s, hS13p⟩ := hS13.row 11 (u8row M).toList (by rw [u8row_len, hz9]; decide) (u8row_one M)
      have hS13ph := Lib.hid hS13p
      clear hS13 hS13p
      go_wp2_with fail
      have hS13p := hS13ph.out
      clear st9s hs9 hS13ph
      generalize World.setRow w13 T _ = W13 at *
      refine (rmust_any hostName b g cap L en st9 W13 hS13p.line).mono ?_
      rintro e w14 ⟨rfl, q10, t10⟩
      have hS14 := hS13p.call q10 t10
      clear q10 t10 hS13p
      obtain ⟨st10, e10⟩ : ∃ x, x = mustS hostName st9 L en := ⟨_, rfl⟩
      rw [← e10] at hS14
      obtain ⟨Hm, hz11, hc11, hv11⟩ := rMac_any b g cap L en st10 w14 hS14.line
      have hS14h := Lib.hid hS14
      clear hS14
      go_wp2_with fail
      refine hc11.mono ?_
      rintro e w15 ⟨rfl, q11, t11⟩
      have hS15 := hS14h.out.call q11 t11
      clear q11 t11 hc11 hS14h
      obtain ⟨st11, e11⟩ : ∃ x, x = (readS macOf st10 L en).map (·.2) := ⟨_, rfl⟩
      rw [← e11] at hS15
      have hs11 : (u8row Hm).size = 6 := (u8row_len Hm).trans hz11
      obtain ⟨st11s, hS15p⟩ := hS15.row 17 (u8row Hm).toList (by rw [u8row_len, hz11]; decide) (u8row_one Hm)
      have hS15ph := Lib.hid hS15p
      clear hS15 hS15p
      go_upto_region 16 with (fail)
      have hS15p := hS15ph.out
      clear st11s hs11 hS15ph
      generalize World.setRow w15 T _ = W15 at *
      obtain ⟨row, hrow⟩ : ∃ row, row = tenRow ⟨s, v, K, p, M, Hm, [], 0, 0, 0, [], [], 0, 0, 0, 0⟩ (.slice none 0 0) (.slice none 0 0) (.slice none 0 0) := ⟨_, rfl⟩
      have hcr : (rowPut (rowPut ((rowPut (((tenZero ⟨#[]⟩).setIfInBounds 0 (.string s)).setIfInBounds 1 (.int .u32 (v : Int))) 2 (u8row K).toList).setIfInBounds 10 (.int .u32 (p : Int))) 11 (u8row M).toList) 17 (u8row Hm).toList) = row := (ten_cells s v p K M Hm hz6 hz9 hz11).trans hrow.symm
      rw [hcr] at hS15p
      have hwt : WfTen ⟨s, v, K, p, M, Hm, [], 0, 0, 0, [], [], 0, 0, 0, 0⟩ := ⟨hz6, hz9, hz11⟩
      have hrs : row.size = 33 := hS15p.size
      have hr1 : ∀ u ∈ row.toList, u.oneCell' = true := by rw [hrow]; exact ten_one _ _ _ _ rfl rfl rfl
      have hbs := fold_ten row hrs
      have hfin := tenS_is hD e3 e4 hv4 e5 e6 hv6 e7 e8 hv8 e9 hv9 e10 e11 hv11
      have hR := (H2.out.1.call hS15p.line hS15p.turn).quiet (Turn.refl _ _).drew
      have hblk : W15.drew.heap[T]? = some (.cells row 45 (0, 0)) := hS15p.blk
      have hi45 : (Tryz.prog.info? 45).map (·.size) = some row.size := by rw [hrs]; kernel_rfl
      have hcC : W15.drew.cell? ⟨C, 28, none⟩ = some (.slice ao l.length cp) := by rw [← htv]; exact hR.cell
      have hcC2 := alloc_cell (o := .cells row 45) hcC
      have hR0 := H2.out.1.call hS15p.line hS15p.turn
      have hRA8 := (hR0.quiet (Turn.refl (fun _ => False) W15).drew).quiet ((Turn.refl (fun _ => False) W15.drew).alloc (.cells row 45))
      have hRD8 := (hR0.quiet ((Turn.refl (fun _ => False) W15).alloc (.cells row 45))).quiet (Turn.refl (fun _ => False) (W15.alloc (.cells row 45))).drew
      have hOwn := hRA8.tens.row
      have hOwnD := hRD8.tens.row
      rw [htv] at hOwn hOwnD
      have hNews : ∀ j u, row.toList[j]? = some u → (W15.drew.alloc (.cells row 45)).cell? ((⟨W15.heap.size, 0, none⟩ : Addr).add j) = some u := World.news_of_block (cs := row) (t := 45) (fr := (0, 0)) (heap_alloc_new W15.drew _)
      have hNewsD : ∀ j u, row.toList[j]? = some u → ((W15.alloc (.cells row 45)).drew).cell? ((⟨W15.heap.size, 0, none⟩ : Addr).add j) = some u := World.news_of_block (cs := row) (t := 45) (fr := (0, 0)) (heap_alloc_new W15 _)
      have hTA : (W15.drew.alloc (.cells row 45)).heap[T]? = some (.cells row 45 (0, 0)) := block_alloc_old hblk
      have hTD : ((W15.alloc (.cells row 45)).drew).heap[T]? = some (.cells row 45 (0, 0)) := block_alloc_old (w := W15) hblk
      have hTl := block_lt hTA
      have hTlD := block_lt hTD
      have hTn : (Value.slice ao l.length cp).ownBlock ≠ some T := by
        intro e
        rw [← htv] at e
        obtain ⟨gs, hgs⟩ := own_cells H2.out.1.tens.row e
        have := block_lt hgs
        have := hS15p.fresh
        omega
      have hTC : T ≠ C := by have := block_lt H2.out.1.cel; have := hS15p.fresh; omega
      have hcC3 := alloc_cell (o := .cells row 45) (show W15.cell? ⟨C, 28, none⟩ = _ from hcC)
      have HR := Lib.hid (And.intro hR (And.intro hwt (And.intro hrow (And.intro hr1 (And.intro hfin hS15p.turn)))))
      clear hR hwt hrow hr1 hfin hcr hS15p hD e3 e4 hv4 e5 e6 hv6 e7 e8 hv8 e9 hv9 e10 e11 hv11 hz6 hz9 hz11 hm4
      refine wp_region_held_drew (S := fun w' => w'.heap[T]? = some (.cells row 45 (0, 0))) (by kernel_rfl) hblk (fun hHeld => ?_)
      refine wpAnyH_take (i := 0) (v := .pointer (some ⟨C, 0, none⟩)) rfl (by kernel_rfl) (by kernel_rfl) (by kernel_rfl) (fun _ _ _ h => h) (Or.inl ⟨by rfl, fun w' hSw => by dsimp only at hSw; go_simp⟩) hHeld ?_
      simp only [Act.put, List.setIfInBounds_toArray, List.set_cons_zero, List.set_cons_succ]
      refine wpAnyH_take (i := 1) (v := .pointer (some ⟨C, 0, none⟩)) rfl (by kernel_rfl) (by kernel_rfl) (by kernel_rfl) (fun _ _ _ h => h) (Or.inl ⟨by rfl, fun w' hSw => by dsimp only at hSw; go_simp⟩) hHeld ?_
      simp only [Act.put, List.setIfInBounds_toArray, List.set_cons_zero, List.set_cons_succ]
      refine wpAnyH_take (i := 2) (v := .pointer (some ⟨C, 0, none⟩)) rfl (by kernel_rfl) (by kernel_rfl) (by kernel_rfl) (fun _ _ _ h => h) (Or.inl ⟨by rfl, fun w' hSw => by dsimp only at hSw; go_simp⟩) hHeld ?_
      simp only [Act.put, List.setIfInBounds_toArray, List.set_cons_zero, List.set_cons_succ]
      refine wpAnyH_take (i := 3) (v := .pointer (some ⟨C, 28, none⟩)) rfl (by kernel_rfl) (by kernel_rfl) (by kernel_rfl) (fun _ _ _ h => h) (Or.inl ⟨by rfl, fun w' hSw => by dsimp only at hSw; go_simp⟩) hHeld ?_
      simp only [Act.put, List.setIfInBounds_toArray, List.set_cons_zero, List.set_cons_succ]
      refine wpAnyH_take (i := 5) (v := .agg row) rfl (by kernel_rfl) (by kernel_rfl) (by kernel_rfl) (fun _ _ _ h => h) (Or.inl ⟨by rfl, fun w' hSw => exec_load_row 45 (.tmp 5) rfl T rfl 45 row (0, 0) _ hSw Tryz.underlying45 rfl hi45⟩) hHeld ?_
      simp only [Act.put, List.setIfInBounds_toArray, List.set_cons_zero, List.set_cons_succ]
      refine wpAnyH_ready (rs := [4, 6]) (by kernel_rfl) (by simp) ?_
      refine AllReadyH.cons rfl (fun K hK => ?_) (AllReadyH.cons rfl (fun K hK => ?_) AllReadyH.nil)
      all_goals first
        | (rw [if_pos (by rfl)]
           go_simp
           refine hK.out _ _ (hblk) (fun hHeld => ?_)
           clear hK K
           try simp only [Act.put, List.setIfInBounds_toArray, List.set_cons_zero, List.set_cons_succ]
           refine wpAnyH_ready (rs := [6]) (by kernel_rfl) (by simp) ?_
           refine AllReadyH.cons rfl (fun K hK => ?_) AllReadyH.nil
           rw [if_pos (by rfl)]
           go_simp
           refine hK.out _ _ (by first | exact hTA | exact hTD) (fun hHeld => ?_)
           clear hK K
           try simp only [Act.put, List.setIfInBounds_toArray, List.set_cons_zero, List.set_cons_succ]
           refine wpAnyH_ready (rs := [7]) (by kernel_rfl) (by simp) ?_
           refine AllReadyH.cons rfl (fun K hK => ?_) AllReadyH.nil
           refine step_append_lies _ (by rfl) _ _ _ (by rfl) lo 45 i0 (.agg (tenZero ⟨#[]⟩)) 33 160 Tryz.underlying27 hi0 hz0 hz1 hz2 rfl (by decide) (.slice ao l.length cp) l.length _ (by rfl) (by first | exact hOwn | exact hOwnD) ⟨W15.heap.size, 0, none⟩ 1 1 row.toList (by rfl) (by rw [Array.length_toList]; exact hrs) (by first | exact hNews | exact hNewsD) HR.out.2.2.2.1 (by omega) (by unfold maxLen; omega) (by omega) (by have := HR.out.1.low; simp at this; simp; omega) (W15.heap.size + 1) (by simp) ?_
           intro g' cap' w' hown' hgrow hwhere hlt'
           obtain ⟨hR8, hc8, hf8, ht8⟩ := RLine.tenant (by first | exact hRA8 | exact hRD8) (tv' := .slice (some ⟨g', 0, none⟩) (l.length + 1) cap') HR.out.2.1 rfl rfl rfl (by rw [← HR.out.2.2.1]; exact hown') (by rw [htv]; exact turn_of_grown hgrow)
           rw [htv] at hc8
           have hT8 : w'.heap[T]? = some (.cells row 45 (0, 0)) := (turn_of_grown hgrow).block T (by first | exact hTl | exact hTlD) hTn |>.trans (by first | exact hTA | exact hTD)
           have hT9 : (w'.setCell ⟨C, 28, none⟩ (.slice (some ⟨g', 0, none⟩) (l.length + 1) cap')).heap[T]? = some (.cells row 45 (0, 0)) := by rw [Below.heap_setCell _ _ _ _ hTC]; exact hT8
           have HR8 := Lib.hid (And.intro hR8 ht8)
           clear hR8 ht8 hown' hgrow hwhere hlt'
           refine hK.out _ _ hT8 (fun hHeld => ?_)
           clear hK K
           try simp only [Act.put, List.setIfInBounds_toArray, List.set_cons_zero, List.set_cons_succ]
           refine wpAnyH_take (i := 8) (v := .pointer (some ⟨C, 0, none⟩)) rfl (by kernel_rfl) (by kernel_rfl) (by kernel_rfl) (fun _ _ _ h => h) (Or.inl ⟨by rfl, fun w' hSw => by dsimp only at hSw; go_simp⟩) hHeld ?_
           simp only [Act.put, List.setIfInBounds_toArray, List.set_cons_zero, List.set_cons_succ]
           refine wpAnyH_take (i := 9) (v := .pointer (some ⟨C, 28, none⟩)) rfl (by kernel_rfl) (by kernel_rfl) (by kernel_rfl) (fun _ _ _ h => h) (Or.inl ⟨by rfl, fun w' hSw => by dsimp only at hSw; go_simp⟩) hHeld ?_
           simp only [Act.put, List.setIfInBounds_toArray, List.set_cons_zero, List.set_cons_succ]
           refine wpAnyH_ready (rs := [10]) (by kernel_rfl) (by simp) ?_
           refine AllReadyH.cons rfl (fun K hK => ?_) AllReadyH.nil
           rw [if_pos (by rfl)]
           go_simp
           refine hK.out _ _ (hT9) (fun hHeld => ?_)
           clear hK K
           try simp only [Act.put, List.setIfInBounds_toArray, List.set_cons_zero, List.set_cons_succ]
           refine wpAnyH_done (by kernel_rfl) ?_ _)
        | (rw [if_pos (by rfl)]
           go_simp
           refine hK.out _ _ (by first | exact hTA | exact hTD) (fun hHeld => ?_)
           clear hK K
           try simp only [Act.put, List.setIfInBounds_toArray, List.set_cons_zero, List.set_cons_succ]
           refine wpAnyH_ready (rs := [4]) (by kernel_rfl) (by simp) ?_
           refine AllReadyH.cons rfl (fun K hK => ?_) AllReadyH.nil
           rw [if_pos (by rfl)]
           go_simp
           refine hK.out _ _ (by first | exact hTA | exact hTD) (fun hHeld => ?_)
           clear hK K
           try simp only [Act.put, List.setIfInBounds_toArray, List.set_cons_zero, List.set_cons_succ]
           refine wpAnyH_ready (rs := [7]) (by kernel_rfl) (by simp) ?_
           refine AllReadyH.cons rfl (fun K hK => ?_) AllReadyH.nil
           refine step_append_lies _ (by rfl) _ _ _ (by rfl) lo 45 i0 (.agg (tenZero ⟨#[]⟩)) 33 160 Tryz.underlying27 hi0 hz0 hz1 hz2 rfl (by decide) (.slice ao l.length cp) l.length _ (by rfl) (by first | exact hOwn | exact hOwnD) ⟨W15.heap.size, 0, none⟩ 1 1 row.toList (by rfl) (by rw [Array.length_toList]; exact hrs) (by first | exact hNews | exact hNewsD) HR.out.2.2.2.1 (by omega) (by unfold maxLen; omega) (by omega) (by have := HR.out.1.low; simp at this; simp; omega) (W15.heap.size + 1) (by simp) ?_
           intro g' cap' w' hown' hgrow hwhere hlt'
           obtain ⟨hR8, hc8, hf8, ht8⟩ := RLine.tenant (by first | exact hRA8 | exact hRD8) (tv' := .slice (some ⟨g', 0, none⟩) (l.length + 1) cap') HR.out.2.1 rfl rfl rfl (by rw [← HR.out.2.2.1]; exact hown') (by rw [htv]; exact turn_of_grown hgrow)
           rw [htv] at hc8
           have hT8 : w'.heap[T]? = some (.cells row 45 (0, 0)) := (turn_of_grown hgrow).block T (by first | exact hTl | exact hTlD) hTn |>.trans (by first | exact hTA | exact hTD)
           have hT9 : (w'.setCell ⟨C, 28, none⟩ (.slice (some ⟨g', 0, none⟩) (l.length + 1) cap')).heap[T]? = some (.cells row 45 (0, 0)) := by rw [Below.heap_setCell _ _ _ _ hTC]; exact hT8
           have HR8 := Lib.hid (And.intro hR8 ht8)
           clear hR8 ht8 hown' hgrow hwhere hlt'
           refine hK.out _ _ hT8 (fun hHeld => ?_)
           clear hK K
           try simp only [Act.put, List.setIfInBounds_toArray, List.set_cons_zero, List.set_cons_succ]
           refine wpAnyH_take (i := 8) (v := .pointer (some ⟨C, 0, none⟩)) rfl (by kernel_rfl) (by kernel_rfl) (by kernel_rfl) (fun _ _ _ h => h) (Or.inl ⟨by rfl, fun w' hSw => by dsimp only at hSw; go_simp⟩) hHeld ?_
           simp only [Act.put, List.setIfInBounds_toArray, List.set_cons_zero, List.set_cons_succ]
           refine wpAnyH_take (i := 9) (v := .pointer (some ⟨C, 28, none⟩)) rfl (by kernel_rfl) (by kernel_rfl) (by kernel_rfl) (fun _ _ _ h => h) (Or.inl ⟨by rfl, fun w' hSw => by dsimp only at hSw; go_simp⟩) hHeld ?_
           simp only [Act.put, List.setIfInBounds_toArray, List.set_cons_zero, List.set_cons_succ]
           refine wpAnyH_ready (rs := [10]) (by kernel_rfl) (by simp) ?_
           refine AllReadyH.cons rfl (fun K hK => ?_) AllReadyH.nil
           rw [if_pos (by rfl)]
           go_simp
           refine hK.out _ _ (hT9) (fun hHeld => ?_)
           clear hK K
           try simp only [Act.put, List.setIfInBounds_toArray, List.set_cons_zero, List.set_cons_succ]
           refine wpAnyH_done (by kernel_rfl) ?_ _)
      all_goals
        go_wp2_with fail
        go_end0
        have e : bodyR c L en = (tenantP L en 1).map fun r => ({ c with tens := c.tens ++ [r.1] }, r.2) := by
          unfold bodyR
          rw [nextP_some H.out.2]
          show bodyP c (tenName, a0) L en 1 = _
          unfold bodyP
          rw [if_pos rfl]
        obtain ⟨f1, f2⟩ := HR.out.2.2.2.2.1
        have e2 : (bodyR c L en).map (·.2) = st11 := by rw [e, f1]; cases tenantP L en 1 <;> rfl
        refine ⟨rfl, _, _, _, by rw [e2]; exact HR8.out.1, ?_, ?_⟩
        · have u1 : Turn (fun k => k = b ∨ k = C ∨ lo ≤ k) w W15.drew := (H2.out.2.trans (HR.out.2.2.2.2.2.trans (Turn.refl _ _).drew)).mono (fun _ _ e => Or.inl e)
          have u2 : Turn (fun k => k = b ∨ k = C ∨ lo ≤ k) w (W15.alloc (.cells row 45)) := (H2.out.2.trans (HR.out.2.2.2.2.2.alloc (.cells row 45))).mono (fun _ _ e => Or.inl e)
          first | exact (u1.trans ((Turn.refl (fun k => k = b ∨ k = C ∨ lo ≤ k) W15.drew).alloc (.cells row 45))).trans (HR8.out.2.mono (fun _ _ e => Or.inr e)) | exact (u2.trans (Turn.refl (fun k => k = b ∨ k = C ∨ lo ≤ k) (W15.alloc (.cells row 45))).drew).trans (HR8.out.2.mono (fun _ _ e => Or.inr e))
        · intro u m hu
          rw [e] at hu
          rcases except_cases (tenantP L en 1) with ⟨pl3, r3⟩ | ⟨⟨t3, m3⟩, r3⟩
          · rw [r3] at hu; cases hu
          · obtain rfl := f2 t3 m3 r3
            rw [r3] at hu
            cases hu
            rfl
end Go.Proofs.YtbkpbcmjgbdbkaaGreatDoor

/-! XA -/
namespace Go.Proofs.YtbkpbcmjgbdbkaaGreatDoor
open Go.RowKit Go.Lib
set_option linter.unusedVariables false
set_option linter.unusedSimpArgs false
set_option maxRecDepth 100000

theorem rline_any {lo b g cap en C : Nat} {L : List Wd} {c : Cfg} {tv : Value} {l : List TenM} {w : World} {x : Wd} (h : RLine w lo b g cap L en (.ok 0) C c tv l) (hx : L[0]? = some x) (hlen : l.length ≤ 1000000)
    (hb : ∀ y ∈ l, y.1.pool.length + L.length ≤ 10000000 ∧ y.1.statics.length ≤ 10000000 ∧ y.1.twices.length ≤ 10000000) :
    Calls Tryz.prog 28 #[.pointer (some ⟨b, 0, none⟩), .pointer (some ⟨C, 0, none⟩)] w (RLinePost w lo b g cap L en C (bodyR c L en)) := by
  obtain ⟨xw, a0⟩ := x
  by_cases h0 : xw = tenName
  · subst h0; exact rline_tenant h hx hlen
  rcases List.eq_nil_or_concat l with rfl | ⟨l0, y, rfl⟩
  · exact rline_empty h hx h0
  · rw [List.concat_eq_append] at *
    obtain ⟨b1, b2, b3⟩ := hb y (by simp)
    have hl0 : l0.length ≤ 1000000 := by simp at hlen; omega
    by_cases h1 : xw = poolName
    · subst h1; exact rline_pool h hx hl0 b1
    by_cases h2 : xw = portsName
    · subst h2; exact rline_ports h hx hl0
    by_cases h3 : xw = filtName
    · subst h3; exact rline_filter h hx hl0
    by_cases h4 : xw = statName
    · subst h4; exact rline_static h hx hl0 b2
    by_cases h5 : xw = twiceName
    · subst h5; exact rline_twice h hx hl0 b3
    by_cases h6 : xw = quotaName
    · subst h6; exact rline_quota h hx hl0
    by_cases h7 : xw = rateName
    · subst h7; exact rline_rate h hx hl0
    · exact rline_none h hx hl0 h0 h1 h2 h3 h4 h5 h6 h7
end Go.Proofs.YtbkpbcmjgbdbkaaGreatDoor
