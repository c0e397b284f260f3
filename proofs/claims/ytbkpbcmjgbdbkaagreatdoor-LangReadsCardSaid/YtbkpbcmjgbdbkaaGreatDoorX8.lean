/- The reference's line: a tenant; any line. Conditions: Env; lengths. -/
import Derived.Test.YtbkpbcmjgbdbkaaGreatDoorX3
import Derived.Test.YtbkpbcmjgbdbkaaGreatDoorF3
import Derived.Deep.AppendLies
namespace Go.Proofs.YtbkpbcmjgbdbkaaGreatDoor
open Go.RowKit Go.Lib
set_option linter.unusedVariables false
set_option linter.unusedSimpArgs false
set_option maxRecDepth 100000
set_option pp.maxSteps 2500

/-- A row loaded whole, in a region that draws its order. -/
theorem step_load_row {P : Program} {w : World} {ops : Array Oper} {o : Oper} {a : Act} {K : Act → World → Prop} {Q : Exit → Act → World → Prop} {E : Prop} (hgd : o.guard = none) (ty : TypeId) (x : Operand) (ho : o.op = .load ty x)
    (g : Nat) (hx : a.eval x = .pointer (some ⟨g, 0, none⟩)) (t : TypeId) (cs : Array Value) (fr : Nat × Nat) (d : TypeDesc) (hg : w.heap[g]? = some (.cells cs t fr))
    (hu : P.underlying ty = some d) (hd : (match d with | .struct _ | .array _ _ => true | _ => false) = true) (hi : (P.info? ty).map (·.size) = some cs.size)
    (h : K (a.put o.dst (.agg cs)) w) : if Region.wanted o (yielded ops a.tmps) = true then Oper.wp P o a w K Q else E := by
  have hw : Region.wanted o (yielded ops a.tmps) = true := by simp [Region.wanted, hgd]
  rw [if_pos hw]
  exact wp_load_row ty x ho g hx t cs fr d hg hu hd hi h
theorem exec_load_row {P : Program} {w : World} {o : Oper} {ρ : Operand → Value} (ty : TypeId) (x : Operand) (ho : o.op = .load ty x) (g : Nat) (hx : ρ x = .pointer (some ⟨g, 0, none⟩)) (t : TypeId) (cs : Array Value) (fr : Nat × Nat) (d : TypeDesc) (hg : w.heap[g]? = some (.cells cs t fr))
    (hu : P.underlying ty = some d) (hd : (match d with | .struct _ | .array _ _ => true | _ => false) = true) (hi : (P.info? ty).map (·.size) = some cs.size) : (execOp ρ o).run P w = .ok (.value (.agg cs)) w := by
  unfold execOp
  simp only [ho, hx, Instr.loadAt, Instr.sureAddr, Sem.run_bind, Sem.run_pure, Result.andThen_ok, run_loadVar_row w g t ty cs fr d hg hu hd hi]
/-- A tenant in the making: its block T, beside the line. -/
structure TSt (w0 : World) (b g cap : Nat) (L : List Wd) (en : Nat) (st : Except Nat Nat) (T : Nat) (cs : Array Value) (W : World) : Prop where
  line : RefIs W b g cap L en st
  turn : Turn (fun k => k = b) w0 W
  blk : W.heap[T]? = some (.cells cs 45 (0, 0))
  size : cs.size = 33
  fresh : w0.heap.size ≤ T
  bT : b < w0.heap.size
  gT : g < w0.heap.size
section
variable {w0 W W' : World} {lo b g cap en T C : Nat} {L : List Wd} {st st' : Except Nat Nat} {cs : Array Value} {c : Cfg} {tv tv' : Value} {l : List TenM} {t : Ten}
theorem TSt.start (h : RefIs w0 b g cap L en st) {cs : Array Value} (hs : cs.size = 33) (hT : w0.heap.size = T) : TSt w0 b g cap L en st T cs (w0.alloc (.cells cs 45)) :=
  ⟨h.turn ((Turn.refl (fun _ => False) w0).alloc _) (fun h => h) (fun h => h), (Turn.refl _ w0).alloc _, by rw [← hT]; exact block_alloc_new _ _, hs, by omega, h.lt, h.glt⟩
theorem TSt.call (h : TSt w0 b g cap L en st T cs W) (hl : RefIs W' b g cap L en st') (tn : Turn (fun k => k = b) W W') : TSt w0 b g cap L en st' T cs W' :=
  ⟨hl, h.turn.trans2 tn (fun _ _ e => e), (tn.block T (block_lt h.blk) (fun e => by have := h.fresh; have := h.bT; omega)).trans h.blk, h.size, h.fresh, h.bT, h.gT⟩
theorem TSt.quiet (h : TSt w0 b g cap L en st T cs W) (tn : Turn (fun _ => False) W W') : TSt w0 b g cap L en st T cs W' :=
  h.call (h.line.turn tn (fun h => h) (fun h => h)) (tn.mono (fun _ _ h => h.elim))
theorem TSt.cell (h : TSt w0 b g cap L en st T cs W) {j : Nat} (hj : j < 33) : ∃ v, W.cell? ⟨T, j, none⟩ = some v :=
  ⟨_, (cell_of_block h.blk j).trans (Array.getElem?_eq_getElem (by rw [h.size]; exact hj))⟩
theorem TSt.free (h : TSt w0 b g cap L en st T cs W) (j : Nat) : W.frozen? ⟨T, j, none⟩ = false := free_of_block h.blk j
theorem TSt.put (h : TSt w0 b g cap L en st T cs W) (j : Nat) (u : Value) : TSt w0 b g cap L en st T (cs.setIfInBounds j u) (W.setCell ⟨T, j, none⟩ u) := by
  have tn : Turn (fun k => k = T) W (W.setCell ⟨T, j, none⟩ u) := (Turn.refl (fun k => k = T) W).setCell (p := ⟨T, j, none⟩) u (fun _ => rfl)
  have h1 := h.fresh
  have h2 := h.bT
  have h3 := h.gT
  exact ⟨h.line.turn tn (by omega) (by omega), h.turn.trans2 tn (fun k hk e => by omega), block_setCell h.blk _ _, by rw [Array.size_setIfInBounds]; exact h.size, h1, h2, h3⟩
theorem TSt.row (h : TSt w0 b g cap L en st T cs W) (o : Nat) (vs : List Value) (ho : o + vs.length ≤ 33) (h1 : ∀ v ∈ vs, v.oneCell' = true) :
    (storeCells ⟨T, o, none⟩ vs 0).run Tryz.prog W = .ok () (W.setRow T (rowPut cs o vs)) ∧ TSt w0 b g cap L en st T (rowPut cs o vs) (W.setRow T (rowPut cs o vs)) := by
  have h0 := h.size
  refine ⟨run_storeCells_at (P := Tryz.prog) T o 45 vs 0 cs W h.blk (by omega) h1, ?_⟩
  have tn := turn_setRow W T (rowPut cs o vs)
  have h3 := h.fresh
  have h4 := h.bT
  have h5 := h.gT
  exact ⟨h.line.turn tn (by omega) (by omega), h.turn.trans2 tn (fun k hk e => by omega), setRow_heap W T cs _ 45 (0, 0) h.blk, (rowPut_size (by omega)).trans h0, h3, h4, h5⟩
/-- A tenant laid behind the others. -/
theorem RLine.tenant (h : RLine W lo b g cap L en st C c tv l) (hw : WfTen t) (h1 : t.pool = []) (h2 : t.statics = []) (h3 : t.twices = [])
    (hown : W'.ownsRow lo 45 33 tv' (l.length + 1) (tensCells l ++ (tenRow t (.slice none 0 0) (.slice none 0 0) (.slice none 0 0)).toList)) (tn : Turn (fun k => tv.ownBlock = some k) W W') :
    RLine (W'.setCell ⟨C, 28, none⟩ tv') lo b g cap L en st C { c with tens := c.tens ++ [t] } tv' (l ++ [(t, .slice none 0 0, .slice none 0 0, .slice none 0 0)]) ∧ W'.cell? ⟨C, 28, none⟩ = some tv ∧ W'.frozen? ⟨C, 28, none⟩ = false ∧
      Turn (fun k => k = C ∨ lo ≤ k) W (W'.setCell ⟨C, 28, none⟩ tv') := by
  have hC : tv.ownBlock ≠ some C := by obtain ⟨_, _, _, hne⟩ := own_form h.tens.row h.cel (by decide); exact hne
  obtain ⟨gs, hg⟩ := h.gty
  obtain ⟨bs, hb⟩ := h.line.bty
  have hbo : tv.ownBlock ≠ some b := by obtain ⟨_, _, _, hne⟩ := own_form h.tens.row hb (by decide); exact hne
  have hgo : tv.ownBlock ≠ some g := by obtain ⟨_, _, _, hne⟩ := own_form h.tens.row hg (by decide); exact hne
  have hgC : g ≠ C := tag_ne hg h.cel (by decide)
  have hbC : b ≠ C := tag_ne hb h.cel (by decide)
  have hlow : ∀ k, tv.ownBlock = some k → lo ≤ k := fun k hk => own1_low h.tens.row hk
  have cel' : W'.heap[C]? = some (.cells (cfgRow c tv) 29 (0, 0)) := (tn.block C (block_lt h.cel) hC).trans h.cel
  have t2 : Turn (fun k => k = C) W' (W'.setCell ⟨C, 28, none⟩ tv') := (Turn.refl (fun k => k = C) W').setCell (p := ⟨C, 28, none⟩) _ (fun _ => rfl)
  have t4 : Turn (fun k => k = C ∨ tv.ownBlock = some k) W (W'.setCell ⟨C, 28, none⟩ tv') := (tn.mono (fun k _ e => Or.inr e)).trans2 t2 (fun k _ e => Or.inl e)
  have t3 : Turn (fun k => k = C ∨ lo ≤ k) W (W'.setCell ⟨C, 28, none⟩ tv') := t4.mono (fun k _ e => e.imp id (hlow k))
  have ht := (h.tens.snoc hw h1 h2 h3 hown tn).other cel' (by decide) (by decide) (by decide) t2
  have h7 := h.lo7
  have hC7 := h.C7
  refine ⟨⟨h.line.turn t4 (by rintro (e | e); exact hbC e; exact hbo e) (by rintro (e | e); exact hgC e; exact hgo e), ⟨gs, (t4.block g (block_lt hg) (by rintro (e | e); exact hgC e; exact hgo e)).trans hg⟩, h.env.turn t3 (fun i hi e => by omega), ?_, h.wfc, ht, by rw [List.map_append, h.eqt]; rfl, h.lo7, h.C7, Nat.le_trans h.low t3.size, h.g7⟩, (cell_of_block cel' 28).trans (cfgRow_get h.wfc tv), free_of_block cel' 28, t3⟩
  rw [← cfgRow_set h.wfc tv tv' (c.tens ++ [t])]
  exact block_setCell cel' 28 tv'
end
/-- What a tenant's first line comes to, behind its name. -/
def tenRest (s : ByteArray) (L : List Wd) (en n : Nat) : Except Nat (Ten × Nat) := do
  let n ← mustP vniName L en n
  let (v, n) ← readP (fun l => numOf l 16777215) L en n
  let n ← mustP keyName L en n
  let (k, n) ← readP keyOf L en n
  let n ← mustP vtepName L en n
  let (p, n) ← readP ipOf L en n
  let (m, n) ← readP macOf L en n
  let n ← mustP hostName L en n
  let (h, n) ← readP macOf L en n
  .ok (⟨s, v, k, p, m, h, [], 0, 0, 0, [], [], 0, 0, 0, 0⟩, n)
def TenD (L : List Wd) (en : Nat) (s : ByteArray) : Except Nat Nat → Prop
  | .ok n => tenantP L en 1 = tenRest s L en n
  | .error pl => tenantP L en 1 = .error pl
theorem tenD_err {L : List Wd} {en pl : Nat} {s : ByteArray} (h : nextP L en 1 = .error pl) : TenD L en s (.error pl) := by
  show tenantP L en 1 = .error pl
  simp [tenantP, h, bind, Except.bind]
theorem tenD_bad {L : List Wd} {en a n : Nat} {s : ByteArray} (h : nextP L en 1 = .ok ((s, a), n)) (hn : nameOf s.data.toList = false) : TenD L en s (.error a) := by
  show tenantP L en 1 = .error a
  simp [tenantP, h, hn, bind, Except.bind]
theorem tenD_ok {L : List Wd} {en a n : Nat} {s : ByteArray} (h : nextP L en 1 = .ok ((s, a), n)) (hn : nameOf s.data.toList = true) : TenD L en s (.ok n) := by
  show tenantP L en 1 = tenRest s L en n
  simp only [tenantP, h, hn, if_true, bind, Except.bind]
  rfl
theorem tenS_is {L : List Wd} {en : Nat} {s : ByteArray} {s2 s3 s4 s5 s6 s7 s8 s9 s10 s11 : Except Nat Nat} {v p : Nat} {K M H : List Nat} (hD : TenD L en s s2)
    (e3 : s3 = mustS vniName s2 L en) (e4 : s4 = (readS (fun l => numOf l 16777215) s3 L en).map (·.2)) (v4 : ∀ x m, readS (fun l => numOf l 16777215) s3 L en = .ok (x, m) → x = v)
    (e5 : s5 = mustS keyName s4 L en) (e6 : s6 = (readS keyOf s5 L en).map (·.2)) (v6 : ∀ x m, readS keyOf s5 L en = .ok (x, m) → x = K)
    (e7 : s7 = mustS vtepName s6 L en) (e8 : s8 = (readS ipOf s7 L en).map (·.2)) (v8 : ∀ x m, readS ipOf s7 L en = .ok (x, m) → x = p)
    (e9 : s9 = (readS macOf s8 L en).map (·.2)) (v9 : ∀ x m, readS macOf s8 L en = .ok (x, m) → x = M)
    (e10 : s10 = mustS hostName s9 L en) (e11 : s11 = (readS macOf s10 L en).map (·.2)) (v11 : ∀ x m, readS macOf s10 L en = .ok (x, m) → x = H) :
    s11 = (tenantP L en 1).map (·.2) ∧ ∀ t m, tenantP L en 1 = .ok (t, m) → t = ⟨s, v, K, p, M, H, [], 0, 0, 0, [], [], 0, 0, 0, 0⟩ := by
  have E : ∀ pl : Nat, tenantP L en 1 = .error pl → s11 = .error pl → s11 = (tenantP L en 1).map (·.2) ∧ ∀ t m, tenantP L en 1 = .ok (t, m) → t = ⟨s, v, K, p, M, H, [], 0, 0, 0, [], [], 0, 0, 0, 0⟩ := fun pl h1 h2 => by
    rw [h1, h2]; exact ⟨rfl, fun t m h => by cases h⟩
  have mE : ∀ (x : ByteArray) (pl : Nat), mustS x (.error pl) L en = .error pl := fun _ _ => rfl
  cases s2 with
  | error pl =>
    refine E pl hD ?_
    subst e3; subst e4; subst e5; subst e6; subst e7; subst e8; subst e9; subst e10; subst e11
    rfl
  | ok n2 =>
    have hD : tenantP L en 1 = tenRest s L en n2 := hD
    have e3 : s3 = mustP vniName L en n2 := e3
    rcases except_cases (mustP vniName L en n2) with ⟨pl, r3⟩ | ⟨n3, r3⟩
    · rw [r3] at e3
      refine E pl (by rw [hD]; simp only [tenRest, r3, bind, Except.bind]) ?_
      subst e3; subst e4; subst e5; subst e6; subst e7; subst e8; subst e9; subst e10; subst e11
      rfl
    rw [r3] at e3
    subst e3
    have e4 : s4 = (readP (fun l => numOf l 16777215) L en n3).map (·.2) := e4
    have v4 : ∀ x m, readP (fun l => numOf l 16777215) L en n3 = .ok (x, m) → x = v := v4
    rcases except_cases (readP (fun l => numOf l 16777215) L en n3) with ⟨pl, r4⟩ | ⟨⟨a4, n4⟩, r4⟩
    · rw [r4] at e4
      refine E pl (by rw [hD]; simp only [tenRest, r3, r4, bind, Except.bind]) ?_
      subst e4; subst e5; subst e6; subst e7; subst e8; subst e9; subst e10; subst e11
      rfl
    obtain rfl := v4 a4 n4 r4
    rw [r4] at e4
    subst e4
    have e5 : s5 = mustP keyName L en n4 := e5
    rcases except_cases (mustP keyName L en n4) with ⟨pl, r5⟩ | ⟨n5, r5⟩
    · rw [r5] at e5
      refine E pl (by rw [hD]; simp only [tenRest, r3, r4, r5, bind, Except.bind]) ?_
      subst e5; subst e6; subst e7; subst e8; subst e9; subst e10; subst e11
      rfl
    rw [r5] at e5
    subst e5
    have e6 : s6 = (readP keyOf L en n5).map (·.2) := e6
    have v6 : ∀ x m, readP keyOf L en n5 = .ok (x, m) → x = K := v6
    rcases except_cases (readP keyOf L en n5) with ⟨pl, r6⟩ | ⟨⟨a6, n6⟩, r6⟩
    · rw [r6] at e6
      refine E pl (by rw [hD]; simp only [tenRest, r3, r4, r5, r6, bind, Except.bind]) ?_
      subst e6; subst e7; subst e8; subst e9; subst e10; subst e11
      rfl
    obtain rfl := v6 a6 n6 r6
    rw [r6] at e6
    subst e6
    have e7 : s7 = mustP vtepName L en n6 := e7
    rcases except_cases (mustP vtepName L en n6) with ⟨pl, r7⟩ | ⟨n7, r7⟩
    · rw [r7] at e7
      refine E pl (by rw [hD]; simp only [tenRest, r3, r4, r5, r6, r7, bind, Except.bind]) ?_
      subst e7; subst e8; subst e9; subst e10; subst e11
      rfl
    rw [r7] at e7
    subst e7
    have e8 : s8 = (readP ipOf L en n7).map (·.2) := e8
    have v8 : ∀ x m, readP ipOf L en n7 = .ok (x, m) → x = p := v8
    rcases except_cases (readP ipOf L en n7) with ⟨pl, r8⟩ | ⟨⟨a8, n8⟩, r8⟩
    · rw [r8] at e8
      refine E pl (by rw [hD]; simp only [tenRest, r3, r4, r5, r6, r7, r8, bind, Except.bind]) ?_
      subst e8; subst e9; subst e10; subst e11
      rfl
    obtain rfl := v8 a8 n8 r8
    rw [r8] at e8
    subst e8
    have e9 : s9 = (readP macOf L en n8).map (·.2) := e9
    have v9 : ∀ x m, readP macOf L en n8 = .ok (x, m) → x = M := v9
    rcases except_cases (readP macOf L en n8) with ⟨pl, r9⟩ | ⟨⟨a9, n9⟩, r9⟩
    · rw [r9] at e9
      refine E pl (by rw [hD]; simp only [tenRest, r3, r4, r5, r6, r7, r8, r9, bind, Except.bind]) ?_
      subst e9; subst e10; subst e11
      rfl
    obtain rfl := v9 a9 n9 r9
    rw [r9] at e9
    subst e9
    have e10 : s10 = mustP hostName L en n9 := e10
    rcases except_cases (mustP hostName L en n9) with ⟨pl, r10⟩ | ⟨n10, r10⟩
    · rw [r10] at e10
      refine E pl (by rw [hD]; simp only [tenRest, r3, r4, r5, r6, r7, r8, r9, r10, bind, Except.bind]) ?_
      subst e10; subst e11
      rfl
    rw [r10] at e10
    subst e10
    have e11 : s11 = (readP macOf L en n10).map (·.2) := e11
    have v11 : ∀ x m, readP macOf L en n10 = .ok (x, m) → x = H := v11
    rcases except_cases (readP macOf L en n10) with ⟨pl, r11⟩ | ⟨⟨a11, n11⟩, r11⟩
    · rw [r11] at e11
      refine E pl (by rw [hD]; simp only [tenRest, r3, r4, r5, r6, r7, r8, r9, r10, r11, bind, Except.bind]) ?_
      subst e11
      rfl
    obtain rfl := v11 a11 n11 r11
    have hR : tenantP L en 1 = .ok (⟨s, a4, a6, a8, a9, a11, [], 0, 0, 0, [], [], 0, 0, 0, 0⟩, n11) := by rw [hD]; simp only [tenRest, r3, r4, r5, r6, r7, r8, r9, r10, r11, bind, Except.bind]
    rw [hR, e11, r11]
    exact ⟨rfl, fun t m h => by cases h; rfl⟩
end Go.Proofs.YtbkpbcmjgbdbkaaGreatDoor
