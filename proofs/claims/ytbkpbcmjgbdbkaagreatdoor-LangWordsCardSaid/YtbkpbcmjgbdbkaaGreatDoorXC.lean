/- The reference's Parse: the walk. Condition: Env. -/
import Derived.Test.YtbkpbcmjgbdbkaaGreatDoorXB
import Derived.Test.YtbkpbcmjgbdbkaaGreatDoorQ0
namespace Go.Proofs.YtbkpbcmjgbdbkaaGreatDoor
open Go.RowKit Go.Lib
set_option linter.unusedVariables false
set_option linter.unusedSimpArgs false
set_option maxRecDepth 100000
set_option pp.maxSteps 2500

theorem byteAt_get (s : ByteArray) (i : Nat) (h : i < s.size) : byteAt s i = (s[i]'h).toNat := by
  obtain ⟨d, h1, h2⟩ := bytes_get s i h
  unfold byteAt
  rw [List.getD_eq_getElem?_getD, h1, h2]
  rfl
/-- The line in its block. -/
theorem ref_box {W : World} {L : List Wd} {lo en cp : Nat} {ao : Option Addr} (hL : L.length ≤ 100000) (hs : ∀ x ∈ L, x.1.size ≤ 100000) (h7 : 7 ≤ lo) (hl : lo ≤ W.heap.size) (h0 : 0 < L.length)
    (hown : W.ownsRow lo 82 2 (.slice ao L.length cp) L.length (wdCells L)) :
    ∃ g, lo ≤ g ∧ (∃ cs, W.heap[g]? = some (.cells cs 82 (0, 0))) ∧ RefIs (W.alloc (.cells #[.slice ao L.length cp, .int .i64 0, .int .i64 (en : Int), .int .i64 0, .bool false] 72)) W.heap.size g cp L en (.ok 0) := by
  rcases hown.2 with ⟨hv, hz⟩ | ⟨g, cap, cur, hv, hlo, hb, _⟩
  · omega
  · injection hv with hao _ hcp
    subst hao; subst hcp
    have hgl := block_lt hb
    refine ⟨g, hlo, ⟨_, hb⟩, 0, ⟨⟨block_alloc_new _ _, by omega, by simp; omega, fun i x hi => ?_⟩, by omega, Nat.zero_le _, fun i x hi => by have := hs x (List.mem_of_getElem? hi); omega, by omega⟩⟩
    have hil := (List.getElem?_eq_some_iff.1 hi).1
    have hw := wdCells_get L i x hi
    have hwl := wdCells_len L
    have own2 := hown.alloc (.cells #[.slice (some ⟨g, 0, none⟩) L.length cp, .int .i64 0, .int .i64 (en : Int), .int .i64 0, .bool false] 72)
    exact ⟨(own2.cellAt (i * 2) (by omega)).trans hw.1, (own2.cellAt (i * 2 + 1) (by omega)).trans hw.2⟩
theorem resP_left {L : List Wd} {c : Cfg} {m : Nat} {x : Wd} (h : L[m]? = some x) : resP L (.ok (c, m)) = .error x.2 := by
  show (match doneP L m with | .error pl => (Except.error pl : Except Nat Cfg) | .ok _ => .ok c) = _
  have h2 : doneP L m = .error x.2 := by unfold doneP; rw [h]
  rw [h2]
theorem resP_done {L : List Wd} {c : Cfg} {m : Nat} (h : L[m]? = none) : resP L (.ok (c, m)) = .ok c := by
  show (match doneP L m with | .error pl => (Except.error pl : Except Nat Cfg) | .ok _ => .ok c) = _
  have h2 : doneP L m = .ok () := by unfold doneP; rw [h]
  rw [h2]
def RParsePost (r : Except Nat Cfg) (w : World) (e : Ending) (w' : World) : Prop := match r with
  | .error pl => e = .returned (.tuple #[.agg (cfgZero 0), .int .i64 (pl : Int), .int .i64 60]) ∧ Turn (fun _ => False) w w'
  | .ok c => ∃ tv l, e = .returned (.tuple #[.agg (cfgRow c tv), .int .i64 0, .int .i64 0]) ∧ TensAt w' w.heap.size tv l ∧ l.map (·.1) = c.tens ∧ WfCfg c ∧ Turn (fun _ => False) w w'
def PRel (w : World) (s : ByteArray) (f i : Nat) (O : List (List Wd × Nat)) (W : World) : Prop :=
  (∃ c tv l, PSt w s w.heap.size (w.heap.size + 1) O c tv l W) ∧ ((i ≤ s.size ∧ f ≤ i ∧ scan s f = ⟨O, [], none, false⟩ ∧ ∀ j, j < i - f → byteAt s (f + j) ≠ 10) ∨ (i = s.size + 1 ∧ linesOf s = O))
section
variable {w wB w5 W' : World} {s : ByteArray} {f i b g cp pl : Nat} {O : List (List Wd × Nat)} {L : List Wd} {c c5 : Cfg} {tv tv5 : Value} {l l5 : List TenM} {st : Except Nat Nat} {r : Except Nat (Cfg × Nat)}
theorem tail_err (hs : s.size ≤ 32768) (hfi : f ≤ i) (hsc : scan s f = ⟨O, [], none, false⟩) (hnl : ∀ j, j < i - f → byteAt s (f + j) ≠ 10) (hL : L = wordsAt s f (i - f)) (h0 : 0 < L.length) (hE : (i < s.size ∧ byteAt s i = 10) ∨ i = s.size)
    (h : fromP s.size (O ++ [(L, i)]) = .error pl) : configP s = .error pl := by
  subst hL
  have e : f + (i - f) = i := by omega
  exact conf_err hs hsc hnl h0 (by rw [e]; exact hE) (by rw [e]; exact h)
theorem tail_rel (hP : PSt w s w.heap.size (w.heap.size + 1) O c tv l wB) (ht : Turn (fun k => k = b ∨ k = w.heap.size + 1 ∨ w.heap.size + 1 + 1 ≤ k) wB w5) (hb : w.heap.size + 1 + 1 ≤ b) :
    w5.heap[w.heap.size]? = some (.cells (cfgZero 0) 29 (0, 0)) ∧ Turn (fun _ => False) w w5 :=
  ⟨(ht.block _ (block_lt hP.rel) (by omega)).trans hP.rel, hP.turn.trans2 ht (fun k hk e => by omega)⟩
theorem tail_next (hfi : f ≤ i) (his : i ≤ s.size) (hsc : scan s f = ⟨O, [], none, false⟩) (hnl : ∀ j, j < i - f → byteAt s (f + j) ≠ 10) (hL : L = wordsAt s f (i - f)) (h0 : 0 < L.length) (hE : (i < s.size ∧ byteAt s i = 10) ∨ i = s.size)
    (hP : PSt w s w.heap.size (w.heap.size + 1) O c tv l wB) (hR : RLine w5 (w.heap.size + 1 + 1) b g cp L i st (w.heap.size + 1) c5 tv5 l5) (ht : Turn (fun k => k = b ∨ k = w.heap.size + 1 ∨ w.heap.size + 1 + 1 ≤ k) wB w5) (hb : w.heap.size + 1 + 1 ≤ b)
    (t : Turn (fun _ => False) w5 W') (hr : fromP s.size (O ++ [(L, i)]) = .ok c5) (hbn : Bnd (tot O + L.length) c5) (hct : c5.tens.length ≤ c.tens.length + 1) : PRel w s (i + 1) (i + 1) (O ++ [(L, i)]) W' := by
  obtain ⟨r1, r2⟩ := tail_rel hP ht hb
  have hR2 := hR.quiet t
  refine ⟨⟨c5, tv5, l5, ⟨Or.inr ⟨by simp, hr⟩, hR2.cel, (t.block _ (block_lt r1) (fun h => h)).trans r1, hR.wfc, hR2.tens, hR.eqt, by rw [tot_snoc]; exact hbn, ?_, r2.trans t, hR2.env, Nat.le_refl _, Nat.lt_succ_self _⟩⟩, ?_⟩
  · rw [tot_snoc]
    have h1 := congrArg List.length hR.eqt
    have h2 := congrArg List.length hP.eqt
    have h3 := hP.cnt
    simp at h1 h2
    show l5.length ≤ tot O + L.length
    omega
  · subst hL
    have e : f + (i - f) = i := by omega
    rcases hE with ⟨h1, h2⟩ | h1
    · have h3 := scan_nl hsc hnl (k := i - f) (by rw [e]; exact h2)
      rw [if_pos h0, e] at h3
      exact Or.inl ⟨by omega, Nat.le_refl _, h3, fun j hj => by omega⟩
    · have h3 := scan_last hsc hnl (k := i - f) (by omega)
      rw [if_pos h0, e] at h3
      exact Or.inr ⟨by omega, h3⟩
end
/-- The first line: the settings' block C in the making. -/
structure HSt (wB : World) (b g cap : Nat) (L : List Wd) (en : Nat) (st : Except Nat Nat) (C : Nat) (cs : Array Value) (W : World) : Prop where
  line : RefIs W b g cap L en st
  turn : Turn (fun k => k = b ∨ k = C) wB W
  blk : W.heap[C]? = some (.cells cs 29 (0, 0))
  size : cs.size = 29
  bC : b ≠ C
  gC : g ≠ C
section
variable {wB W W' : World} {lo b g cap en C : Nat} {L : List Wd} {st st' : Except Nat Nat} {cs : Array Value} {c c5 : Cfg} {tv : Value} {l : List TenM}
theorem HSt.call (h : HSt wB b g cap L en st C cs W) (hl : RefIs W' b g cap L en st') (tn : Turn (fun k => k = b) W W') : HSt wB b g cap L en st' C cs W' :=
  ⟨hl, h.turn.trans2 tn (fun _ _ e => Or.inl e), (tn.block C (block_lt h.blk) (fun e => h.bC e.symm)).trans h.blk, h.size, h.bC, h.gC⟩
theorem HSt.cell (h : HSt wB b g cap L en st C cs W) {j : Nat} (hj : j < 29) : ∃ v, W.cell? ⟨C, j, none⟩ = some v :=
  ⟨_, (cell_of_block h.blk j).trans (Array.getElem?_eq_getElem (by rw [h.size]; exact hj))⟩
theorem HSt.free (h : HSt wB b g cap L en st C cs W) (j : Nat) : W.frozen? ⟨C, j, none⟩ = false := free_of_block h.blk j
theorem HSt.put (h : HSt wB b g cap L en st C cs W) (j : Nat) (u : Value) : HSt wB b g cap L en st C (cs.setIfInBounds j u) (W.setCell ⟨C, j, none⟩ u) := by
  have tn : Turn (fun k => k = C) W (W.setCell ⟨C, j, none⟩ u) := (Turn.refl (fun k => k = C) W).setCell (p := ⟨C, j, none⟩) u (fun _ => rfl)
  exact ⟨h.line.turn tn h.bC h.gC, h.turn.trans2 tn (fun k hk e => Or.inr e), block_setCell h.blk _ _, by rw [Array.size_setIfInBounds]; exact h.size, h.bC, h.gC⟩
theorem HSt.row (h : HSt wB b g cap L en st C cs W) (o : Nat) (vs : List Value) (ho : o + vs.length ≤ 29) (h1 : ∀ v ∈ vs, v.oneCell' = true) :
    (storeCells ⟨C, o, none⟩ vs 0).run Tryz.prog W = .ok () (W.setRow C (rowPut cs o vs)) ∧ HSt wB b g cap L en st C (rowPut cs o vs) (W.setRow C (rowPut cs o vs)) := by
  have h0 := h.size
  refine ⟨run_storeCells_at (P := Tryz.prog) C o 29 vs 0 cs W h.blk (by omega) h1, ?_⟩
  have tn := turn_setRow W C (rowPut cs o vs)
  exact ⟨h.line.turn tn h.bC h.gC, h.turn.trans2 tn (fun k hk e => Or.inr e), setRow_heap W C cs _ 29 (0, 0) h.blk, (rowPut_size (by omega)).trans h0, h.bC, h.gC⟩
theorem HSt.begin (h : RLine wB lo b g cap L en (.ok 0) C c tv l) : HSt wB b g cap L en (.ok 0) C (cfgRow c tv) wB := by
  obtain ⟨gs, hg⟩ := h.gty
  obtain ⟨bs, hb⟩ := h.line.bty
  exact ⟨h.line, Turn.refl _ _, h.cel, cfgRow_size h.wfc tv, tag_ne hb h.cel (by decide), tag_ne hg h.cel (by decide)⟩
theorem HSt.done (hB : RLine wB lo b g cap L en (.ok 0) C c tv l) (h : HSt wB b g cap L en st C cs W) (hcs : cs = cfgRow c5 (.slice none 0 0)) (hw : WfCfg c5) (h0 : c5.tens = []) : RLine W lo b g cap L en st C c5 (.slice none 0 0) [] := by
  obtain ⟨gs, hg⟩ := hB.gty
  obtain ⟨bs, hb⟩ := hB.line.bty
  have hgb : g ≠ b := tag_ne hg hb (by decide)
  have h7 := hB.C7
  have hb7 := h.line.low
  exact ⟨h.line, ⟨gs, (h.turn.block g (block_lt hg) (by rintro (e | e); exact hgb e; exact h.gC e)).trans hg⟩, hB.env.turn h.turn (fun k hk e => by omega), by rw [← hcs]; exact h.blk, hw, TensAt.nil _ _, h0.symm, hB.lo7, hB.C7, Nat.le_trans hB.low h.turn.size, hB.g7⟩
end
theorem results_three (tmps : Array Value) (W : World) (r : Nat) (cs : Array Value) (v u : Value) (h2 : tmps[2]?.getD undef = .pointer (some ⟨r, 0, none⟩)) (h3 : tmps[3]?.getD undef = v) (h4 : tmps[4]?.getD undef = u) (hr : W.heap[r]? = some (.cells cs 29 (0, 0))) (hs : cs.size = 29) :
    (results Tryz.f12 tmps).run Tryz.prog W = .ok (.tuple #[.agg cs, v, u]) W := by
  have hl := run_loadVar_row (P := Tryz.prog) W r 29 29 cs (0, 0) _ hr Tryz.underlying29 rfl (by rw [hs]; kernel_rfl)
  have ha : ∀ b : Nat, (asAddr (.pointer (some ⟨b, 0, none⟩))).run Tryz.prog W = .ok ⟨b, 0, none⟩ W := fun _ => rfl
  simp only [results, Tryz.results12]
  simp [h2, h3, h4, ha, hl]
set_option maxHeartbeats 16000000 in
theorem rparse_any (s : ByteArray) (hs : s.size ≤ 32768) (w : World) (he : Env w) : Calls Tryz.prog 12 #[.string s] w (RParsePost (configP s) w) := by
  have hgt : ¬ (32768 : Int) < (s.size : Int) := by omega
  have t0 := ((Turn.refl (fun _ => False) w).alloc (.cells (cfgZero 0) 29)).alloc (.cells (cfgZero 0) 29)
  have b1 := block_alloc_old (o := .cells (cfgZero 0) 29) (block_alloc_new w (.cells (cfgZero 0) 29))
  have b2 := block_alloc_new (w.alloc (.cells (cfgZero 0) 29)) (.cells (cfgZero 0) 29)
  have hsz : (w.alloc (.cells (cfgZero 0) 29)).heap.size = w.heap.size + 1 := by simp
  rw [hsz] at b2
  have hst : PSt w s w.heap.size (w.heap.size + 1) [] zc (.slice none 0 0) [] ((w.alloc (.cells (cfgZero 0) 29)).alloc (.cells (cfgZero 0) 29)) :=
    ⟨Or.inl ⟨rfl, rfl, rfl, rfl⟩, b2, b1, ⟨rfl, rfl, rfl, rfl⟩, TensAt.nil _ _, rfl, (fun t ht => by cases ht), Nat.le_refl _, t0, he.keep t0, Nat.le_refl _, Nat.lt_succ_self _⟩
  have HS := Lib.hid (show PRel w s 0 0 [] _ from ⟨⟨_, _, _, hst⟩, Or.inl ⟨Nat.zero_le _, Nat.le_refl _, rfl, fun j hj => by omega⟩⟩)
  clear hst t0 b1 b2 hsz
  go_enter Tryz.func12, Tryz.ntmps12
  go_wp2_with fail
  go_loopg [6, 7, 8] (s.size + 1 - 0) (fun g v6 v7 v8 wr => ∃ (f i : Nat) (O : List (List Wd × Nat)), g = s.size + 1 - i ∧ v6 = .bool (!O.isEmpty) ∧ v7 = .int .i64 (f : Int) ∧ v8 = .int .i64 (i : Int) ∧ Hid (PRel w s f i O wr))
  case atStart => exact ⟨0, 0, [], rfl, rfl, rfl, rfl, HS⟩
  case round =>
    obtain ⟨f, i, O, rfl, rfl, rfl, rfl, HR⟩ := hrel
    obtain ⟨⟨c, tv, l, hP⟩, hA | ⟨rfl, hO⟩⟩ := HR.out
    · obtain ⟨his, hfi, hsc, hnl⟩ := hA
      have i1 : (i : Int) ≤ (s.size : Int) := by omega
      have i0 : (0 : Int) ≤ (i : Int) := by omega
      have HA := Lib.hid (And.intro hP (And.intro hsc hnl))
      clear HR HS hP hsc hnl
      by_cases hgo : ∃ h : i < s.size, (s[i]'h).toNat ≠ 10
      · obtain ⟨hi, h10⟩ := hgo
        have i2 : (i : Int) < (s.size : Int) := by omega
        obtain ⟨ch, hch⟩ : ∃ ch, s[i]'hi = ch := ⟨_, rfl⟩
        rw [hch] at h10
        have b3 : ((ch.toNat : Int) != 10) = true := by simp; omega
        have hnb : byteAt s i ≠ 10 := by rw [byteAt_get s i hi, hch]; exact h10
        go_wp2_with fail
        go_roundg (s.size + 1 - (i + 1))
        case measure => omega
        case rel => exact ⟨f, i + 1, O, rfl, rfl, rfl, by go_num, Lib.hid ⟨⟨_, _, _, HA.out.1⟩, Or.inl ⟨by omega, by omega, HA.out.2.1, fun j hj => by
          by_cases h : j < i - f
          · exact HA.out.2.2 j h
          · rw [show f + j = i by omega]; exact hnb⟩⟩⟩
      · have hE : (i < s.size ∧ byteAt s i = 10) ∨ i = s.size := by
          rcases Nat.lt_or_ge i s.size with h | h
          · refine Or.inl ⟨h, ?_⟩
            rw [byteAt_get s i h]
            exact Classical.byContradiction fun h2 => hgo ⟨h, h2⟩
          · exact Or.inr (by omega)
        obtain ⟨hLO, hLs⟩ := lineOf_extract s f i hfi his
        have hcw := rwords_any s (s.extract f i) f (by omega) hLO wr
        rw [hLs] at hcw
        have f0 : (0 : Int) ≤ (f : Int) := by omega
        have f1 : (f : Int) ≤ (i : Int) := by omega
        have HE := Lib.hid (And.intro hE hLs)
        clear hE hLO hLs
        obtain ⟨b3, hgo2⟩ : ∃ b3 : Bool, (∃ h : i < s.size, True) ∨ i = s.size := ⟨true, by rcases Nat.lt_or_ge i s.size with h | h; exact Or.inl ⟨h, trivial⟩; exact Or.inr (by omega)⟩
        rcases hgo2 with ⟨hi, _⟩ | hi
        · have i2 : (i : Int) < (s.size : Int) := by omega
          obtain ⟨ch, hch⟩ : ∃ ch, s[i]'hi = ch := ⟨_, rfl⟩
          have h10 : ch.toNat = 10 := by rw [← hch]; exact Classical.byContradiction fun h2 => hgo ⟨hi, h2⟩
          have b4 : ((ch.toNat : Int) != 10) = false := by rw [h10]; rfl
          clear hgo h10
          go_wp2_with fail
          refine hcw.mono ?_
          rintro e w1 ⟨v, rfl, hown, t1⟩
          obtain ⟨W, hW⟩ : ∃ W, W = wordsAt s f (i - f) := ⟨_, rfl⟩
          rw [← hW] at hown
          obtain ⟨ao, cp, hv⟩ : ∃ ao cp, v = .slice ao W.length cp := by
            rcases hown.2 with ⟨hv, h0⟩ | ⟨G, cp, cur, hv, _⟩
            · exact ⟨none, 0, by rw [hv, h0]⟩
            · exact ⟨_, _, hv⟩
          subst hv
          have HP := Lib.hid (And.intro (HA.out.1.quiet t1) (And.intro hown (And.intro hW t1)))
          have e72 := block_alloc_new w1 (.cells #[.slice ao W.length cp, .int .i64 0, .int .i64 (i : Int), .int .i64 0, .bool false] 72)
          obtain ⟨hce, hfr⟩ := row_facts e72
          have c0 := hce 0
          simp only [List.getElem?_toArray, List.getElem?_cons_zero, List.getElem?_cons_succ] at c0
          clear hown hW t1 hcw hce hfr e72
          by_cases hw0 : W.length = 0
          · have e0 : ((W.length : Int) == 0) = true := by rw [hw0]; rfl
            have HW0 := Lib.hid hw0
            clear hw0
            go_wp2_with fail
            go_roundg (s.size + 1 - (i + 1))
            case measure => omega
            case rel =>
              obtain ⟨hsc, hnl⟩ := HA.out.2
              have hW0 : ¬ 0 < (wordsAt s f (i - f)).length := by rw [← HP.out.2.2.1]; have := HW0.out; omega
              have hP2 := HP.out.1.quiet ((Turn.refl (fun _ => False) w1).alloc (.cells #[.slice ao W.length cp, .int .i64 0, .int .i64 (i : Int), .int .i64 0, .bool false] 72))
              refine ⟨i + 1, i + 1, O, rfl, rfl, by go_num, by go_num, Lib.hid ⟨⟨_, _, _, hP2⟩, ?_⟩⟩
              rcases HE.out.1 with ⟨h1, h2⟩ | h1
              · have h3 := scan_nl hsc hnl (k := i - f) (by rw [show f + (i - f) = i by omega]; exact h2)
                rw [if_neg hW0, show f + (i - f) + 1 = i + 1 by omega] at h3
                exact Or.inl ⟨by omega, Nat.le_refl _, h3, fun j hj => by omega⟩
              · have h3 := scan_last hsc hnl (k := i - f) (by omega)
                rw [if_neg hW0] at h3
                exact Or.inr ⟨by omega, h3⟩
          · have e0 : ((W.length : Int) == 0) = false := by rw [beq_eq_false_iff_ne]; omega
            have hWl := wordsAt_len s f (i - f)
            have hWs := wordsAt_sizes s f (i - f)
            rw [← HP.out.2.2.1] at hWl hWs
            have h7 := he.six
            have hw17 : 7 ≤ wr.heap.size := by have := HA.out.1.turn.size; omega
            obtain ⟨g, hgw, ⟨gs, hgb⟩, hbox⟩ := ref_box (W := w1) (en := i) (L := W) (by omega) (fun x hx => by have := hWs x hx; omega) hw17 HP.out.2.2.2.size (by omega) HP.out.2.1
            obtain ⟨x0, hx0⟩ : ∃ x, W[0]? = some x := ⟨_, List.getElem?_eq_getElem (by omega)⟩
            have hP2 := HP.out.1.quiet ((Turn.refl (fun _ => False) w1).alloc (.cells #[.slice ao W.length cp, .int .i64 0, .int .i64 (i : Int), .int .i64 0, .bool false] 72))
            have hCw : w.heap.size + 1 < wr.heap.size := block_lt HA.out.1.cel
            have hgb2 := block_alloc_old (o := .cells #[.slice ao W.length cp, .int .i64 0, .int .i64 (i : Int), .int .i64 0, .bool false] 72) hgb
            have hRL : RLine (w1.alloc (.cells #[.slice ao W.length cp, .int .i64 0, .int .i64 (i : Int), .int .i64 0, .bool false] 72)) (w.heap.size + 1 + 1) w1.heap.size g cp W i (.ok 0) (w.heap.size + 1) c tv l :=
              ⟨hbox, ⟨gs, hgb2⟩, hP2.env, hP2.cel, hP2.wfc, hP2.tens, hP2.eqt, by omega, by omega, by have := HP.out.2.2.2.size; simp; omega, by omega⟩
            have hb1 : w.heap.size + 1 + 1 ≤ w1.heap.size := by have := HP.out.2.2.2.size; omega
            have HB := Lib.hid (And.intro hP2 (And.intro hRL (And.intro hx0 (And.intro hWl hWs))))
            have hwl3 : W.length ≤ 32768 := by omega
            have HW1 : Hid (0 < W.length) := Lib.hid (by omega)
            clear hP2 hRL hbox hgb hgb2 hgw hw0 hWl hWs hCw hw17
            by_cases hO0 : O = []
            · have hoe : O.isEmpty = true := by rw [hO0]; rfl
              obtain ⟨hcz0, hcz1⟩ : c = zc ∧ tv = .slice none 0 0 := by rcases HA.out.1.cfg with ⟨_, h1, h2, _⟩ | ⟨h, _⟩; exact ⟨h1, h2⟩; exact absurd hO0 h
              have HO0 := Lib.hid hO0
              have HZ := Lib.hid (And.intro hcz0 hcz1)
              have hH0 := HSt.begin HB.out.2.1
              clear hO0 hcz0 hcz1
              go_wp2_with fail
              refine (rmust_any gwName w1.heap.size g cp W i (.ok 0) _ hH0.line).mono ?_
              rintro e v1 ⟨rfl, q1, t1⟩
              have hH1 := hH0.call q1 t1
              clear q1 t1 hH0
              obtain ⟨s1, e1⟩ : ∃ x, x = mustS gwName (.ok 0) W i := ⟨_, rfl⟩
              rw [← e1] at hH1
              obtain ⟨x, hc2, hv2⟩ := rIp_any w1.heap.size g cp W i s1 v1 hH1.line
              have hH1h := Lib.hid hH1
              clear hH1
              go_wp2_with fail
              refine hc2.mono ?_
              rintro e v2 ⟨rfl, q2, t2⟩
              have hH2 := hH1h.out.call q2 t2
              clear q2 t2 hc2 hH1h
              obtain ⟨s2, e2⟩ : ∃ x, x = (readS ipOf s1 W i).map (·.2) := ⟨_, rfl⟩
              rw [← e2] at hH2
              obtain ⟨vt2, hct2⟩ := hH2.cell (j := 0) (by decide)
              have hft2 := hH2.free 0
              have hH2p := hH2.put 0 (.int .u32 (x : Int))
              have hH2ph := Lib.hid hH2p
              clear hH2 hH2p
              go_upto_region 17 with (fail)
              have hH2p := hH2ph.out
              clear hct2 hft2 hH2ph
              generalize v2.setCell ⟨w.heap.size + 1, 0, none⟩ (.int .u32 (x : Int)) = u2 at *
              obtain ⟨M1, hz3, hc3, hv3⟩ := rMac_any w1.heap.size g cp W i s2 u2 hH2p.line
              have hH2ph := Lib.hid hH2p
              clear hH2p
              go_wp2_with fail
              refine hc3.mono ?_
              rintro e v3 ⟨rfl, q3, t3⟩
              have hH3 := hH2ph.out.call q3 t3
              clear q3 t3 hc3 hH2ph
              obtain ⟨s3, e3⟩ : ∃ x, x = (readS macOf s2 W i).map (·.2) := ⟨_, rfl⟩
              rw [← e3] at hH3
              have hs3 : (u8row M1).size = 6 := (u8row_len M1).trans hz3
              obtain ⟨st3s, hH3p⟩ := hH3.row 1 (u8row M1).toList (by rw [u8row_len, hz3]; decide) (u8row_one M1)
              have hH3ph := Lib.hid hH3p
              clear hH3 hH3p
              go_upto_region 18 with (fail)
              have hH3p := hH3ph.out
              clear st3s hs3 hH3ph
              generalize World.setRow v3 (w.heap.size + 1) _ = u3w at *
              obtain ⟨M2, hz4, hc4, hv4⟩ := rMac_any w1.heap.size g cp W i s3 u3w hH3p.line
              have hH3ph := Lib.hid hH3p
              clear hH3p
              go_wp2_with fail
              refine hc4.mono ?_
              rintro e v4 ⟨rfl, q4, t4⟩
              have hH4 := hH3ph.out.call q4 t4
              clear q4 t4 hc4 hH3ph
              obtain ⟨s4, e4⟩ : ∃ x, x = (readS macOf s3 W i).map (·.2) := ⟨_, rfl⟩
              rw [← e4] at hH4
              have hs4 : (u8row M2).size = 6 := (u8row_len M2).trans hz4
              obtain ⟨st4s, hH4p⟩ := hH4.row 7 (u8row M2).toList (by rw [u8row_len, hz4]; decide) (u8row_one M2)
              have hH4ph := Lib.hid hH4p
              clear hH4 hH4p
              go_upto_region 19 with (fail)
              have hH4p := hH4ph.out
              clear st4s hs4 hH4ph
              generalize World.setRow v4 (w.heap.size + 1) _ = u4w at *
              obtain ⟨M3, hz5, hc5, hv5⟩ := rMac_any w1.heap.size g cp W i s4 u4w hH4p.line
              have hH4ph := Lib.hid hH4p
              clear hH4p
              go_wp2_with fail
              refine hc5.mono ?_
              rintro e v5 ⟨rfl, q5, t5⟩
              have hH5 := hH4ph.out.call q5 t5
              clear q5 t5 hc5 hH4ph
              obtain ⟨s5, e5⟩ : ∃ x, x = (readS macOf s4 W i).map (·.2) := ⟨_, rfl⟩
              rw [← e5] at hH5
              have hs5 : (u8row M3).size = 6 := (u8row_len M3).trans hz5
              obtain ⟨st5s, hH5p⟩ := hH5.row 13 (u8row M3).toList (by rw [u8row_len, hz5]; decide) (u8row_one M3)
              have hH5ph := Lib.hid hH5p
              clear hH5 hH5p
              go_upto_region 20 with (fail)
              have hH5p := hH5ph.out
              clear st5s hs5 hH5ph
              generalize World.setRow v5 (w.heap.size + 1) _ = u5w at *
              obtain ⟨K, hz6, hc6, hv6⟩ := rKey_any w1.heap.size g cp W i s5 u5w hH5p.line
              have hH5ph := Lib.hid hH5p
              clear hH5p
              go_wp2_with fail
              refine hc6.mono ?_
              rintro e v6 ⟨rfl, q6, t6⟩
              have hH6 := hH5ph.out.call q6 t6
              clear q6 t6 hc6 hH5ph
              obtain ⟨s6, e6⟩ : ∃ x, x = (readS keyOf s5 W i).map (·.2) := ⟨_, rfl⟩
              rw [← e6] at hH6
              have hs6 : (u8row K).size = 8 := (u8row_len K).trans hz6
              obtain ⟨st6s, hH6p⟩ := hH6.row 19 (u8row K).toList (by rw [u8row_len, hz6]; decide) (u8row_one K)
              have hH6ph := Lib.hid hH6p
              clear hH6 hH6p
              go_upto_region 21 with (fail)
              have hH6p := hH6ph.out
              clear st6s hs6 hH6ph
              generalize World.setRow v6 (w.heap.size + 1) _ = u6w at *
              go_wp2_with fail
              refine (rmust_any drName w1.heap.size g cp W i s6 _ hH6p.line).mono ?_
              rintro e v7 ⟨rfl, q7, t7⟩
              have hH7 := hH6p.call q7 t7
              clear q7 t7 hH6p
              obtain ⟨s7, e7⟩ : ∃ x, x = mustS drName s6 W i := ⟨_, rfl⟩
              rw [← e7] at hH7
              obtain ⟨d, hc8, hm8, hv8⟩ := rNum_any 4294967295 (by decide) w1.heap.size g cp W i s7 v7 hH7.line
              have hH7h := Lib.hid hH7
              clear hH7
              go_wp2_with fail
              refine hc8.mono ?_
              rintro e v8 ⟨rfl, q8, t8⟩
              have hH8 := hH7h.out.call q8 t8
              clear q8 t8 hc8 hH7h
              obtain ⟨s8, e8⟩ : ∃ x, x = (readS (fun l => numOf l 4294967295) s7 W i).map (·.2) := ⟨_, rfl⟩
              rw [← e8] at hH8
              obtain ⟨vt8, hct8⟩ := hH8.cell (j := 27) (by decide)
              have hft8 := hH8.free 27
              have hH8p := hH8.put 27 (.int .u32 (d : Int))
              have hH8ph := Lib.hid hH8p
              clear hH8 hH8p
              go_upto_region 24 with (fail)
              have hH8p := hH8ph.out
              clear hct8 hft8 hH8ph
              generalize v8.setCell ⟨w.heap.size + 1, 27, none⟩ (.int .u32 (d : Int)) = w5 at *
              obtain ⟨fin1, fin2⟩ := gwS_is e1 e2 hv2 e3 hv3 e4 hv4 e5 hv5 e6 hv6 e7 e8 hv8
              obtain ⟨c5, hc5⟩ : ∃ c5 : Cfg, c5 = ⟨x, M1, M2, M3, K, d, []⟩ := ⟨_, rfl⟩
              have hR5 : RLine w5 (w.heap.size + 1 + 1) w1.heap.size g cp W i ((gatewayP W i 0).map (·.2)) (w.heap.size + 1) c5 (.slice none 0 0) [] := by
                rw [← fin1]
                exact HSt.done HB.out.2.1 hH8p (by rw [hc5, HZ.out.1, HZ.out.2]; exact gw_cells x d M1 M2 M3 K hz3 hz4 hz5 hz6) (by rw [hc5]; exact ⟨hz3, hz4, hz5, hz6⟩) (by rw [hc5])
              have ht5 : Turn (fun k => k = w1.heap.size ∨ k = w.heap.size + 1 ∨ w.heap.size + 1 + 1 ≤ k) _ w5 := hH8p.turn.mono (fun k _ e => by rcases e with e | e; exact Or.inl e; exact Or.inr (Or.inl e))
              have hv5 : ∀ u m, gatewayP W i 0 = .ok (u, m) → c5 = u := fun u m hu => by rw [hc5]; exact (fin2 u m hu).symm
              have hres : fromP s.size (O ++ [(W, i)]) = resP W (gatewayP W i 0) := by rw [HO0.out]; exact (fromP_one s.size (W, i)).trans (headP_res W i)
              have hbn5 : ∀ u m, gatewayP W i 0 = .ok (u, m) → Bnd (tot O + W.length) u ∧ u.tens.length ≤ c.tens.length + 1 := fun u m hu => by rw [← hv5 u m hu, hc5]; exact ⟨fun t ht => by simp at ht, Nat.zero_le _⟩
              generalize gatewayP W i 0 = r5 at *
              clear fin1 fin2 e1 e2 hv2 e3 hv3 e4 hv4 e6 hv6 e7 e8 hv8 hz3 hz4 hz5 hz6 hm8 hH8p hc5
              rcases except_cases r5 with ⟨pl, hr⟩ | ⟨⟨u, m⟩, hr⟩
              · rw [hr] at hR5 hres
                have hc : configP s = .error pl := tail_err hs hfi HA.out.2.1 HA.out.2.2 HP.out.2.2.1 HW1.out HE.out.1 hres
                have HC := Lib.hid hc
                obtain ⟨i5, hRA⟩ := hR5.line
                have hle := hRA.le
                have c0 : w5.cell? ⟨w1.heap.size, 0, none⟩ = some (.slice (some ⟨g, 0, none⟩) W.length cp) := cell_of_block hRA.ex.1 0
                have c1 : w5.cell? ⟨w1.heap.size, 1, none⟩ = some (.int .i64 (i5 : Int)) := cell_of_block hRA.ex.1 1
                obtain ⟨relx, tx⟩ := tail_rel HB.out.1 ht5 hb1
                have HX := Lib.hid (And.intro hRA (And.intro relx tx))
                clear hRA relx tx hR5 ht5 hres hc hr hv5 hbn5
                by_cases h5 : i5 < W.length
                · have i6 : (i5 : Int) < (W.length : Int) := by omega
                  obtain ⟨xz, hxz⟩ : ∃ x, W[i5]? = some x := ⟨_, List.getElem?_eq_getElem h5⟩
                  have HXZ := Lib.hid hxz
                  clear hxz
                  go_wp2_with fail
                  go_quiet (fail)
                  have hRA := HX.out.1.turn ((Turn.refl (fun _ => False) w5).drewN nq) (fun h => h) (fun h => h)
                  have relx : (w5.drewN nq).heap[w.heap.size]? = _ := HX.out.2.1
                  have tx : Turn (fun _ => False) w (w5.drewN nq) := HX.out.2.2.drewN nq
                  clear c0 c1
                  generalize w5.drewN nq = w6 at *
                  go_upto_region 25 with (fail)
                  refine region_tail 12 (by kernel_rfl) (by kernel_rfl) _ rfl ?_
                  have hRA := hRA.turn (Turn.refl (fun _ => False) w6).drew (fun h => h) (fun h => h)
                  have tx := tx.drew
                  have relx : w6.drew.heap[w.heap.size]? = _ := relx
                  generalize World.drew _ = w7 at *
                  obtain ⟨x1, x2, x3, x4⟩ := hRA.ex
                  obtain ⟨y1, y2⟩ := x4 i5 xz HXZ.out
                  have c0 : w7.cell? ⟨w1.heap.size, 0, none⟩ = some (.slice (some ⟨g, 0, none⟩) W.length cp) := cell_of_block x1 0
                  have c1 : w7.cell? ⟨w1.heap.size, 1, none⟩ = some (.int .i64 (i5 : Int)) := cell_of_block x1 1
                  have hwr : IntKind.i64.wrap (i5 : Int) = i5 := by rw [IntKind.wrap_i64]; omega
                  have i7 : (0 : Int) ≤ (i5 : Int) := by omega
                  have h29 := rfail_raw w1.heap.size g cp W i i5 pl true xz.2 w7 hRA
                  have HX7 := Lib.hid (And.intro relx tx)
                  clear x1 x2 x3 x4 hRA relx tx HX
                  simp only [List.take_succ_cons, List.take_zero, List.drop_succ_cons, List.drop_zero]
                  repeat still_step
                  try refine wpStill_nil ?_
                  go_wp2_with fail
                  refine h29.mono ?_
                  rintro e w8 ⟨rfl, hRA, t8⟩
                  have relx := (t8.block _ (block_lt HX7.out.1) (show w.heap.size ≠ w1.heap.size by omega)).trans HX7.out.1
                  have tx := HX7.out.2.trans2 t8 (fun k hk e => by omega)
                  have hRA : RefAt w8 w1.heap.size g cp W i i5 pl true := hRA
                  clear h29 t8 c0 c1 y1 y2 HX7
                  have c4 : w8.cell? ⟨w1.heap.size, 4, none⟩ = some (.bool true) := cell_of_block hRA.ex.1 4
                  have cn : w8.drew.cell? ⟨w1.heap.size, 3, none⟩ = some (.int .i64 (pl : Int)) := cell_of_block hRA.ex.1 3
                  obtain ⟨stF, kF, tF⟩ := store_whole (W := w8.drew) relx (cs := cfgZero 0) rfl (by intro v hv; simp [cfgZero] at hv; rcases hv with rfl | rfl | rfl | rfl <;> rfl)
                  have hRb : w1.heap.size ≠ w.heap.size := by omega
                  have cn2 : (w8.drew.setRow w.heap.size (cfgZero 0)).cell? ⟨w1.heap.size, 3, none⟩ = some (.int .i64 (pl : Int)) := (World.cell?_of_block (tF.block w1.heap.size hRA.lt hRb)).trans cn
                  have hpost : RParsePost (configP s) w (.returned (.tuple #[.agg (cfgZero 0), .int .i64 (pl : Int), .int .i64 60])) (w8.drew.setRow w.heap.size (cfgZero 0)) := by rw [HC.out]; exact ⟨rfl, tx.drew.trans2 tF (fun k hk e => by omega)⟩
                  have HP9 := Lib.hid (And.intro hpost kF)
                  clear hpost kF tF hRA relx tx
                  go_upto_region 27 with (fail)
                  refine wp_region_held_drew (S := fun w' => w'.cell? ⟨w1.heap.size, 3, none⟩ = some (.int .i64 (pl : Int))) (by kernel_rfl) cn (fun hHeld => ?_)
                  refine wpAnyH_take (i := 0) (v := .agg (cfgZero 0)) rfl (by kernel_rfl) (by kernel_rfl) (by kernel_rfl) (fun _ _ _ h => h) (Or.inl ⟨by rfl, fun w' hSw => by kernel_rfl⟩) hHeld ?_
                  simp only [Act.put, List.getElem_toArray, List.getElem_cons_zero, List.getElem_cons_succ, List.setIfInBounds_toArray, List.set_cons_zero, List.set_cons_succ]
                  refine wpAnyH_take (i := 1) (v := .pointer (some ⟨w1.heap.size, 0, none⟩)) rfl (by kernel_rfl) (by kernel_rfl) (by kernel_rfl) (fun _ _ _ h => h) (Or.inl ⟨by rfl, fun w' hSw => by dsimp only at hSw; go_simp⟩) hHeld ?_
                  simp only [Act.put, List.getElem_toArray, List.getElem_cons_zero, List.getElem_cons_succ, List.setIfInBounds_toArray, List.set_cons_zero, List.set_cons_succ]
                  refine wpAnyH_take (i := 2) (v := .pointer (some ⟨w1.heap.size, 0, none⟩)) rfl (by kernel_rfl) (by kernel_rfl) (by kernel_rfl) (fun _ _ _ h => h) (Or.inl ⟨by rfl, fun w' hSw => by dsimp only at hSw; go_simp⟩) hHeld ?_
                  simp only [Act.put, List.getElem_toArray, List.getElem_cons_zero, List.getElem_cons_succ, List.setIfInBounds_toArray, List.set_cons_zero, List.set_cons_succ]
                  refine wpAnyH_take (i := 3) (v := .pointer (some ⟨w1.heap.size, 3, none⟩)) rfl (by kernel_rfl) (by kernel_rfl) (by kernel_rfl) (fun _ _ _ h => h) (Or.inl ⟨by rfl, fun w' hSw => by dsimp only at hSw; go_simp⟩) hHeld ?_
                  simp only [Act.put, List.getElem_toArray, List.getElem_cons_zero, List.getElem_cons_succ, List.setIfInBounds_toArray, List.set_cons_zero, List.set_cons_succ]
                  refine wpAnyH_take (i := 4) (v := .int .i64 (pl : Int)) rfl (by kernel_rfl) (by kernel_rfl) (by kernel_rfl) (fun _ _ _ h => h) (Or.inl ⟨by rfl, fun w' hSw => by dsimp only at hSw; go_simp⟩) hHeld ?_
                  simp only [Act.put, List.getElem_toArray, List.getElem_cons_zero, List.getElem_cons_succ, List.setIfInBounds_toArray, List.set_cons_zero, List.set_cons_succ]
                  refine wpAnyH_ready (rs := [5]) (by kernel_rfl) (by simp) ?_
                  refine AllReadyH.cons rfl (fun K hK => ?_) AllReadyH.nil
                  rw [if_pos (by rfl)]
                  refine wp_store_put 29 _ _ rfl w.heap.size 0 (cfgZero 0) rfl rfl (by kernel_rfl) _ stF ?_
                  refine hK.out _ _ cn2 (fun hHeld => ?_)
                  clear hK K
                  try simp only [Act.put, List.getElem_toArray, List.getElem_cons_zero, List.getElem_cons_succ, List.setIfInBounds_toArray, List.set_cons_zero, List.set_cons_succ]
                  refine wpAnyH_take (i := 6) (v := .int .i64 (pl : Int)) rfl (by kernel_rfl) (by kernel_rfl) (by kernel_rfl) (fun _ _ _ h => h) (Or.inl ⟨by rfl, fun w' hSw => by dsimp only at hSw; go_simp⟩) hHeld ?_
                  simp only [Act.put, List.getElem_toArray, List.getElem_cons_zero, List.getElem_cons_succ, List.setIfInBounds_toArray, List.set_cons_zero, List.set_cons_succ]
                  refine wpAnyH_take (i := 7) (v := .int .i64 60) rfl (by kernel_rfl) (by kernel_rfl) (by kernel_rfl) (fun _ _ _ h => h) (Or.inl ⟨by rfl, fun w' hSw => by dsimp only at hSw; go_simp⟩) hHeld ?_
                  simp only [Act.put, List.getElem_toArray, List.getElem_cons_zero, List.getElem_cons_succ, List.setIfInBounds_toArray, List.set_cons_zero, List.set_cons_succ]
                  refine wpAnyH_done (by kernel_rfl) ?_ _
                  go_wp2_with fail
                  exact bodyPost_ret (results_three _ _ w.heap.size _ _ _ rfl rfl rfl HP9.out.2 rfl) rfl HP9.out.1
                · have i6 : ¬ (i5 : Int) < (W.length : Int) := by omega
                  go_wp2_with fail
                  go_quiet (fail)
                  have hRA := HX.out.1.turn ((Turn.refl (fun _ => False) w5).drewN nq) (fun h => h) (fun h => h)
                  have relx : (w5.drewN nq).heap[w.heap.size]? = _ := HX.out.2.1
                  have tx : Turn (fun _ => False) w (w5.drewN nq) := HX.out.2.2.drewN nq
                  clear c0 c1
                  generalize w5.drewN nq = w6 at *
                  have c4 : w6.cell? ⟨w1.heap.size, 4, none⟩ = some (.bool true) := cell_of_block hRA.ex.1 4
                  have cn : w6.drew.cell? ⟨w1.heap.size, 3, none⟩ = some (.int .i64 (pl : Int)) := cell_of_block hRA.ex.1 3
                  obtain ⟨stF, kF, tF⟩ := store_whole (W := w6.drew) relx (cs := cfgZero 0) rfl (by intro v hv; simp [cfgZero] at hv; rcases hv with rfl | rfl | rfl | rfl <;> rfl)
                  have hRb : w1.heap.size ≠ w.heap.size := by omega
                  have cn2 : (w6.drew.setRow w.heap.size (cfgZero 0)).cell? ⟨w1.heap.size, 3, none⟩ = some (.int .i64 (pl : Int)) := (World.cell?_of_block (tF.block w1.heap.size hRA.lt hRb)).trans cn
                  have hpost : RParsePost (configP s) w (.returned (.tuple #[.agg (cfgZero 0), .int .i64 (pl : Int), .int .i64 60])) (w6.drew.setRow w.heap.size (cfgZero 0)) := by rw [HC.out]; exact ⟨rfl, tx.drew.trans2 tF (fun k hk e => by omega)⟩
                  have HP9 := Lib.hid (And.intro hpost kF)
                  clear hpost kF tF hRA relx tx
                  go_upto_region 27 with (fail)
                  refine wp_region_held_drew (S := fun w' => w'.cell? ⟨w1.heap.size, 3, none⟩ = some (.int .i64 (pl : Int))) (by kernel_rfl) cn (fun hHeld => ?_)
                  refine wpAnyH_take (i := 0) (v := .agg (cfgZero 0)) rfl (by kernel_rfl) (by kernel_rfl) (by kernel_rfl) (fun _ _ _ h => h) (Or.inl ⟨by rfl, fun w' hSw => by kernel_rfl⟩) hHeld ?_
                  simp only [Act.put, List.getElem_toArray, List.getElem_cons_zero, List.getElem_cons_succ, List.setIfInBounds_toArray, List.set_cons_zero, List.set_cons_succ]
                  refine wpAnyH_take (i := 1) (v := .pointer (some ⟨w1.heap.size, 0, none⟩)) rfl (by kernel_rfl) (by kernel_rfl) (by kernel_rfl) (fun _ _ _ h => h) (Or.inl ⟨by rfl, fun w' hSw => by dsimp only at hSw; go_simp⟩) hHeld ?_
                  simp only [Act.put, List.getElem_toArray, List.getElem_cons_zero, List.getElem_cons_succ, List.setIfInBounds_toArray, List.set_cons_zero, List.set_cons_succ]
                  refine wpAnyH_take (i := 2) (v := .pointer (some ⟨w1.heap.size, 0, none⟩)) rfl (by kernel_rfl) (by kernel_rfl) (by kernel_rfl) (fun _ _ _ h => h) (Or.inl ⟨by rfl, fun w' hSw => by dsimp only at hSw; go_simp⟩) hHeld ?_
                  simp only [Act.put, List.getElem_toArray, List.getElem_cons_zero, List.getElem_cons_succ, List.setIfInBounds_toArray, List.set_cons_zero, List.set_cons_succ]
                  refine wpAnyH_take (i := 3) (v := .pointer (some ⟨w1.heap.size, 3, none⟩)) rfl (by kernel_rfl) (by kernel_rfl) (by kernel_rfl) (fun _ _ _ h => h) (Or.inl ⟨by rfl, fun w' hSw => by dsimp only at hSw; go_simp⟩) hHeld ?_
                  simp only [Act.put, List.getElem_toArray, List.getElem_cons_zero, List.getElem_cons_succ, List.setIfInBounds_toArray, List.set_cons_zero, List.set_cons_succ]
                  refine wpAnyH_take (i := 4) (v := .int .i64 (pl : Int)) rfl (by kernel_rfl) (by kernel_rfl) (by kernel_rfl) (fun _ _ _ h => h) (Or.inl ⟨by rfl, fun w' hSw => by dsimp only at hSw; go_simp⟩) hHeld ?_
                  simp only [Act.put, List.getElem_toArray, List.getElem_cons_zero, List.getElem_cons_succ, List.setIfInBounds_toArray, List.set_cons_zero, List.set_cons_succ]
                  refine wpAnyH_ready (rs := [5]) (by kernel_rfl) (by simp) ?_
                  refine AllReadyH.cons rfl (fun K hK => ?_) AllReadyH.nil
                  rw [if_pos (by rfl)]
                  refine wp_store_put 29 _ _ rfl w.heap.size 0 (cfgZero 0) rfl rfl (by kernel_rfl) _ stF ?_
                  refine hK.out _ _ cn2 (fun hHeld => ?_)
                  clear hK K
                  try simp only [Act.put, List.getElem_toArray, List.getElem_cons_zero, List.getElem_cons_succ, List.setIfInBounds_toArray, List.set_cons_zero, List.set_cons_succ]
                  refine wpAnyH_take (i := 6) (v := .int .i64 (pl : Int)) rfl (by kernel_rfl) (by kernel_rfl) (by kernel_rfl) (fun _ _ _ h => h) (Or.inl ⟨by rfl, fun w' hSw => by dsimp only at hSw; go_simp⟩) hHeld ?_
                  simp only [Act.put, List.getElem_toArray, List.getElem_cons_zero, List.getElem_cons_succ, List.setIfInBounds_toArray, List.set_cons_zero, List.set_cons_succ]
                  refine wpAnyH_take (i := 7) (v := .int .i64 60) rfl (by kernel_rfl) (by kernel_rfl) (by kernel_rfl) (fun _ _ _ h => h) (Or.inl ⟨by rfl, fun w' hSw => by dsimp only at hSw; go_simp⟩) hHeld ?_
                  simp only [Act.put, List.getElem_toArray, List.getElem_cons_zero, List.getElem_cons_succ, List.setIfInBounds_toArray, List.set_cons_zero, List.set_cons_succ]
                  refine wpAnyH_done (by kernel_rfl) ?_ _
                  go_wp2_with fail
                  exact bodyPost_ret (results_three _ _ w.heap.size _ _ _ rfl rfl rfl HP9.out.2 rfl) rfl HP9.out.1
              · obtain rfl := hv5 u m hr
                obtain ⟨hbn, hct⟩ := hbn5 c5 m hr
                rw [hr] at hR5 hres
                obtain ⟨pl, hRA⟩ := hR5.line
                have hle := hRA.le
                have c0 : w5.cell? ⟨w1.heap.size, 0, none⟩ = some (.slice (some ⟨g, 0, none⟩) W.length cp) := cell_of_block hRA.ex.1 0
                have c1 : w5.cell? ⟨w1.heap.size, 1, none⟩ = some (.int .i64 (m : Int)) := cell_of_block hRA.ex.1 1
                by_cases h5 : m < W.length
                · obtain ⟨xe, hxe⟩ : ∃ x, W[m]? = some x := ⟨_, List.getElem?_eq_getElem h5⟩
                  have hc : configP s = .error xe.2 := tail_err hs hfi HA.out.2.1 HA.out.2.2 HP.out.2.2.1 HW1.out HE.out.1 (hres.trans (resP_left hxe))
                  have HC := Lib.hid hc
                  obtain ⟨relx, tx⟩ := tail_rel HB.out.1 ht5 hb1
                  have HX := Lib.hid (And.intro hRA (And.intro relx tx))
                  have HXE := Lib.hid hxe
                  clear hRA relx tx hR5 ht5 hres hc hr hv5 hbn5 hbn hct hxe
                  have i6 : (m : Int) < (W.length : Int) := by omega
                  obtain ⟨xz, hxz⟩ : ∃ x, W[m]? = some x := ⟨_, List.getElem?_eq_getElem h5⟩
                  have HXZ := Lib.hid hxz
                  obtain rfl : xe = xz := Option.some.inj (HXE.out.symm.trans hxz)
                  clear hxz
                  go_wp2_with fail
                  go_quiet (fail)
                  have hRA := HX.out.1.turn ((Turn.refl (fun _ => False) w5).drewN nq) (fun h => h) (fun h => h)
                  have relx : (w5.drewN nq).heap[w.heap.size]? = _ := HX.out.2.1
                  have tx : Turn (fun _ => False) w (w5.drewN nq) := HX.out.2.2.drewN nq
                  clear c0 c1
                  generalize w5.drewN nq = w6 at *
                  go_upto_region 25 with (fail)
                  refine region_tail 12 (by kernel_rfl) (by kernel_rfl) _ rfl ?_
                  have hRA := hRA.turn (Turn.refl (fun _ => False) w6).drew (fun h => h) (fun h => h)
                  have tx := tx.drew
                  have relx : w6.drew.heap[w.heap.size]? = _ := relx
                  generalize World.drew _ = w7 at *
                  obtain ⟨x1, x2, x3, x4⟩ := hRA.ex
                  obtain ⟨y1, y2⟩ := x4 m xe HXZ.out
                  have c0 : w7.cell? ⟨w1.heap.size, 0, none⟩ = some (.slice (some ⟨g, 0, none⟩) W.length cp) := cell_of_block x1 0
                  have c1 : w7.cell? ⟨w1.heap.size, 1, none⟩ = some (.int .i64 (m : Int)) := cell_of_block x1 1
                  have hwr : IntKind.i64.wrap (m : Int) = m := by rw [IntKind.wrap_i64]; omega
                  have i7 : (0 : Int) ≤ (m : Int) := by omega
                  have h29 := rfail_raw w1.heap.size g cp W i m pl false xe.2 w7 hRA
                  have HX7 := Lib.hid (And.intro relx tx)
                  clear x1 x2 x3 x4 hRA relx tx HX
                  simp only [List.take_succ_cons, List.take_zero, List.drop_succ_cons, List.drop_zero]
                  repeat still_step
                  try refine wpStill_nil ?_
                  go_wp2_with fail
                  refine h29.mono ?_
                  rintro e w8 ⟨rfl, hRA, t8⟩
                  have relx := (t8.block _ (block_lt HX7.out.1) (show w.heap.size ≠ w1.heap.size by omega)).trans HX7.out.1
                  have tx := HX7.out.2.trans2 t8 (fun k hk e => by omega)
                  have hRA : RefAt w8 w1.heap.size g cp W i m xe.2 true := hRA
                  clear h29 t8 c0 c1 y1 y2 HX7
                  have c4 : w8.cell? ⟨w1.heap.size, 4, none⟩ = some (.bool true) := cell_of_block hRA.ex.1 4
                  have cn : w8.drew.cell? ⟨w1.heap.size, 3, none⟩ = some (.int .i64 (xe.2 : Int)) := cell_of_block hRA.ex.1 3
                  obtain ⟨stF, kF, tF⟩ := store_whole (W := w8.drew) relx (cs := cfgZero 0) rfl (by intro v hv; simp [cfgZero] at hv; rcases hv with rfl | rfl | rfl | rfl <;> rfl)
                  have hRb : w1.heap.size ≠ w.heap.size := by omega
                  have cn2 : (w8.drew.setRow w.heap.size (cfgZero 0)).cell? ⟨w1.heap.size, 3, none⟩ = some (.int .i64 (xe.2 : Int)) := (World.cell?_of_block (tF.block w1.heap.size hRA.lt hRb)).trans cn
                  have hpost : RParsePost (configP s) w (.returned (.tuple #[.agg (cfgZero 0), .int .i64 (xe.2 : Int), .int .i64 60])) (w8.drew.setRow w.heap.size (cfgZero 0)) := by rw [HC.out]; exact ⟨rfl, tx.drew.trans2 tF (fun k hk e => by omega)⟩
                  have HP9 := Lib.hid (And.intro hpost kF)
                  clear hpost kF tF hRA relx tx
                  go_upto_region 27 with (fail)
                  refine wp_region_held_drew (S := fun w' => w'.cell? ⟨w1.heap.size, 3, none⟩ = some (.int .i64 (xe.2 : Int))) (by kernel_rfl) cn (fun hHeld => ?_)
                  refine wpAnyH_take (i := 0) (v := .agg (cfgZero 0)) rfl (by kernel_rfl) (by kernel_rfl) (by kernel_rfl) (fun _ _ _ h => h) (Or.inl ⟨by rfl, fun w' hSw => by kernel_rfl⟩) hHeld ?_
                  simp only [Act.put, List.getElem_toArray, List.getElem_cons_zero, List.getElem_cons_succ, List.setIfInBounds_toArray, List.set_cons_zero, List.set_cons_succ]
                  refine wpAnyH_take (i := 1) (v := .pointer (some ⟨w1.heap.size, 0, none⟩)) rfl (by kernel_rfl) (by kernel_rfl) (by kernel_rfl) (fun _ _ _ h => h) (Or.inl ⟨by rfl, fun w' hSw => by dsimp only at hSw; go_simp⟩) hHeld ?_
                  simp only [Act.put, List.getElem_toArray, List.getElem_cons_zero, List.getElem_cons_succ, List.setIfInBounds_toArray, List.set_cons_zero, List.set_cons_succ]
                  refine wpAnyH_take (i := 2) (v := .pointer (some ⟨w1.heap.size, 0, none⟩)) rfl (by kernel_rfl) (by kernel_rfl) (by kernel_rfl) (fun _ _ _ h => h) (Or.inl ⟨by rfl, fun w' hSw => by dsimp only at hSw; go_simp⟩) hHeld ?_
                  simp only [Act.put, List.getElem_toArray, List.getElem_cons_zero, List.getElem_cons_succ, List.setIfInBounds_toArray, List.set_cons_zero, List.set_cons_succ]
                  refine wpAnyH_take (i := 3) (v := .pointer (some ⟨w1.heap.size, 3, none⟩)) rfl (by kernel_rfl) (by kernel_rfl) (by kernel_rfl) (fun _ _ _ h => h) (Or.inl ⟨by rfl, fun w' hSw => by dsimp only at hSw; go_simp⟩) hHeld ?_
                  simp only [Act.put, List.getElem_toArray, List.getElem_cons_zero, List.getElem_cons_succ, List.setIfInBounds_toArray, List.set_cons_zero, List.set_cons_succ]
                  refine wpAnyH_take (i := 4) (v := .int .i64 (xe.2 : Int)) rfl (by kernel_rfl) (by kernel_rfl) (by kernel_rfl) (fun _ _ _ h => h) (Or.inl ⟨by rfl, fun w' hSw => by dsimp only at hSw; go_simp⟩) hHeld ?_
                  simp only [Act.put, List.getElem_toArray, List.getElem_cons_zero, List.getElem_cons_succ, List.setIfInBounds_toArray, List.set_cons_zero, List.set_cons_succ]
                  refine wpAnyH_ready (rs := [5]) (by kernel_rfl) (by simp) ?_
                  refine AllReadyH.cons rfl (fun K hK => ?_) AllReadyH.nil
                  rw [if_pos (by rfl)]
                  refine wp_store_put 29 _ _ rfl w.heap.size 0 (cfgZero 0) rfl rfl (by kernel_rfl) _ stF ?_
                  refine hK.out _ _ cn2 (fun hHeld => ?_)
                  clear hK K
                  try simp only [Act.put, List.getElem_toArray, List.getElem_cons_zero, List.getElem_cons_succ, List.setIfInBounds_toArray, List.set_cons_zero, List.set_cons_succ]
                  refine wpAnyH_take (i := 6) (v := .int .i64 (xe.2 : Int)) rfl (by kernel_rfl) (by kernel_rfl) (by kernel_rfl) (fun _ _ _ h => h) (Or.inl ⟨by rfl, fun w' hSw => by dsimp only at hSw; go_simp⟩) hHeld ?_
                  simp only [Act.put, List.getElem_toArray, List.getElem_cons_zero, List.getElem_cons_succ, List.setIfInBounds_toArray, List.set_cons_zero, List.set_cons_succ]
                  refine wpAnyH_take (i := 7) (v := .int .i64 60) rfl (by kernel_rfl) (by kernel_rfl) (by kernel_rfl) (fun _ _ _ h => h) (Or.inl ⟨by rfl, fun w' hSw => by dsimp only at hSw; go_simp⟩) hHeld ?_
                  simp only [Act.put, List.getElem_toArray, List.getElem_cons_zero, List.getElem_cons_succ, List.setIfInBounds_toArray, List.set_cons_zero, List.set_cons_succ]
                  refine wpAnyH_done (by kernel_rfl) ?_ _
                  go_wp2_with fail
                  exact bodyPost_ret (results_three _ _ w.heap.size _ _ _ rfl rfl rfl HP9.out.2 rfl) rfl HP9.out.1
                · have i6 : ¬ (m : Int) < (W.length : Int) := by omega
                  have c4 : w5.cell? ⟨w1.heap.size, 4, none⟩ = some (.bool false) := cell_of_block hRA.ex.1 4
                  have hrc := hres.trans (resP_done (List.getElem?_eq_none (by omega)))
                  have HN := Lib.hid (fun W' t => tail_next (W' := W') hfi his HA.out.2.1 HA.out.2.2 HP.out.2.2.1 HW1.out HE.out.1 HB.out.1 hR5 ht5 hb1 t hrc hbn hct)
                  clear hRA hR5 ht5 hres hr hv5 hbn5 hbn hct hrc
                  go_wp2_with fail
                  go_quiet (fail)
                  have c4 : (w5.drewN nq).cell? ⟨w1.heap.size, 4, none⟩ = some (.bool false) := c4
                  go_wp2_with fail
                  go_roundg (s.size + 1 - (i + 1))
                  case measure => omega
                  case rel => exact ⟨i + 1, i + 1, O ++ [(W, i)], rfl, by cases O <;> rfl, by go_num, by go_num, Lib.hid (HN.out _ ((Turn.refl (fun _ => False) w5).drewN nq))⟩
            · have hoe : O.isEmpty = false := by cases O with | nil => exact absurd rfl hO0 | cons a b => rfl
              have hfr : fromP s.size O = .ok c := by rcases HA.out.1.cfg with ⟨h, _⟩ | ⟨_, h⟩; exact absurd h hO0; exact h
              have htot := lines_cnt HA.out.2.1
              have hcnt : l.length ≤ 1000000 := by have := HA.out.1.cnt; omega
              have hbb : ∀ y ∈ l, y.1.pool.length + W.length ≤ 10000000 ∧ y.1.statics.length ≤ 10000000 ∧ y.1.twices.length ≤ 10000000 := fun y hy => by
                have hyt : y.1 ∈ c.tens := by rw [← HA.out.1.eqt]; exact List.mem_map_of_mem hy
                obtain ⟨q1, q2, q3⟩ := HA.out.1.bnd y.1 hyt
                omega
              have h28 := rline_any HB.out.2.1 HB.out.2.2.1 hcnt hbb
              have HFR := Lib.hid hfr
              have HO0 := Lib.hid hO0
              clear hfr hO0 hbb htot
              go_wp2_with fail
              refine h28.mono ?_
              rintro e w5 ⟨rfl, c5, tv5, l5, hR5, ht5, hv5⟩
              have hres := (fromP_snoc (X := (W, i)) HO0.out HFR.out).trans (lineP_res c W i)
              have hbn5 : ∀ u m, bodyR c W i = .ok (u, m) → Bnd (tot O + W.length) u ∧ u.tens.length ≤ c.tens.length + 1 := fun u m hu => bodyR_bnd hu HA.out.1.bnd (fun t ht => by rw [← HA.out.1.eqt] at ht; obtain ⟨y, hy, rfl⟩ := List.mem_map.1 ht; exact (HA.out.1.tens.each y hy).wf) HW1.out
              generalize bodyR c W i = r5 at *
              clear h28
              rcases except_cases r5 with ⟨pl, hr⟩ | ⟨⟨u, m⟩, hr⟩
              · rw [hr] at hR5 hres
                have hc : configP s = .error pl := tail_err hs hfi HA.out.2.1 HA.out.2.2 HP.out.2.2.1 HW1.out HE.out.1 hres
                have HC := Lib.hid hc
                obtain ⟨i5, hRA⟩ := hR5.line
                have hle := hRA.le
                have c0 : w5.cell? ⟨w1.heap.size, 0, none⟩ = some (.slice (some ⟨g, 0, none⟩) W.length cp) := cell_of_block hRA.ex.1 0
                have c1 : w5.cell? ⟨w1.heap.size, 1, none⟩ = some (.int .i64 (i5 : Int)) := cell_of_block hRA.ex.1 1
                obtain ⟨relx, tx⟩ := tail_rel HB.out.1 ht5 hb1
                have HX := Lib.hid (And.intro hRA (And.intro relx tx))
                clear hRA relx tx hR5 ht5 hres hc hr hv5 hbn5
                by_cases h5 : i5 < W.length
                · have i6 : (i5 : Int) < (W.length : Int) := by omega
                  obtain ⟨xz, hxz⟩ : ∃ x, W[i5]? = some x := ⟨_, List.getElem?_eq_getElem h5⟩
                  have HXZ := Lib.hid hxz
                  clear hxz
                  go_wp2_with fail
                  go_quiet (fail)
                  have hRA := HX.out.1.turn ((Turn.refl (fun _ => False) w5).drewN nq) (fun h => h) (fun h => h)
                  have relx : (w5.drewN nq).heap[w.heap.size]? = _ := HX.out.2.1
                  have tx : Turn (fun _ => False) w (w5.drewN nq) := HX.out.2.2.drewN nq
                  clear c0 c1
                  generalize w5.drewN nq = w6 at *
                  go_upto_region 25 with (fail)
                  refine region_tail 12 (by kernel_rfl) (by kernel_rfl) _ rfl ?_
                  have hRA := hRA.turn (Turn.refl (fun _ => False) w6).drew (fun h => h) (fun h => h)
                  have tx := tx.drew
                  have relx : w6.drew.heap[w.heap.size]? = _ := relx
                  generalize World.drew _ = w7 at *
                  obtain ⟨x1, x2, x3, x4⟩ := hRA.ex
                  obtain ⟨y1, y2⟩ := x4 i5 xz HXZ.out
                  have c0 : w7.cell? ⟨w1.heap.size, 0, none⟩ = some (.slice (some ⟨g, 0, none⟩) W.length cp) := cell_of_block x1 0
                  have c1 : w7.cell? ⟨w1.heap.size, 1, none⟩ = some (.int .i64 (i5 : Int)) := cell_of_block x1 1
                  have hwr : IntKind.i64.wrap (i5 : Int) = i5 := by rw [IntKind.wrap_i64]; omega
                  have i7 : (0 : Int) ≤ (i5 : Int) := by omega
                  have h29 := rfail_raw w1.heap.size g cp W i i5 pl true xz.2 w7 hRA
                  have HX7 := Lib.hid (And.intro relx tx)
                  clear x1 x2 x3 x4 hRA relx tx HX
                  simp only [List.take_succ_cons, List.take_zero, List.drop_succ_cons, List.drop_zero]
                  repeat still_step
                  try refine wpStill_nil ?_
                  go_wp2_with fail
                  refine h29.mono ?_
                  rintro e w8 ⟨rfl, hRA, t8⟩
                  have relx := (t8.block _ (block_lt HX7.out.1) (show w.heap.size ≠ w1.heap.size by omega)).trans HX7.out.1
                  have tx := HX7.out.2.trans2 t8 (fun k hk e => by omega)
                  have hRA : RefAt w8 w1.heap.size g cp W i i5 pl true := hRA
                  clear h29 t8 c0 c1 y1 y2 HX7
                  have c4 : w8.cell? ⟨w1.heap.size, 4, none⟩ = some (.bool true) := cell_of_block hRA.ex.1 4
                  have cn : w8.drew.cell? ⟨w1.heap.size, 3, none⟩ = some (.int .i64 (pl : Int)) := cell_of_block hRA.ex.1 3
                  obtain ⟨stF, kF, tF⟩ := store_whole (W := w8.drew) relx (cs := cfgZero 0) rfl (by intro v hv; simp [cfgZero] at hv; rcases hv with rfl | rfl | rfl | rfl <;> rfl)
                  have hRb : w1.heap.size ≠ w.heap.size := by omega
                  have cn2 : (w8.drew.setRow w.heap.size (cfgZero 0)).cell? ⟨w1.heap.size, 3, none⟩ = some (.int .i64 (pl : Int)) := (World.cell?_of_block (tF.block w1.heap.size hRA.lt hRb)).trans cn
                  have hpost : RParsePost (configP s) w (.returned (.tuple #[.agg (cfgZero 0), .int .i64 (pl : Int), .int .i64 60])) (w8.drew.setRow w.heap.size (cfgZero 0)) := by rw [HC.out]; exact ⟨rfl, tx.drew.trans2 tF (fun k hk e => by omega)⟩
                  have HP9 := Lib.hid (And.intro hpost kF)
                  clear hpost kF tF hRA relx tx
                  go_upto_region 27 with (fail)
                  refine wp_region_held_drew (S := fun w' => w'.cell? ⟨w1.heap.size, 3, none⟩ = some (.int .i64 (pl : Int))) (by kernel_rfl) cn (fun hHeld => ?_)
                  refine wpAnyH_take (i := 0) (v := .agg (cfgZero 0)) rfl (by kernel_rfl) (by kernel_rfl) (by kernel_rfl) (fun _ _ _ h => h) (Or.inl ⟨by rfl, fun w' hSw => by kernel_rfl⟩) hHeld ?_
                  simp only [Act.put, List.getElem_toArray, List.getElem_cons_zero, List.getElem_cons_succ, List.setIfInBounds_toArray, List.set_cons_zero, List.set_cons_succ]
                  refine wpAnyH_take (i := 1) (v := .pointer (some ⟨w1.heap.size, 0, none⟩)) rfl (by kernel_rfl) (by kernel_rfl) (by kernel_rfl) (fun _ _ _ h => h) (Or.inl ⟨by rfl, fun w' hSw => by dsimp only at hSw; go_simp⟩) hHeld ?_
                  simp only [Act.put, List.getElem_toArray, List.getElem_cons_zero, List.getElem_cons_succ, List.setIfInBounds_toArray, List.set_cons_zero, List.set_cons_succ]
                  refine wpAnyH_take (i := 2) (v := .pointer (some ⟨w1.heap.size, 0, none⟩)) rfl (by kernel_rfl) (by kernel_rfl) (by kernel_rfl) (fun _ _ _ h => h) (Or.inl ⟨by rfl, fun w' hSw => by dsimp only at hSw; go_simp⟩) hHeld ?_
                  simp only [Act.put, List.getElem_toArray, List.getElem_cons_zero, List.getElem_cons_succ, List.setIfInBounds_toArray, List.set_cons_zero, List.set_cons_succ]
                  refine wpAnyH_take (i := 3) (v := .pointer (some ⟨w1.heap.size, 3, none⟩)) rfl (by kernel_rfl) (by kernel_rfl) (by kernel_rfl) (fun _ _ _ h => h) (Or.inl ⟨by rfl, fun w' hSw => by dsimp only at hSw; go_simp⟩) hHeld ?_
                  simp only [Act.put, List.getElem_toArray, List.getElem_cons_zero, List.getElem_cons_succ, List.setIfInBounds_toArray, List.set_cons_zero, List.set_cons_succ]
                  refine wpAnyH_take (i := 4) (v := .int .i64 (pl : Int)) rfl (by kernel_rfl) (by kernel_rfl) (by kernel_rfl) (fun _ _ _ h => h) (Or.inl ⟨by rfl, fun w' hSw => by dsimp only at hSw; go_simp⟩) hHeld ?_
                  simp only [Act.put, List.getElem_toArray, List.getElem_cons_zero, List.getElem_cons_succ, List.setIfInBounds_toArray, List.set_cons_zero, List.set_cons_succ]
                  refine wpAnyH_ready (rs := [5]) (by kernel_rfl) (by simp) ?_
                  refine AllReadyH.cons rfl (fun K hK => ?_) AllReadyH.nil
                  rw [if_pos (by rfl)]
                  refine wp_store_put 29 _ _ rfl w.heap.size 0 (cfgZero 0) rfl rfl (by kernel_rfl) _ stF ?_
                  refine hK.out _ _ cn2 (fun hHeld => ?_)
                  clear hK K
                  try simp only [Act.put, List.getElem_toArray, List.getElem_cons_zero, List.getElem_cons_succ, List.setIfInBounds_toArray, List.set_cons_zero, List.set_cons_succ]
                  refine wpAnyH_take (i := 6) (v := .int .i64 (pl : Int)) rfl (by kernel_rfl) (by kernel_rfl) (by kernel_rfl) (fun _ _ _ h => h) (Or.inl ⟨by rfl, fun w' hSw => by dsimp only at hSw; go_simp⟩) hHeld ?_
                  simp only [Act.put, List.getElem_toArray, List.getElem_cons_zero, List.getElem_cons_succ, List.setIfInBounds_toArray, List.set_cons_zero, List.set_cons_succ]
                  refine wpAnyH_take (i := 7) (v := .int .i64 60) rfl (by kernel_rfl) (by kernel_rfl) (by kernel_rfl) (fun _ _ _ h => h) (Or.inl ⟨by rfl, fun w' hSw => by dsimp only at hSw; go_simp⟩) hHeld ?_
                  simp only [Act.put, List.getElem_toArray, List.getElem_cons_zero, List.getElem_cons_succ, List.setIfInBounds_toArray, List.set_cons_zero, List.set_cons_succ]
                  refine wpAnyH_done (by kernel_rfl) ?_ _
                  go_wp2_with fail
                  exact bodyPost_ret (results_three _ _ w.heap.size _ _ _ rfl rfl rfl HP9.out.2 rfl) rfl HP9.out.1
                · have i6 : ¬ (i5 : Int) < (W.length : Int) := by omega
                  go_wp2_with fail
                  go_quiet (fail)
                  have hRA := HX.out.1.turn ((Turn.refl (fun _ => False) w5).drewN nq) (fun h => h) (fun h => h)
                  have relx : (w5.drewN nq).heap[w.heap.size]? = _ := HX.out.2.1
                  have tx : Turn (fun _ => False) w (w5.drewN nq) := HX.out.2.2.drewN nq
                  clear c0 c1
                  generalize w5.drewN nq = w6 at *
                  have c4 : w6.cell? ⟨w1.heap.size, 4, none⟩ = some (.bool true) := cell_of_block hRA.ex.1 4
                  have cn : w6.drew.cell? ⟨w1.heap.size, 3, none⟩ = some (.int .i64 (pl : Int)) := cell_of_block hRA.ex.1 3
                  obtain ⟨stF, kF, tF⟩ := store_whole (W := w6.drew) relx (cs := cfgZero 0) rfl (by intro v hv; simp [cfgZero] at hv; rcases hv with rfl | rfl | rfl | rfl <;> rfl)
                  have hRb : w1.heap.size ≠ w.heap.size := by omega
                  have cn2 : (w6.drew.setRow w.heap.size (cfgZero 0)).cell? ⟨w1.heap.size, 3, none⟩ = some (.int .i64 (pl : Int)) := (World.cell?_of_block (tF.block w1.heap.size hRA.lt hRb)).trans cn
                  have hpost : RParsePost (configP s) w (.returned (.tuple #[.agg (cfgZero 0), .int .i64 (pl : Int), .int .i64 60])) (w6.drew.setRow w.heap.size (cfgZero 0)) := by rw [HC.out]; exact ⟨rfl, tx.drew.trans2 tF (fun k hk e => by omega)⟩
                  have HP9 := Lib.hid (And.intro hpost kF)
                  clear hpost kF tF hRA relx tx
                  go_upto_region 27 with (fail)
                  refine wp_region_held_drew (S := fun w' => w'.cell? ⟨w1.heap.size, 3, none⟩ = some (.int .i64 (pl : Int))) (by kernel_rfl) cn (fun hHeld => ?_)
                  refine wpAnyH_take (i := 0) (v := .agg (cfgZero 0)) rfl (by kernel_rfl) (by kernel_rfl) (by kernel_rfl) (fun _ _ _ h => h) (Or.inl ⟨by rfl, fun w' hSw => by kernel_rfl⟩) hHeld ?_
                  simp only [Act.put, List.getElem_toArray, List.getElem_cons_zero, List.getElem_cons_succ, List.setIfInBounds_toArray, List.set_cons_zero, List.set_cons_succ]
                  refine wpAnyH_take (i := 1) (v := .pointer (some ⟨w1.heap.size, 0, none⟩)) rfl (by kernel_rfl) (by kernel_rfl) (by kernel_rfl) (fun _ _ _ h => h) (Or.inl ⟨by rfl, fun w' hSw => by dsimp only at hSw; go_simp⟩) hHeld ?_
                  simp only [Act.put, List.getElem_toArray, List.getElem_cons_zero, List.getElem_cons_succ, List.setIfInBounds_toArray, List.set_cons_zero, List.set_cons_succ]
                  refine wpAnyH_take (i := 2) (v := .pointer (some ⟨w1.heap.size, 0, none⟩)) rfl (by kernel_rfl) (by kernel_rfl) (by kernel_rfl) (fun _ _ _ h => h) (Or.inl ⟨by rfl, fun w' hSw => by dsimp only at hSw; go_simp⟩) hHeld ?_
                  simp only [Act.put, List.getElem_toArray, List.getElem_cons_zero, List.getElem_cons_succ, List.setIfInBounds_toArray, List.set_cons_zero, List.set_cons_succ]
                  refine wpAnyH_take (i := 3) (v := .pointer (some ⟨w1.heap.size, 3, none⟩)) rfl (by kernel_rfl) (by kernel_rfl) (by kernel_rfl) (fun _ _ _ h => h) (Or.inl ⟨by rfl, fun w' hSw => by dsimp only at hSw; go_simp⟩) hHeld ?_
                  simp only [Act.put, List.getElem_toArray, List.getElem_cons_zero, List.getElem_cons_succ, List.setIfInBounds_toArray, List.set_cons_zero, List.set_cons_succ]
                  refine wpAnyH_take (i := 4) (v := .int .i64 (pl : Int)) rfl (by kernel_rfl) (by kernel_rfl) (by kernel_rfl) (fun _ _ _ h => h) (Or.inl ⟨by rfl, fun w' hSw => by dsimp only at hSw; go_simp⟩) hHeld ?_
                  simp only [Act.put, List.getElem_toArray, List.getElem_cons_zero, List.getElem_cons_succ, List.setIfInBounds_toArray, List.set_cons_zero, List.set_cons_succ]
                  refine wpAnyH_ready (rs := [5]) (by kernel_rfl) (by simp) ?_
                  refine AllReadyH.cons rfl (fun K hK => ?_) AllReadyH.nil
                  rw [if_pos (by rfl)]
                  refine wp_store_put 29 _ _ rfl w.heap.size 0 (cfgZero 0) rfl rfl (by kernel_rfl) _ stF ?_
                  refine hK.out _ _ cn2 (fun hHeld => ?_)
                  clear hK K
                  try simp only [Act.put, List.getElem_toArray, List.getElem_cons_zero, List.getElem_cons_succ, List.setIfInBounds_toArray, List.set_cons_zero, List.set_cons_succ]
                  refine wpAnyH_take (i := 6) (v := .int .i64 (pl : Int)) rfl (by kernel_rfl) (by kernel_rfl) (by kernel_rfl) (fun _ _ _ h => h) (Or.inl ⟨by rfl, fun w' hSw => by dsimp only at hSw; go_simp⟩) hHeld ?_
                  simp only [Act.put, List.getElem_toArray, List.getElem_cons_zero, List.getElem_cons_succ, List.setIfInBounds_toArray, List.set_cons_zero, List.set_cons_succ]
                  refine wpAnyH_take (i := 7) (v := .int .i64 60) rfl (by kernel_rfl) (by kernel_rfl) (by kernel_rfl) (fun _ _ _ h => h) (Or.inl ⟨by rfl, fun w' hSw => by dsimp only at hSw; go_simp⟩) hHeld ?_
                  simp only [Act.put, List.getElem_toArray, List.getElem_cons_zero, List.getElem_cons_succ, List.setIfInBounds_toArray, List.set_cons_zero, List.set_cons_succ]
                  refine wpAnyH_done (by kernel_rfl) ?_ _
                  go_wp2_with fail
                  exact bodyPost_ret (results_three _ _ w.heap.size _ _ _ rfl rfl rfl HP9.out.2 rfl) rfl HP9.out.1
              · obtain rfl := hv5 u m hr
                obtain ⟨hbn, hct⟩ := hbn5 c5 m hr
                rw [hr] at hR5 hres
                obtain ⟨pl, hRA⟩ := hR5.line
                have hle := hRA.le
                have c0 : w5.cell? ⟨w1.heap.size, 0, none⟩ = some (.slice (some ⟨g, 0, none⟩) W.length cp) := cell_of_block hRA.ex.1 0
                have c1 : w5.cell? ⟨w1.heap.size, 1, none⟩ = some (.int .i64 (m : Int)) := cell_of_block hRA.ex.1 1
                by_cases h5 : m < W.length
                · obtain ⟨xe, hxe⟩ : ∃ x, W[m]? = some x := ⟨_, List.getElem?_eq_getElem h5⟩
                  have hc : configP s = .error xe.2 := tail_err hs hfi HA.out.2.1 HA.out.2.2 HP.out.2.2.1 HW1.out HE.out.1 (hres.trans (resP_left hxe))
                  have HC := Lib.hid hc
                  obtain ⟨relx, tx⟩ := tail_rel HB.out.1 ht5 hb1
                  have HX := Lib.hid (And.intro hRA (And.intro relx tx))
                  have HXE := Lib.hid hxe
                  clear hRA relx tx hR5 ht5 hres hc hr hv5 hbn5 hbn hct hxe
                  have i6 : (m : Int) < (W.length : Int) := by omega
                  obtain ⟨xz, hxz⟩ : ∃ x, W[m]? = some x := ⟨_, List.getElem?_eq_getElem h5⟩
                  have HXZ := Lib.hid hxz
                  obtain rfl : xe = xz := Option.some.inj (HXE.out.symm.trans hxz)
                  clear hxz
                  go_wp2_with fail
                  go_quiet (fail)
                  have hRA := HX.out.1.turn ((Turn.refl (fun _ => False) w5).drewN nq) (fun h => h) (fun h => h)
                  have relx : (w5.drewN nq).heap[w.heap.size]? = _ := HX.out.2.1
                  have tx : Turn (fun _ => False) w (w5.drewN nq) := HX.out.2.2.drewN nq
                  clear c0 c1
                  generalize w5.drewN nq = w6 at *
                  go_upto_region 25 with (fail)
                  refine region_tail 12 (by kernel_rfl) (by kernel_rfl) _ rfl ?_
                  have hRA := hRA.turn (Turn.refl (fun _ => False) w6).drew (fun h => h) (fun h => h)
                  have tx := tx.drew
                  have relx : w6.drew.heap[w.heap.size]? = _ := relx
                  generalize World.drew _ = w7 at *
                  obtain ⟨x1, x2, x3, x4⟩ := hRA.ex
                  obtain ⟨y1, y2⟩ := x4 m xe HXZ.out
                  have c0 : w7.cell? ⟨w1.heap.size, 0, none⟩ = some (.slice (some ⟨g, 0, none⟩) W.length cp) := cell_of_block x1 0
                  have c1 : w7.cell? ⟨w1.heap.size, 1, none⟩ = some (.int .i64 (m : Int)) := cell_of_block x1 1
                  have hwr : IntKind.i64.wrap (m : Int) = m := by rw [IntKind.wrap_i64]; omega
                  have i7 : (0 : Int) ≤ (m : Int) := by omega
                  have h29 := rfail_raw w1.heap.size g cp W i m pl false xe.2 w7 hRA
                  have HX7 := Lib.hid (And.intro relx tx)
                  clear x1 x2 x3 x4 hRA relx tx HX
                  simp only [List.take_succ_cons, List.take_zero, List.drop_succ_cons, List.drop_zero]
                  repeat still_step
                  try refine wpStill_nil ?_
                  go_wp2_with fail
                  refine h29.mono ?_
                  rintro e w8 ⟨rfl, hRA, t8⟩
                  have relx := (t8.block _ (block_lt HX7.out.1) (show w.heap.size ≠ w1.heap.size by omega)).trans HX7.out.1
                  have tx := HX7.out.2.trans2 t8 (fun k hk e => by omega)
                  have hRA : RefAt w8 w1.heap.size g cp W i m xe.2 true := hRA
                  clear h29 t8 c0 c1 y1 y2 HX7
                  have c4 : w8.cell? ⟨w1.heap.size, 4, none⟩ = some (.bool true) := cell_of_block hRA.ex.1 4
                  have cn : w8.drew.cell? ⟨w1.heap.size, 3, none⟩ = some (.int .i64 (xe.2 : Int)) := cell_of_block hRA.ex.1 3
                  obtain ⟨stF, kF, tF⟩ := store_whole (W := w8.drew) relx (cs := cfgZero 0) rfl (by intro v hv; simp [cfgZero] at hv; rcases hv with rfl | rfl | rfl | rfl <;> rfl)
                  have hRb : w1.heap.size ≠ w.heap.size := by omega
                  have cn2 : (w8.drew.setRow w.heap.size (cfgZero 0)).cell? ⟨w1.heap.size, 3, none⟩ = some (.int .i64 (xe.2 : Int)) := (World.cell?_of_block (tF.block w1.heap.size hRA.lt hRb)).trans cn
                  have hpost : RParsePost (configP s) w (.returned (.tuple #[.agg (cfgZero 0), .int .i64 (xe.2 : Int), .int .i64 60])) (w8.drew.setRow w.heap.size (cfgZero 0)) := by rw [HC.out]; exact ⟨rfl, tx.drew.trans2 tF (fun k hk e => by omega)⟩
                  have HP9 := Lib.hid (And.intro hpost kF)
                  clear hpost kF tF hRA relx tx
                  go_upto_region 27 with (fail)
                  refine wp_region_held_drew (S := fun w' => w'.cell? ⟨w1.heap.size, 3, none⟩ = some (.int .i64 (xe.2 : Int))) (by kernel_rfl) cn (fun hHeld => ?_)
                  refine wpAnyH_take (i := 0) (v := .agg (cfgZero 0)) rfl (by kernel_rfl) (by kernel_rfl) (by kernel_rfl) (fun _ _ _ h => h) (Or.inl ⟨by rfl, fun w' hSw => by kernel_rfl⟩) hHeld ?_
                  simp only [Act.put, List.getElem_toArray, List.getElem_cons_zero, List.getElem_cons_succ, List.setIfInBounds_toArray, List.set_cons_zero, List.set_cons_succ]
                  refine wpAnyH_take (i := 1) (v := .pointer (some ⟨w1.heap.size, 0, none⟩)) rfl (by kernel_rfl) (by kernel_rfl) (by kernel_rfl) (fun _ _ _ h => h) (Or.inl ⟨by rfl, fun w' hSw => by dsimp only at hSw; go_simp⟩) hHeld ?_
                  simp only [Act.put, List.getElem_toArray, List.getElem_cons_zero, List.getElem_cons_succ, List.setIfInBounds_toArray, List.set_cons_zero, List.set_cons_succ]
                  refine wpAnyH_take (i := 2) (v := .pointer (some ⟨w1.heap.size, 0, none⟩)) rfl (by kernel_rfl) (by kernel_rfl) (by kernel_rfl) (fun _ _ _ h => h) (Or.inl ⟨by rfl, fun w' hSw => by dsimp only at hSw; go_simp⟩) hHeld ?_
                  simp only [Act.put, List.getElem_toArray, List.getElem_cons_zero, List.getElem_cons_succ, List.setIfInBounds_toArray, List.set_cons_zero, List.set_cons_succ]
                  refine wpAnyH_take (i := 3) (v := .pointer (some ⟨w1.heap.size, 3, none⟩)) rfl (by kernel_rfl) (by kernel_rfl) (by kernel_rfl) (fun _ _ _ h => h) (Or.inl ⟨by rfl, fun w' hSw => by dsimp only at hSw; go_simp⟩) hHeld ?_
                  simp only [Act.put, List.getElem_toArray, List.getElem_cons_zero, List.getElem_cons_succ, List.setIfInBounds_toArray, List.set_cons_zero, List.set_cons_succ]
                  refine wpAnyH_take (i := 4) (v := .int .i64 (xe.2 : Int)) rfl (by kernel_rfl) (by kernel_rfl) (by kernel_rfl) (fun _ _ _ h => h) (Or.inl ⟨by rfl, fun w' hSw => by dsimp only at hSw; go_simp⟩) hHeld ?_
                  simp only [Act.put, List.getElem_toArray, List.getElem_cons_zero, List.getElem_cons_succ, List.setIfInBounds_toArray, List.set_cons_zero, List.set_cons_succ]
                  refine wpAnyH_ready (rs := [5]) (by kernel_rfl) (by simp) ?_
                  refine AllReadyH.cons rfl (fun K hK => ?_) AllReadyH.nil
                  rw [if_pos (by rfl)]
                  refine wp_store_put 29 _ _ rfl w.heap.size 0 (cfgZero 0) rfl rfl (by kernel_rfl) _ stF ?_
                  refine hK.out _ _ cn2 (fun hHeld => ?_)
                  clear hK K
                  try simp only [Act.put, List.getElem_toArray, List.getElem_cons_zero, List.getElem_cons_succ, List.setIfInBounds_toArray, List.set_cons_zero, List.set_cons_succ]
                  refine wpAnyH_take (i := 6) (v := .int .i64 (xe.2 : Int)) rfl (by kernel_rfl) (by kernel_rfl) (by kernel_rfl) (fun _ _ _ h => h) (Or.inl ⟨by rfl, fun w' hSw => by dsimp only at hSw; go_simp⟩) hHeld ?_
                  simp only [Act.put, List.getElem_toArray, List.getElem_cons_zero, List.getElem_cons_succ, List.setIfInBounds_toArray, List.set_cons_zero, List.set_cons_succ]
                  refine wpAnyH_take (i := 7) (v := .int .i64 60) rfl (by kernel_rfl) (by kernel_rfl) (by kernel_rfl) (fun _ _ _ h => h) (Or.inl ⟨by rfl, fun w' hSw => by dsimp only at hSw; go_simp⟩) hHeld ?_
                  simp only [Act.put, List.getElem_toArray, List.getElem_cons_zero, List.getElem_cons_succ, List.setIfInBounds_toArray, List.set_cons_zero, List.set_cons_succ]
                  refine wpAnyH_done (by kernel_rfl) ?_ _
                  go_wp2_with fail
                  exact bodyPost_ret (results_three _ _ w.heap.size _ _ _ rfl rfl rfl HP9.out.2 rfl) rfl HP9.out.1
                · have i6 : ¬ (m : Int) < (W.length : Int) := by omega
                  have c4 : w5.cell? ⟨w1.heap.size, 4, none⟩ = some (.bool false) := cell_of_block hRA.ex.1 4
                  have hrc := hres.trans (resP_done (List.getElem?_eq_none (by omega)))
                  have HN := Lib.hid (fun W' t => tail_next (W' := W') hfi his HA.out.2.1 HA.out.2.2 HP.out.2.2.1 HW1.out HE.out.1 HB.out.1 hR5 ht5 hb1 t hrc hbn hct)
                  clear hRA hR5 ht5 hres hr hv5 hbn5 hbn hct hrc
                  go_wp2_with fail
                  go_quiet (fail)
                  have c4 : (w5.drewN nq).cell? ⟨w1.heap.size, 4, none⟩ = some (.bool false) := c4
                  go_wp2_with fail
                  go_roundg (s.size + 1 - (i + 1))
                  case measure => omega
                  case rel => exact ⟨i + 1, i + 1, O ++ [(W, i)], rfl, by cases O <;> rfl, by go_num, by go_num, Lib.hid (HN.out _ ((Turn.refl (fun _ => False) w5).drewN nq))⟩
        · have i2 : ¬ (i : Int) < (s.size : Int) := by omega
          clear hgo hi
          go_wp2_with fail
          refine hcw.mono ?_
          rintro e w1 ⟨v, rfl, hown, t1⟩
          obtain ⟨W, hW⟩ : ∃ W, W = wordsAt s f (i - f) := ⟨_, rfl⟩
          rw [← hW] at hown
          obtain ⟨ao, cp, hv⟩ : ∃ ao cp, v = .slice ao W.length cp := by
            rcases hown.2 with ⟨hv, h0⟩ | ⟨G, cp, cur, hv, _⟩
            · exact ⟨none, 0, by rw [hv, h0]⟩
            · exact ⟨_, _, hv⟩
          subst hv
          have HP := Lib.hid (And.intro (HA.out.1.quiet t1) (And.intro hown (And.intro hW t1)))
          have e72 := block_alloc_new w1 (.cells #[.slice ao W.length cp, .int .i64 0, .int .i64 (i : Int), .int .i64 0, .bool false] 72)
          obtain ⟨hce, hfr⟩ := row_facts e72
          have c0 := hce 0
          simp only [List.getElem?_toArray, List.getElem?_cons_zero, List.getElem?_cons_succ] at c0
          clear hown hW t1 hcw hce hfr e72
          by_cases hw0 : W.length = 0
          · have e0 : ((W.length : Int) == 0) = true := by rw [hw0]; rfl
            have HW0 := Lib.hid hw0
            clear hw0
            go_wp2_with fail
            go_roundg (s.size + 1 - (i + 1))
            case measure => omega
            case rel =>
              obtain ⟨hsc, hnl⟩ := HA.out.2
              have hW0 : ¬ 0 < (wordsAt s f (i - f)).length := by rw [← HP.out.2.2.1]; have := HW0.out; omega
              have hP2 := HP.out.1.quiet ((Turn.refl (fun _ => False) w1).alloc (.cells #[.slice ao W.length cp, .int .i64 0, .int .i64 (i : Int), .int .i64 0, .bool false] 72))
              refine ⟨i + 1, i + 1, O, rfl, rfl, by go_num, by go_num, Lib.hid ⟨⟨_, _, _, hP2⟩, ?_⟩⟩
              rcases HE.out.1 with ⟨h1, h2⟩ | h1
              · have h3 := scan_nl hsc hnl (k := i - f) (by rw [show f + (i - f) = i by omega]; exact h2)
                rw [if_neg hW0, show f + (i - f) + 1 = i + 1 by omega] at h3
                exact Or.inl ⟨by omega, Nat.le_refl _, h3, fun j hj => by omega⟩
              · have h3 := scan_last hsc hnl (k := i - f) (by omega)
                rw [if_neg hW0] at h3
                exact Or.inr ⟨by omega, h3⟩
          · have e0 : ((W.length : Int) == 0) = false := by rw [beq_eq_false_iff_ne]; omega
            have hWl := wordsAt_len s f (i - f)
            have hWs := wordsAt_sizes s f (i - f)
            rw [← HP.out.2.2.1] at hWl hWs
            have h7 := he.six
            have hw17 : 7 ≤ wr.heap.size := by have := HA.out.1.turn.size; omega
            obtain ⟨g, hgw, ⟨gs, hgb⟩, hbox⟩ := ref_box (W := w1) (en := i) (L := W) (by omega) (fun x hx => by have := hWs x hx; omega) hw17 HP.out.2.2.2.size (by omega) HP.out.2.1
            obtain ⟨x0, hx0⟩ : ∃ x, W[0]? = some x := ⟨_, List.getElem?_eq_getElem (by omega)⟩
            have hP2 := HP.out.1.quiet ((Turn.refl (fun _ => False) w1).alloc (.cells #[.slice ao W.length cp, .int .i64 0, .int .i64 (i : Int), .int .i64 0, .bool false] 72))
            have hCw : w.heap.size + 1 < wr.heap.size := block_lt HA.out.1.cel
            have hgb2 := block_alloc_old (o := .cells #[.slice ao W.length cp, .int .i64 0, .int .i64 (i : Int), .int .i64 0, .bool false] 72) hgb
            have hRL : RLine (w1.alloc (.cells #[.slice ao W.length cp, .int .i64 0, .int .i64 (i : Int), .int .i64 0, .bool false] 72)) (w.heap.size + 1 + 1) w1.heap.size g cp W i (.ok 0) (w.heap.size + 1) c tv l :=
              ⟨hbox, ⟨gs, hgb2⟩, hP2.env, hP2.cel, hP2.wfc, hP2.tens, hP2.eqt, by omega, by omega, by have := HP.out.2.2.2.size; simp; omega, by omega⟩
            have hb1 : w.heap.size + 1 + 1 ≤ w1.heap.size := by have := HP.out.2.2.2.size; omega
            have HB := Lib.hid (And.intro hP2 (And.intro hRL (And.intro hx0 (And.intro hWl hWs))))
            have hwl3 : W.length ≤ 32768 := by omega
            have HW1 : Hid (0 < W.length) := Lib.hid (by omega)
            clear hP2 hRL hbox hgb hgb2 hgw hw0 hWl hWs hCw hw17
            by_cases hO0 : O = []
            · have hoe : O.isEmpty = true := by rw [hO0]; rfl
              obtain ⟨hcz0, hcz1⟩ : c = zc ∧ tv = .slice none 0 0 := by rcases HA.out.1.cfg with ⟨_, h1, h2, _⟩ | ⟨h, _⟩; exact ⟨h1, h2⟩; exact absurd hO0 h
              have HO0 := Lib.hid hO0
              have HZ := Lib.hid (And.intro hcz0 hcz1)
              have hH0 := HSt.begin HB.out.2.1
              clear hO0 hcz0 hcz1
              go_wp2_with fail
              refine (rmust_any gwName w1.heap.size g cp W i (.ok 0) _ hH0.line).mono ?_
              rintro e v1 ⟨rfl, q1, t1⟩
              have hH1 := hH0.call q1 t1
              clear q1 t1 hH0
              obtain ⟨s1, e1⟩ : ∃ x, x = mustS gwName (.ok 0) W i := ⟨_, rfl⟩
              rw [← e1] at hH1
              obtain ⟨x, hc2, hv2⟩ := rIp_any w1.heap.size g cp W i s1 v1 hH1.line
              have hH1h := Lib.hid hH1
              clear hH1
              go_wp2_with fail
              refine hc2.mono ?_
              rintro e v2 ⟨rfl, q2, t2⟩
              have hH2 := hH1h.out.call q2 t2
              clear q2 t2 hc2 hH1h
              obtain ⟨s2, e2⟩ : ∃ x, x = (readS ipOf s1 W i).map (·.2) := ⟨_, rfl⟩
              rw [← e2] at hH2
              obtain ⟨vt2, hct2⟩ := hH2.cell (j := 0) (by decide)
              have hft2 := hH2.free 0
              have hH2p := hH2.put 0 (.int .u32 (x : Int))
              have hH2ph := Lib.hid hH2p
              clear hH2 hH2p
              go_upto_region 17 with (fail)
              have hH2p := hH2ph.out
              clear hct2 hft2 hH2ph
              generalize v2.setCell ⟨w.heap.size + 1, 0, none⟩ (.int .u32 (x : Int)) = u2 at *
              obtain ⟨M1, hz3, hc3, hv3⟩ := rMac_any w1.heap.size g cp W i s2 u2 hH2p.line
              have hH2ph := Lib.hid hH2p
              clear hH2p
              go_wp2_with fail
              refine hc3.mono ?_
              rintro e v3 ⟨rfl, q3, t3⟩
              have hH3 := hH2ph.out.call q3 t3
              clear q3 t3 hc3 hH2ph
              obtain ⟨s3, e3⟩ : ∃ x, x = (readS macOf s2 W i).map (·.2) := ⟨_, rfl⟩
              rw [← e3] at hH3
              have hs3 : (u8row M1).size = 6 := (u8row_len M1).trans hz3
              obtain ⟨st3s, hH3p⟩ := hH3.row 1 (u8row M1).toList (by rw [u8row_len, hz3]; decide) (u8row_one M1)
              have hH3ph := Lib.hid hH3p
              clear hH3 hH3p
              go_upto_region 18 with (fail)
              have hH3p := hH3ph.out
              clear st3s hs3 hH3ph
              generalize World.setRow v3 (w.heap.size + 1) _ = u3w at *
              obtain ⟨M2, hz4, hc4, hv4⟩ := rMac_any w1.heap.size g cp W i s3 u3w hH3p.line
              have hH3ph := Lib.hid hH3p
              clear hH3p
              go_wp2_with fail
              refine hc4.mono ?_
              rintro e v4 ⟨rfl, q4, t4⟩
              have hH4 := hH3ph.out.call q4 t4
              clear q4 t4 hc4 hH3ph
              obtain ⟨s4, e4⟩ : ∃ x, x = (readS macOf s3 W i).map (·.2) := ⟨_, rfl⟩
              rw [← e4] at hH4
              have hs4 : (u8row M2).size = 6 := (u8row_len M2).trans hz4
              obtain ⟨st4s, hH4p⟩ := hH4.row 7 (u8row M2).toList (by rw [u8row_len, hz4]; decide) (u8row_one M2)
              have hH4ph := Lib.hid hH4p
              clear hH4 hH4p
              go_upto_region 19 with (fail)
              have hH4p := hH4ph.out
              clear st4s hs4 hH4ph
              generalize World.setRow v4 (w.heap.size + 1) _ = u4w at *
              obtain ⟨M3, hz5, hc5, hv5⟩ := rMac_any w1.heap.size g cp W i s4 u4w hH4p.line
              have hH4ph := Lib.hid hH4p
              clear hH4p
              go_wp2_with fail
              refine hc5.mono ?_
              rintro e v5 ⟨rfl, q5, t5⟩
              have hH5 := hH4ph.out.call q5 t5
              clear q5 t5 hc5 hH4ph
              obtain ⟨s5, e5⟩ : ∃ x, x = (readS macOf s4 W i).map (·.2) := ⟨_, rfl⟩
              rw [← e5] at hH5
              have hs5 : (u8row M3).size = 6 := (u8row_len M3).trans hz5
              obtain ⟨st5s, hH5p⟩ := hH5.row 13 (u8row M3).toList (by rw [u8row_len, hz5]; decide) (u8row_one M3)
              have hH5ph := Lib.hid hH5p
              clear hH5 hH5p
              go_upto_region 20 with (fail)
              have hH5p := hH5ph.out
              clear st5s hs5 hH5ph
              generalize World.setRow v5 (w.heap.size + 1) _ = u5w at *
              obtain ⟨K, hz6, hc6, hv6⟩ := rKey_any w1.heap.size g cp W i s5 u5w hH5p.line
              have hH5ph := Lib.hid hH5p
              clear hH5p
              go_wp2_with fail
              refine hc6.mono ?_
              rintro e v6 ⟨rfl, q6, t6⟩
              have hH6 := hH5ph.out.call q6 t6
              clear q6 t6 hc6 hH5ph
              obtain ⟨s6, e6⟩ : ∃ x, x = (readS keyOf s5 W i).map (·.2) := ⟨_, rfl⟩
              rw [← e6] at hH6
              have hs6 : (u8row K).size = 8 := (u8row_len K).trans hz6
              obtain ⟨st6s, hH6p⟩ := hH6.row 19 (u8row K).toList (by rw [u8row_len, hz6]; decide) (u8row_one K)
              have hH6ph := Lib.hid hH6p
              clear hH6 hH6p
              go_upto_region 21 with (fail)
              have hH6p := hH6ph.out
              clear st6s hs6 hH6ph
              generalize World.setRow v6 (w.heap.size + 1) _ = u6w at *
              go_wp2_with fail
              refine (rmust_any drName w1.heap.size g cp W i s6 _ hH6p.line).mono ?_
              rintro e v7 ⟨rfl, q7, t7⟩
              have hH7 := hH6p.call q7 t7
              clear q7 t7 hH6p
              obtain ⟨s7, e7⟩ : ∃ x, x = mustS drName s6 W i := ⟨_, rfl⟩
              rw [← e7] at hH7
              obtain ⟨d, hc8, hm8, hv8⟩ := rNum_any 4294967295 (by decide) w1.heap.size g cp W i s7 v7 hH7.line
              have hH7h := Lib.hid hH7
              clear hH7
              go_wp2_with fail
              refine hc8.mono ?_
              rintro e v8 ⟨rfl, q8, t8⟩
              have hH8 := hH7h.out.call q8 t8
              clear q8 t8 hc8 hH7h
              obtain ⟨s8, e8⟩ : ∃ x, x = (readS (fun l => numOf l 4294967295) s7 W i).map (·.2) := ⟨_, rfl⟩
              rw [← e8] at hH8
              obtain ⟨vt8, hct8⟩ := hH8.cell (j := 27) (by decide)
              have hft8 := hH8.free 27
              have hH8p := hH8.put 27 (.int .u32 (d : Int))
              have hH8ph := Lib.hid hH8p
              clear hH8 hH8p
              go_upto_region 24 with (fail)
              have hH8p := hH8ph.out
              clear hct8 hft8 hH8ph
              generalize v8.setCell ⟨w.heap.size + 1, 27, none⟩ (.int .u32 (d : Int)) = w5 at *
              obtain ⟨fin1, fin2⟩ := gwS_is e1 e2 hv2 e3 hv3 e4 hv4 e5 hv5 e6 hv6 e7 e8 hv8
              obtain ⟨c5, hc5⟩ : ∃ c5 : Cfg, c5 = ⟨x, M1, M2, M3, K, d, []⟩ := ⟨_, rfl⟩
              have hR5 : RLine w5 (w.heap.size + 1 + 1) w1.heap.size g cp W i ((gatewayP W i 0).map (·.2)) (w.heap.size + 1) c5 (.slice none 0 0) [] := by
                rw [← fin1]
                exact HSt.done HB.out.2.1 hH8p (by rw [hc5, HZ.out.1, HZ.out.2]; exact gw_cells x d M1 M2 M3 K hz3 hz4 hz5 hz6) (by rw [hc5]; exact ⟨hz3, hz4, hz5, hz6⟩) (by rw [hc5])
              have ht5 : Turn (fun k => k = w1.heap.size ∨ k = w.heap.size + 1 ∨ w.heap.size + 1 + 1 ≤ k) _ w5 := hH8p.turn.mono (fun k _ e => by rcases e with e | e; exact Or.inl e; exact Or.inr (Or.inl e))
              have hv5 : ∀ u m, gatewayP W i 0 = .ok (u, m) → c5 = u := fun u m hu => by rw [hc5]; exact (fin2 u m hu).symm
              have hres : fromP s.size (O ++ [(W, i)]) = resP W (gatewayP W i 0) := by rw [HO0.out]; exact (fromP_one s.size (W, i)).trans (headP_res W i)
              have hbn5 : ∀ u m, gatewayP W i 0 = .ok (u, m) → Bnd (tot O + W.length) u ∧ u.tens.length ≤ c.tens.length + 1 := fun u m hu => by rw [← hv5 u m hu, hc5]; exact ⟨fun t ht => by simp at ht, Nat.zero_le _⟩
              generalize gatewayP W i 0 = r5 at *
              clear fin1 fin2 e1 e2 hv2 e3 hv3 e4 hv4 e6 hv6 e7 e8 hv8 hz3 hz4 hz5 hz6 hm8 hH8p hc5
              rcases except_cases r5 with ⟨pl, hr⟩ | ⟨⟨u, m⟩, hr⟩
              · rw [hr] at hR5 hres
                have hc : configP s = .error pl := tail_err hs hfi HA.out.2.1 HA.out.2.2 HP.out.2.2.1 HW1.out HE.out.1 hres
                have HC := Lib.hid hc
                obtain ⟨i5, hRA⟩ := hR5.line
                have hle := hRA.le
                have c0 : w5.cell? ⟨w1.heap.size, 0, none⟩ = some (.slice (some ⟨g, 0, none⟩) W.length cp) := cell_of_block hRA.ex.1 0
                have c1 : w5.cell? ⟨w1.heap.size, 1, none⟩ = some (.int .i64 (i5 : Int)) := cell_of_block hRA.ex.1 1
                obtain ⟨relx, tx⟩ := tail_rel HB.out.1 ht5 hb1
                have HX := Lib.hid (And.intro hRA (And.intro relx tx))
                clear hRA relx tx hR5 ht5 hres hc hr hv5 hbn5
                by_cases h5 : i5 < W.length
                · have i6 : (i5 : Int) < (W.length : Int) := by omega
                  obtain ⟨xz, hxz⟩ : ∃ x, W[i5]? = some x := ⟨_, List.getElem?_eq_getElem h5⟩
                  have HXZ := Lib.hid hxz
                  clear hxz
                  go_wp2_with fail
                  go_quiet (fail)
                  have hRA := HX.out.1.turn ((Turn.refl (fun _ => False) w5).drewN nq) (fun h => h) (fun h => h)
                  have relx : (w5.drewN nq).heap[w.heap.size]? = _ := HX.out.2.1
                  have tx : Turn (fun _ => False) w (w5.drewN nq) := HX.out.2.2.drewN nq
                  clear c0 c1
                  generalize w5.drewN nq = w6 at *
                  go_upto_region 25 with (fail)
                  refine region_tail 12 (by kernel_rfl) (by kernel_rfl) _ rfl ?_
                  have hRA := hRA.turn (Turn.refl (fun _ => False) w6).drew (fun h => h) (fun h => h)
                  have tx := tx.drew
                  have relx : w6.drew.heap[w.heap.size]? = _ := relx
                  generalize World.drew _ = w7 at *
                  obtain ⟨x1, x2, x3, x4⟩ := hRA.ex
                  obtain ⟨y1, y2⟩ := x4 i5 xz HXZ.out
                  have c0 : w7.cell? ⟨w1.heap.size, 0, none⟩ = some (.slice (some ⟨g, 0, none⟩) W.length cp) := cell_of_block x1 0
                  have c1 : w7.cell? ⟨w1.heap.size, 1, none⟩ = some (.int .i64 (i5 : Int)) := cell_of_block x1 1
                  have hwr : IntKind.i64.wrap (i5 : Int) = i5 := by rw [IntKind.wrap_i64]; omega
                  have i7 : (0 : Int) ≤ (i5 : Int) := by omega
                  have h29 := rfail_raw w1.heap.size g cp W i i5 pl true xz.2 w7 hRA
                  have HX7 := Lib.hid (And.intro relx tx)
                  clear x1 x2 x3 x4 hRA relx tx HX
                  simp only [List.take_succ_cons, List.take_zero, List.drop_succ_cons, List.drop_zero]
                  repeat still_step
                  try refine wpStill_nil ?_
                  go_wp2_with fail
                  refine h29.mono ?_
                  rintro e w8 ⟨rfl, hRA, t8⟩
                  have relx := (t8.block _ (block_lt HX7.out.1) (show w.heap.size ≠ w1.heap.size by omega)).trans HX7.out.1
                  have tx := HX7.out.2.trans2 t8 (fun k hk e => by omega)
                  have hRA : RefAt w8 w1.heap.size g cp W i i5 pl true := hRA
                  clear h29 t8 c0 c1 y1 y2 HX7
                  have c4 : w8.cell? ⟨w1.heap.size, 4, none⟩ = some (.bool true) := cell_of_block hRA.ex.1 4
                  have cn : w8.drew.cell? ⟨w1.heap.size, 3, none⟩ = some (.int .i64 (pl : Int)) := cell_of_block hRA.ex.1 3
                  obtain ⟨stF, kF, tF⟩ := store_whole (W := w8.drew) relx (cs := cfgZero 0) rfl (by intro v hv; simp [cfgZero] at hv; rcases hv with rfl | rfl | rfl | rfl <;> rfl)
                  have hRb : w1.heap.size ≠ w.heap.size := by omega
                  have cn2 : (w8.drew.setRow w.heap.size (cfgZero 0)).cell? ⟨w1.heap.size, 3, none⟩ = some (.int .i64 (pl : Int)) := (World.cell?_of_block (tF.block w1.heap.size hRA.lt hRb)).trans cn
                  have hpost : RParsePost (configP s) w (.returned (.tuple #[.agg (cfgZero 0), .int .i64 (pl : Int), .int .i64 60])) (w8.drew.setRow w.heap.size (cfgZero 0)) := by rw [HC.out]; exact ⟨rfl, tx.drew.trans2 tF (fun k hk e => by omega)⟩
                  have HP9 := Lib.hid (And.intro hpost kF)
                  clear hpost kF tF hRA relx tx
                  go_upto_region 27 with (fail)
                  refine wp_region_held_drew (S := fun w' => w'.cell? ⟨w1.heap.size, 3, none⟩ = some (.int .i64 (pl : Int))) (by kernel_rfl) cn (fun hHeld => ?_)
                  refine wpAnyH_take (i := 0) (v := .agg (cfgZero 0)) rfl (by kernel_rfl) (by kernel_rfl) (by kernel_rfl) (fun _ _ _ h => h) (Or.inl ⟨by rfl, fun w' hSw => by kernel_rfl⟩) hHeld ?_
                  simp only [Act.put, List.getElem_toArray, List.getElem_cons_zero, List.getElem_cons_succ, List.setIfInBounds_toArray, List.set_cons_zero, List.set_cons_succ]
                  refine wpAnyH_take (i := 1) (v := .pointer (some ⟨w1.heap.size, 0, none⟩)) rfl (by kernel_rfl) (by kernel_rfl) (by kernel_rfl) (fun _ _ _ h => h) (Or.inl ⟨by rfl, fun w' hSw => by dsimp only at hSw; go_simp⟩) hHeld ?_
                  simp only [Act.put, List.getElem_toArray, List.getElem_cons_zero, List.getElem_cons_succ, List.setIfInBounds_toArray, List.set_cons_zero, List.set_cons_succ]
                  refine wpAnyH_take (i := 2) (v := .pointer (some ⟨w1.heap.size, 0, none⟩)) rfl (by kernel_rfl) (by kernel_rfl) (by kernel_rfl) (fun _ _ _ h => h) (Or.inl ⟨by rfl, fun w' hSw => by dsimp only at hSw; go_simp⟩) hHeld ?_
                  simp only [Act.put, List.getElem_toArray, List.getElem_cons_zero, List.getElem_cons_succ, List.setIfInBounds_toArray, List.set_cons_zero, List.set_cons_succ]
                  refine wpAnyH_take (i := 3) (v := .pointer (some ⟨w1.heap.size, 3, none⟩)) rfl (by kernel_rfl) (by kernel_rfl) (by kernel_rfl) (fun _ _ _ h => h) (Or.inl ⟨by rfl, fun w' hSw => by dsimp only at hSw; go_simp⟩) hHeld ?_
                  simp only [Act.put, List.getElem_toArray, List.getElem_cons_zero, List.getElem_cons_succ, List.setIfInBounds_toArray, List.set_cons_zero, List.set_cons_succ]
                  refine wpAnyH_take (i := 4) (v := .int .i64 (pl : Int)) rfl (by kernel_rfl) (by kernel_rfl) (by kernel_rfl) (fun _ _ _ h => h) (Or.inl ⟨by rfl, fun w' hSw => by dsimp only at hSw; go_simp⟩) hHeld ?_
                  simp only [Act.put, List.getElem_toArray, List.getElem_cons_zero, List.getElem_cons_succ, List.setIfInBounds_toArray, List.set_cons_zero, List.set_cons_succ]
                  refine wpAnyH_ready (rs := [5]) (by kernel_rfl) (by simp) ?_
                  refine AllReadyH.cons rfl (fun K hK => ?_) AllReadyH.nil
                  rw [if_pos (by rfl)]
                  refine wp_store_put 29 _ _ rfl w.heap.size 0 (cfgZero 0) rfl rfl (by kernel_rfl) _ stF ?_
                  refine hK.out _ _ cn2 (fun hHeld => ?_)
                  clear hK K
                  try simp only [Act.put, List.getElem_toArray, List.getElem_cons_zero, List.getElem_cons_succ, List.setIfInBounds_toArray, List.set_cons_zero, List.set_cons_succ]
                  refine wpAnyH_take (i := 6) (v := .int .i64 (pl : Int)) rfl (by kernel_rfl) (by kernel_rfl) (by kernel_rfl) (fun _ _ _ h => h) (Or.inl ⟨by rfl, fun w' hSw => by dsimp only at hSw; go_simp⟩) hHeld ?_
                  simp only [Act.put, List.getElem_toArray, List.getElem_cons_zero, List.getElem_cons_succ, List.setIfInBounds_toArray, List.set_cons_zero, List.set_cons_succ]
                  refine wpAnyH_take (i := 7) (v := .int .i64 60) rfl (by kernel_rfl) (by kernel_rfl) (by kernel_rfl) (fun _ _ _ h => h) (Or.inl ⟨by rfl, fun w' hSw => by dsimp only at hSw; go_simp⟩) hHeld ?_
                  simp only [Act.put, List.getElem_toArray, List.getElem_cons_zero, List.getElem_cons_succ, List.setIfInBounds_toArray, List.set_cons_zero, List.set_cons_succ]
                  refine wpAnyH_done (by kernel_rfl) ?_ _
                  go_wp2_with fail
                  exact bodyPost_ret (results_three _ _ w.heap.size _ _ _ rfl rfl rfl HP9.out.2 rfl) rfl HP9.out.1
                · have i6 : ¬ (i5 : Int) < (W.length : Int) := by omega
                  go_wp2_with fail
                  go_quiet (fail)
                  have hRA := HX.out.1.turn ((Turn.refl (fun _ => False) w5).drewN nq) (fun h => h) (fun h => h)
                  have relx : (w5.drewN nq).heap[w.heap.size]? = _ := HX.out.2.1
                  have tx : Turn (fun _ => False) w (w5.drewN nq) := HX.out.2.2.drewN nq
                  clear c0 c1
                  generalize w5.drewN nq = w6 at *
                  have c4 : w6.cell? ⟨w1.heap.size, 4, none⟩ = some (.bool true) := cell_of_block hRA.ex.1 4
                  have cn : w6.drew.cell? ⟨w1.heap.size, 3, none⟩ = some (.int .i64 (pl : Int)) := cell_of_block hRA.ex.1 3
                  obtain ⟨stF, kF, tF⟩ := store_whole (W := w6.drew) relx (cs := cfgZero 0) rfl (by intro v hv; simp [cfgZero] at hv; rcases hv with rfl | rfl | rfl | rfl <;> rfl)
                  have hRb : w1.heap.size ≠ w.heap.size := by omega
                  have cn2 : (w6.drew.setRow w.heap.size (cfgZero 0)).cell? ⟨w1.heap.size, 3, none⟩ = some (.int .i64 (pl : Int)) := (World.cell?_of_block (tF.block w1.heap.size hRA.lt hRb)).trans cn
                  have hpost : RParsePost (configP s) w (.returned (.tuple #[.agg (cfgZero 0), .int .i64 (pl : Int), .int .i64 60])) (w6.drew.setRow w.heap.size (cfgZero 0)) := by rw [HC.out]; exact ⟨rfl, tx.drew.trans2 tF (fun k hk e => by omega)⟩
                  have HP9 := Lib.hid (And.intro hpost kF)
                  clear hpost kF tF hRA relx tx
                  go_upto_region 27 with (fail)
                  refine wp_region_held_drew (S := fun w' => w'.cell? ⟨w1.heap.size, 3, none⟩ = some (.int .i64 (pl : Int))) (by kernel_rfl) cn (fun hHeld => ?_)
                  refine wpAnyH_take (i := 0) (v := .agg (cfgZero 0)) rfl (by kernel_rfl) (by kernel_rfl) (by kernel_rfl) (fun _ _ _ h => h) (Or.inl ⟨by rfl, fun w' hSw => by kernel_rfl⟩) hHeld ?_
                  simp only [Act.put, List.getElem_toArray, List.getElem_cons_zero, List.getElem_cons_succ, List.setIfInBounds_toArray, List.set_cons_zero, List.set_cons_succ]
                  refine wpAnyH_take (i := 1) (v := .pointer (some ⟨w1.heap.size, 0, none⟩)) rfl (by kernel_rfl) (by kernel_rfl) (by kernel_rfl) (fun _ _ _ h => h) (Or.inl ⟨by rfl, fun w' hSw => by dsimp only at hSw; go_simp⟩) hHeld ?_
                  simp only [Act.put, List.getElem_toArray, List.getElem_cons_zero, List.getElem_cons_succ, List.setIfInBounds_toArray, List.set_cons_zero, List.set_cons_succ]
                  refine wpAnyH_take (i := 2) (v := .pointer (some ⟨w1.heap.size, 0, none⟩)) rfl (by kernel_rfl) (by kernel_rfl) (by kernel_rfl) (fun _ _ _ h => h) (Or.inl ⟨by rfl, fun w' hSw => by dsimp only at hSw; go_simp⟩) hHeld ?_
                  simp only [Act.put, List.getElem_toArray, List.getElem_cons_zero, List.getElem_cons_succ, List.setIfInBounds_toArray, List.set_cons_zero, List.set_cons_succ]
                  refine wpAnyH_take (i := 3) (v := .pointer (some ⟨w1.heap.size, 3, none⟩)) rfl (by kernel_rfl) (by kernel_rfl) (by kernel_rfl) (fun _ _ _ h => h) (Or.inl ⟨by rfl, fun w' hSw => by dsimp only at hSw; go_simp⟩) hHeld ?_
                  simp only [Act.put, List.getElem_toArray, List.getElem_cons_zero, List.getElem_cons_succ, List.setIfInBounds_toArray, List.set_cons_zero, List.set_cons_succ]
                  refine wpAnyH_take (i := 4) (v := .int .i64 (pl : Int)) rfl (by kernel_rfl) (by kernel_rfl) (by kernel_rfl) (fun _ _ _ h => h) (Or.inl ⟨by rfl, fun w' hSw => by dsimp only at hSw; go_simp⟩) hHeld ?_
                  simp only [Act.put, List.getElem_toArray, List.getElem_cons_zero, List.getElem_cons_succ, List.setIfInBounds_toArray, List.set_cons_zero, List.set_cons_succ]
                  refine wpAnyH_ready (rs := [5]) (by kernel_rfl) (by simp) ?_
                  refine AllReadyH.cons rfl (fun K hK => ?_) AllReadyH.nil
                  rw [if_pos (by rfl)]
                  refine wp_store_put 29 _ _ rfl w.heap.size 0 (cfgZero 0) rfl rfl (by kernel_rfl) _ stF ?_
                  refine hK.out _ _ cn2 (fun hHeld => ?_)
                  clear hK K
                  try simp only [Act.put, List.getElem_toArray, List.getElem_cons_zero, List.getElem_cons_succ, List.setIfInBounds_toArray, List.set_cons_zero, List.set_cons_succ]
                  refine wpAnyH_take (i := 6) (v := .int .i64 (pl : Int)) rfl (by kernel_rfl) (by kernel_rfl) (by kernel_rfl) (fun _ _ _ h => h) (Or.inl ⟨by rfl, fun w' hSw => by dsimp only at hSw; go_simp⟩) hHeld ?_
                  simp only [Act.put, List.getElem_toArray, List.getElem_cons_zero, List.getElem_cons_succ, List.setIfInBounds_toArray, List.set_cons_zero, List.set_cons_succ]
                  refine wpAnyH_take (i := 7) (v := .int .i64 60) rfl (by kernel_rfl) (by kernel_rfl) (by kernel_rfl) (fun _ _ _ h => h) (Or.inl ⟨by rfl, fun w' hSw => by dsimp only at hSw; go_simp⟩) hHeld ?_
                  simp only [Act.put, List.getElem_toArray, List.getElem_cons_zero, List.getElem_cons_succ, List.setIfInBounds_toArray, List.set_cons_zero, List.set_cons_succ]
                  refine wpAnyH_done (by kernel_rfl) ?_ _
                  go_wp2_with fail
                  exact bodyPost_ret (results_three _ _ w.heap.size _ _ _ rfl rfl rfl HP9.out.2 rfl) rfl HP9.out.1
              · obtain rfl := hv5 u m hr
                obtain ⟨hbn, hct⟩ := hbn5 c5 m hr
                rw [hr] at hR5 hres
                obtain ⟨pl, hRA⟩ := hR5.line
                have hle := hRA.le
                have c0 : w5.cell? ⟨w1.heap.size, 0, none⟩ = some (.slice (some ⟨g, 0, none⟩) W.length cp) := cell_of_block hRA.ex.1 0
                have c1 : w5.cell? ⟨w1.heap.size, 1, none⟩ = some (.int .i64 (m : Int)) := cell_of_block hRA.ex.1 1
                by_cases h5 : m < W.length
                · obtain ⟨xe, hxe⟩ : ∃ x, W[m]? = some x := ⟨_, List.getElem?_eq_getElem h5⟩
                  have hc : configP s = .error xe.2 := tail_err hs hfi HA.out.2.1 HA.out.2.2 HP.out.2.2.1 HW1.out HE.out.1 (hres.trans (resP_left hxe))
                  have HC := Lib.hid hc
                  obtain ⟨relx, tx⟩ := tail_rel HB.out.1 ht5 hb1
                  have HX := Lib.hid (And.intro hRA (And.intro relx tx))
                  have HXE := Lib.hid hxe
                  clear hRA relx tx hR5 ht5 hres hc hr hv5 hbn5 hbn hct hxe
                  have i6 : (m : Int) < (W.length : Int) := by omega
                  obtain ⟨xz, hxz⟩ : ∃ x, W[m]? = some x := ⟨_, List.getElem?_eq_getElem h5⟩
                  have HXZ := Lib.hid hxz
                  obtain rfl : xe = xz := Option.some.inj (HXE.out.symm.trans hxz)
                  clear hxz
                  go_wp2_with fail
                  go_quiet (fail)
                  have hRA := HX.out.1.turn ((Turn.refl (fun _ => False) w5).drewN nq) (fun h => h) (fun h => h)
                  have relx : (w5.drewN nq).heap[w.heap.size]? = _ := HX.out.2.1
                  have tx : Turn (fun _ => False) w (w5.drewN nq) := HX.out.2.2.drewN nq
                  clear c0 c1
                  generalize w5.drewN nq = w6 at *
                  go_upto_region 25 with (fail)
                  refine region_tail 12 (by kernel_rfl) (by kernel_rfl) _ rfl ?_
                  have hRA := hRA.turn (Turn.refl (fun _ => False) w6).drew (fun h => h) (fun h => h)
                  have tx := tx.drew
                  have relx : w6.drew.heap[w.heap.size]? = _ := relx
                  generalize World.drew _ = w7 at *
                  obtain ⟨x1, x2, x3, x4⟩ := hRA.ex
                  obtain ⟨y1, y2⟩ := x4 m xe HXZ.out
                  have c0 : w7.cell? ⟨w1.heap.size, 0, none⟩ = some (.slice (some ⟨g, 0, none⟩) W.length cp) := cell_of_block x1 0
                  have c1 : w7.cell? ⟨w1.heap.size, 1, none⟩ = some (.int .i64 (m : Int)) := cell_of_block x1 1
                  have hwr : IntKind.i64.wrap (m : Int) = m := by rw [IntKind.wrap_i64]; omega
                  have i7 : (0 : Int) ≤ (m : Int) := by omega
                  have h29 := rfail_raw w1.heap.size g cp W i m pl false xe.2 w7 hRA
                  have HX7 := Lib.hid (And.intro relx tx)
                  clear x1 x2 x3 x4 hRA relx tx HX
                  simp only [List.take_succ_cons, List.take_zero, List.drop_succ_cons, List.drop_zero]
                  repeat still_step
                  try refine wpStill_nil ?_
                  go_wp2_with fail
                  refine h29.mono ?_
                  rintro e w8 ⟨rfl, hRA, t8⟩
                  have relx := (t8.block _ (block_lt HX7.out.1) (show w.heap.size ≠ w1.heap.size by omega)).trans HX7.out.1
                  have tx := HX7.out.2.trans2 t8 (fun k hk e => by omega)
                  have hRA : RefAt w8 w1.heap.size g cp W i m xe.2 true := hRA
                  clear h29 t8 c0 c1 y1 y2 HX7
                  have c4 : w8.cell? ⟨w1.heap.size, 4, none⟩ = some (.bool true) := cell_of_block hRA.ex.1 4
                  have cn : w8.drew.cell? ⟨w1.heap.size, 3, none⟩ = some (.int .i64 (xe.2 : Int)) := cell_of_block hRA.ex.1 3
                  obtain ⟨stF, kF, tF⟩ := store_whole (W := w8.drew) relx (cs := cfgZero 0) rfl (by intro v hv; simp [cfgZero] at hv; rcases hv with rfl | rfl | rfl | rfl <;> rfl)
                  have hRb : w1.heap.size ≠ w.heap.size := by omega
                  have cn2 : (w8.drew.setRow w.heap.size (cfgZero 0)).cell? ⟨w1.heap.size, 3, none⟩ = some (.int .i64 (xe.2 : Int)) := (World.cell?_of_block (tF.block w1.heap.size hRA.lt hRb)).trans cn
                  have hpost : RParsePost (configP s) w (.returned (.tuple #[.agg (cfgZero 0), .int .i64 (xe.2 : Int), .int .i64 60])) (w8.drew.setRow w.heap.size (cfgZero 0)) := by rw [HC.out]; exact ⟨rfl, tx.drew.trans2 tF (fun k hk e => by omega)⟩
                  have HP9 := Lib.hid (And.intro hpost kF)
                  clear hpost kF tF hRA relx tx
                  go_upto_region 27 with (fail)
                  refine wp_region_held_drew (S := fun w' => w'.cell? ⟨w1.heap.size, 3, none⟩ = some (.int .i64 (xe.2 : Int))) (by kernel_rfl) cn (fun hHeld => ?_)
                  refine wpAnyH_take (i := 0) (v := .agg (cfgZero 0)) rfl (by kernel_rfl) (by kernel_rfl) (by kernel_rfl) (fun _ _ _ h => h) (Or.inl ⟨by rfl, fun w' hSw => by kernel_rfl⟩) hHeld ?_
                  simp only [Act.put, List.getElem_toArray, List.getElem_cons_zero, List.getElem_cons_succ, List.setIfInBounds_toArray, List.set_cons_zero, List.set_cons_succ]
                  refine wpAnyH_take (i := 1) (v := .pointer (some ⟨w1.heap.size, 0, none⟩)) rfl (by kernel_rfl) (by kernel_rfl) (by kernel_rfl) (fun _ _ _ h => h) (Or.inl ⟨by rfl, fun w' hSw => by dsimp only at hSw; go_simp⟩) hHeld ?_
                  simp only [Act.put, List.getElem_toArray, List.getElem_cons_zero, List.getElem_cons_succ, List.setIfInBounds_toArray, List.set_cons_zero, List.set_cons_succ]
                  refine wpAnyH_take (i := 2) (v := .pointer (some ⟨w1.heap.size, 0, none⟩)) rfl (by kernel_rfl) (by kernel_rfl) (by kernel_rfl) (fun _ _ _ h => h) (Or.inl ⟨by rfl, fun w' hSw => by dsimp only at hSw; go_simp⟩) hHeld ?_
                  simp only [Act.put, List.getElem_toArray, List.getElem_cons_zero, List.getElem_cons_succ, List.setIfInBounds_toArray, List.set_cons_zero, List.set_cons_succ]
                  refine wpAnyH_take (i := 3) (v := .pointer (some ⟨w1.heap.size, 3, none⟩)) rfl (by kernel_rfl) (by kernel_rfl) (by kernel_rfl) (fun _ _ _ h => h) (Or.inl ⟨by rfl, fun w' hSw => by dsimp only at hSw; go_simp⟩) hHeld ?_
                  simp only [Act.put, List.getElem_toArray, List.getElem_cons_zero, List.getElem_cons_succ, List.setIfInBounds_toArray, List.set_cons_zero, List.set_cons_succ]
                  refine wpAnyH_take (i := 4) (v := .int .i64 (xe.2 : Int)) rfl (by kernel_rfl) (by kernel_rfl) (by kernel_rfl) (fun _ _ _ h => h) (Or.inl ⟨by rfl, fun w' hSw => by dsimp only at hSw; go_simp⟩) hHeld ?_
                  simp only [Act.put, List.getElem_toArray, List.getElem_cons_zero, List.getElem_cons_succ, List.setIfInBounds_toArray, List.set_cons_zero, List.set_cons_succ]
                  refine wpAnyH_ready (rs := [5]) (by kernel_rfl) (by simp) ?_
                  refine AllReadyH.cons rfl (fun K hK => ?_) AllReadyH.nil
                  rw [if_pos (by rfl)]
                  refine wp_store_put 29 _ _ rfl w.heap.size 0 (cfgZero 0) rfl rfl (by kernel_rfl) _ stF ?_
                  refine hK.out _ _ cn2 (fun hHeld => ?_)
                  clear hK K
                  try simp only [Act.put, List.getElem_toArray, List.getElem_cons_zero, List.getElem_cons_succ, List.setIfInBounds_toArray, List.set_cons_zero, List.set_cons_succ]
                  refine wpAnyH_take (i := 6) (v := .int .i64 (xe.2 : Int)) rfl (by kernel_rfl) (by kernel_rfl) (by kernel_rfl) (fun _ _ _ h => h) (Or.inl ⟨by rfl, fun w' hSw => by dsimp only at hSw; go_simp⟩) hHeld ?_
                  simp only [Act.put, List.getElem_toArray, List.getElem_cons_zero, List.getElem_cons_succ, List.setIfInBounds_toArray, List.set_cons_zero, List.set_cons_succ]
                  refine wpAnyH_take (i := 7) (v := .int .i64 60) rfl (by kernel_rfl) (by kernel_rfl) (by kernel_rfl) (fun _ _ _ h => h) (Or.inl ⟨by rfl, fun w' hSw => by dsimp only at hSw; go_simp⟩) hHeld ?_
                  simp only [Act.put, List.getElem_toArray, List.getElem_cons_zero, List.getElem_cons_succ, List.setIfInBounds_toArray, List.set_cons_zero, List.set_cons_succ]
                  refine wpAnyH_done (by kernel_rfl) ?_ _
                  go_wp2_with fail
                  exact bodyPost_ret (results_three _ _ w.heap.size _ _ _ rfl rfl rfl HP9.out.2 rfl) rfl HP9.out.1
                · have i6 : ¬ (m : Int) < (W.length : Int) := by omega
                  have c4 : w5.cell? ⟨w1.heap.size, 4, none⟩ = some (.bool false) := cell_of_block hRA.ex.1 4
                  have hrc := hres.trans (resP_done (List.getElem?_eq_none (by omega)))
                  have HN := Lib.hid (fun W' t => tail_next (W' := W') hfi his HA.out.2.1 HA.out.2.2 HP.out.2.2.1 HW1.out HE.out.1 HB.out.1 hR5 ht5 hb1 t hrc hbn hct)
                  clear hRA hR5 ht5 hres hr hv5 hbn5 hbn hct hrc
                  go_wp2_with fail
                  go_quiet (fail)
                  have c4 : (w5.drewN nq).cell? ⟨w1.heap.size, 4, none⟩ = some (.bool false) := c4
                  go_wp2_with fail
                  go_roundg (s.size + 1 - (i + 1))
                  case measure => omega
                  case rel => exact ⟨i + 1, i + 1, O ++ [(W, i)], rfl, by cases O <;> rfl, by go_num, by go_num, Lib.hid (HN.out _ ((Turn.refl (fun _ => False) w5).drewN nq))⟩
            · have hoe : O.isEmpty = false := by cases O with | nil => exact absurd rfl hO0 | cons a b => rfl
              have hfr : fromP s.size O = .ok c := by rcases HA.out.1.cfg with ⟨h, _⟩ | ⟨_, h⟩; exact absurd h hO0; exact h
              have htot := lines_cnt HA.out.2.1
              have hcnt : l.length ≤ 1000000 := by have := HA.out.1.cnt; omega
              have hbb : ∀ y ∈ l, y.1.pool.length + W.length ≤ 10000000 ∧ y.1.statics.length ≤ 10000000 ∧ y.1.twices.length ≤ 10000000 := fun y hy => by
                have hyt : y.1 ∈ c.tens := by rw [← HA.out.1.eqt]; exact List.mem_map_of_mem hy
                obtain ⟨q1, q2, q3⟩ := HA.out.1.bnd y.1 hyt
                omega
              have h28 := rline_any HB.out.2.1 HB.out.2.2.1 hcnt hbb
              have HFR := Lib.hid hfr
              have HO0 := Lib.hid hO0
              clear hfr hO0 hbb htot
              go_wp2_with fail
              refine h28.mono ?_
              rintro e w5 ⟨rfl, c5, tv5, l5, hR5, ht5, hv5⟩
              have hres := (fromP_snoc (X := (W, i)) HO0.out HFR.out).trans (lineP_res c W i)
              have hbn5 : ∀ u m, bodyR c W i = .ok (u, m) → Bnd (tot O + W.length) u ∧ u.tens.length ≤ c.tens.length + 1 := fun u m hu => bodyR_bnd hu HA.out.1.bnd (fun t ht => by rw [← HA.out.1.eqt] at ht; obtain ⟨y, hy, rfl⟩ := List.mem_map.1 ht; exact (HA.out.1.tens.each y hy).wf) HW1.out
              generalize bodyR c W i = r5 at *
              clear h28
              rcases except_cases r5 with ⟨pl, hr⟩ | ⟨⟨u, m⟩, hr⟩
              · rw [hr] at hR5 hres
                have hc : configP s = .error pl := tail_err hs hfi HA.out.2.1 HA.out.2.2 HP.out.2.2.1 HW1.out HE.out.1 hres
                have HC := Lib.hid hc
                obtain ⟨i5, hRA⟩ := hR5.line
                have hle := hRA.le
                have c0 : w5.cell? ⟨w1.heap.size, 0, none⟩ = some (.slice (some ⟨g, 0, none⟩) W.length cp) := cell_of_block hRA.ex.1 0
                have c1 : w5.cell? ⟨w1.heap.size, 1, none⟩ = some (.int .i64 (i5 : Int)) := cell_of_block hRA.ex.1 1
                obtain ⟨relx, tx⟩ := tail_rel HB.out.1 ht5 hb1
                have HX := Lib.hid (And.intro hRA (And.intro relx tx))
                clear hRA relx tx hR5 ht5 hres hc hr hv5 hbn5
                by_cases h5 : i5 < W.length
                · have i6 : (i5 : Int) < (W.length : Int) := by omega
                  obtain ⟨xz, hxz⟩ : ∃ x, W[i5]? = some x := ⟨_, List.getElem?_eq_getElem h5⟩
                  have HXZ := Lib.hid hxz
                  clear hxz
                  go_wp2_with fail
                  go_quiet (fail)
                  have hRA := HX.out.1.turn ((Turn.refl (fun _ => False) w5).drewN nq) (fun h => h) (fun h => h)
                  have relx : (w5.drewN nq).heap[w.heap.size]? = _ := HX.out.2.1
                  have tx : Turn (fun _ => False) w (w5.drewN nq) := HX.out.2.2.drewN nq
                  clear c0 c1
                  generalize w5.drewN nq = w6 at *
                  go_upto_region 25 with (fail)
                  refine region_tail 12 (by kernel_rfl) (by kernel_rfl) _ rfl ?_
                  have hRA := hRA.turn (Turn.refl (fun _ => False) w6).drew (fun h => h) (fun h => h)
                  have tx := tx.drew
                  have relx : w6.drew.heap[w.heap.size]? = _ := relx
                  generalize World.drew _ = w7 at *
                  obtain ⟨x1, x2, x3, x4⟩ := hRA.ex
                  obtain ⟨y1, y2⟩ := x4 i5 xz HXZ.out
                  have c0 : w7.cell? ⟨w1.heap.size, 0, none⟩ = some (.slice (some ⟨g, 0, none⟩) W.length cp) := cell_of_block x1 0
                  have c1 : w7.cell? ⟨w1.heap.size, 1, none⟩ = some (.int .i64 (i5 : Int)) := cell_of_block x1 1
                  have hwr : IntKind.i64.wrap (i5 : Int) = i5 := by rw [IntKind.wrap_i64]; omega
                  have i7 : (0 : Int) ≤ (i5 : Int) := by omega
                  have h29 := rfail_raw w1.heap.size g cp W i i5 pl true xz.2 w7 hRA
                  have HX7 := Lib.hid (And.intro relx tx)
                  clear x1 x2 x3 x4 hRA relx tx HX
                  simp only [List.take_succ_cons, List.take_zero, List.drop_succ_cons, List.drop_zero]
                  repeat still_step
                  try refine wpStill_nil ?_
                  go_wp2_with fail
                  refine h29.mono ?_
                  rintro e w8 ⟨rfl, hRA, t8⟩
                  have relx := (t8.block _ (block_lt HX7.out.1) (show w.heap.size ≠ w1.heap.size by omega)).trans HX7.out.1
                  have tx := HX7.out.2.trans2 t8 (fun k hk e => by omega)
                  have hRA : RefAt w8 w1.heap.size g cp W i i5 pl true := hRA
                  clear h29 t8 c0 c1 y1 y2 HX7
                  have c4 : w8.cell? ⟨w1.heap.size, 4, none⟩ = some (.bool true) := cell_of_block hRA.ex.1 4
                  have cn : w8.drew.cell? ⟨w1.heap.size, 3, none⟩ = some (.int .i64 (pl : Int)) := cell_of_block hRA.ex.1 3
                  obtain ⟨stF, kF, tF⟩ := store_whole (W := w8.drew) relx (cs := cfgZero 0) rfl (by intro v hv; simp [cfgZero] at hv; rcases hv with rfl | rfl | rfl | rfl <;> rfl)
                  have hRb : w1.heap.size ≠ w.heap.size := by omega
                  have cn2 : (w8.drew.setRow w.heap.size (cfgZero 0)).cell? ⟨w1.heap.size, 3, none⟩ = some (.int .i64 (pl : Int)) := (World.cell?_of_block (tF.block w1.heap.size hRA.lt hRb)).trans cn
                  have hpost : RParsePost (configP s) w (.returned (.tuple #[.agg (cfgZero 0), .int .i64 (pl : Int), .int .i64 60])) (w8.drew.setRow w.heap.size (cfgZero 0)) := by rw [HC.out]; exact ⟨rfl, tx.drew.trans2 tF (fun k hk e => by omega)⟩
                  have HP9 := Lib.hid (And.intro hpost kF)
                  clear hpost kF tF hRA relx tx
                  go_upto_region 27 with (fail)
                  refine wp_region_held_drew (S := fun w' => w'.cell? ⟨w1.heap.size, 3, none⟩ = some (.int .i64 (pl : Int))) (by kernel_rfl) cn (fun hHeld => ?_)
                  refine wpAnyH_take (i := 0) (v := .agg (cfgZero 0)) rfl (by kernel_rfl) (by kernel_rfl) (by kernel_rfl) (fun _ _ _ h => h) (Or.inl ⟨by rfl, fun w' hSw => by kernel_rfl⟩) hHeld ?_
                  simp only [Act.put, List.getElem_toArray, List.getElem_cons_zero, List.getElem_cons_succ, List.setIfInBounds_toArray, List.set_cons_zero, List.set_cons_succ]
                  refine wpAnyH_take (i := 1) (v := .pointer (some ⟨w1.heap.size, 0, none⟩)) rfl (by kernel_rfl) (by kernel_rfl) (by kernel_rfl) (fun _ _ _ h => h) (Or.inl ⟨by rfl, fun w' hSw => by dsimp only at hSw; go_simp⟩) hHeld ?_
                  simp only [Act.put, List.getElem_toArray, List.getElem_cons_zero, List.getElem_cons_succ, List.setIfInBounds_toArray, List.set_cons_zero, List.set_cons_succ]
                  refine wpAnyH_take (i := 2) (v := .pointer (some ⟨w1.heap.size, 0, none⟩)) rfl (by kernel_rfl) (by kernel_rfl) (by kernel_rfl) (fun _ _ _ h => h) (Or.inl ⟨by rfl, fun w' hSw => by dsimp only at hSw; go_simp⟩) hHeld ?_
                  simp only [Act.put, List.getElem_toArray, List.getElem_cons_zero, List.getElem_cons_succ, List.setIfInBounds_toArray, List.set_cons_zero, List.set_cons_succ]
                  refine wpAnyH_take (i := 3) (v := .pointer (some ⟨w1.heap.size, 3, none⟩)) rfl (by kernel_rfl) (by kernel_rfl) (by kernel_rfl) (fun _ _ _ h => h) (Or.inl ⟨by rfl, fun w' hSw => by dsimp only at hSw; go_simp⟩) hHeld ?_
                  simp only [Act.put, List.getElem_toArray, List.getElem_cons_zero, List.getElem_cons_succ, List.setIfInBounds_toArray, List.set_cons_zero, List.set_cons_succ]
                  refine wpAnyH_take (i := 4) (v := .int .i64 (pl : Int)) rfl (by kernel_rfl) (by kernel_rfl) (by kernel_rfl) (fun _ _ _ h => h) (Or.inl ⟨by rfl, fun w' hSw => by dsimp only at hSw; go_simp⟩) hHeld ?_
                  simp only [Act.put, List.getElem_toArray, List.getElem_cons_zero, List.getElem_cons_succ, List.setIfInBounds_toArray, List.set_cons_zero, List.set_cons_succ]
                  refine wpAnyH_ready (rs := [5]) (by kernel_rfl) (by simp) ?_
                  refine AllReadyH.cons rfl (fun K hK => ?_) AllReadyH.nil
                  rw [if_pos (by rfl)]
                  refine wp_store_put 29 _ _ rfl w.heap.size 0 (cfgZero 0) rfl rfl (by kernel_rfl) _ stF ?_
                  refine hK.out _ _ cn2 (fun hHeld => ?_)
                  clear hK K
                  try simp only [Act.put, List.getElem_toArray, List.getElem_cons_zero, List.getElem_cons_succ, List.setIfInBounds_toArray, List.set_cons_zero, List.set_cons_succ]
                  refine wpAnyH_take (i := 6) (v := .int .i64 (pl : Int)) rfl (by kernel_rfl) (by kernel_rfl) (by kernel_rfl) (fun _ _ _ h => h) (Or.inl ⟨by rfl, fun w' hSw => by dsimp only at hSw; go_simp⟩) hHeld ?_
                  simp only [Act.put, List.getElem_toArray, List.getElem_cons_zero, List.getElem_cons_succ, List.setIfInBounds_toArray, List.set_cons_zero, List.set_cons_succ]
                  refine wpAnyH_take (i := 7) (v := .int .i64 60) rfl (by kernel_rfl) (by kernel_rfl) (by kernel_rfl) (fun _ _ _ h => h) (Or.inl ⟨by rfl, fun w' hSw => by dsimp only at hSw; go_simp⟩) hHeld ?_
                  simp only [Act.put, List.getElem_toArray, List.getElem_cons_zero, List.getElem_cons_succ, List.setIfInBounds_toArray, List.set_cons_zero, List.set_cons_succ]
                  refine wpAnyH_done (by kernel_rfl) ?_ _
                  go_wp2_with fail
                  exact bodyPost_ret (results_three _ _ w.heap.size _ _ _ rfl rfl rfl HP9.out.2 rfl) rfl HP9.out.1
                · have i6 : ¬ (i5 : Int) < (W.length : Int) := by omega
                  go_wp2_with fail
                  go_quiet (fail)
                  have hRA := HX.out.1.turn ((Turn.refl (fun _ => False) w5).drewN nq) (fun h => h) (fun h => h)
                  have relx : (w5.drewN nq).heap[w.heap.size]? = _ := HX.out.2.1
                  have tx : Turn (fun _ => False) w (w5.drewN nq) := HX.out.2.2.drewN nq
                  clear c0 c1
                  generalize w5.drewN nq = w6 at *
                  have c4 : w6.cell? ⟨w1.heap.size, 4, none⟩ = some (.bool true) := cell_of_block hRA.ex.1 4
                  have cn : w6.drew.cell? ⟨w1.heap.size, 3, none⟩ = some (.int .i64 (pl : Int)) := cell_of_block hRA.ex.1 3
                  obtain ⟨stF, kF, tF⟩ := store_whole (W := w6.drew) relx (cs := cfgZero 0) rfl (by intro v hv; simp [cfgZero] at hv; rcases hv with rfl | rfl | rfl | rfl <;> rfl)
                  have hRb : w1.heap.size ≠ w.heap.size := by omega
                  have cn2 : (w6.drew.setRow w.heap.size (cfgZero 0)).cell? ⟨w1.heap.size, 3, none⟩ = some (.int .i64 (pl : Int)) := (World.cell?_of_block (tF.block w1.heap.size hRA.lt hRb)).trans cn
                  have hpost : RParsePost (configP s) w (.returned (.tuple #[.agg (cfgZero 0), .int .i64 (pl : Int), .int .i64 60])) (w6.drew.setRow w.heap.size (cfgZero 0)) := by rw [HC.out]; exact ⟨rfl, tx.drew.trans2 tF (fun k hk e => by omega)⟩
                  have HP9 := Lib.hid (And.intro hpost kF)
                  clear hpost kF tF hRA relx tx
                  go_upto_region 27 with (fail)
                  refine wp_region_held_drew (S := fun w' => w'.cell? ⟨w1.heap.size, 3, none⟩ = some (.int .i64 (pl : Int))) (by kernel_rfl) cn (fun hHeld => ?_)
                  refine wpAnyH_take (i := 0) (v := .agg (cfgZero 0)) rfl (by kernel_rfl) (by kernel_rfl) (by kernel_rfl) (fun _ _ _ h => h) (Or.inl ⟨by rfl, fun w' hSw => by kernel_rfl⟩) hHeld ?_
                  simp only [Act.put, List.getElem_toArray, List.getElem_cons_zero, List.getElem_cons_succ, List.setIfInBounds_toArray, List.set_cons_zero, List.set_cons_succ]
                  refine wpAnyH_take (i := 1) (v := .pointer (some ⟨w1.heap.size, 0, none⟩)) rfl (by kernel_rfl) (by kernel_rfl) (by kernel_rfl) (fun _ _ _ h => h) (Or.inl ⟨by rfl, fun w' hSw => by dsimp only at hSw; go_simp⟩) hHeld ?_
                  simp only [Act.put, List.getElem_toArray, List.getElem_cons_zero, List.getElem_cons_succ, List.setIfInBounds_toArray, List.set_cons_zero, List.set_cons_succ]
                  refine wpAnyH_take (i := 2) (v := .pointer (some ⟨w1.heap.size, 0, none⟩)) rfl (by kernel_rfl) (by kernel_rfl) (by kernel_rfl) (fun _ _ _ h => h) (Or.inl ⟨by rfl, fun w' hSw => by dsimp only at hSw; go_simp⟩) hHeld ?_
                  simp only [Act.put, List.getElem_toArray, List.getElem_cons_zero, List.getElem_cons_succ, List.setIfInBounds_toArray, List.set_cons_zero, List.set_cons_succ]
                  refine wpAnyH_take (i := 3) (v := .pointer (some ⟨w1.heap.size, 3, none⟩)) rfl (by kernel_rfl) (by kernel_rfl) (by kernel_rfl) (fun _ _ _ h => h) (Or.inl ⟨by rfl, fun w' hSw => by dsimp only at hSw; go_simp⟩) hHeld ?_
                  simp only [Act.put, List.getElem_toArray, List.getElem_cons_zero, List.getElem_cons_succ, List.setIfInBounds_toArray, List.set_cons_zero, List.set_cons_succ]
                  refine wpAnyH_take (i := 4) (v := .int .i64 (pl : Int)) rfl (by kernel_rfl) (by kernel_rfl) (by kernel_rfl) (fun _ _ _ h => h) (Or.inl ⟨by rfl, fun w' hSw => by dsimp only at hSw; go_simp⟩) hHeld ?_
                  simp only [Act.put, List.getElem_toArray, List.getElem_cons_zero, List.getElem_cons_succ, List.setIfInBounds_toArray, List.set_cons_zero, List.set_cons_succ]
                  refine wpAnyH_ready (rs := [5]) (by kernel_rfl) (by simp) ?_
                  refine AllReadyH.cons rfl (fun K hK => ?_) AllReadyH.nil
                  rw [if_pos (by rfl)]
                  refine wp_store_put 29 _ _ rfl w.heap.size 0 (cfgZero 0) rfl rfl (by kernel_rfl) _ stF ?_
                  refine hK.out _ _ cn2 (fun hHeld => ?_)
                  clear hK K
                  try simp only [Act.put, List.getElem_toArray, List.getElem_cons_zero, List.getElem_cons_succ, List.setIfInBounds_toArray, List.set_cons_zero, List.set_cons_succ]
                  refine wpAnyH_take (i := 6) (v := .int .i64 (pl : Int)) rfl (by kernel_rfl) (by kernel_rfl) (by kernel_rfl) (fun _ _ _ h => h) (Or.inl ⟨by rfl, fun w' hSw => by dsimp only at hSw; go_simp⟩) hHeld ?_
                  simp only [Act.put, List.getElem_toArray, List.getElem_cons_zero, List.getElem_cons_succ, List.setIfInBounds_toArray, List.set_cons_zero, List.set_cons_succ]
                  refine wpAnyH_take (i := 7) (v := .int .i64 60) rfl (by kernel_rfl) (by kernel_rfl) (by kernel_rfl) (fun _ _ _ h => h) (Or.inl ⟨by rfl, fun w' hSw => by dsimp only at hSw; go_simp⟩) hHeld ?_
                  simp only [Act.put, List.getElem_toArray, List.getElem_cons_zero, List.getElem_cons_succ, List.setIfInBounds_toArray, List.set_cons_zero, List.set_cons_succ]
                  refine wpAnyH_done (by kernel_rfl) ?_ _
                  go_wp2_with fail
                  exact bodyPost_ret (results_three _ _ w.heap.size _ _ _ rfl rfl rfl HP9.out.2 rfl) rfl HP9.out.1
              · obtain rfl := hv5 u m hr
                obtain ⟨hbn, hct⟩ := hbn5 c5 m hr
                rw [hr] at hR5 hres
                obtain ⟨pl, hRA⟩ := hR5.line
                have hle := hRA.le
                have c0 : w5.cell? ⟨w1.heap.size, 0, none⟩ = some (.slice (some ⟨g, 0, none⟩) W.length cp) := cell_of_block hRA.ex.1 0
                have c1 : w5.cell? ⟨w1.heap.size, 1, none⟩ = some (.int .i64 (m : Int)) := cell_of_block hRA.ex.1 1
                by_cases h5 : m < W.length
                · obtain ⟨xe, hxe⟩ : ∃ x, W[m]? = some x := ⟨_, List.getElem?_eq_getElem h5⟩
                  have hc : configP s = .error xe.2 := tail_err hs hfi HA.out.2.1 HA.out.2.2 HP.out.2.2.1 HW1.out HE.out.1 (hres.trans (resP_left hxe))
                  have HC := Lib.hid hc
                  obtain ⟨relx, tx⟩ := tail_rel HB.out.1 ht5 hb1
                  have HX := Lib.hid (And.intro hRA (And.intro relx tx))
                  have HXE := Lib.hid hxe
                  clear hRA relx tx hR5 ht5 hres hc hr hv5 hbn5 hbn hct hxe
                  have i6 : (m : Int) < (W.length : Int) := by omega
                  obtain ⟨xz, hxz⟩ : ∃ x, W[m]? = some x := ⟨_, List.getElem?_eq_getElem h5⟩
                  have HXZ := Lib.hid hxz
                  obtain rfl : xe = xz := Option.some.inj (HXE.out.symm.trans hxz)
                  clear hxz
                  go_wp2_with fail
                  go_quiet (fail)
                  have hRA := HX.out.1.turn ((Turn.refl (fun _ => False) w5).drewN nq) (fun h => h) (fun h => h)
                  have relx : (w5.drewN nq).heap[w.heap.size]? = _ := HX.out.2.1
                  have tx : Turn (fun _ => False) w (w5.drewN nq) := HX.out.2.2.drewN nq
                  clear c0 c1
                  generalize w5.drewN nq = w6 at *
                  go_upto_region 25 with (fail)
                  refine region_tail 12 (by kernel_rfl) (by kernel_rfl) _ rfl ?_
                  have hRA := hRA.turn (Turn.refl (fun _ => False) w6).drew (fun h => h) (fun h => h)
                  have tx := tx.drew
                  have relx : w6.drew.heap[w.heap.size]? = _ := relx
                  generalize World.drew _ = w7 at *
                  obtain ⟨x1, x2, x3, x4⟩ := hRA.ex
                  obtain ⟨y1, y2⟩ := x4 m xe HXZ.out
                  have c0 : w7.cell? ⟨w1.heap.size, 0, none⟩ = some (.slice (some ⟨g, 0, none⟩) W.length cp) := cell_of_block x1 0
                  have c1 : w7.cell? ⟨w1.heap.size, 1, none⟩ = some (.int .i64 (m : Int)) := cell_of_block x1 1
                  have hwr : IntKind.i64.wrap (m : Int) = m := by rw [IntKind.wrap_i64]; omega
                  have i7 : (0 : Int) ≤ (m : Int) := by omega
                  have h29 := rfail_raw w1.heap.size g cp W i m pl false xe.2 w7 hRA
                  have HX7 := Lib.hid (And.intro relx tx)
                  clear x1 x2 x3 x4 hRA relx tx HX
                  simp only [List.take_succ_cons, List.take_zero, List.drop_succ_cons, List.drop_zero]
                  repeat still_step
                  try refine wpStill_nil ?_
                  go_wp2_with fail
                  refine h29.mono ?_
                  rintro e w8 ⟨rfl, hRA, t8⟩
                  have relx := (t8.block _ (block_lt HX7.out.1) (show w.heap.size ≠ w1.heap.size by omega)).trans HX7.out.1
                  have tx := HX7.out.2.trans2 t8 (fun k hk e => by omega)
                  have hRA : RefAt w8 w1.heap.size g cp W i m xe.2 true := hRA
                  clear h29 t8 c0 c1 y1 y2 HX7
                  have c4 : w8.cell? ⟨w1.heap.size, 4, none⟩ = some (.bool true) := cell_of_block hRA.ex.1 4
                  have cn : w8.drew.cell? ⟨w1.heap.size, 3, none⟩ = some (.int .i64 (xe.2 : Int)) := cell_of_block hRA.ex.1 3
                  obtain ⟨stF, kF, tF⟩ := store_whole (W := w8.drew) relx (cs := cfgZero 0) rfl (by intro v hv; simp [cfgZero] at hv; rcases hv with rfl | rfl | rfl | rfl <;> rfl)
                  have hRb : w1.heap.size ≠ w.heap.size := by omega
                  have cn2 : (w8.drew.setRow w.heap.size (cfgZero 0)).cell? ⟨w1.heap.size, 3, none⟩ = some (.int .i64 (xe.2 : Int)) := (World.cell?_of_block (tF.block w1.heap.size hRA.lt hRb)).trans cn
                  have hpost : RParsePost (configP s) w (.returned (.tuple #[.agg (cfgZero 0), .int .i64 (xe.2 : Int), .int .i64 60])) (w8.drew.setRow w.heap.size (cfgZero 0)) := by rw [HC.out]; exact ⟨rfl, tx.drew.trans2 tF (fun k hk e => by omega)⟩
                  have HP9 := Lib.hid (And.intro hpost kF)
                  clear hpost kF tF hRA relx tx
                  go_upto_region 27 with (fail)
                  refine wp_region_held_drew (S := fun w' => w'.cell? ⟨w1.heap.size, 3, none⟩ = some (.int .i64 (xe.2 : Int))) (by kernel_rfl) cn (fun hHeld => ?_)
                  refine wpAnyH_take (i := 0) (v := .agg (cfgZero 0)) rfl (by kernel_rfl) (by kernel_rfl) (by kernel_rfl) (fun _ _ _ h => h) (Or.inl ⟨by rfl, fun w' hSw => by kernel_rfl⟩) hHeld ?_
                  simp only [Act.put, List.getElem_toArray, List.getElem_cons_zero, List.getElem_cons_succ, List.setIfInBounds_toArray, List.set_cons_zero, List.set_cons_succ]
                  refine wpAnyH_take (i := 1) (v := .pointer (some ⟨w1.heap.size, 0, none⟩)) rfl (by kernel_rfl) (by kernel_rfl) (by kernel_rfl) (fun _ _ _ h => h) (Or.inl ⟨by rfl, fun w' hSw => by dsimp only at hSw; go_simp⟩) hHeld ?_
                  simp only [Act.put, List.getElem_toArray, List.getElem_cons_zero, List.getElem_cons_succ, List.setIfInBounds_toArray, List.set_cons_zero, List.set_cons_succ]
                  refine wpAnyH_take (i := 2) (v := .pointer (some ⟨w1.heap.size, 0, none⟩)) rfl (by kernel_rfl) (by kernel_rfl) (by kernel_rfl) (fun _ _ _ h => h) (Or.inl ⟨by rfl, fun w' hSw => by dsimp only at hSw; go_simp⟩) hHeld ?_
                  simp only [Act.put, List.getElem_toArray, List.getElem_cons_zero, List.getElem_cons_succ, List.setIfInBounds_toArray, List.set_cons_zero, List.set_cons_succ]
                  refine wpAnyH_take (i := 3) (v := .pointer (some ⟨w1.heap.size, 3, none⟩)) rfl (by kernel_rfl) (by kernel_rfl) (by kernel_rfl) (fun _ _ _ h => h) (Or.inl ⟨by rfl, fun w' hSw => by dsimp only at hSw; go_simp⟩) hHeld ?_
                  simp only [Act.put, List.getElem_toArray, List.getElem_cons_zero, List.getElem_cons_succ, List.setIfInBounds_toArray, List.set_cons_zero, List.set_cons_succ]
                  refine wpAnyH_take (i := 4) (v := .int .i64 (xe.2 : Int)) rfl (by kernel_rfl) (by kernel_rfl) (by kernel_rfl) (fun _ _ _ h => h) (Or.inl ⟨by rfl, fun w' hSw => by dsimp only at hSw; go_simp⟩) hHeld ?_
                  simp only [Act.put, List.getElem_toArray, List.getElem_cons_zero, List.getElem_cons_succ, List.setIfInBounds_toArray, List.set_cons_zero, List.set_cons_succ]
                  refine wpAnyH_ready (rs := [5]) (by kernel_rfl) (by simp) ?_
                  refine AllReadyH.cons rfl (fun K hK => ?_) AllReadyH.nil
                  rw [if_pos (by rfl)]
                  refine wp_store_put 29 _ _ rfl w.heap.size 0 (cfgZero 0) rfl rfl (by kernel_rfl) _ stF ?_
                  refine hK.out _ _ cn2 (fun hHeld => ?_)
                  clear hK K
                  try simp only [Act.put, List.getElem_toArray, List.getElem_cons_zero, List.getElem_cons_succ, List.setIfInBounds_toArray, List.set_cons_zero, List.set_cons_succ]
                  refine wpAnyH_take (i := 6) (v := .int .i64 (xe.2 : Int)) rfl (by kernel_rfl) (by kernel_rfl) (by kernel_rfl) (fun _ _ _ h => h) (Or.inl ⟨by rfl, fun w' hSw => by dsimp only at hSw; go_simp⟩) hHeld ?_
                  simp only [Act.put, List.getElem_toArray, List.getElem_cons_zero, List.getElem_cons_succ, List.setIfInBounds_toArray, List.set_cons_zero, List.set_cons_succ]
                  refine wpAnyH_take (i := 7) (v := .int .i64 60) rfl (by kernel_rfl) (by kernel_rfl) (by kernel_rfl) (fun _ _ _ h => h) (Or.inl ⟨by rfl, fun w' hSw => by dsimp only at hSw; go_simp⟩) hHeld ?_
                  simp only [Act.put, List.getElem_toArray, List.getElem_cons_zero, List.getElem_cons_succ, List.setIfInBounds_toArray, List.set_cons_zero, List.set_cons_succ]
                  refine wpAnyH_done (by kernel_rfl) ?_ _
                  go_wp2_with fail
                  exact bodyPost_ret (results_three _ _ w.heap.size _ _ _ rfl rfl rfl HP9.out.2 rfl) rfl HP9.out.1
                · have i6 : ¬ (m : Int) < (W.length : Int) := by omega
                  have c4 : w5.cell? ⟨w1.heap.size, 4, none⟩ = some (.bool false) := cell_of_block hRA.ex.1 4
                  have hrc := hres.trans (resP_done (List.getElem?_eq_none (by omega)))
                  have HN := Lib.hid (fun W' t => tail_next (W' := W') hfi his HA.out.2.1 HA.out.2.2 HP.out.2.2.1 HW1.out HE.out.1 HB.out.1 hR5 ht5 hb1 t hrc hbn hct)
                  clear hRA hR5 ht5 hres hr hv5 hbn5 hbn hct hrc
                  go_wp2_with fail
                  go_quiet (fail)
                  have c4 : (w5.drewN nq).cell? ⟨w1.heap.size, 4, none⟩ = some (.bool false) := c4
                  go_wp2_with fail
                  go_roundg (s.size + 1 - (i + 1))
                  case measure => omega
                  case rel => exact ⟨i + 1, i + 1, O ++ [(W, i)], rfl, by cases O <;> rfl, by go_num, by go_num, Lib.hid (HN.out _ ((Turn.refl (fun _ => False) w5).drewN nq))⟩
    · have i1 : ¬ ((s.size : Int) + 1 ≤ (s.size : Int)) := by omega
      clear HR HS
      by_cases hO0 : O = []
      · subst hO0
        have hc : configP s = .error s.size := by
          unfold configP
          rw [if_neg (by omega), hO]
          rfl
        obtain ⟨stF, kF, tF⟩ := store_whole hP.rel (cs := cfgZero 0) rfl (by intro v hv; simp [cfgZero] at hv; rcases hv with rfl | rfl | rfl | rfl <;> rfl)
        have t2 := hP.turn.trans2 tF (fun k hk e => by omega)
        have HF := Lib.hid (And.intro kF (And.intro t2 hc))
        clear kF tF t2 hc hP
        go_wp2_with (refine wpList_store_put rfl 29 _ _ rfl w.heap.size 0 (cfgZero 0) rfl rfl (by kernel_rfl) _ stF ?_)
        exact bodyPost_ret (results_three _ _ w.heap.size _ _ _ rfl rfl rfl HF.out.1 rfl) rfl (by rw [HF.out.2.2]; exact ⟨rfl, HF.out.2.1⟩)
      · have hoe : O.isEmpty = false := by cases O with | nil => exact absurd rfl hO0 | cons a b => rfl
        have hfr : fromP s.size O = .ok c := by rcases hP.cfg with ⟨h, _⟩ | ⟨_, h⟩; exact absurd h hO0; exact h
        have hc : configP s = .ok c := by
          unfold configP
          rw [if_neg (by omega), hO]
          exact hfr
        obtain ⟨ao, cp, htv, _⟩ := own_form hP.tens.row hP.cel (by decide)
        have htv1 : tv.oneCell' = true := by rw [htv]; rfl
        have z29 := cfgRow_size hP.wfc tv
        obtain ⟨stF, kF, tF⟩ := store_whole hP.rel (cs := cfgRow c tv) (by rw [z29]; rfl) (cfgRow_one _ htv1)
        have hgF := hP.cel
        have hi29 : (Tryz.prog.info? 29).map (·.size) = some (cfgRow c tv).size := by rw [z29]; kernel_rfl
        have htF : TensAt (wr.setRow w.heap.size (cfgRow c tv)) (w.heap.size + 1 + 1) tv l := hP.tens.low tF (fun k e => by omega)
        have t2 := hP.turn.trans2 tF (fun k hk e => by omega)
        have HF := Lib.hid (And.intro kF (And.intro t2 (And.intro htF (And.intro hc (And.intro hP.eqt hP.wfc)))))
        clear kF tF t2 hc hP htF htv hfr
        generalize hcs : cfgRow c tv = csF at *
        have HCS := Lib.hid hcs
        clear hcs
        go_wp2_with (first | (refine wpList_load_row rfl 29 _ rfl (w.heap.size + 1) rfl 29 csF (0, 0) _ hgF Tryz.underlying29 rfl hi29 ?_) | (refine wpList_store_put rfl 29 _ _ rfl w.heap.size 0 csF rfl rfl hi29 _ stF ?_))
        obtain ⟨kF, t2, htF, hc, he2, hw2⟩ := HF.out
        exact bodyPost_ret (results_three _ _ w.heap.size _ _ _ rfl rfl rfl kF z29) rfl (by rw [hc]; exact ⟨tv, l, by rw [HCS.out]; rfl, htF.mono (by omega), he2, hw2, t2⟩)
end Go.Proofs.YtbkpbcmjgbdbkaaGreatDoor
