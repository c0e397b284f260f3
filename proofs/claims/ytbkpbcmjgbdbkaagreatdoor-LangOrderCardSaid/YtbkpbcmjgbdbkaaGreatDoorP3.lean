/- lang.config: the walk. Condition: Env. -/
import Derived.Deep.RegionLaw
import Derived.Test.YtbkpbcmjgbdbkaaGreatDoorMG
import Derived.Deep.CutBlock
import Derived.Great.BuildSlice
import Derived.RegionDies
namespace Go.Proofs.YtbkpbcmjgbdbkaaGreatDoor
open Go.RowKit Go.Lib
set_option linter.unusedVariables false
set_option linter.unusedSimpArgs false
set_option maxRecDepth 100000
set_option pp.maxSteps 3000

def CfgPost (r : Except Nat Cfg) (w : World) (e : Ending) (w' : World) : Prop := match r with
  | .error pl => Fails pl (fun _ => False) w e w'
  | .ok c => ∃ tv l, e = .returned (.agg (cfgRow c tv)) ∧ TensAt w' w.heap.size tv l ∧ l.map (·.1) = c.tens ∧ WfCfg c ∧ Turn (fun _ => False) w w'
theorem own_get {W : World} {lo h cap : Nat} {os : List Nat} (ho : W.ownsRow lo 106 1 (.slice (some ⟨h, 0, none⟩) os.length cap) os.length (ptrCells os)) {j b : Nat} (hj : os[j]? = some b) : W.cell? ⟨h, j, none⟩ = some (.pointer (some ⟨b, 0, none⟩)) := by
  have hl := (List.getElem?_eq_some_iff.1 hj).1
  rw [ho.cellAt j (by omega)]
  simp [ptrCells, hj]
theorem store_whole {W : World} {c : Nat} {ds cs : Array Value} {T : TypeId} (hc : W.heap[c]? = some (.cells ds T (0, 0))) (hs : ds.size = cs.size) (h1 : ∀ v ∈ cs.toList, v.oneCell' = true) :
    (storeCells ⟨c, 0, none⟩ cs.toList 0).run Tryz.prog W = .ok () (W.setRow c cs) ∧ (W.setRow c cs).heap[c]? = some (.cells cs T (0, 0)) ∧ Turn (fun k => k = c) W (W.setRow c cs) := by
  have hl : cs.toList.length = cs.size := rfl
  have hst := run_storeCells_at (P := Tryz.prog) c 0 T cs.toList 0 ds W hc (by omega) h1
  have hr := row_all hs
  unfold rowPut at hr
  simp only [Nat.zero_add] at hst hr
  rw [hr] at hst
  exact ⟨hst, setRow_heap W c ds _ T (0, 0) hc, turn_setRow W c cs⟩
theorem TensAt.mono {W : World} {lo lo' : Nat} {tv : Value} {l : List TenM} (h : TensAt W lo tv l) (hl : lo' ≤ lo) : TensAt W lo' tv l :=
  ⟨own_mono h.row hl, fun x hx => ⟨own_mono (h.each x hx).pool hl, own_mono (h.each x hx).stat hl, own_mono (h.each x hx).twic hl, (h.each x hx).apart, (h.each x hx).wf⟩, h.apart⟩
def CfRel (w : World) (lo M r C h cap : Nat) (os : List Nat) (Ls : List (List Wd × Nat)) (R : Except Nat Cfg) (k : Nat) (W : World) : Prop :=
  ∃ c tv l, CfAt w lo M r C h cap os Ls k c tv l W ∧ restP (Ls.drop k) c = R
/-- In the midst of a line: its first word was taken. -/
structure CfMid (wr : World) (M b g cp C q : Nat) (Y : List Wd × Nat) (n : Nat) (c : Cfg) (tv : Value) (l : List TenM) (x : ByteArray) (a : Nat) (W : World) : Prop where
  line : LineIs W b g cp Y.1 Y.2 n
  env : Env W
  cel : W.heap[C]? = some (.cells (cfgRow c tv) 29 (0, 0))
  tens : TensAt W M tv l
  turn : Turn (fun x => x = b ∨ M ≤ x) wr W
  wd : W.heap[q]? = some (.cells #[.string x, .int .i64 (a : Int)] 108 (0, 0))
  qM : M ≤ q
theorem CfMid.start {w W W' : World} {lo M r C h cap k b g cp n a : Nat} {os : List Nat} {Ls : List (List Wd × Nat)} {c : Cfg} {tv : Value} {l : List TenM} {Y : List Wd × Nat} {x : ByteArray} (hA : CfAt w lo M r C h cap os Ls k c tv l W) (hb : b < M) (hl : LineIs W' b g cp Y.1 Y.2 n) (t : Turn (fun k => k = b) W W') :
    CfMid W M b g cp C W'.heap.size Y n c tv l x a (W'.alloc (.cells #[.string x, .int .i64 (a : Int)] 108)) := by
  have hMC := hA.MC
  have hMl := hA.Ml
  have hs := t.size
  have t2 := (Turn.refl (fun _ => False) W').alloc (.cells #[.string x, .int .i64 (a : Int)] 108)
  exact ⟨hl.turn t2 (fun h => h) (fun h => h), (hA.env.line hl.low t).keep t2, block_alloc_old ((t.block C (block_lt hA.cel) (by omega)).trans hA.cel), (hA.tens.low t (fun k e => by omega)).low t2 (fun k e => e.elim), (t.mono (fun _ _ e => Or.inl e)).alloc _, block_alloc_new _ _, by omega⟩
theorem CfMid.quiet {wr W W' : World} {M b g cp C q n a : Nat} {Y : List Wd × Nat} {c : Cfg} {tv : Value} {l : List TenM} {x : ByteArray} (h : CfMid wr M b g cp C q Y n c tv l x a W) (t : Turn (fun _ => False) W W') : CfMid wr M b g cp C q Y n c tv l x a W' :=
  ⟨h.line.turn t (fun h => h) (fun h => h), h.env.keep t, (t.block C (block_lt h.cel) (fun h => h)).trans h.cel, h.tens.low t (fun k e => e.elim), h.turn.trans2 t (fun _ _ e => e.elim), (t.block q (block_lt h.wd) (fun h => h)).trans h.wd, h.qM⟩
theorem tag_ne {W : World} {a b : Nat} {cs cs' : Array Value} {T T' : TypeId} {f f' : Nat × Nat} (h1 : W.heap[a]? = some (.cells cs T f)) (h2 : W.heap[b]? = some (.cells cs' T' f')) (hT : T ≠ T') : a ≠ b := fun e => by
  rw [e, h2] at h1
  injection h1 with h1
  injection h1 with _ h1
  exact hT h1.symm
theorem CfMid.tenant {wr W W' : World} {M b g cp C q n a : Nat} {Y : List Wd × Nat} {c : Cfg} {tv tv' : Value} {l : List TenM} {x : ByteArray} {t : Ten} (h : CfMid wr M b g cp C q Y n c tv l x a W) (hMC : M ≤ C) (hb : b < M) (hg : g < M) (h7 : 7 ≤ M) (hwc : WfCfg c) (hw : WfTen t) (h1 : t.pool = []) (h2 : t.statics = []) (h3 : t.twices = [])
    (hown : W'.ownsRow M 45 33 tv' (l.length + 1) (tensCells l ++ (tenRow t (.slice none 0 0) (.slice none 0 0) (.slice none 0 0)).toList)) (tn : Turn (fun k => tv.ownBlock = some k) W W') :
    CfMid wr M b g cp C q Y n { c with tens := c.tens ++ [t] } tv' (l ++ [(t, .slice none 0 0, .slice none 0 0, .slice none 0 0)]) x a (W'.setCell ⟨C, 28, none⟩ tv') ∧ W'.cell? ⟨C, 28, none⟩ = some tv ∧ W'.frozen? ⟨C, 28, none⟩ = false := by
  have hC : tv.ownBlock ≠ some C := by obtain ⟨_, _, _, hne⟩ := own_form h.tens.row h.cel (by decide); exact hne
  have hq : tv.ownBlock ≠ some q := by obtain ⟨_, _, _, hne⟩ := own_form h.tens.row h.wd (by decide); exact hne
  have hlow : ∀ k, tv.ownBlock = some k → M ≤ k := fun k hk => own1_low h.tens.row hk
  have cel' : W'.heap[C]? = some (.cells (cfgRow c tv) 29 (0, 0)) := (tn.block C (block_lt h.cel) hC).trans h.cel
  have wd' := (tn.block q (block_lt h.wd) hq).trans h.wd
  have t2 : Turn (fun k => k = C) W' (W'.setCell ⟨C, 28, none⟩ tv') := (Turn.refl (fun k => k = C) W').setCell (p := ⟨C, 28, none⟩) _ (fun _ => rfl)
  have hqC : q ≠ C := tag_ne h.wd h.cel (by decide)
  have t3 : Turn (fun k => M ≤ k) W (W'.setCell ⟨C, 28, none⟩ tv') := (tn.mono (fun k _ e => hlow k e)).trans2 t2 (fun k _ e => by omega)
  have ht := (h.tens.snoc hw h1 h2 h3 hown tn).other cel' (by decide) (by decide) (by decide) t2
  refine ⟨⟨h.line.turn t3 (by omega) (by omega), h.env.turn t3 (fun i hi e => by omega), ?_, ht, h.turn.trans2 t3 (fun k _ e => Or.inr e), (t2.block q (block_lt wd') hqC).trans wd', h.qM⟩, (cell_of_block cel' 28).trans (cfgRow_get hwc tv), free_of_block cel' 28⟩
  rw [← cfgRow_set hwc tv tv' (c.tens ++ [t])]
  exact block_setCell cel' 28 tv'
theorem CfMid.fails {w wr W w' : World} {lo M r C h cap k b g cp q n a pl : Nat} {os : List Nat} {Ls : List (List Wd × Nat)} {c0 c : Cfg} {tv0 tv : Value} {l0 l : List TenM} {Y : List Wd × Nat} {x : ByteArray} {e : Ending} {F : Nat → Prop} (hA : CfAt w lo M r C h cap os Ls k c0 tv0 l0 wr) (hM : CfMid wr M b g cp C q Y n c tv l x a W)
    (hb : lo ≤ b) (f : Fails pl F W e w') (hF : ∀ k, F k → k = b ∨ M ≤ k) : Fails pl (fun _ => False) w e w' := by
  obtain ⟨pp, f0, f1, f2, f3⟩ := f
  have h1 := hA.turn.size
  have h2 := hM.turn.size
  have h3 := hA.wlo
  have h4 := hA.rlo
  have h5 := hA.loM
  exact ⟨pp, f0, f1, by omega, (hA.turn.trans2 hM.turn (fun i hi e => by omega)).trans2 f3 (fun i hi e => by have := hF i e; omega)⟩
theorem CfMid.toAt {w wr W W' : World} {lo M r C h cap k b g cp q n a : Nat} {os : List Nat} {Ls : List (List Wd × Nat)} {c0 c : Cfg} {tv0 tv : Value} {l0 l : List TenM} {Y : List Wd × Nat} {x : ByteArray} (hA : CfAt w lo M r C h cap os Ls k c0 tv0 l0 wr) (hM : CfMid wr M b g cp C q Y n c tv l x a W)
    (hb : os[k]? = some b) (t : Turn (fun _ => False) W W') (eqt : l.map (·.1) = c.tens) (wfc : WfCfg c) (bnd : Bnd (tot (Ls.take (k + 1))) c) (cnt : l.length ≤ k + 1) : CfAt w lo M r C h cap os Ls (k + 1) c tv l W' := by
  have h2 := hM.quiet t
  exact hA.step hb h2.turn h2.cel h2.tens eqt wfc bnd cnt
theorem CfMid.field {wr W W' : World} {M b g cp C q n m a G cap : Nat} {Y : List Wd × Nat} {c : Cfg} {ls : List TenM} {xm : TenM} {x : ByteArray} {cur0 cur : Array Value} {t' : Ten} {p' s' q' : Value} (h : CfMid wr M b g cp C q Y n c (.slice (some ⟨G, 0, none⟩) (ls.length + 1) cap) (ls ++ [xm]) x a W) (hMC : M ≤ C) (hMG : M ≤ G)
    (hb : W.heap[G]? = some (.cells cur0 45 (0, 0))) (f : FSt W M b g cp Y.1 Y.2 G (ls.length * 33) cur0 xm.2.1 xm.2.2.1 xm.2.2.2 m cur t' p' s' q' W') (ts : List Ten) :
    CfMid wr M b g cp C q Y m { c with tens := ts } (.slice (some ⟨G, 0, none⟩) (ls.length + 1) cap) (ls ++ [(t', p', s', q')]) x a W' := by
  have hx := h.tens.each xm (by simp)
  obtain ⟨hbb, _⟩ := h.line.ex
  have hCb : C ≠ b := tag_ne h.cel hbb (by decide)
  have hqb : q ≠ b := tag_ne h.wd hbb (by decide)
  have hCG : C ≠ G := tag_ne h.cel hb (by decide)
  have hqG : q ≠ G := tag_ne h.wd hb (by decide)
  have hnC : ¬ tmOwns xm C := hx.not h.cel (by decide) (by decide)
  have hnq : ¬ tmOwns xm q := hx.not h.wd (by decide) (by decide)
  exact ⟨f.line, f.env, (f.turn.block C (block_lt h.cel) (by rintro (e | e | e); exact hCb e; exact hCG e; exact hnC e)).trans h.cel, h.tens.upd hb f.ten f.same f.turn hbb (fun k hk => f.old k hk),
    h.turn.trans2 f.turn (fun k _ e => by
      rcases e with e | e | e
      · exact Or.inl e
      · exact Or.inr (by omega)
      · exact Or.inr ((hx.tag e).1)), (f.turn.block q (block_lt h.wd) (by rintro (e | e | e); exact hqb e; exact hqG e; exact hnq e)).trans h.wd, h.qM⟩
theorem tenInfo : (Tryz.prog.info? 45).map (fun i => (i.zero, i.size, i.bytes)) = some (some (.agg (tenZero ⟨#[]⟩)), 33, 160) := by kernel_rfl
theorem fold_row (z r : Array Value) (n : Nat) (hz : z.size = n) (hr : r.size = n) : Array.foldl (fun (cs : Array Value) (x : Value × Nat) => cs.setIfInBounds x.snd x.fst) z r.zipIdx 0 n = r := by
  have e1 : Array.foldl (fun (cs : Array Value) (x : Value × Nat) => cs.setIfInBounds x.snd x.fst) z r.zipIdx 0 n = (r.toList.zipIdx 0).foldl (fun cs (x : Value × Nat) => cs.setIfInBounds (0 + x.2) x.1) z := by
    have : r.zipIdx.toList = r.toList.zipIdx 0 := by simp
    rw [← this, Array.foldl_toList]
    simp [hr]
  rw [e1]
  obtain ⟨g1, g2⟩ := Great.foldl_set 0 r.toList 0 z
  apply Array.ext
  · rw [g1, hz, hr]
  · intro i h1 h2
    have := g2 i
    rw [if_pos ⟨by omega, by simp; omega, by omega⟩] at this
    rw [Array.getElem?_eq_getElem h1, Nat.sub_zero, Array.getElem?_toList, Array.getElem?_eq_getElem h2] at this
    simpa using this
theorem fold_ten (r : Array Value) (hr : r.size = 33) : Array.foldl (fun (cs : Array Value) (x : Value × Nat) => cs.setIfInBounds x.snd x.fst) #[.string ⟨#[]⟩, .int .u32 0, .int .u8 0, .int .u8 0, .int .u8 0, .int .u8 0, .int .u8 0, .int .u8 0, .int .u8 0, .int .u8 0, .int .u32 0, .int .u8 0, .int .u8 0, .int .u8 0, .int .u8 0, .int .u8 0, .int .u8 0, .int .u8 0, .int .u8 0, .int .u8 0, .int .u8 0, .int .u8 0, .int .u8 0, .slice none 0 0, .int .u16 0, .int .u16 0, .int .i64 0, .slice none 0 0, .slice none 0 0, .int .i64 0, .int .i64 0, .int .u32 0, .int .u32 0] r.zipIdx 0 33 = r := fold_row _ r 33 rfl hr
theorem bnd_mono {N M : Nat} {c : Cfg} (h : Bnd N c) (hl : N ≤ M) : Bnd M c := fun t ht => by obtain ⟨h1, h2, h3⟩ := h t ht; exact ⟨by omega, by omega, by omega⟩
theorem tot_take {Ls : List (List Wd × Nat)} {k : Nat} {Y : List Wd × Nat} (h : Ls[k]? = some Y) : tot (Ls.take (k + 1)) = tot (Ls.take k) + Y.1.length := by
  rw [List.take_add_one, h, tot]
  simp [tot]
theorem tot_take_le (Ls : List (List Wd × Nat)) (k : Nat) : tot (Ls.take k) ≤ tot Ls := by
  conv => rhs; rw [← List.take_append_drop k Ls]
  unfold tot
  rw [List.map_append, List.sum_append]
  omega
set_option maxHeartbeats 4000000 in
theorem config_any (s : ByteArray) (hs : s.size ≤ 100000) (w : World) (he : Env w) : Calls Tryz.prog 20 #[.string s] w (CfgPost (configP s) w) := by
  by_cases hbig : 32768 < s.size
  · have i1 : (32768 : Int) < (s.size : Int) := by omega
    have hR : configP s = .error 32768 := if_pos hbig
    rw [hR]
    have t0 := (Turn.refl (fun _ => False) w).alloc (.cells (cfgZero 0) 29)
    go_enter Tryz.func20, Tryz.ntmps20
    go_wp2_with fail
    refine (fail_any 32768 _).mono ?_
    rintro e w1 ⟨pp, rfl, f1, f2, f3⟩
    exact ⟨rfl, pp, rfl, f1, Nat.le_trans t0.size f2, t0.trans f3⟩
  · have i1 : ¬ (32768 : Int) < (s.size : Int) := by omega
    have t0 := (Turn.refl (fun _ => False) w).alloc (.cells (cfgZero 0) 29)
    have hr0 := block_alloc_new w (.cells (cfgZero 0) 29)
    have hz : (w.alloc (.cells (cfgZero 0) 29)).heap.size = w.heap.size + 1 := by simp
    have hlines := lines_any s hs _ (he.keep t0)
    have hst : configP s = fromP s.size (linesOf s) := if_neg hbig
    rw [hst]
    clear hst
    go_enter Tryz.func20, Tryz.ntmps20
    go_wp2_with fail
    refine hlines.mono ?_
    rintro e w1 ⟨ov, os, rfl, hown, hdone, t1⟩
    have hlok := lines_ok s
    have hLl := hdone.1
    change os.length = (linesOf s).length at hLl
    have htot := lines_tot s
    have hok2 : ∀ L ∈ linesOf s, 0 < L.1.length := fun L hL => (hlok.lines L hL).1
    have hLe : (linesOf s).length ≤ s.size + 1 := hlok.outs
    generalize linesOf s = Ls at *
    have hr1 := (t1.block _ (block_lt hr0) (fun h => h)).trans hr0
    have t2 := t0.trans t1
    have he1 := he.keep t2
    obtain ⟨ao, cap, hov, _⟩ := own_form hown hr1 (by decide)
    subst hov
    rw [hz] at hown hdone
    clear hlines hr0 t0 t1 hlok hz
    cases Ls with
    | nil =>
      have ho0 : os = [] := List.eq_nil_of_length_eq_zero hLl
      subst ho0
      have hsz := t2.size
      go_wp2_with fail
      refine (fail_any s.size _).mono ?_
      rintro e w2 ⟨pp, rfl, f1, f2, f3⟩
      exact ⟨rfl, pp, rfl, f1, by omega, t2.trans f3⟩
    | cons X Ls =>
      obtain ⟨b0, os', rfl⟩ : ∃ b0 os', os = b0 :: os' := by
        cases os with
        | nil => simp at hLl
        | cons b0 os' => exact ⟨b0, os', rfl⟩
      obtain ⟨h, cap', hv, hh1, hh2⟩ := hown.form (by simp)
      cases hv
      obtain ⟨g0, cp0, hl0, k1, k2, k3, k4⟩ := hdone.2.2 0 b0 X rfl rfl
      have cx : w1.cell? ⟨h, 0, none⟩ = some (.pointer (some ⟨b0, 0, none⟩)) := own_get hown rfl
      have hgw := gateway_any b0 g0 cp0 X.1 X.2 0 w1 hl0 he1
      have H := Lib.hid (And.intro hown (And.intro hdone (And.intro hLl (And.intro htot hok2))))
      obtain ⟨N, hN⟩ : ∃ N, N = (b0 :: os').length := ⟨_, rfl⟩
      have hN0 : N = os'.length + 1 := by simp [hN]
      have hNe : N ≤ 100001 := by
        have h1 := H.out.2.2.1
        rw [hN, h1]
        omega
      have i2 : (0 : Int) < (N : Int) := by omega
      have i3 : ((N : Int) == 0) = false := by rw [beq_eq_false_iff_ne]; omega
      rw [← hN]
      have HN := Lib.hid (And.intro hN hN0)
      clear hown hdone hLl htot hok2 hN hN0 k3 k4 hLe
      go_wp2_with fail
      refine hgw.mono ?_
      intro e w2 h2
      rcases except_cases (gatewayP X.1 X.2 0) with ⟨pl, r1⟩ | ⟨⟨c, n1⟩, r1⟩
      · rw [r1] at h2
        have hR : fromP s.size (X :: Ls) = .error pl := by simp only [fromP, headP, r1]
        obtain ⟨pp, rfl, f1, f2, f3⟩ := h2
        have hsz := t2.size
        exact ⟨rfl, by rw [hR]; exact ⟨pp, rfl, f1, by omega, t2.trans2 f3 (fun i hi e => by omega)⟩⟩
      rw [r1] at h2
      obtain ⟨rfl, l2, t3⟩ := h2
      have hwc := gatewayP_wf r1
      have hwf : WfCfg c := hwc.2
      have hsz29 := cfgRow_size hwf (.slice none 0 0)
      obtain ⟨st3, b3, tt3⟩ := store_whole (block_alloc_new w2 (.cells (cfgZero 0) 29)) (cs := cfgRow c (.slice none 0 0)) (by rw [hsz29]; rfl) (cfgRow_one _ rfl)
      have t4 : Turn (fun k => k = b0) w1 ((w2.alloc (.cells (cfgZero 0) 29)).setRow w2.heap.size (cfgRow c (.slice none 0 0))) := (t3.alloc (.cells (cfgZero 0) 29)).trans2 tt3 (fun i hi e => by have := t3.size; omega)
      have l3 : LineIs ((w2.alloc (.cells (cfgZero 0) 29)).setRow w2.heap.size (cfgRow c (.slice none 0 0))) b0 g0 cp0 X.1 X.2 n1 := (l2.turn ((Turn.refl (fun _ => False) w2).alloc (.cells (cfgZero 0) 29)) (fun h => h) (fun h => h)).turn tt3 (by have := l2.lt; omega) (by have := l2.glt; omega)
      have hi29 : (Tryz.prog.info? 29).map (·.size) = some (cfgRow c (.slice none 0 0)).size := by rw [hsz29]; kernel_rfl
      have hMw : w1.heap.size ≤ w2.heap.size := t3.size
      clear hgw l2 t3 tt3
      go_upto_region 7 with (refine wpList_store_put rfl 29 _ _ rfl w2.heap.size 0 (cfgRow c (.slice none 0 0)) rfl rfl hi29 _ st3 ?_)
      clear st3
      generalize (w2.alloc (.cells (cfgZero 0) 29)).setRow w2.heap.size (cfgRow c (.slice none 0 0)) = W3 at *
      generalize w2.heap.size = C at *
      have hb0h : b0 ≠ h := fun e => by obtain ⟨_, _, _, hne⟩ := own_form H.out.1 hl0.ex.1 (by decide); exact hne (by rw [e]; rfl)
      have ho3 := ownsRow_turn H.out.1 t4 (fun k hk e => by have : h = k := own_slice hk; omega)
      have cx3 : W3.cell? ⟨h, 0, none⟩ = some (.pointer (some ⟨b0, 0, none⟩)) := own_get ho3 rfl
      have H3 := Lib.hid ho3
      clear cx hi29 ho3
      rcases except_cases (doneP X.1 n1) with ⟨pl, r2⟩ | ⟨⟨⟩, r2⟩
      · have hR : fromP s.size (X :: Ls) = .error pl := by simp only [fromP, headP, r1, r2]
        unfold doneP at r2
        split at r2
        · rename_i y hy
          have hpl : y.2 = pl := by injection r2
          have hdn := done_no b0 g0 cp0 X.1 X.2 n1 W3 l3 y.1 y.2 hy
          go_wp2_with fail
          refine hdn.mono ?_
          rintro e w4 ⟨pp, rfl, f1, f2, f3⟩
          have hsz := t2.size
          have hsz4 := t4.size
          subst hpl
          exact ⟨rfl, pp, rfl, f1, by omega, (t2.trans2 t4 (fun i hi e => by omega)).trans2 f3 (fun i hi e => e.elim)⟩
        · cases r2
      have hdn : X.1[n1]? = none := by
        unfold doneP at r2
        split at r2
        · cases r2
        · assumption
      have hdone1 := done_ok b0 g0 cp0 X.1 X.2 n1 W3 l3 hdn
      clear hdn l3
      have hcapN : N ≤ cap := by
        rcases H.out.1.2 with ⟨h', _⟩ | ⟨g', cap', cur, h', _, _, hnc, _⟩
        · cases h'
        · cases h'
          rw [HN.out.1]; exact hnc
      have hrest : fromP s.size (X :: Ls) = restP Ls c := by simp only [fromP, headP, r1, r2]
      have HREST := Lib.hid hrest
      have hr3 := (t4.block _ (block_lt hr1) (by omega)).trans hr1
      have hrC : w.heap.size ≠ C := by have := t2.size; have := block_lt hr1; omega
      have hrel0 : ∀ w4, Turn (fun _ => False) W3 w4 → CfRel w (w.heap.size + 1) w1.heap.size w.heap.size C h cap (b0 :: os') (X :: Ls) (restP Ls c) 1 w4 := fun w4 t5 => by
        obtain ⟨ho, hd, hll, htot, hne⟩ := H.out
        have t45 : Turn (fun x => x = b0 ∨ w1.heap.size ≤ x) w1 w4 := (t4.mono (fun _ _ e => Or.inl e)).trans2 t5 (fun _ _ e => e.elim)
        have t24 : Turn (fun _ => False) w w4 := t2.trans2 t45 (fun i hi e => by have := t2.size; omega)
        have hb0l := hl0.lt
        have h0 : LnF (w.heap.size + 1) w1.heap.size w.heap.size (b0 :: os') (X :: Ls) 0 w1 := fun j b L _ hb hL => by
          obtain ⟨g, cp, hl, z1, z2, z3, z4⟩ := hd.2.2 j b L hb hL
          exact ⟨g, cp, hl, z1, hl.lt, hl.glt, by omega⟩
        refine ⟨c, .slice none 0 0, [], ⟨he.keep t24, t24, ?_, (t5.block C (block_lt b3) (fun h => h)).trans b3, TensAt.nil _ _, hwc.1.symm, hwf, fun t ht => ?_, Nat.zero_le _, ownsRow_turn H3.out t5 (fun _ _ h => h), h0.step hd.2.1 hll hne rfl t45, hd.2.1, hll, hne, ?_, Nat.le_refl _, Nat.lt_succ_self _, ?_, ?_, hh2, t45.size⟩, rfl⟩
        · exact (t5.block _ (block_lt hr3) (fun h => h)).trans hr3
        · rw [hwc.1] at ht; simp at ht
        · have := he.six; omega
        · omega
        · omega
      have HR0 := Lib.hid hrel0
      have HLs : Hid ((X :: Ls).length = N) := Lib.hid (by rw [← H.out.2.2.1, ← HN.out.1])
      clear hrel0
      by_cases hN1 : N = 1
      · have hLs : Ls = [] := by
          have h1 := H.out.2.2.1
          have h2 := HN.out.1
          cases Ls with
          | nil => rfl
          | cons Y Ls => simp at h1 h2; omega
        subst hLs
        subst hN1
        by_cases hc1 : cap = 1
        · subst hc1
          go_wp2_with (go_at_call 50; refine hdone1.mono ?_; rintro e w4 ⟨rfl, t5⟩)
          have hst := HR0.out w4 t5
          have HST := Lib.hid hst
          clear hst hdone1 HR0 H3 t5 b3 cx3 hr3 hr1 t4 t2 hl0
          go_loopg [32] 0 (fun g i wr => i = .int .i64 0 ∧ Hid (CfRel w (w.heap.size + 1) w1.heap.size w.heap.size C h 1 (b0 :: os') (X :: []) (restP [] c) 1 wr))
          case atStart => exact ⟨rfl, HST⟩
          case round =>
          obtain ⟨rfl, HR⟩ := hrel
          obtain ⟨c1, tv, l, hA, hgo⟩ := HR.out
          clear HR HST r1 r2 hrest hwc hwf hsz29
          have HGO : Hid (restP [] c = .ok c1) := Lib.hid hgo.symm
          obtain ⟨ao, cp, htv, _⟩ := own_form hA.tens.row hA.cel (by decide)
          have htv1 : tv.oneCell' = true := by rw [htv]; rfl
          have z29 := cfgRow_size hA.wfc tv
          obtain ⟨stF, kF, tF⟩ := store_whole hA.res (cs := cfgRow c1 tv) (by rw [z29]; rfl) (cfgRow_one _ htv1)
          have hgF := hA.cel
          have hi29 : (Tryz.prog.info? 29).map (·.size) = some (cfgRow c1 tv).size := by rw [z29]; kernel_rfl
          have htF : TensAt (wr.setRow w.heap.size (cfgRow c1 tv)) w1.heap.size tv l := hA.tens.low tF (fun k e => by subst e; have := hA.rlo; have := hA.loM; omega)
          have HF := Lib.hid (And.intro kF (And.intro tF (And.intro htF hA)))
          clear kF tF htF hA htv z29 hgo
          generalize hcs : cfgRow c1 tv = csF at *
          have HCS := Lib.hid hcs
          clear hcs
          go_wp2_with (first | (refine wpList_load_row rfl 29 _ rfl C rfl 29 csF (0, 0) _ hgF Tryz.underlying29 rfl hi29 ?_) | (refine wpList_store_put rfl 29 _ _ rfl w.heap.size 0 csF rfl rfl hi29 _ stF ?_))
          obtain ⟨kF, tF, htF, hA⟩ := HF.out
          exact bodyPost_ret (results_row Tryz.results20 _ _ w.heap.size _ rfl kF _ Tryz.underlying29 rfl hi29) rfl (by rw [HREST.out, HGO.out]; exact ⟨tv, l, by rw [HCS.out], htF.mono (by have := hA.rlo; have := hA.loM; have := hA.wlo; omega), hA.eqt, hA.wfc, hA.turn.trans2 tF (fun i hi e => by omega)⟩)
        · go_wp2_with (go_at_call 50; refine hdone1.mono ?_; rintro e w4 ⟨rfl, t5⟩)
          have hst := HR0.out w4 t5
          have HST := Lib.hid hst
          clear hst hdone1 HR0 H3 t5 b3 cx3 hr3 hr1 t4 t2 hl0
          go_loopg [32] 0 (fun g i wr => i = .int .i64 0 ∧ Hid (CfRel w (w.heap.size + 1) w1.heap.size w.heap.size C h cap (b0 :: os') (X :: []) (restP [] c) 1 wr))
          case atStart => exact ⟨rfl, HST⟩
          case round =>
          obtain ⟨rfl, HR⟩ := hrel
          obtain ⟨c1, tv, l, hA, hgo⟩ := HR.out
          clear HR HST r1 r2 hrest hwc hwf hsz29
          have HGO : Hid (restP [] c = .ok c1) := Lib.hid hgo.symm
          obtain ⟨ao, cp, htv, _⟩ := own_form hA.tens.row hA.cel (by decide)
          have htv1 : tv.oneCell' = true := by rw [htv]; rfl
          have z29 := cfgRow_size hA.wfc tv
          obtain ⟨stF, kF, tF⟩ := store_whole hA.res (cs := cfgRow c1 tv) (by rw [z29]; rfl) (cfgRow_one _ htv1)
          have hgF := hA.cel
          have hi29 : (Tryz.prog.info? 29).map (·.size) = some (cfgRow c1 tv).size := by rw [z29]; kernel_rfl
          have htF : TensAt (wr.setRow w.heap.size (cfgRow c1 tv)) w1.heap.size tv l := hA.tens.low tF (fun k e => by subst e; have := hA.rlo; have := hA.loM; omega)
          have HF := Lib.hid (And.intro kF (And.intro tF (And.intro htF hA)))
          clear kF tF htF hA htv z29 hgo
          generalize hcs : cfgRow c1 tv = csF at *
          have HCS := Lib.hid hcs
          clear hcs
          go_wp2_with (first | (refine wpList_load_row rfl 29 _ rfl C rfl 29 csF (0, 0) _ hgF Tryz.underlying29 rfl hi29 ?_) | (refine wpList_store_put rfl 29 _ _ rfl w.heap.size 0 csF rfl rfl hi29 _ stF ?_))
          obtain ⟨kF, tF, htF, hA⟩ := HF.out
          exact bodyPost_ret (results_row Tryz.results20 _ _ w.heap.size _ rfl kF _ Tryz.underlying29 rfl hi29) rfl (by rw [HREST.out, HGO.out]; exact ⟨tv, l, by rw [HCS.out], htF.mono (by have := hA.rlo; have := hA.loM; have := hA.wlo; omega), hA.eqt, hA.wfc, hA.turn.trans2 tF (fun i hi e => by omega)⟩)
      have hc1 : ¬ cap = 1 := by omega
      go_wp2_with (go_at_call 50; refine hdone1.mono ?_; rintro e w4 ⟨rfl, t5⟩)
      have hst := HR0.out w4 t5
      have HST := Lib.hid hst
      clear hst hdone1 HR0 H3 t5 b3 cx3 hr3 hr1 t4 t2 hl0
      go_loopg [32] (N - 1) (fun g i wr => ∃ k : Nat, g = N - 1 - k ∧ k + 1 ≤ N ∧ i = .int .i64 (k : Int) ∧ Hid (CfRel w (w.heap.size + 1) w1.heap.size w.heap.size C h cap (b0 :: os') (X :: Ls) (restP Ls c) (k + 1) wr))
      case atStart => exact ⟨0, rfl, by omega, rfl, HST⟩
      case round =>
        obtain ⟨k, rfl, hk, rfl, HR⟩ := hrel
        obtain ⟨c1, tv, l, hA, hgo⟩ := HR.out
        clear HR HST r1 r2 hrest hwc hwf hsz29
        by_cases hlt : k + 1 < N
        · have hj1 : k + 1 < (b0 :: os').length := by rw [← HN.out.1]; exact hlt
          have hj2 : k + 1 < (X :: Ls).length := by rw [HLs.out]; exact hlt
          obtain ⟨b, hb⟩ : ∃ b, (b0 :: os')[k + 1]? = some b := ⟨_, List.getElem?_eq_getElem hj1⟩
          obtain ⟨Y, hY⟩ : ∃ Y, (X :: Ls)[k + 1]? = some Y := ⟨_, List.getElem?_eq_getElem hj2⟩
          obtain ⟨g, cp, hl, z1, z2, z3, z4⟩ := hA.lines (k + 1) b Y (Nat.le_refl _) hb hY
          have cb : wr.cell? ⟨h, 1 + k, none⟩ = some (.pointer (some ⟨b, 0, none⟩)) := by rw [Nat.add_comm]; exact own_get hA.ov hb
          have i5 : (k : Int) < ((N - 1 : Nat) : Int) := by omega
          have i6 : (0 : Int) ≤ (k : Int) := by omega
          have hnext := next_any b g cp Y.1 Y.2 0 wr hl
          have HH := Lib.hid (And.intro hA (And.intro hgo (And.intro hb (And.intro hY hl))))
          have hwlo : w.heap.size ≤ wr.heap.size := hA.turn.size
          clear hA hgo hb hY hl
          have hdrop : (X :: Ls).drop (k + 1) = Y :: (X :: Ls).drop (k + 1 + 1) := by
            have hj2 := (List.getElem?_eq_some_iff.1 HH.out.2.2.2.1)
            obtain ⟨hj3, hj4⟩ := hj2
            rw [List.drop_eq_getElem_cons hj3, hj4]
          have hErr : ∀ pl, lineP c1 Y = .error pl → fromP s.size (X :: Ls) = .error pl := fun pl hr => by
            rw [HREST.out, ← HH.out.2.1, hdrop, restP, hr]
          have hOk : ∀ c', lineP c1 Y = .ok c' → restP ((X :: Ls).drop (k + 1 + 1)) c' = restP Ls c := fun c' hr => by
            rw [← HH.out.2.1, hdrop, restP, hr]
          have HR := Lib.hid (And.intro hErr hOk)
          clear hErr hOk hdrop
          go_wp2_with fail
          refine hnext.mono ?_
          intro e w5 h5
          rcases except_cases (nextP Y.1 Y.2 0) with ⟨pl, r5⟩ | ⟨⟨⟨x, at5⟩, n5⟩, r5⟩
          · rw [r5] at h5
            have hR := HR.out.1 pl (lineP_nextErr r5)
            have hf := h5.after HH.out.1.turn (F := fun k => k = b) (G := fun _ => False)
            obtain ⟨pp, rfl, f1, f2, f3⟩ := h5
            exact ⟨rfl, by rw [hR]; exact ⟨pp, rfl, f1, by omega, HH.out.1.turn.trans2 f3 (fun i hi e => by omega)⟩⟩
          rw [r5] at h5
          obtain ⟨rfl, l5, t5⟩ := h5
          have hn5 : n5 = 1 := (nextP_is r5).2
          subst hn5
          obtain ⟨ao, cp1, htv, _⟩ := own_form HH.out.1.tens.row HH.out.1.cel (by decide)
          have hM := CfMid.start (x := x) (a := at5) HH.out.1 z2 l5 t5
          have cd0 : (w5.alloc (.cells #[.string x, .int .i64 (at5 : Int)] 108)).cell? ⟨w5.heap.size, 0, none⟩ = some (.string x) := cell_of_block hM.wd 0
          have cd1 : (w5.alloc (.cells #[.string x, .int .i64 (at5 : Int)] 108)).cell? ⟨w5.heap.size, 1, none⟩ = some (.int .i64 (at5 : Int)) := cell_of_block hM.wd 1
          have cC : (w5.alloc (.cells #[.string x, .int .i64 (at5 : Int)] 108)).cell? ⟨C, 28, none⟩ = some tv := (cell_of_block hM.cel 28).trans (cfgRow_get HH.out.1.wfc tv)
          clear l5 t5 hnext cb i5
          subst htv
          have hsz5 : w1.heap.size ≤ w5.heap.size := hM.qM
          by_cases hten : x = tenName
          · subst hten
            have e0 : (tenName.toList == [116, 101, 110, 97, 110, 116]) = true := by kernel_rfl
            go_upto_region 15 with (fail)
            generalize w5.alloc (.cells #[.string tenName, .int .i64 (at5 : Int)] 108) = W at *
            generalize w5.heap.size = q at *
            clear e0 cd0 cd1
            have hwf1 := HH.out.1.wfc
            have hMC := HH.out.1.MC
            have hten := tenant_any b g cp Y.1 Y.2 1 W.drew (hM.quiet (Turn.refl _ _).drew).line (hM.quiet (Turn.refl _ _).drew).env
            have cCd : W.drew.cell? ⟨C, 28, none⟩ = some (.slice ao l.length cp1) := cC
            have HM := Lib.hid hM
            clear hM cC
            rcases except_cases (tenantP Y.1 Y.2 1) with ⟨pl, r7⟩ | ⟨⟨t, n7⟩, r7⟩
            · have hcall2 : Calls Tryz.prog 52 #[.pointer (some ⟨b, 0, none⟩)] W.drew (fun e w1 => ∃ pp, e = .panicked [{ v := .iface 60 (.agg #[.pointer (some ⟨pp, 0, none⟩)]), recovered := false }] ∧ CfgPost (fromP s.size (X :: Ls)) w e w1) := by
                refine hten.mono ?_
                intro e w1 h1
                rw [r7] at h1
                have hf := (HM.out.quiet (Turn.refl _ _).drew).fails HH.out.1 z1 h1 (fun k e => Or.inl e)
                obtain ⟨pp, he, _⟩ := h1
                have hR := HR.out.1 pl (lineP_err r5 (bodyP_tenErr r7))
                exact ⟨pp, he, by rw [hR]; exact hf⟩
              go_region_dies
              all_goals (refine hcall2.mono ?_; rintro e w1 ⟨pp, rfl, hpost⟩; exact ⟨rfl, hpost⟩)
            have hbt := tenantP_bnd r7
            have HB := Lib.hid (bodyP_tenOk (c := c1) (a := at5) r7)
            obtain ⟨row, hrow⟩ : ∃ row, row = tenRow t (.slice none 0 0) (.slice none 0 0) (.slice none 0 0) := ⟨_, rfl⟩
            have hrs : row.size = 33 := by rw [hrow]; exact tenRow_size hbt.2.2.2 _ _ _
            have hr1 : ∀ u ∈ row.toList, u.oneCell' = true := by rw [hrow]; exact ten_one _ _ _ _ rfl rfl rfl
            have hbs := fold_ten row hrs
            have hcall2 : Calls Tryz.prog 52 #[.pointer (some ⟨b, 0, none⟩)] W.drew (fun e w8 => e = .returned (.agg row) ∧ CfMid wr w1.heap.size b g cp C q Y n7 c1 (.slice ao l.length cp1) l tenName at5 w8) := by
              refine hten.mono ?_
              intro e w9 h1
              rw [r7] at h1
              obtain ⟨he, l1, t1⟩ := h1
              have hQ := HM.out.quiet (Turn.refl _ _).drew
              have hMwr := HH.out.1.Ml
              exact ⟨by rw [he, hrow], l1, hQ.env.line l1.low t1, (t1.block C (block_lt hQ.cel) (by omega)).trans hQ.cel, hQ.tens.low t1 (fun k e => by omega), hQ.turn.trans2 t1 (fun k _ e => Or.inl e), (t1.block q (block_lt hQ.wd) (by have := hQ.qM; omega)).trans hQ.wd, hQ.qM⟩
            obtain ⟨i0, hi0, hz0, hz1, hz2⟩ := info_parts tenInfo
            have HROW := Lib.hid (And.intro hrow hr1)
            have h7M : 7 ≤ w1.heap.size := he1.six
            have hlen : l.length ≤ 100001 := by have := HH.out.1.cnt; omega
            clear hten hrow hr1
            go_region_law
              (first
                | (go_simp; go_at_call 52; refine hcall2.mono ?_; rintro e w7 ⟨rfl, hq⟩; have hc : w7.cell? ⟨C, 28, none⟩ = some (.slice ao l.length cp1) := (cell_of_block hq.cel 28).trans (cfgRow_get hwf1 _); have hc2 := alloc_cell hc; have HQ := Lib.hid hq; clear hq)
                | (refine step_append_lies _ (by rfl) _ _ _ (by rfl) w1.heap.size 45 i0 (.agg (tenZero ⟨#[]⟩)) 33 160 Tryz.underlying27 hi0 hz0 hz1 hz2 rfl (by decide) (.slice ao l.length cp1) l.length _ (by rfl) (HQ.out.tens.row.alloc _) ⟨w7.heap.size, 0, none⟩ 1 1 row.toList (by rfl) (by rw [Array.length_toList]; exact hrs) (World.news_of_block (cs := row) (t := 45) (fr := (0, 0)) (heap_alloc_new w7 _)) HROW.out.2 (by omega) (by unfold maxLen; omega) (by omega) (by have := HQ.out.turn.size; have := HH.out.1.Ml; simp; omega) (w7.heap.size + 1) (by simp) ?_
                   intro g' cap' w' hown' hgrow hwhere hlt'
                   obtain ⟨hM8, hc8, hf8⟩ := (HQ.out.quiet ((Turn.refl (fun _ => False) w7).alloc (.cells row 45))).tenant (tv' := .slice (some ⟨g', 0, none⟩) (l.length + 1) cap') (t := t) hMC z2 z3 h7M hwf1 hbt.2.2.2 hbt.1 hbt.2.1 hbt.2.2.1 (by rw [← HROW.out.1]; exact hown') (turn_of_grown hgrow)
                   have HM8 := Lib.hid hM8
                   clear hM8 hown' hgrow hwhere hlt'))
            all_goals
              have hl8 := HM8.out.line
              rcases except_cases (doneP Y.1 n7) with ⟨pl, r8⟩ | ⟨⟨⟩, r8⟩
              · have hd8 := r8
                unfold doneP at hd8
                split at hd8
                · rename_i y hy
                  have hpl : y.2 = pl := by injection hd8
                  have hdn := done_no b g cp Y.1 Y.2 n7 _ hl8 y.1 y.2 hy
                  have HP : Hid (∀ e w8, Fails y.2 (fun _ => False) w e w8 → CfgPost (fromP s.size (X :: Ls)) w e w8) := Lib.hid (fun e w8 hf => by rw [HR.out.1 pl (lineP_doneErr r5 HB.out r8), ← hpl]; exact hf)
                  clear r8 hd8 hl8
                  go_wp2_with fail
                  refine hdn.mono ?_
                  intro e w8 hf
                  have hf2 := HM8.out.fails HH.out.1 z1 hf (fun k e => e.elim)
                  obtain ⟨pp, rfl, _⟩ := hf
                  exact ⟨rfl, HP.out _ _ hf2⟩
                · cases hd8
              · have hdn : Y.1[n7]? = none := by
                  unfold doneP at r8
                  split at r8
                  · cases r8
                  · assumption
                have hd9 := done_ok b g cp Y.1 Y.2 n7 _ hl8 hdn
                have HL : Hid (lineP c1 Y = .ok { c1 with tens := c1.tens ++ [t] }) := Lib.hid (lineP_ok r5 HB.out r8)
                clear hdn hl8 r8
                go_wp2_with (go_at_call 50; refine hd9.mono ?_; rintro e w9 ⟨rfl, t9⟩)
                have hat := HM8.out.toAt HH.out.1 HH.out.2.2.1 t9 (by rw [List.map_append, HH.out.1.eqt]; rfl) hwf1 (by
                              intro u hu
                              rw [tot_take HH.out.2.2.2.1]
                              rcases List.mem_append.1 hu with hu | hu
                              · exact bnd_mono HH.out.1.bnd (Nat.le_add_right _ _) u hu
                              · rw [List.mem_singleton.1 hu]; exact ⟨by rw [hbt.1]; exact Nat.zero_le _, by rw [hbt.2.1]; exact Nat.zero_le _, by rw [hbt.2.2.1]; exact Nat.zero_le _⟩) (by rw [List.length_append]; have := HH.out.1.cnt; simp; omega)
                go_roundg (N - 1 - (k + 1))
                case measure => omega
                case rel => exact ⟨k + 1, rfl, by omega, by go_num, Lib.hid ⟨_, _, _, hat, HR.out.2 _ HL.out⟩⟩
          have e0 : (x.toList == [116, 101, 110, 97, 110, 116]) = false := by have := str_ne hten; rwa [show tenName.toList = [116, 101, 110, 97, 110, 116] by kernel_rfl] at this
          have HTEN := Lib.hid hten
          clear hten
          by_cases hl0 : l = []
          · subst hl0
            have hct : c1.tens = [] := HH.out.1.eqt.symm
            have HP : Hid (∀ e w8, Fails at5 (fun _ => False) w e w8 → CfgPost (fromP s.size (X :: Ls)) w e w8) := Lib.hid (fun e w8 hf => by rw [HR.out.1 at5 (lineP_err r5 (bodyP_nil HTEN.out hct))]; exact hf)
            clear hct r5
            go_wp2_with fail
            refine (fail_any at5 _).mono ?_
            intro e w8 hf
            have hf2 := hM.fails HH.out.1 z1 hf (fun k e => e.elim)
            obtain ⟨pp, rfl, _⟩ := hf
            exact ⟨rfl, HP.out _ _ hf2⟩
          have hl1 : ((l.length : Int) == 0) = false := by rw [beq_eq_false_iff_ne]; have := List.length_pos_iff.2 hl0; omega
          obtain ⟨ls, xm, rfl⟩ : ∃ ls xm, l = ls ++ [xm] := ⟨l.dropLast, l.getLast hl0, (List.dropLast_concat_getLast hl0).symm⟩
          obtain ⟨G, capG, cur, htv2, hMG, hTen⟩ := hM.tens.last
          have hll : (ls ++ [xm]).length = ls.length + 1 := by simp
          rw [hll] at htv2 hl1 cC
          rw [hll] at hM
          injection htv2 with hao _ hcp1
          subst hao
          subst hcp1
          have HLL := Lib.hid hll
          clear hl0
          have HHL := Lib.hid (And.intro hll HH)
          clear HH
          go_upto_region 13 with (fail)
          generalize w5.alloc (.cells #[.string x, .int .i64 (at5 : Int)] 108) = W at *
          generalize w5.heap.size = q at *
          have hM2 := hM.quiet (Turn.refl (fun _ => False) W).drew
          have cC2 : W.drew.cell? ⟨C, 28, none⟩ = some (.slice (some ⟨G, 0, none⟩) (ls.length + 1) cp1) := cC
          have cd02 : W.drew.cell? ⟨q, 0, none⟩ = some (.string x) := cd0
          have cd12 : W.drew.cell? ⟨q, 1, none⟩ = some (.int .i64 (at5 : Int)) := cd1
          have hTen2 := hTen.turn ((Turn.refl (fun _ => False) W).drew) (fun h => h) (fun _ _ h => h)
          clear cC cd0 cd1 hM hTen
          refine region_tail 7 (by kernel_rfl) (by kernel_rfl) _ rfl ?_
          generalize World.drew _ = W7 at *
          have hsub : IntKind.i64.wrap (ls.length : Int) = (ls.length : Int) := by rw [IntKind.wrap_i64]; have := HHL.out.2.out.1.cnt; have := HHL.out.1; omega
          have i7 : (0 : Int) ≤ (ls.length : Int) := by omega
          have i8 : (ls.length : Int) < (ls.length : Int) + 1 := by omega
          have hx := hM2.tens.each xm (by simp)
          have hbn : BndT (tot ((X :: Ls).take (k + 1))) xm.1 := HHL.out.2.out.1.bnd xm.1 (by rw [← HHL.out.2.out.1.eqt]; simp)
          have htt := H.out.2.2.2.1
          have hbig2 : xm.1.pool.length + Y.1.length ≤ 10000000 ∧ xm.1.statics.length ≤ 10000000 ∧ xm.1.twices.length ≤ 10000000 := by
            obtain ⟨q1, q2, q3⟩ := hbn
            have q4 := tot_take_le (X :: Ls) (k + 1)
            have q5 := hM2.line.len
            omega
          have hS := FSt.start hM2.line hM2.env hTen2 (by omega) (by omega) (fun hk => by have := (hx.tag hk).1; omega) (fun hk => by have := (hx.tag hk).1; omega) (by have := HHL.out.2.out.1.Ml; have := hM2.turn.size; omega) he1.six (by have := he1.six; omega)
          have hfield := field_any W7 w1.heap.size b g cp Y.1 Y.2 G (ls.length * 33) 1 at5 cur xm.1 xm.2.1 xm.2.2.1 xm.2.2.2 x hS hbig2.1 hbig2.2.1 hbig2.2.2
          have hMCx := HHL.out.2.out.1.MC
          have hTE := Lib.hid (And.intro hM2 (And.intro hTen2 (And.intro hbn hx)))
          clear hM2 hTen2 hS hbn hx hbig2 htt
          simp only [List.take_succ_cons, List.take_zero, List.drop_succ_cons, List.drop_zero]
          repeat still_step
          try refine wpStill_nil ?_
          go_wp2_with fail
          refine hfield.mono ?_
          intro e w8 h8
          rcases except_cases (fieldP x at5 Y.1 Y.2 1 xm.1) with ⟨pl, r9⟩ | ⟨⟨t9, n9⟩, r9⟩
          · rw [r9] at h8
            have hct : c1.tens = ls.map (·.1) ++ [xm.1] := by rw [← HHL.out.2.out.1.eqt]; simp
            have hf2 := hTE.out.1.fails HHL.out.2.out.1 z1 h8 (fun k e => by
              rcases e with e | e | e
              · exact Or.inl e
              · exact Or.inr (by omega)
              · exact Or.inr ((hTE.out.2.2.2.tag e).1))
            obtain ⟨pp, rfl, _⟩ := h8
            exact ⟨rfl, by rw [HR.out.1 pl (lineP_err r5 (bodyP_fieldErr HTEN.out hct r9))]; exact hf2⟩
          · rw [r9] at h8
            obtain ⟨rfl, cur9, p9, s9, q9, hF⟩ := h8
            have hct : c1.tens = ls.map (·.1) ++ [xm.1] := by rw [← HHL.out.2.out.1.eqt]; simp
            have HM9 := Lib.hid (hTE.out.1.field hMCx hMG hTE.out.2.1.blk hF (ls.map (·.1) ++ [t9]))
            have HB := Lib.hid (bodyP_fieldOk HTEN.out hct r9)
            have HBD := Lib.hid (fieldP_bnd r9 hTE.out.2.2.1 hTE.out.2.2.2.wf)
            clear hF hct r9 hfield
            have hl8 := HM9.out.line
            rcases except_cases (doneP Y.1 n9) with ⟨pl, r8⟩ | ⟨⟨⟩, r8⟩
            · have hd8 := r8
              unfold doneP at hd8
              split at hd8
              · rename_i y hy
                have hpl : y.2 = pl := by injection hd8
                have hdn := done_no b g cp Y.1 Y.2 n9 _ hl8 y.1 y.2 hy
                have HP : Hid (∀ e w8, Fails y.2 (fun _ => False) w e w8 → CfgPost (fromP s.size (X :: Ls)) w e w8) := Lib.hid (fun e w8 hf => by rw [HR.out.1 pl (lineP_doneErr r5 HB.out r8), ← hpl]; exact hf)
                clear r8 hd8 hl8
                go_wp2_with fail
                refine hdn.mono ?_
                intro e w8 hf
                have hf2 := HM9.out.fails HHL.out.2.out.1 z1 hf (fun k e => e.elim)
                obtain ⟨pp, rfl, _⟩ := hf
                exact ⟨rfl, HP.out _ _ hf2⟩
              · cases hd8
            · have hdn : Y.1[n9]? = none := by
                unfold doneP at r8
                split at r8
                · cases r8
                · assumption
              have hd9 := done_ok b g cp Y.1 Y.2 n9 _ hl8 hdn
              have HL : Hid (lineP c1 Y = .ok { c1 with tens := ls.map (·.1) ++ [t9] }) := Lib.hid (lineP_ok r5 HB.out r8)
              clear hdn hl8 r8
              go_wp2_with (go_at_call 50; refine hd9.mono ?_; rintro e w9 ⟨rfl, t_9⟩)
              have hat := HM9.out.toAt HHL.out.2.out.1 HHL.out.2.out.2.2.1 t_9 (by simp) HHL.out.2.out.1.wfc (by
                intro u hu
                rw [tot_take HHL.out.2.out.2.2.2.1]
                have hbo := HHL.out.2.out.1.bnd
                have hct := HHL.out.2.out.1.eqt
                rcases List.mem_append.1 hu with hu | hu
                · exact bnd_mono hbo (Nat.le_add_right _ _) u (by rw [← hct]; simp at hu ⊢; exact Or.inl hu)
                · rw [List.mem_singleton.1 hu]; exact HBD.out.1) (by rw [List.length_append]; have := HHL.out.2.out.1.cnt; simp at this ⊢; omega)
              go_roundg (N - 1 - (k + 1))
              case measure => omega
              case rel => exact ⟨k + 1, rfl, by omega, by go_num, Lib.hid ⟨_, _, _, hat, HR.out.2 _ HL.out⟩⟩
        · have hke : (X :: Ls).drop (k + 1) = [] := List.drop_eq_nil_of_le (by rw [HLs.out]; omega)
          rw [hke] at hgo
          have HGO : Hid (restP Ls c = .ok c1) := Lib.hid hgo.symm
          obtain ⟨ao, cp, htv, _⟩ := own_form hA.tens.row hA.cel (by decide)
          have htv1 : tv.oneCell' = true := by rw [htv]; rfl
          have z29 := cfgRow_size hA.wfc tv
          obtain ⟨stF, kF, tF⟩ := store_whole hA.res (cs := cfgRow c1 tv) (by rw [z29]; rfl) (cfgRow_one _ htv1)
          have hgF := hA.cel
          have hi29 : (Tryz.prog.info? 29).map (·.size) = some (cfgRow c1 tv).size := by rw [z29]; kernel_rfl
          have hne : ¬ (k : Int) < ((N - 1 : Nat) : Int) := by omega
          have htF : TensAt (wr.setRow w.heap.size (cfgRow c1 tv)) w1.heap.size tv l := hA.tens.low tF (fun k e => by subst e; have := hA.rlo; have := hA.loM; omega)
          have HF := Lib.hid (And.intro kF (And.intro tF (And.intro htF hA)))
          clear kF tF htF hA htv z29 hgo hke
          generalize hcs : cfgRow c1 tv = csF at *
          have HCS := Lib.hid hcs
          clear hcs
          go_wp2_with (first | (refine wpList_load_row rfl 29 _ rfl C rfl 29 csF (0, 0) _ hgF Tryz.underlying29 rfl hi29 ?_) | (refine wpList_store_put rfl 29 _ _ rfl w.heap.size 0 csF rfl rfl hi29 _ stF ?_))
          obtain ⟨kF, tF, htF, hA⟩ := HF.out
          exact bodyPost_ret (results_row Tryz.results20 _ _ w.heap.size _ rfl kF _ Tryz.underlying29 rfl hi29) rfl (by rw [HREST.out, HGO.out]; exact ⟨tv, l, by rw [HCS.out], htF.mono (by have := hA.rlo; have := hA.loM; have := hA.wlo; omega), hA.eqt, hA.wfc, hA.turn.trans2 tF (fun i hi e => by omega)⟩)
end Go.Proofs.YtbkpbcmjgbdbkaaGreatDoor
