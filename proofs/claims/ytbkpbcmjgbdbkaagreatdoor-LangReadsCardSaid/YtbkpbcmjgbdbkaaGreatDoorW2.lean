/- seat.Config: the walk. Condition: the kinds can be read. -/
import Derived.Deep.RegionLaw
import Derived.Test.YtbkpbcmjgbdbkaaGreatDoorW1
namespace Go.Proofs.YtbkpbcmjgbdbkaaGreatDoor
open Go.RowKit Go.Lib
set_option linter.unusedVariables false
set_option linter.unusedSimpArgs false
set_option maxRecDepth 100000
set_option pp.maxSteps 2500

def HwsIn (w : World) (v : Value) (l : List Nat) : Prop :=
  ∃ ao cap, v = .slice ao l.length cap ∧ l.length ≤ 1000000000 ∧ (∀ x ∈ l, x < 65536) ∧ ∀ (i x : Nat), l[i]? = some x → ∃ b off, ao = some ⟨b, off, none⟩ ∧ b < w.heap.size ∧ w.cell? ⟨b, off + i, none⟩ = some (.int .u16 (x : Int))
theorem HwsIn.turn {w w' : World} {v : Value} {l : List Nat} (h : HwsIn w v l) (t : Turn (fun _ => False) w w') : HwsIn w' v l := by
  obtain ⟨ao, cap, h1, h2, h3, h4⟩ := h
  refine ⟨ao, cap, h1, h2, h3, fun i x hx => ?_⟩
  obtain ⟨b, off, q1, q2, q3⟩ := h4 i x hx
  exact ⟨b, off, q1, Nat.lt_of_lt_of_le q2 t.size, (cell_turn0 t q2 (fun h => h)).trans q3⟩
/-- The settings of the statements, without their tenants. -/
def seatHead (d : Nat) : Cfg := ⟨quad 10 9 0 200, [2, 1, 0, 0, 0, 0], [2, 2, 0, 0, 0, 0], [2, 3, 0, 0, 0, 0], [200, 0, 0, 0, 0, 0, 0, 0], d % 8, []⟩
def seatTens : Nat → List Nat → List Ten
  | _, [] => []
  | i, k :: l => seatTen i k :: seatTens (i + 1) l
def seatCfg (ks : List Nat) (d : Nat) : Cfg := { seatHead d with tens := seatTens 0 (ks.take 4) }
theorem seatTens_snoc (l : List Nat) (k : Nat) : ∀ i, seatTens i (l ++ [k]) = seatTens i l ++ [seatTen (i + l.length) k] := by
  induction l with
  | nil => intro i; rfl
  | cons x l ih =>
    intro i
    show seatTen i x :: seatTens (i + 1) (l ++ [k]) = _
    rw [ih, show i + 1 + l.length = i + (l.length + 1) by omega]
    rfl
theorem seatHead_wf (d : Nat) (l : List Ten) : WfCfg { seatHead d with tens := l } := ⟨rfl, rfl, rfl, rfl⟩
/-- A tenant with its lists laid behind the others. -/
theorem TensAt.snocOwn {W W1 W' : World} {lo : Nat} {tv tv' : Value} {l : List TenM} {x : TenM} (h : TensAt W lo tv l) (t1 : Turn (fun _ => False) W W1) (hx : TenOwn W1 W.heap.size x) (hlo : lo ≤ W.heap.size)
    (hown : W'.ownsRow lo 45 33 tv' (l.length + 1) (tensCells l ++ (tmRow x).toList)) (tn : Turn (fun k => tv.ownBlock = some k) W1 W') :
    TensAt W' lo tv' (l ++ [x]) := by
  have hp := h.turn t1 (fun _ _ h => h) (fun _ _ _ _ h => h)
  have hlt : ∀ k, tv.ownBlock = some k → k < W.heap.size := fun k hk => by
    obtain ⟨cs, hc⟩ := own_cells h.row hk
    exact block_lt hc
  refine ⟨?_, fun y hy => ?_, ?_⟩
  · rw [List.length_append, tensCells_snoc]; exact hown
  · rcases List.mem_append.1 hy with hy | hy
    · refine (hp.each y hy).turn tn (fun k hk e => ?_)
      obtain ⟨cs, hc⟩ := own_cells hp.row e
      exact (hp.each y hy).not hc (by decide) (by decide) hk
    · rw [List.mem_singleton.1 hy]
      exact (hx.turn tn (fun k hk e => by have := (hx.tag hk).1; have := hlt k e; omega)).low hlo
  · refine List.pairwise_append.2 ⟨h.apart, by simp, fun y hy z hz k h1 h2 => ?_⟩
    rw [List.mem_singleton.1 hz] at h2
    have := ((h.each y hy).tag h1).2.1
    have := (hx.tag h2).1
    omega
theorem built29 (x d : Int) : Tryz.prog.built 29 [(0, .int .u32 x), (1, .agg #[.int .u8 2, .int .u8 1, .int .u8 0, .int .u8 0, .int .u8 0, .int .u8 0]), (2, .agg #[.int .u8 2, .int .u8 2, .int .u8 0, .int .u8 0, .int .u8 0, .int .u8 0]), (3, .agg #[.int .u8 2, .int .u8 3, .int .u8 0, .int .u8 0, .int .u8 0, .int .u8 0]), (4, .agg #[.int .u8 200, .int .u8 0, .int .u8 0, .int .u8 0, .int .u8 0, .int .u8 0, .int .u8 0, .int .u8 0]), (5, .int .u32 d)] =
    some #[.int .u32 x, .int .u8 2, .int .u8 1, .int .u8 0, .int .u8 0, .int .u8 0, .int .u8 0, .int .u8 2, .int .u8 2, .int .u8 0, .int .u8 0, .int .u8 0, .int .u8 0, .int .u8 2, .int .u8 3, .int .u8 0, .int .u8 0, .int .u8 0, .int .u8 0, .int .u8 200, .int .u8 0, .int .u8 0, .int .u8 0, .int .u8 0, .int .u8 0, .int .u8 0, .int .u8 0, .int .u32 d, .slice none 0 0] := by kernel_rfl
theorem seatRowC (d : Nat) : cfgRow (seatHead d) (.slice none 0 0) = #[.int .u32 ((quad 10 9 0 200 : Nat) : Int), .int .u8 2, .int .u8 1, .int .u8 0, .int .u8 0, .int .u8 0, .int .u8 0, .int .u8 2, .int .u8 2, .int .u8 0, .int .u8 0, .int .u8 0, .int .u8 0, .int .u8 2, .int .u8 3, .int .u8 0, .int .u8 0, .int .u8 0, .int .u8 0, .int .u8 200, .int .u8 0, .int .u8 0, .int .u8 0, .int .u8 0, .int .u8 0, .int .u8 0, .int .u8 0, .int .u32 ((d : Int) % 8), .slice none 0 0] := by kernel_rfl
/-- The world in the midst of making settings: k tenants are laid. -/
structure SeAt (w : World) (r C : Nat) (ks : List Nat) (d k : Nat) (tv : Value) (l : List TenM) (W : World) : Prop where
  res : W.heap[r]? = some (.cells (cfgZero 0) 29 (0, 0))
  cel : W.heap[C]? = some (.cells (cfgRow { seatHead d with tens := seatTens 0 (ks.take k) } tv) 29 (0, 0))
  tens : TensAt W (C + 1) tv l
  eqt : l.map (·.1) = seatTens 0 (ks.take k)
  len : l.length = k
  turn : Turn (fun _ => False) w W
  wr : w.heap.size ≤ r
  rC : r < C
theorem SeAt.quiet {w W W' : World} {r C d k : Nat} {ks : List Nat} {tv : Value} {l : List TenM} (h : SeAt w r C ks d k tv l W) (t : Turn (fun _ => False) W W') : SeAt w r C ks d k tv l W' :=
  ⟨(t.block r (block_lt h.res) (fun h => h)).trans h.res, (t.block C (block_lt h.cel) (fun h => h)).trans h.cel, h.tens.turn t (fun _ _ h => h) (fun _ _ _ _ h => h), h.eqt, h.len, h.turn.trans t, h.wr, h.rC⟩
theorem SeAt.cell {w W : World} {r C d k : Nat} {ks : List Nat} {tv : Value} {l : List TenM} (h : SeAt w r C ks d k tv l W) : W.cell? ⟨C, 28, none⟩ = some tv := (cell_of_block h.cel 28).trans (cfgRow_get (seatHead_wf d _) tv)
theorem SeAt.add {w W W1 W' : World} {r C d k x : Nat} {ks : List Nat} {tv tv' p s q : Value} {l : List TenM} (h : SeAt w r C ks d k tv l W) (hx : ks[k]? = some x) (t1 : Turn (fun _ => False) W W1) (ho : TenOwn W1 W.heap.size (seatTen k x, p, s, q))
    (hown : W'.ownsRow (C + 1) 45 33 tv' (k + 1) (tensCells l ++ (tenRow (seatTen k x) p s q).toList)) (tn : Turn (fun k => tv.ownBlock = some k) W1 W') :
    W'.cell? ⟨C, 28, none⟩ = some tv ∧ W'.frozen? ⟨C, 28, none⟩ = false ∧ SeAt w r C ks d (k + 1) tv' (l ++ [(seatTen k x, p, s, q)]) (W'.setCell ⟨C, 28, none⟩ tv') := by
  have hC := block_lt h.cel
  have h1 := h.rC
  have h2 := h.wr
  have hlt : ∀ g, tv.ownBlock = some g → C < g := fun g hg => by have := own1_low h.tens.row hg; omega
  have cel : W'.heap[C]? = some (.cells (cfgRow { seatHead d with tens := seatTens 0 (ks.take k) } tv) 29 (0, 0)) := (tn.block C (Nat.lt_of_lt_of_le hC t1.size) (fun e => by have := hlt C e; omega)).trans ((t1.block C hC (fun h => h)).trans h.cel)
  have res : W'.heap[r]? = some (.cells (cfgZero 0) 29 (0, 0)) := (tn.block r (Nat.lt_of_lt_of_le (by omega) t1.size) (fun e => by have := hlt r e; omega)).trans ((t1.block r (by omega) (fun h => h)).trans h.res)
  have t2 : Turn (fun k => k = C) W' (W'.setCell ⟨C, 28, none⟩ tv') := (Turn.refl (fun k => k = C) W').setCell (p := ⟨C, 28, none⟩) _ (fun _ => rfl)
  have ht := (h.tens.snocOwn t1 ho (by omega) (tv' := tv') (by rw [h.len]; exact hown) tn).low t2 (fun k e => by omega)
  have hk : seatTens 0 (ks.take (k + 1)) = seatTens 0 (ks.take k) ++ [seatTen k x] := by
    have hkl : k < ks.length := (List.getElem?_eq_some_iff.1 hx).1
    rw [List.take_add_one, hx]
    show seatTens 0 (ks.take k ++ [x]) = _
    rw [seatTens_snoc, List.length_take, Nat.zero_add, Nat.min_eq_left (by omega)]
  refine ⟨(cell_of_block cel 28).trans (cfgRow_get (seatHead_wf d _) tv), free_of_block cel 28, (t2.block r (block_lt res) (by omega)).trans res, ?_, ht, ?_, by rw [List.length_append, h.len]; rfl, ((h.turn.trans t1).trans2 tn (fun k hk e => by have := hlt k e; omega)).trans2 t2 (fun k hk e => by omega), h.wr, h.rC⟩
  · have := block_setCell cel 28 tv'
    rwa [cfgRow_set (seatHead_wf d _) tv tv' (seatTens 0 (ks.take (k + 1)))] at this
  · rw [List.map_append, h.eqt, hk]; rfl
theorem se_first (d : Nat) (ks : List Nat) (w : World) : ∃ W3, (storeCells ⟨w.heap.size + 1, 0, none⟩ (cfgRow (seatHead d) (.slice none 0 0)).toList 0).run Tryz.prog ((w.alloc (.cells (cfgZero 0) 29)).alloc (.cells (cfgZero 0) 29)) = .ok () W3 ∧
    SeAt w w.heap.size (w.heap.size + 1) ks d 0 (.slice none 0 0) [] W3 := by
  have t1 := (Turn.refl (fun _ => False) w).alloc (.cells (cfgZero 0) 29)
  have r1 := block_alloc_new w (.cells (cfgZero 0) 29)
  have s1 : (w.alloc (.cells (cfgZero 0) 29)).heap.size = w.heap.size + 1 := by simp
  generalize w.alloc (.cells (cfgZero 0) 29) = w1 at *
  have t2 := (Turn.refl (fun _ => False) w1).alloc (.cells (cfgZero 0) 29)
  have r2 := block_alloc_new w1 (.cells (cfgZero 0) 29)
  have r3 := block_alloc_old (o := .cells (cfgZero 0) 29) r1
  rw [s1] at r2
  generalize w1.alloc (.cells (cfgZero 0) 29) = w2 at *
  have hs := cfgRow_size (seatHead_wf d []) (.slice none 0 0)
  obtain ⟨h1, h2, h3⟩ := store_whole r2 (cs := cfgRow (seatHead d) (.slice none 0 0)) (by rw [show seatHead d = { seatHead d with tens := [] } from rfl, hs]; rfl) (cfgRow_one _ rfl)
  exact ⟨_, h1, (h3.block _ (block_lt r3) (by omega)).trans r3, h2, TensAt.nil _ _, rfl, rfl, (t1.trans t2).trans2 h3 (fun k hk e => by omega), Nat.le_refl _, by omega⟩
theorem agg29 (W : World) : (isAgg 29).run Tryz.prog W = .ok true W := by kernel_rfl
theorem size29 (W : World) : (sizeOf 29).run Tryz.prog W = .ok 29 W := by kernel_rfl
theorem SeAt.last {w W : World} {r C d k : Nat} {ks : List Nat} {tv : Value} {l : List TenM} (h : SeAt w r C ks d k tv l W) (hk : ks.take k = ks.take 4) : (cfgRow (seatCfg ks d) tv).size = 29 ∧ (Instr.loadAt 29 (.pointer (some ⟨C, 0, none⟩))).run Tryz.prog W = .ok (.agg (cfgRow (seatCfg ks d) tv)) W ∧
    ∃ W2, (storeCells ⟨r, 0, none⟩ (cfgRow (seatCfg ks d) tv).toList 0).run Tryz.prog W = .ok () W2 ∧ W2.heap[r]? = some (.cells (cfgRow (seatCfg ks d) tv) 29 (0, 0)) ∧ TensAt W2 w.heap.size tv l ∧ l.map (·.1) = (seatCfg ks d).tens ∧ Turn (fun _ => False) w W2 := by
  have e : ({ seatHead d with tens := seatTens 0 (ks.take k) } : Cfg) = seatCfg ks d := by rw [hk]; rfl
  have cel := h.cel
  rw [e] at cel
  have hs : (cfgRow (seatCfg ks d) tv).size = 29 := cfgRow_size (seatHead_wf d _) tv
  have h1 := h.rC
  have h2 := h.wr
  obtain ⟨a1, a2, a3⟩ := store_whole h.res (cs := cfgRow (seatCfg ks d) tv) (by rw [hs]; rfl) (cfgRow_one _ (ownsRow_one h.tens.row))
  refine ⟨hs, loadAt_agg hs (agg29 W) (size29 W) (fun j u hj => ?_), _, a1, a2, (h.tens.low a3 (fun k e => by omega)).mono (by omega), by rw [h.eqt, hk]; rfl, h.turn.trans2 a3 (fun k hk e => by omega)⟩
  rw [Nat.zero_add]
  exact (cell_of_block cel j).trans (by rw [← Array.getElem?_toList]; exact hj)
def SeatPost (ks : List Nat) (d : Nat) (w : World) (e : Ending) (w' : World) : Prop :=
  ∃ tv l, e = .returned (.agg (cfgRow (seatCfg ks d) tv)) ∧ TensAt w' w.heap.size tv l ∧ l.map (·.1) = (seatCfg ks d).tens ∧ Turn (fun _ => False) w w'
set_option maxHeartbeats 6000000 in
theorem sconfig_any (ks : List Nat) (d : Nat) (hd : d < 256) (kv : Value) (w : World) (hk : HwsIn w kv ks) : Calls Tryz.prog 17 #[kv, .int .u8 (d : Int)] w (SeatPost ks d w) := by
  obtain ⟨ao, cap, rfl, hl, hb, hrd⟩ := hk
  have h1 : ∀ V, Calls Tryz.prog 45 #[.int .u8 10, .int .u8 9, .int .u8 0, .int .u8 200] V fun e w' => e = .returned (.int .u32 ((quad 10 9 0 200 : Nat) : Int)) ∧ V = w' := fun V => saddr_any 10 9 0 200 (by omega) (by omega) (by omega) (by omega) V
  have H1 := Lib.hid h1
  clear h1
  obtain ⟨W3, hst, hse⟩ := se_first d ks w
  have HS := Lib.hid hse
  have hrow := seatRowC d
  have hsz : (cfgRow (seatHead d) (.slice none 0 0)).size = 29 := cfgRow_size (seatHead_wf d []) (.slice none 0 0)
  generalize cfgRow (seatHead d) (.slice none 0 0) = R at *
  have hi29 : (Tryz.prog.info? 29).map (·.size) = some R.size := by rw [hsz]; kernel_rfl
  have hbt := (built29 ((quad 10 9 0 200 : Nat) : Int) ((d : Int) % 8)).trans (congrArg some hrow.symm)
  have HRD := Lib.hid (And.intro hb hrd)
  clear hrow hse hb hrd
  go_enter Tryz.func17, Tryz.ntmps17
  go_upto_region 2 with (first | (go_at_call 45; refine (H1.out _).mono ?_; rintro e w1 ⟨rfl, rfl⟩) | (refine wpList_buildTo rfl 29 _ rfl (some 15) rfl R (Eq.trans (by kernel_rfl) hbt) ?_) | (refine wpList_store_put rfl 29 _ _ rfl (w.heap.size + 1) 0 R rfl rfl hi29 W3 hst ?_))
  clear hst hsz hi29 hbt
  have hrC : Hid (w.heap.size + 1 = w.heap.size + 1) := Lib.hid rfl
  generalize hC : w.heap.size + 1 = C at *
  generalize hr : w.heap.size = r at *
  have HrC := Lib.hid (And.intro hC hr)
  clear hC hr hrC
  go_wp2_with fail
  go_loopg [6] (4 - 0) (fun g i wr => ∃ k : Nat, g = 4 - k ∧ i = .int .i64 (k : Int) ∧ k ≤ 4 ∧ k ≤ ks.length ∧ Hid (∃ tv l, SeAt w r C ks d k tv l wr))
  case atStart => exact ⟨0, rfl, rfl, by omega, by omega, Lib.hid ⟨_, _, HS.out⟩⟩
  case round =>
    obtain ⟨k, rfl, rfl, hk4, hkl, HR⟩ := hrel
    obtain ⟨tv, l, hA⟩ := HR.out
    clear HR
    have i1 : (0 : Int) ≤ (k : Int) := by omega
    by_cases hlt : k < ks.length
    · have i2 : (k : Int) < (ks.length : Int) := by omega
      by_cases hlt4 : k < 4
      · have i3 : (k : Int) < 4 := by omega
        obtain ⟨x, hx⟩ : ∃ x, ks[k]? = some x := ⟨_, List.getElem?_eq_getElem hlt⟩
        obtain ⟨b, off, rfl, hbs, hbc⟩ := HRD.out.2 k x hx
        have hx16 := HRD.out.1 x (List.mem_of_getElem? hx)
        have hB := hA.quiet (Turn.refl _ wr).drew
        have hkc : wr.cell? ⟨b, off + k, none⟩ = some (.int .u16 (x : Int)) := (cell_turn0 hA.turn (by rw [HrC.out.2]; exact hbs) (fun h => h)).trans hbc
        have hkd : wr.drew.cell? ⟨b, off + k, none⟩ = some (.int .u16 (x : Int)) := hkc
        have hcC : wr.drew.cell? ⟨C, 28, none⟩ = some tv := hB.cell
        have hcall := stenant_any k x hlt4 hx16 wr.drew
        obtain ⟨i0, hi0, hz0, hz1, hz2⟩ := info_parts tenInfo
        have hlen := hA.len
        have hcl : C < wr.heap.size := block_lt hA.cel
        obtain ⟨row, hrow⟩ : ∃ row, row = fun p s q => tenRow (seatTen k x) p s q := ⟨_, rfl⟩
        have HX := Lib.hid (And.intro hx (And.intro hB hrow))
        clear hx hA hB hrow
        go_upto_region 5 with (fail)
        have hcall2 : Calls Tryz.prog 46 #[.int .i64 (k : Int), .int .u16 (x : Int)] wr.drew (fun e w7 => ∃ row, e = .returned (.agg row) ∧ w7.cell? ⟨C, 28, none⟩ = some tv ∧ w7.cell? ⟨b, off + k, none⟩ = some (.int .u16 (x : Int)) ∧ row.size = 33 ∧
            Hid (Turn (fun _ => False) wr.drew w7 ∧ ∃ p s q, row = tenRow (seatTen k x) p s q ∧ TenOwn w7 wr.drew.heap.size (seatTen k x, p, s, q))) := by
          refine hcall.mono ?_
          rintro e w7 ⟨p, s, q, he, ho, tn⟩
          exact ⟨_, he, (HX.out.2.1.quiet tn).cell, (cell_turn0 tn (Nat.lt_of_lt_of_le (by rw [HrC.out.2]; exact hbs) HX.out.2.1.turn.size) (fun h => h)).trans hkd, tenRow_size ho.wf p s q, Lib.hid ⟨tn, p, s, q, rfl, ho⟩⟩
        clear hcall
        go_region_law
          (first
            | (go_simp; go_at_call 46; refine hcall2.mono ?_; rintro e w7 ⟨row, rfl, hc, hkc7, hrs, HW⟩; have hc2 := alloc_cell hc; have hbs := fold_ten row hrs; obtain ⟨tn7, p, s, q, hrow7, ho7⟩ := HW.out; have HW7 := Lib.hid (And.intro tn7 (And.intro hrow7 ho7)); clear HW tn7 hrow7 ho7)
            | (refine step_append_lies _ (by rfl) _ _ _ (by rfl) (C + 1) 45 i0 (.agg (tenZero ⟨#[]⟩)) 33 160 Tryz.underlying27 hi0 hz0 hz1 hz2 rfl (by decide) tv k _ (by rfl) (by have hq := ((HX.out.2.1.quiet HW7.out.1).tens.row.alloc (.cells row 45)); rw [hlen] at hq; exact hq) ⟨w7.heap.size, 0, none⟩ 1 1 row.toList (by rfl) (by rw [Array.length_toList]; exact hrs) (World.news_of_block (cs := row) (t := 45) (fr := (0, 0)) (heap_alloc_new w7 _)) (by rw [HW7.out.2.1]; exact ten_one _ _ _ _ (ownsRow_one HW7.out.2.2.pool) (ownsRow_one HW7.out.2.2.stat) (ownsRow_one HW7.out.2.2.twic)) (by omega) (by unfold maxLen; omega) (by omega) (by have := HW7.out.1.size; simp at this; simp; omega) (w7.heap.size + 1) (by simp) ?_
               intro g' cap' w' hown' hgrow hwhere hlt'
               obtain ⟨hc8, hf8, hA8⟩ := HX.out.2.1.add (tv' := .slice (some ⟨g', 0, none⟩) (k + 1) cap') HX.out.1 (HW7.out.1.trans ((Turn.refl (fun _ => False) w7).alloc (.cells row 45))) (HW7.out.2.2.turn ((Turn.refl (fun _ => False) w7).alloc (.cells row 45)) (fun _ _ h => h)) (by rw [← HW7.out.2.1]; exact hown') (turn_of_grown hgrow)
               have HA8 := Lib.hid hA8
               clear hA8 hown' hgrow hwhere hlt'))
        all_goals
          go_wp2_with fail
          go_roundg (4 - (k + 1))
          case measure => omega
          case rel => exact ⟨k + 1, rfl, by go_num, by omega, by omega, Lib.hid ⟨_, _, HA8.out⟩⟩
      · have i3 : ¬ (k : Int) < 4 := by omega
        obtain ⟨z1, kA, W8, st, kR, ht, em, tn⟩ := hA.last (by rw [show k = 4 by omega])
        have HF := Lib.hid (And.intro kR (And.intro ht (And.intro em tn)))
        clear kR ht em tn hA
        generalize hrow : cfgRow (seatCfg ks d) tv = row at *
        have HROW := Lib.hid hrow
        clear hrow
        have hi29 : (Tryz.prog.info? 29).map (·.size) = some row.size := by rw [z1]; kernel_rfl
        clear z1
        go_wp2_with (first | (refine wpList_load_run rfl 29 _ rfl (.agg row) kA ?_) | (refine wpList_store_put rfl 29 _ _ rfl r 0 row rfl rfl hi29 _ st ?_))
        exact bodyPost_ret (results_row Tryz.results17 _ _ r _ rfl HF.out.1 _ Tryz.underlying29 rfl hi29) rfl ⟨tv, l, by rw [HROW.out], HF.out.2.1, HF.out.2.2.1, HF.out.2.2.2⟩
    · have i2 : ¬ (k : Int) < (ks.length : Int) := by omega
      obtain ⟨z1, kA, W8, st, kR, ht, em, tn⟩ := hA.last (by rw [List.take_of_length_le (by omega), List.take_of_length_le (by omega)])
      have HF := Lib.hid (And.intro kR (And.intro ht (And.intro em tn)))
      clear kR ht em tn hA
      generalize hrow : cfgRow (seatCfg ks d) tv = row at *
      have HROW := Lib.hid hrow
      clear hrow
      have hi29 : (Tryz.prog.info? 29).map (·.size) = some row.size := by rw [z1]; kernel_rfl
      clear z1
      go_wp2_with (first | (refine wpList_load_run rfl 29 _ rfl (.agg row) kA ?_) | (refine wpList_store_put rfl 29 _ _ rfl r 0 row rfl rfl hi29 _ st ?_))
      exact bodyPost_ret (results_row Tryz.results17 _ _ r _ rfl HF.out.1 _ Tryz.underlying29 rfl hi29) rfl ⟨tv, l, by rw [HROW.out], HF.out.2.1, HF.out.2.2.1, HF.out.2.2.2⟩
end Go.Proofs.YtbkpbcmjgbdbkaaGreatDoor
