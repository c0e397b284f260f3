/- seat.Tenant: the walk. No condition. -/
import Derived.Deep.RegionLaw
import Derived.Test.YtbkpbcmjgbdbkaaGreatDoorW0
import Derived.Test.YtbkpbcmjgbdbkaaGreatDoorN6
import Derived.Test.YtbkpbcmjgbdbkaaGreatDoorU2
namespace Go.Proofs.YtbkpbcmjgbdbkaaGreatDoor
open Go.RowKit Go.Lib
set_option linter.unusedVariables false
set_option linter.unusedSimpArgs false
set_option maxRecDepth 100000
set_option pp.maxSteps 2500

theorem TenOwn.bare (W : World) (lo : Nat) {t : Ten} (hw : WfTen t) (h1 : t.pool = []) (h2 : t.statics = []) (h3 : t.twices = []) : TenOwn W lo (t, .slice none 0 0, .slice none 0 0, .slice none 0 0) :=
  ⟨by show W.ownsRow lo 23 1 _ t.pool.length (numCells t.pool); rw [h1]; exact World.ownsRow_nil _ _ _ _, by show W.ownsRow lo 97 2 _ t.statics.length (pairCells t.statics); rw [h2]; exact World.ownsRow_nil _ _ _ _, by show W.ownsRow lo 97 2 _ t.twices.length (pairCells t.twices); rw [h3]; exact World.ownsRow_nil _ _ _ _, fun k hk => by simp [Value.ownBlock] at hk, hw⟩
theorem seat_first (i kind : Nat) (w : World) : ∃ W3, (storeCells ⟨w.heap.size + 1, 0, none⟩ (tenRow (seatTen0 i kind) (.slice none 0 0) (.slice none 0 0) (.slice none 0 0)).toList 0).run Tryz.prog ((w.alloc (.cells (tenZero ⟨#[]⟩) 45)).alloc (.cells (tenZero ⟨#[]⟩) 45)) = .ok () W3 ∧
    BoxAt w w.heap.size (w.heap.size + 1) (seatTen0 i kind) (.slice none 0 0) (.slice none 0 0) (.slice none 0 0) W3 := by
  have t1 := (Turn.refl (fun _ => False) w).alloc (.cells (tenZero ⟨#[]⟩) 45)
  have r1 := block_alloc_new w (.cells (tenZero ⟨#[]⟩) 45)
  have s1 : (w.alloc (.cells (tenZero ⟨#[]⟩) 45)).heap.size = w.heap.size + 1 := by simp
  generalize w.alloc (.cells (tenZero ⟨#[]⟩) 45) = w1 at *
  have t2 := (Turn.refl (fun _ => False) w1).alloc (.cells (tenZero ⟨#[]⟩) 45)
  have r2 := block_alloc_new w1 (.cells (tenZero ⟨#[]⟩) 45)
  have r3 := block_alloc_old (o := .cells (tenZero ⟨#[]⟩) 45) r1
  rw [s1] at r2
  generalize w1.alloc (.cells (tenZero ⟨#[]⟩) 45) = w2 at *
  have hs := tenRow_size (seatTen0_wf i kind) (.slice none 0 0) (.slice none 0 0) (.slice none 0 0)
  obtain ⟨h1, h2, h3⟩ := store_whole r2 (cs := tenRow (seatTen0 i kind) (.slice none 0 0) (.slice none 0 0) (.slice none 0 0)) (by rw [hs]; rfl) (ten_one _ _ _ _ rfl rfl rfl)
  refine ⟨_, h1, (h3.block _ (block_lt r3) (by omega)).trans r3, h2, TenOwn.bare _ _ (seatTen0_wf i kind) rfl rfl rfl, (t1.trans t2).trans2 h3 (fun k hk e => by omega), Nat.le_refl _, by omega⟩
def sT1 (i kind : Nat) : Ten := { seatTen0 i kind with pool := (seatTen i kind).pool }
def sT2 (i kind : Nat) : Ten := { sT1 i kind with lo := (seatTen i kind).lo, hi := (seatTen i kind).hi }
def sT3 (i kind : Nat) : Ten := { sT2 i kind with statics := (seatTen i kind).statics }
def sT4 (i kind : Nat) : Ten := { sT3 i kind with twices := (seatTen i kind).twices }
theorem sT1_a {i kind : Nat} (h : kind / 4 % 2 = 1) : sT1 i kind = { seatTen0 i kind with pool := [quad 5 5 i 1] ++ [quad 5 5 i 2] } := by
  unfold sT1 seatTen
  rw [if_pos h]
  rfl
theorem sT1_b {i kind : Nat} (h : ¬ kind / 4 % 2 = 1) : sT1 i kind = { seatTen0 i kind with pool := [quad 5 5 i 1] } := by
  unfold sT1 seatTen
  rw [if_neg h]
theorem sT2_a {i kind : Nat} (h : kind / 64 % 2 = 1) (a b : Nat) : sT2 i kind = setHi (setLo (setHi (setLo (sT1 i kind) a) b) 1020) 1030 := by
  unfold sT2 seatTen
  rw [if_pos h, if_pos h]
  rfl
theorem sT2_b {i kind : Nat} (h : ¬ kind / 64 % 2 = 1) : sT2 i kind = setHi (setLo (sT1 i kind) 1024) (1024 + kind / 8 % 8) := by
  unfold sT2 seatTen
  rw [if_neg h, if_neg h]
  rfl
theorem sT3_a {i kind : Nat} (h : kind / 128 % 2 = 1) : sT3 i kind = setStat (sT2 i kind) [(quad 10 0 0 9, quad 5 6 i 9)] := by
  unfold sT3 seatTen
  rw [if_pos h]
  rfl
theorem sT3_b {i kind : Nat} (h : ¬ kind / 128 % 2 = 1) : sT3 i kind = sT2 i kind := by
  unfold sT3 seatTen
  rw [if_neg h]
  rfl
theorem sT4_a {i kind : Nat} (h : kind / 256 % 2 = 1) : sT4 i kind = setTwic (sT3 i kind) [(quad 192 168 0 5, quad 8 8 8 8), (quad 192 168 0 6, quad 5 5 i 1)] := by
  unfold sT4 seatTen
  rw [if_pos h]
  rfl
theorem sT4_b {i kind : Nat} (h : ¬ kind / 256 % 2 = 1) : sT4 i kind = sT3 i kind := by
  unfold sT4 seatTen
  rw [if_neg h]
  rfl
theorem seatTen_sT4 (i kind : Nat) : seatTen i kind = setBurst (setRate (setQueue (setSess (sT4 i kind) ((kind / 512 % 8 + 1 : Nat) : Int)) ((kind / 4096 % 4 + 1 : Nat) : Int)) (kind / 16384 % 4)) (kind / 8192 % 8 + 3) := rfl
theorem low_i64 (x k : Nat) (hx : x < 65536) (hk : k < 16) : bits .and .i64 (x : Int) ((2 ^ k - 1 : Nat) : Int) = ((x % 2 ^ k : Nat) : Int) := by
  have hk2 : 2 ^ k < 2 ^ 16 := Nat.pow_lt_pow_right (by omega) hk
  have hlt : x % 2 ^ k < 2 ^ k := Nat.mod_lt _ (Nat.pow_pos (by omega))
  have e1 : (BitVec.ofInt 64 (x : Int)).toNat = x := by rw [BitVec.ofInt_natCast, BitVec.toNat_ofNat]; exact Nat.mod_eq_of_lt (by omega)
  have e2 : (BitVec.ofInt 64 ((2 ^ k - 1 : Nat) : Int)).toNat = 2 ^ k - 1 := by rw [BitVec.ofInt_natCast, BitVec.toNat_ofNat]; exact Nat.mod_eq_of_lt (by omega)
  show IntKind.i64.wrap ((BitVec.ofInt 64 (x : Int) &&& BitVec.ofInt 64 ((2 ^ k - 1 : Nat) : Int)).toNat : Int) = _
  rw [BitVec.toNat_and, e1, e2, Nat.and_two_pow_sub_one_eq_mod, IntKind.wrap_i64]
  omega
theorem ownsRow_low {W : World} {lo lo' e size n : Nat} {v : Value} {xs : List Value} (h : W.ownsRow lo e size v n xs) (hl : lo' ≤ lo) : W.ownsRow lo' e size v n xs :=
  ⟨h.1, h.2.imp id (fun ⟨g, cap, cur, hv, h1, h2, h3, h4, h5, h6⟩ => ⟨g, cap, cur, hv, Nat.le_trans hl h1, h2, h3, h4, h5, h6⟩)⟩
theorem ownsRow_one {W : World} {lo e size n : Nat} {v : Value} {xs : List Value} (h : W.ownsRow lo e size v n xs) : v.oneCell' = true := by
  rcases h.2 with ⟨hv, _⟩ | ⟨g, cap, cur, hv, _⟩ <;> rw [hv] <;> rfl
theorem TenOwn.low {W : World} {lo lo' : Nat} {x : TenM} (h : TenOwn W lo x) (hl : lo' ≤ lo) : TenOwn W lo' x :=
  ⟨ownsRow_low h.pool hl, ownsRow_low h.stat hl, ownsRow_low h.twic hl, h.apart, h.wf⟩
/-- The row handed back. -/
theorem BoxAt.last {w W : World} {r T : Nat} {t : Ten} {p s q : Value} (h : BoxAt w r T t p s q W) : (tenRow t p s q).size = 33 ∧ (Instr.loadAt 45 (.pointer (some ⟨T, 0, none⟩))).run Tryz.prog W = .ok (.agg (tenRow t p s q)) W ∧
    ∃ W2, (storeCells ⟨r, 0, none⟩ (tenRow t p s q).toList 0).run Tryz.prog W = .ok () W2 ∧ W2.heap[r]? = some (.cells (tenRow t p s q) 45 (0, 0)) ∧ TenOwn W2 w.heap.size (t, p, s, q) ∧ Turn (fun _ => False) w W2 := by
  have hs := tenRow_size h.own.wf p s q
  have h1 := h.rT
  have h2 := h.wr
  obtain ⟨a1, a2, a3⟩ := store_whole h.res (cs := tenRow t p s q) (by rw [hs]; rfl) (ten_one _ _ _ _ (ownsRow_one h.own.pool) (ownsRow_one h.own.stat) (ownsRow_one h.own.twic))
  refine ⟨hs, run_loadAt_at hs (fun j u hj => ?_), _, a1, a2, (h.own.turn a3 (fun k hk e => by have := (h.own.tag hk).1; omega)).low (by omega), h.turn.trans2 a3 (fun k hk e => by omega)⟩
  have := (h.cell hj).1
  rwa [← Nat.zero_add j] at this
theorem low_u32 (x k : Nat) (hx : x < 65536) (hk : k < 16) : bits .and .u32 (x : Int) ((2 ^ k - 1 : Nat) : Int) = ((x % 2 ^ k : Nat) : Int) := by
  rw [u32_and_nat x _ (by omega) (by have : 2 ^ k < 2 ^ 16 := Nat.pow_lt_pow_right (by omega) hk; omega), Nat.and_two_pow_sub_one_eq_mod]
theorem free_alloc {W : World} {T : Nat} {cs : Array Value} (h : W.heap[T]? = some (.cells cs 45 (0, 0))) (j : Nat) : ∀ o, (W.alloc o).frozen? ⟨T, j, none⟩ = false := fun o => free_of_block (block_alloc_old h) j
set_option maxHeartbeats 6000000 in
theorem stenant_any (i kind : Nat) (hi : i < 4) (hk : kind < 65536) (w : World) :
    Calls Tryz.prog 46 #[.int .i64 (i : Int), .int .u16 (kind : Int)] w fun e w' => ∃ p s q, e = .returned (.agg (tenRow (seatTen i kind) p s q)) ∧ TenOwn w' w.heap.size (seatTen i kind, p, s, q) ∧ Turn (fun _ => False) w w' := by
  have wi : IntKind.u8.wrap (i : Int) = (i : Int) := by unfold IntKind.wrap; simp [IntKind.bits, IntKind.signed]; omega
  have wi2 : IntKind.u32.wrap (i : Int) = (i : Int) := by unfold IntKind.wrap; simp [IntKind.bits, IntKind.signed]; omega
  have wi3 : IntKind.u32.wrap (100 + (i : Int)) = 100 + (i : Int) := by unfold IntKind.wrap; simp [IntKind.bits, IntKind.signed]; omega
  have wi4 : IntKind.u8.wrap ((i : Int) + 1) = (i : Int) + 1 := by unfold IntKind.wrap; simp [IntKind.bits, IntKind.signed]; omega
  have h1 : ∀ V, Calls Tryz.prog 45 #[.int .u8 10, .int .u8 9, .int .u8 0, .int .u8 ((i : Int) + 1)] V fun e w' => e = .returned (.int .u32 ((quad 10 9 0 (i + 1) : Nat) : Int)) ∧ V = w' := fun V => saddr_any 10 9 0 (i + 1) (by omega) (by omega) (by omega) (by omega) V
  have H1 := Lib.hid h1
  clear h1
  obtain ⟨W3, hst, hbox⟩ := seat_first i kind w
  have HB := Lib.hid hbox
  have hrow := seatRow0 i kind
  have hsz := tenRow_size (seatTen0_wf i kind) (.slice none 0 0) (.slice none 0 0) (.slice none 0 0)
  generalize hR : tenRow (seatTen0 i kind) (.slice none 0 0) (.slice none 0 0) (.slice none 0 0) = R at *
  have HR := Lib.hid (And.intro hR hrow)
  have hi45 : (Tryz.prog.info? 45).map (·.size) = some R.size := by rw [hsz]; kernel_rfl
  have hbt := (built45 ⟨[(97 + UInt8.ofNat i)].toArray⟩ (100 + (i : Int)) (i : Int) ((kind : Int) % 3) ((quad 10 9 0 (i + 1) : Nat) : Int)).trans (congrArg some hrow.symm)
  clear hR hrow hbox
  go_enter Tryz.func46, Tryz.ntmps46
  go_upto_region 3 with (first | (go_at_call 72; refine (sname_any i hi _).mono ?_; rintro e w1 ⟨rfl, rfl⟩) | (go_at_call 45; refine (H1.out _).mono ?_; rintro e w1 ⟨rfl, rfl⟩) | (refine wpList_buildTo rfl 45 _ rfl (some 27) rfl R (Eq.trans (by kernel_rfl) hbt) ?_) | (refine wpList_store_put rfl 45 _ _ rfl (w.heap.size + 1) 0 R rfl rfl hi45 W3 hst ?_))
  clear hst hsz HR hi45 hbt
  generalize w.heap.size + 1 = T at *
  generalize hr : w.heap.size = r at *
  have Hr := Lib.hid hr
  clear hr
  have h2 : ∀ V, Calls Tryz.prog 45 #[.int .u8 5, .int .u8 5, .int .u8 (i : Int), .int .u8 1] V fun e w' => e = .returned (.int .u32 ((quad 5 5 i 1 : Nat) : Int)) ∧ V = w' := fun V => saddr_any 5 5 i 1 (by omega) (by omega) (by omega) (by omega) V
  have H2 := Lib.hid h2
  clear h2
  obtain ⟨kc, kf⟩ := HB.out.cell23 (.cells #[.int .u32 ((quad 5 5 i 1 : Nat) : Int)] 23)
  go_upto_region 4 with (first | (go_at_call 45; refine (H2.out _).mono ?_; rintro e w1 ⟨rfl, rfl⟩))
  have hb1 := HB.out.pool (p' := .slice (some ⟨W3.heap.size, 0, none⟩) 1 1) [quad 5 5 i 1] (World.ownsRow_lit (base := T + 1) (e := 23) (size := 1) W3 #[.int .u32 ((quad 5 5 i 1 : Nat) : Int)] 1 (by have := block_lt HB.out.cel; omega) (by decide) rfl) ((Turn.refl _ W3).alloc _)
  generalize (W3.alloc (Obj.cells #[Value.int IntKind.u32 ((quad 5 5 i 1 : Nat) : Int)] 23)).setCell { block := T, off := 23 } (Value.slice (some { block := W3.heap.size, off := 0 }) 1 1) = W4 at *
  generalize Value.slice (some { block := W3.heap.size, off := 0 }) 1 1 = p1 at *
  have HB1 := Lib.hid hb1
  clear hb1 kc kf HB H1 H2
  try dsimp only [Act.put]
  go_upto_if 34 with (fail)
  go_cut [] (fun w' => ∃ p W5, W5 = w' ∧ Hid (BoxAt w r T (sT1 i kind) p (.slice none 0 0) (.slice none 0 0) W5))
  case first => as_aux_lemma =>
    by_cases hb : kind / 4 % 2 = 1
    · have e4 : bits .and .u16 (kind : Int) 4 = 4 := bit_in kind 2 hk (by omega) hb
      have hp := Lib.hid (sT1_a (i := i) hb)
      have h3 : ∀ V, Calls Tryz.prog 45 #[.int .u8 5, .int .u8 5, .int .u8 (i : Int), .int .u8 2] V fun e w' => e = .returned (.int .u32 ((quad 5 5 i 2 : Nat) : Int)) ∧ V = w' := fun V => saddr_any 5 5 i 2 (by omega) (by omega) (by omega) (by omega) V
      have H3 := Lib.hid h3
      clear h3
      obtain ⟨i0, hi0, hz0, hz1, hz2⟩ := info_parts info23
      have hb2 := HB1.out.quiet (Turn.refl _ W4).drew
      obtain ⟨c1, f1⟩ := hb2.cell (ten_get _ hb2.own.wf p1 (.slice none 0 0) (.slice none 0 0)).1
      have c1 : W4.cell? ⟨T, 23, none⟩ = some p1 := c1
      have f1 : W4.frozen? ⟨T, 23, none⟩ = false := f1
      have c2 := alloc_cell c1
      have HB2 := Lib.hid hb2
      clear hb2
      go_upto_region 5 with (fail)
      go_region_law
          (first
            | (go_simp; go_at_call 45; refine (H3.out _).mono ?_; rintro e w1 ⟨rfl, rfl⟩)
            | (refine step_append_lies _ (by rfl) _ _ _ (by rfl) (T + 1) 23 i0 (.int .u32 0) 1 4 Tryz.underlying41 hi0 hz0 hz1 hz2 rfl (by decide) p1 1 _ (by rfl) (HB2.out.own.pool.alloc _) ⟨W4.drew.heap.size, 0, none⟩ 1 1 [.int .u32 ((quad 5 5 i 2 : Nat) : Int)] (by rfl) (by rfl) (World.news_of_block (block_alloc_new _ _)) (by intro u hu; simp at hu; subst hu; rfl) (by omega) (by unfold maxLen; omega) (by omega) (by have := block_lt HB1.out.cel; simp; omega) (W4.drew.heap.size + 1) (by simp) ?_
               intro g' cap' w' hown' hgrow hwhere hlt'
               have hb3 := HB2.out.quiet ((Turn.refl (fun _ => False) W4.drew).alloc (.cells #[.int .u32 ((quad 5 5 i 2 : Nat) : Int)] 23))
               have hb' := ((turn_of_grown hgrow).block T (block_lt hb3.cel) (fun e => by have := (hb3.own.tag (Or.inl e)).1; omega)).trans hb3.cel
               have hf' : w'.frozen? ⟨T, 23, none⟩ = false := free_of_block hb' _
               have hc' : w'.cell? ⟨T, 23, none⟩ = some p1 := (cell_of_block hb' 23).trans (by rw [← Array.getElem?_toList]; exact (ten_get _ HB2.out.own.wf p1 (.slice none 0 0) (.slice none 0 0)).1)
               have hfin := hb3.pool (p' := .slice (some ⟨g', 0, none⟩) 2 cap') ([quad 5 5 i 1] ++ [quad 5 5 i 2]) hown' (turn_of_grown hgrow)
               have HF := Lib.hid hfin
               clear hfin hb3 hb' hgrow hown' hwhere hlt'))
      all_goals
        try go_wp2_with fail
        go_meet
        exact ⟨_, _, rfl, Lib.hid (by rw [hp.out]; exact HF.out)⟩
    · have e4 : bits .and .u16 (kind : Int) 4 = 0 := bit_out kind 2 hk (by omega) hb
      have hp := Lib.hid (sT1_b (i := i) hb)
      go_wp2_with fail
      go_meet
      exact ⟨_, _, rfl, Lib.hid (by rw [hp.out]; exact HB1.out)⟩
  case rest => as_aux_lemma =>
  obtain ⟨p, W5, hw5, HB2⟩ := hcut
  subst hw5
  clear HB1
  clear wi wi2 wi3 wi4
  obtain ⟨k24, k25, _⟩ := HB2.out.cells
  have f24 := HB2.out.free 24
  have f25 := HB2.out.free 25
  have e8 : bits .and .u16 ((kind : Int) / 8) 7 = (kind : Int) / 8 % 8 := low_bits (kind / 8) 3 (by omega) (by omega)
  have e9 : IntKind.u16.wrap (1024 + (kind : Int) / 8 % 8) = 1024 + (kind : Int) / 8 % 8 := by unfold IntKind.wrap; simp [IntKind.bits, IntKind.signed]; omega
  go_upto_region 7 with (fail)
  clear e8 e9 k24 k25 f24 f25
  have hb6 := (HB2.out.lo 1024 1024 rfl).hi (1024 + kind / 8 % 8) (1024 + (kind : Int) / 8 % 8) (by omega)
  generalize (W5.setCell { block := T, off := 24 } (Value.int IntKind.u16 1024)).setCell { block := T, off := 25 } (Value.int IntKind.u16 (1024 + (kind : Int) / 8 % 8)) = W6 at *
  have HB6 := Lib.hid hb6
  clear hb6 HB2
  go_upto_if 50 with (fail)
  go_cut [] (fun w' => ∃ W5, W5 = w' ∧ Hid (BoxAt w r T (sT2 i kind) p (.slice none 0 0) (.slice none 0 0) W5))
  case first => as_aux_lemma =>
    by_cases hb : kind / 64 % 2 = 1
    · have e4 : bits .and .u16 (kind : Int) 64 = 64 := bit_in kind 6 hk (by omega) hb
      have hp := Lib.hid (sT2_a (i := i) hb 1024 (1024 + kind / 8 % 8))
      obtain ⟨k24, k25, _⟩ := HB6.out.cells
      have f24 := HB6.out.free 24
      have f25 := HB6.out.free 25
      go_wp2_with fail
      go_meet
      refine ⟨_, rfl, Lib.hid ?_⟩
      rw [hp.out]
      exact (HB6.out.lo 1020 1020 rfl).hi 1030 1030 rfl
    · have e4 : bits .and .u16 (kind : Int) 64 = 0 := bit_out kind 6 hk (by omega) hb
      have hp := Lib.hid (sT2_b (i := i) hb)
      go_wp2_with fail
      go_meet
      exact ⟨_, rfl, Lib.hid (by rw [hp.out]; exact HB6.out)⟩
  case rest =>
  clear HB6 W6
  obtain ⟨W6, hw6, HB6⟩ := hcut
  subst hw6
  have h4 : ∀ V, Calls Tryz.prog 45 #[.int .u8 10, .int .u8 0, .int .u8 0, .int .u8 9] V fun e w' => e = .returned (.int .u32 ((quad 10 0 0 9 : Nat) : Int)) ∧ V = w' := fun V => saddr_any 10 0 0 9 (by omega) (by omega) (by omega) (by omega) V
  have h5 : ∀ V, Calls Tryz.prog 45 #[.int .u8 5, .int .u8 6, .int .u8 (i : Int), .int .u8 9] V fun e w' => e = .returned (.int .u32 ((quad 5 6 i 9 : Nat) : Int)) ∧ V = w' := fun V => saddr_any 5 6 i 9 (by omega) (by omega) (by omega) (by omega) V
  have H4 := Lib.hid h4
  have H5 := Lib.hid h5
  clear h4 h5
  go_upto_if 55 with (fail)
  go_cut [] (fun w' => ∃ s W5, W5 = w' ∧ Hid (BoxAt w r T (sT3 i kind) p s (.slice none 0 0) W5))
  case first => as_aux_lemma =>
    by_cases hb : kind / 128 % 2 = 1
    · have e4 : bits .and .u16 (kind : Int) 128 = 128 := bit_in kind 7 hk (by omega) hb
      have hp := Lib.hid (sT3_a (i := i) hb)
      have k27 := fun o => (HB6.out.cellsO o).1
      have f27 := fun o => HB6.out.freeO o 27
      go_wp2_with fail
      refine (H4.out _).mono ?_
      rintro e w1 ⟨rfl, rfl⟩
      go_wp2_with fail
      refine (H5.out _).mono ?_
      rintro e w1 ⟨rfl, rfl⟩
      go_wp2_with fail
      go_meet
      refine ⟨.slice (some ⟨W6.heap.size, 0, none⟩) 1 1, _, rfl, Lib.hid ?_⟩
      rw [hp.out]
      exact HB6.out.stat [(quad 10 0 0 9, quad 5 6 i 9)] _ rfl (by simp)
    · have e4 : bits .and .u16 (kind : Int) 128 = 0 := bit_out kind 7 hk (by omega) hb
      have hp := Lib.hid (sT3_b (i := i) hb)
      go_wp2_with fail
      go_meet
      exact ⟨_, _, rfl, Lib.hid (by rw [hp.out]; exact HB6.out)⟩
  case rest =>
  clear HB6 W6 H4 H5
  obtain ⟨s, W6, hw6, HB6⟩ := hcut
  subst hw6
  have h1 : ∀ V, Calls Tryz.prog 45 #[.int .u8 192, .int .u8 168, .int .u8 0, .int .u8 5] V fun e w' => e = .returned (.int .u32 ((quad 192 168 0 5 : Nat) : Int)) ∧ V = w' := fun V => saddr_any 192 168 0 5 (by omega) (by omega) (by omega) (by omega) V
  have h2 : ∀ V, Calls Tryz.prog 45 #[.int .u8 8, .int .u8 8, .int .u8 8, .int .u8 8] V fun e w' => e = .returned (.int .u32 ((quad 8 8 8 8 : Nat) : Int)) ∧ V = w' := fun V => saddr_any 8 8 8 8 (by omega) (by omega) (by omega) (by omega) V
  have h3 : ∀ V, Calls Tryz.prog 45 #[.int .u8 192, .int .u8 168, .int .u8 0, .int .u8 6] V fun e w' => e = .returned (.int .u32 ((quad 192 168 0 6 : Nat) : Int)) ∧ V = w' := fun V => saddr_any 192 168 0 6 (by omega) (by omega) (by omega) (by omega) V
  have h4 : ∀ V, Calls Tryz.prog 45 #[.int .u8 5, .int .u8 5, .int .u8 (i : Int), .int .u8 1] V fun e w' => e = .returned (.int .u32 ((quad 5 5 i 1 : Nat) : Int)) ∧ V = w' := fun V => saddr_any 5 5 i 1 (by omega) (by omega) (by omega) (by omega) V
  have HC := Lib.hid (And.intro h1 (And.intro h2 (And.intro h3 h4)))
  clear h1 h2 h3 h4
  go_upto_if 64 with (fail)
  go_cut [] (fun w' => ∃ q W5, W5 = w' ∧ Hid (BoxAt w r T (sT4 i kind) p s q W5))
  case first => as_aux_lemma =>
    by_cases hb : kind / 256 % 2 = 1
    · have e4 : bits .and .u16 (kind : Int) 256 = 256 := bit_in kind 8 hk (by omega) hb
      have hp := Lib.hid (sT4_a (i := i) hb)
      have k28 := fun o => (HB6.out.cellsO o).2
      have f28 := fun o => HB6.out.freeO o 28
      go_wp2_with fail
      refine (HC.out.1 _).mono ?_
      rintro e w1 ⟨rfl, rfl⟩
      go_wp2_with fail
      refine (HC.out.2.1 _).mono ?_
      rintro e w1 ⟨rfl, rfl⟩
      go_wp2_with fail
      refine (HC.out.2.2.1 _).mono ?_
      rintro e w1 ⟨rfl, rfl⟩
      go_wp2_with fail
      refine (HC.out.2.2.2 _).mono ?_
      rintro e w1 ⟨rfl, rfl⟩
      go_wp2_with fail
      go_meet
      refine ⟨.slice (some ⟨W6.heap.size, 0, none⟩) 2 2, _, rfl, Lib.hid ?_⟩
      rw [hp.out]
      exact HB6.out.twic [(quad 192 168 0 5, quad 8 8 8 8), (quad 192 168 0 6, quad 5 5 i 1)] _ rfl (by simp)
    · have e4 : bits .and .u16 (kind : Int) 256 = 0 := bit_out kind 8 hk (by omega) hb
      have hp := Lib.hid (sT4_b (i := i) hb)
      go_wp2_with fail
      go_meet
      exact ⟨_, _, rfl, Lib.hid (by rw [hp.out]; exact HB6.out)⟩
  case rest =>
  clear HB6 W6 HC
  obtain ⟨q, W6, hw6, HB6⟩ := hcut
  subst hw6
  obtain ⟨k24, k25, k27, k28, k29, k30, k31, k32⟩ := HB6.out.cells
  clear k24 k25 k27 k28
  have f29 := HB6.out.free 29
  have f30 := HB6.out.free 30
  have f31 := HB6.out.free 31
  have f32 := HB6.out.free 32
  have b1 : bits .and .i64 ((kind : Int) / 512) 7 = (kind : Int) / 512 % 8 := low_i64 (kind / 512) 3 (by omega) (by omega)
  have b2 : bits .and .i64 ((kind : Int) / 4096) 3 = (kind : Int) / 4096 % 4 := low_i64 (kind / 4096) 2 (by omega) (by omega)
  have b3 : bits .and .u32 ((kind : Int) / 16384) 3 = (kind : Int) / 16384 % 4 := low_u32 (kind / 16384) 2 (by omega) (by omega)
  have b4 : bits .and .u32 ((kind : Int) / 8192) 7 = (kind : Int) / 8192 % 8 := low_u32 (kind / 8192) 3 (by omega) (by omega)
  go_upto_region 17 with (fail)
  clear b1 b2 b3 b4 f29 f30 f31 f32 k29 k30 k31 k32
  have hb7 := (((HB6.out.sess (1 + (kind : Int) / 512 % 8)).queue (1 + (kind : Int) / 4096 % 4)).rate (kind / 16384 % 4) ((kind : Int) / 16384 % 4) (by omega)).burst (kind / 8192 % 8 + 3) (3 + (kind : Int) / 8192 % 8) (by omega)
  have hT : setBurst (setRate (setQueue (setSess (sT4 i kind) (1 + (kind : Int) / 512 % 8)) (1 + (kind : Int) / 4096 % 4)) (kind / 16384 % 4)) (kind / 8192 % 8 + 3) = seatTen i kind := by
    rw [seatTen_sT4, show ((kind / 512 % 8 + 1 : Nat) : Int) = 1 + (kind : Int) / 512 % 8 by omega, show ((kind / 4096 % 4 + 1 : Nat) : Int) = 1 + (kind : Int) / 4096 % 4 by omega]
  rw [hT] at hb7
  clear hT
  generalize (((W6.setCell { block := T, off := 29 } (Value.int IntKind.i64 (1 + (kind : Int) / 512 % 8))).setCell { block := T, off := 30 } (Value.int IntKind.i64 (1 + (kind : Int) / 4096 % 4))).setCell { block := T, off := 31 } (Value.int IntKind.u32 ((kind : Int) / 16384 % 4))).setCell { block := T, off := 32 } (Value.int IntKind.u32 (3 + (kind : Int) / 8192 % 8)) = W7 at *
  obtain ⟨z1, kA, W8, st, kR, ho, tn⟩ := hb7.last
  have HF := Lib.hid (And.intro kR (And.intro ho tn))
  clear kR ho tn hb7 HB6
  generalize hrow : tenRow (seatTen i kind) p s q = row at *
  have HROW := Lib.hid hrow
  clear hrow
  have hi45 : (Tryz.prog.info? 45).map (·.size) = some row.size := by rw [z1]; kernel_rfl
  clear z1
  go_wp2_with (first | (refine wpList_load_run rfl 45 _ rfl (.agg row) kA ?_) | (refine wpList_store_put rfl 45 _ _ rfl r 0 row rfl rfl hi45 _ st ?_))
  exact bodyPost_ret (results_row Tryz.results46 _ _ r _ rfl HF.out.1 _ Tryz.underlying45 rfl hi45) rfl ⟨p, s, q, by rw [HROW.out], HF.out.2.1, HF.out.2.2⟩
end Go.Proofs.YtbkpbcmjgbdbkaaGreatDoor
