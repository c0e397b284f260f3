/- The reference's line: a tenant; any line. Conditions: Env; lengths. -/
import Derived.Test.YtbkpbcmjgbdbkaaGreatDoorX8
namespace Go.Proofs.YtbkpbcmjgbdbkaaGreatDoor
open Go.RowKit Go.Lib
set_option linter.unusedVariables false
set_option linter.unusedSimpArgs false
set_option maxRecDepth 100000
set_option pp.maxSteps 2500

set_option maxHeartbeats 8000000 in
theorem rline_tenant {lo b g cap en C : Nat} {L : List Wd} {c : Cfg} {tv : Value} {l : List TenM} {w : World} {a0 : Nat} (h : RLine w lo b g cap L en (.ok 0) C c tv l) (hx : L[0]? = some (tenName, a0)) (hlen : l.length ≤ 1000000) :
    Calls Tryz.prog 28 #[.pointer (some ⟨b, 0, none⟩), .pointer (some ⟨C, 0, none⟩)] w (RLinePost w lo b g cap L en C (bodyR c L en)) := by
  obtain ⟨pl, hRA⟩ := h.line
  have hc58 := rword_some b g cap L en 0 pl false w hRA tenName a0 hx
  have e0 : (tenName.toList == [116, 101, 110, 97, 110, 116]) = true := by kernel_rfl
  obtain ⟨i0, hi0, hz0, hz1, hz2⟩ := info_parts tenInfo
  obtain ⟨ao, cp, htv⟩ : ∃ ao cp, tv = .slice ao l.length cp := by
    rcases h.tens.row.2 with ⟨hv, h0⟩ | ⟨G, cp, cur, hv, _⟩
    · exact ⟨none, 0, by rw [hv, h0]⟩
    · exact ⟨_, _, hv⟩
  have hl7 := h.lo7
  have H := Lib.hid (And.intro h hx)
  clear h hRA hx
  go_enter Tryz.func28, Tryz.ntmps28
  go_wp2_with fail
  refine hc58.mono ?_
  rintro e w1 ⟨rfl, q1, t1⟩
  have h1 : RLine w1 lo b g cap L en (.ok 1) C c tv l := H.out.1.call ⟨pl, q1⟩ t1
  have t2 := t1.alloc (.cells #[.string tenName, .int .i64 (a0 : Int)] 82)
  have h2 := h1.quiet ((Turn.refl (fun _ => False) w1).alloc (.cells #[.string tenName, .int .i64 (a0 : Int)] 82))
  have cd0 : (w1.alloc (.cells #[.string tenName, .int .i64 (a0 : Int)] 82)).cell? ⟨w1.heap.size, 0, none⟩ = some (.string tenName) := cell_of_block (block_alloc_new _ _) 0
  have hT := TSt.start h2.line (cs := tenZero ⟨#[]⟩) rfl (T := w1.heap.size + 1) (by simp)
  have H2 := Lib.hid (And.intro h2 t2)
  clear h1 h2 t2 q1 t1 hc58
  go_wp2_with fail
  change Calls _ _ _ ((w1.alloc (.cells #[.string tenName, .int .i64 (a0 : Int)] 82)).alloc (.cells (tenZero ⟨#[]⟩) 45)) _
  clear cd0
  generalize w1.alloc (.cells #[.string tenName, .int .i64 (a0 : Int)] 82) = w0 at *
  generalize w0.alloc (.cells (tenZero ⟨#[]⟩) 45) = W0 at *
  generalize w1.heap.size + 1 = T at *
  obtain ⟨s, a1, hcs, hsz, hw⟩ := rword_any b g cap L en (.ok 1) W0 hT.line
  refine hcs.mono ?_
  rintro e w3 ⟨rfl, q3, t3⟩
  have hT3 := (hT.call q3 t3).quiet ((Turn.refl (fun _ => False) w3).alloc (.cells #[.string s, .int .i64 (a1 : Int)] 82))
  have cn0 : (w3.alloc (.cells #[.string s, .int .i64 (a1 : Int)] 82)).cell? ⟨w3.heap.size, 0, none⟩ = some (.string s) := cell_of_block (block_alloc_new _ _) 0
  have cn1 : (w3.alloc (.cells #[.string s, .int .i64 (a1 : Int)] 82)).cell? ⟨w3.heap.size, 1, none⟩ = some (.int .i64 (a1 : Int)) := cell_of_block (block_alloc_new _ _) 1
  have hblkn : (w3.alloc (.cells #[.string s, .int .i64 (a1 : Int)] 82)).heap[w3.heap.size]? = some (.cells #[.string s, .int .i64 (a1 : Int)] 82 (0, 0)) := block_alloc_new _ _
  have hnb : w3.heap.size ≠ b := by have := hT3.bT; have := (hT.turn.trans2 t3 (fun _ _ e => e)).size; omega
  have hw : ∀ x m, nextP L en 1 = .ok (x, m) → x = (s, a1) := hw
  have hT3 : TSt w0 b g cap L en ((nextP L en 1).map (·.2)) T (tenZero ⟨#[]⟩) (w3.alloc (.cells #[.string s, .int .i64 (a1 : Int)] 82)) := hT3
  clear hT q3 t3 hcs
  go_upto_region 4 with (fail)
  generalize w3.alloc (.cells #[.string s, .int .i64 (a1 : Int)] 82) = W3 at *
  generalize w3.heap.size = q at *
  obtain ⟨vt0, hct0⟩ := hT3.cell (j := 0) (by decide)
  have hft0 := hT3.free 0
  rcases except_cases (nextP L en 1) with ⟨pl2, r1⟩ | ⟨⟨x2, n2⟩, r1⟩
  · rw [r1] at hT3
    obtain ⟨i2, hRA⟩ := hT3.line
    have c4 : W3.cell? ⟨b, 4, none⟩ = some (.bool true) := cell_of_block hRA.ex.1 4
    have HT := Lib.hid (And.intro hT3 (And.intro r1 hw))
    clear hT3 hRA r1 hw hblkn
    go_wp2_with fail
    obtain ⟨st2, hS6, hD⟩ : ∃ st2, TSt w0 b g cap L en st2 T ((tenZero ⟨#[]⟩).setIfInBounds 0 (.string s)) (W3.setCell ⟨T, 0, none⟩ (.string s)) ∧ TenD L en s st2 := ⟨_, HT.out.1.put 0 _, tenD_err HT.out.2.1⟩
    clear c4 cn0 cn1 hct0 hft0 hnb HT
    generalize W3.setCell ⟨T, 0, none⟩ (.string s) = W6 at *
    refine (rmust_any vniName b g cap L en st2 W6 hS6.line).mono ?_
    rintro e w7 ⟨rfl, q3, t3⟩
    have hS7 := hS6.call q3 t3
    clear q3 t3 hS6
    obtain ⟨st3, e3⟩ : ∃ x, x = mustS vniName st2 L en := ⟨_, rfl⟩
    rw [← e3] at hS7
    obtain ⟨v, hc4, hm4, hv4⟩ := rNum_any 16777215 (by decide) b g cap L en st3 w7 hS7.line
    have hS7h := Lib.hid hS7
    clear hS7
    go_wp2_with fail
    refine hc4.mono ?_
    rintro e w8 ⟨rfl, q4, t4⟩
    have hS8 := hS7h.out.call q4 t4
    clear q4 t4 hc4 hS7h
    obtain ⟨st4, e4⟩ : ∃ x, x = (readS (fun l => numOf l 16777215) st3 L en).map (·.2) := ⟨_, rfl⟩
    rw [← e4] at hS8
    obtain ⟨vt4, hct4⟩ := hS8.cell (j := 1) (by decide)
    have hft4 := hS8.free 1
    have hS8p := hS8.put 1 (.int .u32 (v : Int))
    have hS8ph := Lib.hid hS8p
    clear hS8 hS8p
    go_wp2_with fail
    have hS8p := hS8ph.out
    clear hct4 hft4 hS8ph
    generalize w8.setCell ⟨T, 1, none⟩ (.int .u32 (v : Int)) = W8 at *
    refine (rmust_any keyName b g cap L en st4 W8 hS8p.line).mono ?_
    rintro e w9 ⟨rfl, q5, t5⟩
    have hS9 := hS8p.call q5 t5
    clear q5 t5 hS8p
    obtain ⟨st5, e5⟩ : ∃ x, x = mustS keyName st4 L en := ⟨_, rfl⟩
    rw [← e5] at hS9
    obtain ⟨K, hz6, hc6, hv6⟩ := rKey_any b g cap L en st5 w9 hS9.line
    have hS9h := Lib.hid hS9
    clear hS9
    go_wp2_with fail
    refine hc6.mono ?_
    rintro e w10 ⟨rfl, q6, t6⟩
    have hS10 := hS9h.out.call q6 t6
    clear q6 t6 hc6 hS9h
    obtain ⟨st6, e6⟩ : ∃ x, x = (readS keyOf st5 L en).map (·.2) := ⟨_, rfl⟩
    rw [← e6] at hS10
    have hs6 : (u8row K).size = 8 := (u8row_len K).trans hz6
    obtain ⟨st6s, hS10p⟩ := hS10.row 2 (u8row K).toList (by rw [u8row_len, hz6]; decide) (u8row_one K)
    have hS10ph := Lib.hid hS10p
    clear hS10 hS10p
    go_wp2_with fail
    have hS10p := hS10ph.out
    clear st6s hs6 hS10ph
    generalize w10.setRow T (rowPut (((tenZero ⟨#[]⟩).setIfInBounds 0 (.string s)).setIfInBounds 1 (.int .u32 (v : Int))) 2 (u8row K).toList) = W10 at *
    refine (rmust_any vtepName b g cap L en st6 W10 hS10p.line).mono ?_
    rintro e w11 ⟨rfl, q7, t7⟩
    have hS11 := hS10p.call q7 t7
    clear q7 t7 hS10p
    obtain ⟨st7, e7⟩ : ∃ x, x = mustS vtepName st6 L en := ⟨_, rfl⟩
    rw [← e7] at hS11
    obtain ⟨p, hc8, hv8⟩ := rIp_any b g cap L en st7 w11 hS11.line
    have hS11h := Lib.hid hS11
    clear hS11
    go_wp2_with fail
    refine hc8.mono ?_
    rintro e w12 ⟨rfl, q8, t8⟩
    have hS12 := hS11h.out.call q8 t8
    clear q8 t8 hc8 hS11h
    obtain ⟨st8, e8⟩ : ∃ x, x = (readS ipOf st7 L en).map (·.2) := ⟨_, rfl⟩
    rw [← e8] at hS12
    obtain ⟨vt8, hct8⟩ := hS12.cell (j := 10) (by decide)
    have hft8 := hS12.free 10
    have hS12p := hS12.put 10 (.int .u32 (p : Int))
    have hS12ph := Lib.hid hS12p
    clear hS12 hS12p
    go_wp2_with fail
    have hS12p := hS12ph.out
    clear hct8 hft8 hS12ph
    generalize w12.setCell ⟨T, 10, none⟩ (.int .u32 (p : Int)) = W12 at *
    obtain ⟨M, hz9, hc9, hv9⟩ := rMac_any b g cap L en st8 W12 hS12p.line
    have hS12ph := Lib.hid hS12p
    clear hS12p
    go_wp2_with fail
    refine hc9.mono ?_
    rintro e w13 ⟨rfl, q9, t9⟩
    have hS13 := hS12ph.out.call q9 t9
    clear q9 t9 hc9 hS12ph
    obtain ⟨st9, e9⟩ : ∃ x, x = (readS macOf st8 L en).map (·.2) := ⟨_, rfl⟩
    rw [← e9] at hS13
    have hs9 : (u8row M).size = 6 := (u8row_len M).trans hz9
    obtain ⟨st9s, hS13p⟩ := hS13.row 11 (u8row M).toList (by rw [u8row_len, hz9]; decide) (u8row_one M)
    have hS13ph := Lib.hid hS13p
    clear hS13 hS13p
    go_wp2_with fail
    have hS13p := hS13ph.out
    clear st9s hs9 hS13ph
    generalize World.setRow w13 T _ = W13 at *
    refine (rmust_any hostName b g cap L en st9 W13 hS13p.line).mono ?_
    rintro e w14 ⟨rfl, q10, t10⟩
    have hS14 := hS13p.call q10 t10
    clear q10 t10 hS13p
    obtain ⟨st10, e10⟩ : ∃ x, x = mustS hostName st9 L en := ⟨_, rfl⟩
    rw [← e10] at hS14
    obtain ⟨Hm, hz11, hc11, hv11⟩ := rMac_any b g cap L en st10 w14 hS14.line
    have hS14h := Lib.hid hS14
    clear hS14
    go_wp2_with fail
    refine hc11.mono ?_
    rintro e w15 ⟨rfl, q11, t11⟩
    have hS15 := hS14h.out.call q11 t11
    clear q11 t11 hc11 hS14h
    obtain ⟨st11, e11⟩ : ∃ x, x = (readS macOf st10 L en).map (·.2) := ⟨_, rfl⟩
    rw [← e11] at hS15
    have hs11 : (u8row Hm).size = 6 := (u8row_len Hm).trans hz11
    obtain ⟨st11s, hS15p⟩ := hS15.row 17 (u8row Hm).toList (by rw [u8row_len, hz11]; decide) (u8row_one Hm)
    have hS15ph := Lib.hid hS15p
    clear hS15 hS15p
    go_upto_region 16 with (fail)
    have hS15p := hS15ph.out
    clear st11s hs11 hS15ph
    generalize World.setRow w15 T _ = W15 at *
    obtain ⟨row, hrow⟩ : ∃ row, row = tenRow ⟨s, v, K, p, M, Hm, [], 0, 0, 0, [], [], 0, 0, 0, 0⟩ (.slice none 0 0) (.slice none 0 0) (.slice none 0 0) := ⟨_, rfl⟩
    have hcr : (rowPut (rowPut ((rowPut (((tenZero ⟨#[]⟩).setIfInBounds 0 (.string s)).setIfInBounds 1 (.int .u32 (v : Int))) 2 (u8row K).toList).setIfInBounds 10 (.int .u32 (p : Int))) 11 (u8row M).toList) 17 (u8row Hm).toList) = row := (ten_cells s v p K M Hm hz6 hz9 hz11).trans hrow.symm
    rw [hcr] at hS15p
    have hwt : WfTen ⟨s, v, K, p, M, Hm, [], 0, 0, 0, [], [], 0, 0, 0, 0⟩ := ⟨hz6, hz9, hz11⟩
    have hrs : row.size = 33 := hS15p.size
    have hr1 : ∀ u ∈ row.toList, u.oneCell' = true := by rw [hrow]; exact ten_one _ _ _ _ rfl rfl rfl
    have hbs := fold_ten row hrs
    have hfin := tenS_is hD e3 e4 hv4 e5 e6 hv6 e7 e8 hv8 e9 hv9 e10 e11 hv11
    have hR := (H2.out.1.call hS15p.line hS15p.turn).quiet (Turn.refl _ _).drew
    have hblk : W15.drew.heap[T]? = some (.cells row 45 (0, 0)) := hS15p.blk
    have hi45 : (Tryz.prog.info? 45).map (·.size) = some row.size := by rw [hrs]; kernel_rfl
    have hcC : W15.drew.cell? ⟨C, 28, none⟩ = some (.slice ao l.length cp) := by rw [← htv]; exact hR.cell
    have hcC2 := alloc_cell (o := .cells row 45) hcC
    have hR0 := H2.out.1.call hS15p.line hS15p.turn
    have hRA8 := (hR0.quiet (Turn.refl (fun _ => False) W15).drew).quiet ((Turn.refl (fun _ => False) W15.drew).alloc (.cells row 45))
    have hRD8 := (hR0.quiet ((Turn.refl (fun _ => False) W15).alloc (.cells row 45))).quiet (Turn.refl (fun _ => False) (W15.alloc (.cells row 45))).drew
    have hOwn := hRA8.tens.row
    have hOwnD := hRD8.tens.row
    rw [htv] at hOwn hOwnD
    have hNews : ∀ j u, row.toList[j]? = some u → (W15.drew.alloc (.cells row 45)).cell? ((⟨W15.heap.size, 0, none⟩ : Addr).add j) = some u := World.news_of_block (cs := row) (t := 45) (fr := (0, 0)) (heap_alloc_new W15.drew _)
    have hNewsD : ∀ j u, row.toList[j]? = some u → ((W15.alloc (.cells row 45)).drew).cell? ((⟨W15.heap.size, 0, none⟩ : Addr).add j) = some u := World.news_of_block (cs := row) (t := 45) (fr := (0, 0)) (heap_alloc_new W15 _)
    have hTA : (W15.drew.alloc (.cells row 45)).heap[T]? = some (.cells row 45 (0, 0)) := block_alloc_old hblk
    have hTD : ((W15.alloc (.cells row 45)).drew).heap[T]? = some (.cells row 45 (0, 0)) := block_alloc_old (w := W15) hblk
    have hTl := block_lt hTA
    have hTlD := block_lt hTD
    have hTn : (Value.slice ao l.length cp).ownBlock ≠ some T := by
      intro e
      rw [← htv] at e
      obtain ⟨gs, hgs⟩ := own_cells H2.out.1.tens.row e
      have := block_lt hgs
      have := hS15p.fresh
      omega
    have hTC : T ≠ C := by have := block_lt H2.out.1.cel; have := hS15p.fresh; omega
    have hcC3 := alloc_cell (o := .cells row 45) (show W15.cell? ⟨C, 28, none⟩ = _ from hcC)
    have HR := Lib.hid (And.intro hR (And.intro hwt (And.intro hrow (And.intro hr1 (And.intro hfin hS15p.turn)))))
    clear hR hwt hrow hr1 hfin hcr hS15p hD e3 e4 hv4 e5 e6 hv6 e7 e8 hv8 e9 hv9 e10 e11 hv11 hz6 hz9 hz11 hm4
    refine wp_region_held_drew (S := fun w' => w'.heap[T]? = some (.cells row 45 (0, 0))) (by kernel_rfl) hblk (fun hHeld => ?_)
    refine wpAnyH_take (i := 0) (v := .pointer (some ⟨C, 0, none⟩)) rfl (by kernel_rfl) (by kernel_rfl) (by kernel_rfl) (fun _ _ _ h => h) (Or.inl ⟨by rfl, fun w' hSw => by dsimp only at hSw; go_simp⟩) hHeld ?_
    simp only [Act.put, List.setIfInBounds_toArray, List.set_cons_zero, List.set_cons_succ]
    refine wpAnyH_take (i := 1) (v := .pointer (some ⟨C, 0, none⟩)) rfl (by kernel_rfl) (by kernel_rfl) (by kernel_rfl) (fun _ _ _ h => h) (Or.inl ⟨by rfl, fun w' hSw => by dsimp only at hSw; go_simp⟩) hHeld ?_
    simp only [Act.put, List.setIfInBounds_toArray, List.set_cons_zero, List.set_cons_succ]
    refine wpAnyH_take (i := 2) (v := .pointer (some ⟨C, 0, none⟩)) rfl (by kernel_rfl) (by kernel_rfl) (by kernel_rfl) (fun _ _ _ h => h) (Or.inl ⟨by rfl, fun w' hSw => by dsimp only at hSw; go_simp⟩) hHeld ?_
    simp only [Act.put, List.setIfInBounds_toArray, List.set_cons_zero, List.set_cons_succ]
    refine wpAnyH_take (i := 3) (v := .pointer (some ⟨C, 28, none⟩)) rfl (by kernel_rfl) (by kernel_rfl) (by kernel_rfl) (fun _ _ _ h => h) (Or.inl ⟨by rfl, fun w' hSw => by dsimp only at hSw; go_simp⟩) hHeld ?_
    simp only [Act.put, List.setIfInBounds_toArray, List.set_cons_zero, List.set_cons_succ]
    refine wpAnyH_take (i := 5) (v := .agg row) rfl (by kernel_rfl) (by kernel_rfl) (by kernel_rfl) (fun _ _ _ h => h) (Or.inl ⟨by rfl, fun w' hSw => exec_load_row 45 (.tmp 5) rfl T rfl 45 row (0, 0) _ hSw Tryz.underlying45 rfl hi45⟩) hHeld ?_
    simp only [Act.put, List.setIfInBounds_toArray, List.set_cons_zero, List.set_cons_succ]
    refine wpAnyH_ready (rs := [4, 6]) (by kernel_rfl) (by simp) ?_
    refine AllReadyH.cons rfl (fun K hK => ?_) (AllReadyH.cons rfl (fun K hK => ?_) AllReadyH.nil)
    all_goals first
      | (rw [if_pos (by rfl)]
         go_simp
         refine hK.out _ _ (hblk) (fun hHeld => ?_)
         clear hK K
         try simp only [Act.put, List.setIfInBounds_toArray, List.set_cons_zero, List.set_cons_succ]
         refine wpAnyH_ready (rs := [6]) (by kernel_rfl) (by simp) ?_
         refine AllReadyH.cons rfl (fun K hK => ?_) AllReadyH.nil
         rw [if_pos (by rfl)]
         go_simp
         refine hK.out _ _ (by first | exact hTA | exact hTD) (fun hHeld => ?_)
         clear hK K
         try simp only [Act.put, List.setIfInBounds_toArray, List.set_cons_zero, List.set_cons_succ]
         refine wpAnyH_ready (rs := [7]) (by kernel_rfl) (by simp) ?_
         refine AllReadyH.cons rfl (fun K hK => ?_) AllReadyH.nil
         refine step_append_lies _ (by rfl) _ _ _ (by rfl) lo 45 i0 (.agg (tenZero ⟨#[]⟩)) 33 160 Tryz.underlying27 hi0 hz0 hz1 hz2 rfl (by decide) (.slice ao l.length cp) l.length _ (by rfl) (by first | exact hOwn | exact hOwnD) ⟨W15.heap.size, 0, none⟩ 1 1 row.toList (by rfl) (by rw [Array.length_toList]; exact hrs) (by first | exact hNews | exact hNewsD) HR.out.2.2.2.1 (by omega) (by unfold maxLen; omega) (by omega) (by have := HR.out.1.low; simp at this; simp; omega) (W15.heap.size + 1) (by simp) ?_
         intro g' cap' w' hown' hgrow hwhere hlt'
         obtain ⟨hR8, hc8, hf8, ht8⟩ := RLine.tenant (by first | exact hRA8 | exact hRD8) (tv' := .slice (some ⟨g', 0, none⟩) (l.length + 1) cap') HR.out.2.1 rfl rfl rfl (by rw [← HR.out.2.2.1]; exact hown') (by rw [htv]; exact turn_of_grown hgrow)
         rw [htv] at hc8
         have hT8 : w'.heap[T]? = some (.cells row 45 (0, 0)) := (turn_of_grown hgrow).block T (by first | exact hTl | exact hTlD) hTn |>.trans (by first | exact hTA | exact hTD)
         have hT9 : (w'.setCell ⟨C, 28, none⟩ (.slice (some ⟨g', 0, none⟩) (l.length + 1) cap')).heap[T]? = some (.cells row 45 (0, 0)) := by rw [Below.heap_setCell _ _ _ _ hTC]; exact hT8
         have HR8 := Lib.hid (And.intro hR8 ht8)
         clear hR8 ht8 hown' hgrow hwhere hlt'
         refine hK.out _ _ hT8 (fun hHeld => ?_)
         clear hK K
         try simp only [Act.put, List.setIfInBounds_toArray, List.set_cons_zero, List.set_cons_succ]
         refine wpAnyH_take (i := 8) (v := .pointer (some ⟨C, 0, none⟩)) rfl (by kernel_rfl) (by kernel_rfl) (by kernel_rfl) (fun _ _ _ h => h) (Or.inl ⟨by rfl, fun w' hSw => by dsimp only at hSw; go_simp⟩) hHeld ?_
         simp only [Act.put, List.setIfInBounds_toArray, List.set_cons_zero, List.set_cons_succ]
         refine wpAnyH_take (i := 9) (v := .pointer (some ⟨C, 28, none⟩)) rfl (by kernel_rfl) (by kernel_rfl) (by kernel_rfl) (fun _ _ _ h => h) (Or.inl ⟨by rfl, fun w' hSw => by dsimp only at hSw; go_simp⟩) hHeld ?_
         simp only [Act.put, List.setIfInBounds_toArray, List.set_cons_zero, List.set_cons_succ]
         refine wpAnyH_ready (rs := [10]) (by kernel_rfl) (by simp) ?_
         refine AllReadyH.cons rfl (fun K hK => ?_) AllReadyH.nil
         rw [if_pos (by rfl)]
         go_simp
         refine hK.out _ _ (hT9) (fun hHeld => ?_)
         clear hK K
         try simp only [Act.put, List.setIfInBounds_toArray, List.set_cons_zero, List.set_cons_succ]
         refine wpAnyH_done (by kernel_rfl) ?_ _)
      | (rw [if_pos (by rfl)]
         go_simp
         refine hK.out _ _ (by first | exact hTA | exact hTD) (fun hHeld => ?_)
         clear hK K
         try simp only [Act.put, List.setIfInBounds_toArray, List.set_cons_zero, List.set_cons_succ]
         refine wpAnyH_ready (rs := [4]) (by kernel_rfl) (by simp) ?_
         refine AllReadyH.cons rfl (fun K hK => ?_) AllReadyH.nil
         rw [if_pos (by rfl)]
         go_simp
         refine hK.out _ _ (by first | exact hTA | exact hTD) (fun hHeld => ?_)
         clear hK K
         try simp only [Act.put, List.setIfInBounds_toArray, List.set_cons_zero, List.set_cons_succ]
         refine wpAnyH_ready (rs := [7]) (by kernel_rfl) (by simp) ?_
         refine AllReadyH.cons rfl (fun K hK => ?_) AllReadyH.nil
         refine step_append_lies _ (by rfl) _ _ _ (by rfl) lo 45 i0 (.agg (tenZero ⟨#[]⟩)) 33 160 Tryz.underlying27 hi0 hz0 hz1 hz2 rfl (by decide) (.slice ao l.length cp) l.length _ (by rfl) (by first | exact hOwn | exact hOwnD) ⟨W15.heap.size, 0, none⟩ 1 1 row.toList (by rfl) (by rw [Array.length_toList]; exact hrs) (by first | exact hNews | exact hNewsD) HR.out.2.2.2.1 (by omega) (by unfold maxLen; omega) (by omega) (by have := HR.out.1.low; simp at this; simp; omega) (W15.heap.size + 1) (by simp) ?_
         intro g' cap' w' hown' hgrow hwhere hlt'
         obtain ⟨hR8, hc8, hf8, ht8⟩ := RLine.tenant (by first | exact hRA8 | exact hRD8) (tv' := .slice (some ⟨g', 0, none⟩) (l.length + 1) cap') HR.out.2.1 rfl rfl rfl (by rw [← HR.out.2.2.1]; exact hown') (by rw [htv]; exact turn_of_grown hgrow)
         rw [htv] at hc8
         have hT8 : w'.heap[T]? = some (.cells row 45 (0, 0)) := (turn_of_grown hgrow).block T (by first | exact hTl | exact hTlD) hTn |>.trans (by first | exact hTA | exact hTD)
         have hT9 : (w'.setCell ⟨C, 28, none⟩ (.slice (some ⟨g', 0, none⟩) (l.length + 1) cap')).heap[T]? = some (.cells row 45 (0, 0)) := by rw [Below.heap_setCell _ _ _ _ hTC]; exact hT8
         have HR8 := Lib.hid (And.intro hR8 ht8)
         clear hR8 ht8 hown' hgrow hwhere hlt'
         refine hK.out _ _ hT8 (fun hHeld => ?_)
         clear hK K
         try simp only [Act.put, List.setIfInBounds_toArray, List.set_cons_zero, List.set_cons_succ]
         refine wpAnyH_take (i := 8) (v := .pointer (some ⟨C, 0, none⟩)) rfl (by kernel_rfl) (by kernel_rfl) (by kernel_rfl) (fun _ _ _ h => h) (Or.inl ⟨by rfl, fun w' hSw => by dsimp only at hSw; go_simp⟩) hHeld ?_
         simp only [Act.put, List.setIfInBounds_toArray, List.set_cons_zero, List.set_cons_succ]
         refine wpAnyH_take (i := 9) (v := .pointer (some ⟨C, 28, none⟩)) rfl (by kernel_rfl) (by kernel_rfl) (by kernel_rfl) (fun _ _ _ h => h) (Or.inl ⟨by rfl, fun w' hSw => by dsimp only at hSw; go_simp⟩) hHeld ?_
         simp only [Act.put, List.setIfInBounds_toArray, List.set_cons_zero, List.set_cons_succ]
         refine wpAnyH_ready (rs := [10]) (by kernel_rfl) (by simp) ?_
         refine AllReadyH.cons rfl (fun K hK => ?_) AllReadyH.nil
         rw [if_pos (by rfl)]
         go_simp
         refine hK.out _ _ (hT9) (fun hHeld => ?_)
         clear hK K
         try simp only [Act.put, List.setIfInBounds_toArray, List.set_cons_zero, List.set_cons_succ]
         refine wpAnyH_done (by kernel_rfl) ?_ _)
    all_goals
      go_wp2_with fail
      go_end0
      have e : bodyR c L en = (tenantP L en 1).map fun r => ({ c with tens := c.tens ++ [r.1] }, r.2) := by
        unfold bodyR
        rw [nextP_some H.out.2]
        show bodyP c (tenName, a0) L en 1 = _
        unfold bodyP
        rw [if_pos rfl]
      obtain ⟨f1, f2⟩ := HR.out.2.2.2.2.1
      have e2 : (bodyR c L en).map (·.2) = st11 := by rw [e, f1]; cases tenantP L en 1 <;> rfl
      refine ⟨rfl, _, _, _, by rw [e2]; exact HR8.out.1, ?_, ?_⟩
      · have u1 : Turn (fun k => k = b ∨ k = C ∨ lo ≤ k) w W15.drew := (H2.out.2.trans (HR.out.2.2.2.2.2.trans (Turn.refl _ _).drew)).mono (fun _ _ e => Or.inl e)
        have u2 : Turn (fun k => k = b ∨ k = C ∨ lo ≤ k) w (W15.alloc (.cells row 45)) := (H2.out.2.trans (HR.out.2.2.2.2.2.alloc (.cells row 45))).mono (fun _ _ e => Or.inl e)
        first | exact (u1.trans ((Turn.refl (fun k => k = b ∨ k = C ∨ lo ≤ k) W15.drew).alloc (.cells row 45))).trans (HR8.out.2.mono (fun _ _ e => Or.inr e)) | exact (u2.trans (Turn.refl (fun k => k = b ∨ k = C ∨ lo ≤ k) (W15.alloc (.cells row 45))).drew).trans (HR8.out.2.mono (fun _ _ e => Or.inr e))
      · intro u m hu
        rw [e] at hu
        rcases except_cases (tenantP L en 1) with ⟨pl3, r3⟩ | ⟨⟨t3, m3⟩, r3⟩
        · rw [r3] at hu; cases hu
        · obtain rfl := f2 t3 m3 r3
          rw [r3] at hu
          cases hu
          rfl
  · obtain rfl := hw x2 n2 r1
    rw [r1] at hT3
    obtain ⟨i2, hRA⟩ := hT3.line
    have c4 : W3.cell? ⟨b, 4, none⟩ = some (.bool false) := cell_of_block hRA.ex.1 4
    have hname := rname_any s hsz W3 (H2.out.1.env.line hT3.line.low hT3.turn)
    have hqW := block_lt hblkn
    cases hn : nameOf s.data.toList with
    | true =>
      rw [hn] at hname
      have HT := Lib.hid (And.intro hT3 (And.intro r1 hn))
      clear hT3 hRA r1 hw hblkn hn hct0 hft0
      go_wp2_with fail
      refine hname.mono ?_
      rintro e w5 ⟨rfl, t5⟩
      have hT5 := HT.out.1.quiet t5
      have cn0' := (cell_turn0 t5 hqW (fun h => h)).trans cn0
      obtain ⟨vt1, hct1⟩ := hT5.cell (j := 0) (by decide)
      have hft1 := hT5.free 0
      have HT5 := Lib.hid hT5
      clear hT5 t5 cn0 cn1 c4 hname
      go_wp2_with fail
      obtain ⟨st2, hS6, hD⟩ : ∃ st2, TSt w0 b g cap L en st2 T ((tenZero ⟨#[]⟩).setIfInBounds 0 (.string s)) (w5.setCell ⟨T, 0, none⟩ (.string s)) ∧ TenD L en s st2 := ⟨_, HT5.out.put 0 _, tenD_ok HT.out.2.1 HT.out.2.2⟩
      clear cn0' hct1 hft1 hnb HT HT5 hqW
      generalize w5.setCell ⟨T, 0, none⟩ (.string s) = W6 at *
      refine (rmust_any vniName b g cap L en st2 W6 hS6.line).mono ?_
      rintro e w7 ⟨rfl, q3, t3⟩
      have hS7 := hS6.call q3 t3
      clear q3 t3 hS6
      obtain ⟨st3, e3⟩ : ∃ x, x = mustS vniName st2 L en := ⟨_, rfl⟩
      rw [← e3] at hS7
      obtain ⟨v, hc4, hm4, hv4⟩ := rNum_any 16777215 (by decide) b g cap L en st3 w7 hS7.line
      have hS7h := Lib.hid hS7
      clear hS7
      go_wp2_with fail
      refine hc4.mono ?_
      rintro e w8 ⟨rfl, q4, t4⟩
      have hS8 := hS7h.out.call q4 t4
      clear q4 t4 hc4 hS7h
      obtain ⟨st4, e4⟩ : ∃ x, x = (readS (fun l => numOf l 16777215) st3 L en).map (·.2) := ⟨_, rfl⟩
      rw [← e4] at hS8
      obtain ⟨vt4, hct4⟩ := hS8.cell (j := 1) (by decide)
      have hft4 := hS8.free 1
      have hS8p := hS8.put 1 (.int .u32 (v : Int))
      have hS8ph := Lib.hid hS8p
      clear hS8 hS8p
      go_wp2_with fail
      have hS8p := hS8ph.out
      clear hct4 hft4 hS8ph
      generalize w8.setCell ⟨T, 1, none⟩ (.int .u32 (v : Int)) = W8 at *
      refine (rmust_any keyName b g cap L en st4 W8 hS8p.line).mono ?_
      rintro e w9 ⟨rfl, q5, t5⟩
      have hS9 := hS8p.call q5 t5
      clear q5 t5 hS8p
      obtain ⟨st5, e5⟩ : ∃ x, x = mustS keyName st4 L en := ⟨_, rfl⟩
      rw [← e5] at hS9
      obtain ⟨K, hz6, hc6, hv6⟩ := rKey_any b g cap L en st5 w9 hS9.line
      have hS9h := Lib.hid hS9
      clear hS9
      go_wp2_with fail
      refine hc6.mono ?_
      rintro e w10 ⟨rfl, q6, t6⟩
      have hS10 := hS9h.out.call q6 t6
      clear q6 t6 hc6 hS9h
      obtain ⟨st6, e6⟩ : ∃ x, x = (readS keyOf st5 L en).map (·.2) := ⟨_, rfl⟩
      rw [← e6] at hS10
      have hs6 : (u8row K).size = 8 := (u8row_len K).trans hz6
      obtain ⟨st6s, hS10p⟩ := hS10.row 2 (u8row K).toList (by rw [u8row_len, hz6]; decide) (u8row_one K)
      have hS10ph := Lib.hid hS10p
      clear hS10 hS10p
      go_wp2_with fail
      have hS10p := hS10ph.out
      clear st6s hs6 hS10ph
      generalize w10.setRow T (rowPut (((tenZero ⟨#[]⟩).setIfInBounds 0 (.string s)).setIfInBounds 1 (.int .u32 (v : Int))) 2 (u8row K).toList) = W10 at *
      refine (rmust_any vtepName b g cap L en st6 W10 hS10p.line).mono ?_
      rintro e w11 ⟨rfl, q7, t7⟩
      have hS11 := hS10p.call q7 t7
      clear q7 t7 hS10p
      obtain ⟨st7, e7⟩ : ∃ x, x = mustS vtepName st6 L en := ⟨_, rfl⟩
      rw [← e7] at hS11
      obtain ⟨p, hc8, hv8⟩ := rIp_any b g cap L en st7 w11 hS11.line
      have hS11h := Lib.hid hS11
      clear hS11
      go_wp2_with fail
      refine hc8.mono ?_
      rintro e w12 ⟨rfl, q8, t8⟩
      have hS12 := hS11h.out.call q8 t8
      clear q8 t8 hc8 hS11h
      obtain ⟨st8, e8⟩ : ∃ x, x = (readS ipOf st7 L en).map (·.2) := ⟨_, rfl⟩
      rw [← e8] at hS12
      obtain ⟨vt8, hct8⟩ := hS12.cell (j := 10) (by decide)
      have hft8 := hS12.free 10
      have hS12p := hS12.put 10 (.int .u32 (p : Int))
      have hS12ph := Lib.hid hS12p
      clear hS12 hS12p
      go_wp2_with fail
      have hS12p := hS12ph.out
      clear hct8 hft8 hS12ph
      generalize w12.setCell ⟨T, 10, none⟩ (.int .u32 (p : Int)) = W12 at *
      obtain ⟨M, hz9, hc9, hv9⟩ := rMac_any b g cap L en st8 W12 hS12p.line
      have hS12ph := Lib.hid hS12p
      clear hS12p
      go_wp2_with fail
      refine hc9.mono ?_
      rintro e w13 ⟨rfl, q9, t9⟩
      have hS13 := hS12ph.out.call q9 t9
      clear q9 t9 hc9 hS12ph
      obtain ⟨st9, e9⟩ : ∃ x, x = (readS macOf st8 L en).map (·.2) := ⟨_, rfl⟩
      rw [← e9] at hS13
      have hs9 : (u8row M).size = 6 := (u8row_len M).trans hz9
      obtain ⟨st9s, hS13p⟩ := hS13.row 11 (u8row M).toList (by rw [u8row_len, hz9]; decide) (u8row_one M)
      have hS13ph := Lib.hid hS13p
      clear hS13 hS13p
      go_wp2_with fail
      have hS13p := hS13ph.out
      clear st9s hs9 hS13ph
      generalize World.setRow w13 T _ = W13 at *
      refine (rmust_any hostName b g cap L en st9 W13 hS13p.line).mono ?_
      rintro e w14 ⟨rfl, q10, t10⟩
      have hS14 := hS13p.call q10 t10
      clear q10 t10 hS13p
      obtain ⟨st10, e10⟩ : ∃ x, x = mustS hostName st9 L en := ⟨_, rfl⟩
      rw [← e10] at hS14
      obtain ⟨Hm, hz11, hc11, hv11⟩ := rMac_any b g cap L en st10 w14 hS14.line
      have hS14h := Lib.hid hS14
      clear hS14
      go_wp2_with fail
      refine hc11.mono ?_
      rintro e w15 ⟨rfl, q11, t11⟩
      have hS15 := hS14h.out.call q11 t11
      clear q11 t11 hc11 hS14h
      obtain ⟨st11, e11⟩ : ∃ x, x = (readS macOf st10 L en).map (·.2) := ⟨_, rfl⟩
      rw [← e11] at hS15
      have hs11 : (u8row Hm).size = 6 := (u8row_len Hm).trans hz11
      obtain ⟨st11s, hS15p⟩ := hS15.row 17 (u8row Hm).toList (by rw [u8row_len, hz11]; decide) (u8row_one Hm)
      have hS15ph := Lib.hid hS15p
      clear hS15 hS15p
      go_upto_region 16 with (fail)
      have hS15p := hS15ph.out
      clear st11s hs11 hS15ph
      generalize World.setRow w15 T _ = W15 at *
      obtain ⟨row, hrow⟩ : ∃ row, row = tenRow ⟨s, v, K, p, M, Hm, [], 0, 0, 0, [], [], 0, 0, 0, 0⟩ (.slice none 0 0) (.slice none 0 0) (.slice none 0 0) := ⟨_, rfl⟩
      have hcr : (rowPut (rowPut ((rowPut (((tenZero ⟨#[]⟩).setIfInBounds 0 (.string s)).setIfInBounds 1 (.int .u32 (v : Int))) 2 (u8row K).toList).setIfInBounds 10 (.int .u32 (p : Int))) 11 (u8row M).toList) 17 (u8row Hm).toList) = row := (ten_cells s v p K M Hm hz6 hz9 hz11).trans hrow.symm
      rw [hcr] at hS15p
      have hwt : WfTen ⟨s, v, K, p, M, Hm, [], 0, 0, 0, [], [], 0, 0, 0, 0⟩ := ⟨hz6, hz9, hz11⟩
      have hrs : row.size = 33 := hS15p.size
      have hr1 : ∀ u ∈ row.toList, u.oneCell' = true := by rw [hrow]; exact ten_one _ _ _ _ rfl rfl rfl
      have hbs := fold_ten row hrs
      have hfin := tenS_is hD e3 e4 hv4 e5 e6 hv6 e7 e8 hv8 e9 hv9 e10 e11 hv11
      have hR := (H2.out.1.call hS15p.line hS15p.turn).quiet (Turn.refl _ _).drew
      have hblk : W15.drew.heap[T]? = some (.cells row 45 (0, 0)) := hS15p.blk
      have hi45 : (Tryz.prog.info? 45).map (·.size) = some row.size := by rw [hrs]; kernel_rfl
      have hcC : W15.drew.cell? ⟨C, 28, none⟩ = some (.slice ao l.length cp) := by rw [← htv]; exact hR.cell
      have hcC2 := alloc_cell (o := .cells row 45) hcC
      have hR0 := H2.out.1.call hS15p.line hS15p.turn
      have hRA8 := (hR0.quiet (Turn.refl (fun _ => False) W15).drew).quiet ((Turn.refl (fun _ => False) W15.drew).alloc (.cells row 45))
      have hRD8 := (hR0.quiet ((Turn.refl (fun _ => False) W15).alloc (.cells row 45))).quiet (Turn.refl (fun _ => False) (W15.alloc (.cells row 45))).drew
      have hOwn := hRA8.tens.row
      have hOwnD := hRD8.tens.row
      rw [htv] at hOwn hOwnD
      have hNews : ∀ j u, row.toList[j]? = some u → (W15.drew.alloc (.cells row 45)).cell? ((⟨W15.heap.size, 0, none⟩ : Addr).add j) = some u := World.news_of_block (cs := row) (t := 45) (fr := (0, 0)) (heap_alloc_new W15.drew _)
      have hNewsD : ∀ j u, row.toList[j]? = some u → ((W15.alloc (.cells row 45)).drew).cell? ((⟨W15.heap.size, 0, none⟩ : Addr).add j) = some u := World.news_of_block (cs := row) (t := 45) (fr := (0, 0)) (heap_alloc_new W15 _)
      have hTA : (W15.drew.alloc (.cells row 45)).heap[T]? = some (.cells row 45 (0, 0)) := block_alloc_old hblk
      have hTD : ((W15.alloc (.cells row 45)).drew).heap[T]? = some (.cells row 45 (0, 0)) := block_alloc_old (w := W15) hblk
      have hTl := block_lt hTA
      have hTlD := block_lt hTD
      have hTn : (Value.slice ao l.length cp).ownBlock ≠ some T := by
        intro e
        rw [← htv] at e
        obtain ⟨gs, hgs⟩ := own_cells H2.out.1.tens.row e
        have := block_lt hgs
        have := hS15p.fresh
        omega
      have hTC : T ≠ C := by have := block_lt H2.out.1.cel; have := hS15p.fresh; omega
      have hcC3 := alloc_cell (o := .cells row 45) (show W15.cell? ⟨C, 28, none⟩ = _ from hcC)
      have HR := Lib.hid (And.intro hR (And.intro hwt (And.intro hrow (And.intro hr1 (And.intro hfin hS15p.turn)))))
      clear hR hwt hrow hr1 hfin hcr hS15p hD e3 e4 hv4 e5 e6 hv6 e7 e8 hv8 e9 hv9 e10 e11 hv11 hz6 hz9 hz11 hm4
      refine wp_region_held_drew (S := fun w' => w'.heap[T]? = some (.cells row 45 (0, 0))) (by kernel_rfl) hblk (fun hHeld => ?_)
      refine wpAnyH_take (i := 0) (v := .pointer (some ⟨C, 0, none⟩)) rfl (by kernel_rfl) (by kernel_rfl) (by kernel_rfl) (fun _ _ _ h => h) (Or.inl ⟨by rfl, fun w' hSw => by dsimp only at hSw; go_simp⟩) hHeld ?_
      simp only [Act.put, List.setIfInBounds_toArray, List.set_cons_zero, List.set_cons_succ]
      refine wpAnyH_take (i := 1) (v := .pointer (some ⟨C, 0, none⟩)) rfl (by kernel_rfl) (by kernel_rfl) (by kernel_rfl) (fun _ _ _ h => h) (Or.inl ⟨by rfl, fun w' hSw => by dsimp only at hSw; go_simp⟩) hHeld ?_
      simp only [Act.put, List.setIfInBounds_toArray, List.set_cons_zero, List.set_cons_succ]
      refine wpAnyH_take (i := 2) (v := .pointer (some ⟨C, 0, none⟩)) rfl (by kernel_rfl) (by kernel_rfl) (by kernel_rfl) (fun _ _ _ h => h) (Or.inl ⟨by rfl, fun w' hSw => by dsimp only at hSw; go_simp⟩) hHeld ?_
      simp only [Act.put, List.setIfInBounds_toArray, List.set_cons_zero, List.set_cons_succ]
      refine wpAnyH_take (i := 3) (v := .pointer (some ⟨C, 28, none⟩)) rfl (by kernel_rfl) (by kernel_rfl) (by kernel_rfl) (fun _ _ _ h => h) (Or.inl ⟨by rfl, fun w' hSw => by dsimp only at hSw; go_simp⟩) hHeld ?_
      simp only [Act.put, List.setIfInBounds_toArray, List.set_cons_zero, List.set_cons_succ]
      refine wpAnyH_take (i := 5) (v := .agg row) rfl (by kernel_rfl) (by kernel_rfl) (by kernel_rfl) (fun _ _ _ h => h) (Or.inl ⟨by rfl, fun w' hSw => exec_load_row 45 (.tmp 5) rfl T rfl 45 row (0, 0) _ hSw Tryz.underlying45 rfl hi45⟩) hHeld ?_
      simp only [Act.put, List.setIfInBounds_toArray, List.set_cons_zero, List.set_cons_succ]
      refine wpAnyH_ready (rs := [4, 6]) (by kernel_rfl) (by simp) ?_
      refine AllReadyH.cons rfl (fun K hK => ?_) (AllReadyH.cons rfl (fun K hK => ?_) AllReadyH.nil)
      all_goals first
        | (rw [if_pos (by rfl)]
           go_simp
           refine hK.out _ _ (hblk) (fun hHeld => ?_)
           clear hK K
           try simp only [Act.put, List.setIfInBounds_toArray, List.set_cons_zero, List.set_cons_succ]
           refine wpAnyH_ready (rs := [6]) (by kernel_rfl) (by simp) ?_
           refine AllReadyH.cons rfl (fun K hK => ?_) AllReadyH.nil
           rw [if_pos (by rfl)]
           go_simp
           refine hK.out _ _ (by first | exact hTA | exact hTD) (fun hHeld => ?_)
           clear hK K
           try simp only [Act.put, List.setIfInBounds_toArray, List.set_cons_zero, List.set_cons_succ]
           refine wpAnyH_ready (rs := [7]) (by kernel_rfl) (by simp) ?_
           refine AllReadyH.cons rfl (fun K hK => ?_) AllReadyH.nil
           refine step_append_lies _ (by rfl) _ _ _ (by rfl) lo 45 i0 (.agg (tenZero ⟨#[]⟩)) 33 160 Tryz.underlying27 hi0 hz0 hz1 hz2 rfl (by decide) (.slice ao l.length cp) l.length _ (by rfl) (by first | exact hOwn | exact hOwnD) ⟨W15.heap.size, 0, none⟩ 1 1 row.toList (by rfl) (by rw [Array.length_toList]; exact hrs) (by first | exact hNews | exact hNewsD) HR.out.2.2.2.1 (by omega) (by unfold maxLen; omega) (by omega) (by have := HR.out.1.low; simp at this; simp; omega) (W15.heap.size + 1) (by simp) ?_
           intro g' cap' w' hown' hgrow hwhere hlt'
           obtain ⟨hR8, hc8, hf8, ht8⟩ := RLine.tenant (by first | exact hRA8 | exact hRD8) (tv' := .slice (some ⟨g', 0, none⟩) (l.length + 1) cap') HR.out.2.1 rfl rfl rfl (by rw [← HR.out.2.2.1]; exact hown') (by rw [htv]; exact turn_of_grown hgrow)
           rw [htv] at hc8
           have hT8 : w'.heap[T]? = some (.cells row 45 (0, 0)) := (turn_of_grown hgrow).block T (by first | exact hTl | exact hTlD) hTn |>.trans (by first | exact hTA | exact hTD)
           have hT9 : (w'.setCell ⟨C, 28, none⟩ (.slice (some ⟨g', 0, none⟩) (l.length + 1) cap')).heap[T]? = some (.cells row 45 (0, 0)) := by rw [Below.heap_setCell _ _ _ _ hTC]; exact hT8
           have HR8 := Lib.hid (And.intro hR8 ht8)
           clear hR8 ht8 hown' hgrow hwhere hlt'
           refine hK.out _ _ hT8 (fun hHeld => ?_)
           clear hK K
           try simp only [Act.put, List.setIfInBounds_toArray, List.set_cons_zero, List.set_cons_succ]
           refine wpAnyH_take (i := 8) (v := .pointer (some ⟨C, 0, none⟩)) rfl (by kernel_rfl) (by kernel_rfl) (by kernel_rfl) (fun _ _ _ h => h) (Or.inl ⟨by rfl, fun w' hSw => by dsimp only at hSw; go_simp⟩) hHeld ?_
           simp only [Act.put, List.setIfInBounds_toArray, List.set_cons_zero, List.set_cons_succ]
           refine wpAnyH_take (i := 9) (v := .pointer (some ⟨C, 28, none⟩)) rfl (by kernel_rfl) (by kernel_rfl) (by kernel_rfl) (fun _ _ _ h => h) (Or.inl ⟨by rfl, fun w' hSw => by dsimp only at hSw; go_simp⟩) hHeld ?_
           simp only [Act.put, List.setIfInBounds_toArray, List.set_cons_zero, List.set_cons_succ]
           refine wpAnyH_ready (rs := [10]) (by kernel_rfl) (by simp) ?_
           refine AllReadyH.cons rfl (fun K hK => ?_) AllReadyH.nil
           rw [if_pos (by rfl)]
           go_simp
           refine hK.out _ _ (hT9) (fun hHeld => ?_)
           clear hK K
           try simp only [Act.put, List.setIfInBounds_toArray, List.set_cons_zero, List.set_cons_succ]
           refine wpAnyH_done (by kernel_rfl) ?_ _)
        | (rw [if_pos (by rfl)]
           go_simp
           refine hK.out _ _ (by first | exact hTA | exact hTD) (fun hHeld => ?_)
           clear hK K
           try simp only [Act.put, List.setIfInBounds_toArray, List.set_cons_zero, List.set_cons_succ]
           refine wpAnyH_ready (rs := [4]) (by kernel_rfl) (by simp) ?_
           refine AllReadyH.cons rfl (fun K hK => ?_) AllReadyH.nil
           rw [if_pos (by rfl)]
           go_simp
           refine hK.out _ _ (by first | exact hTA | exact hTD) (fun hHeld => ?_)
           clear hK K
           try simp only [Act.put, List.setIfInBounds_toArray, List.set_cons_zero, List.set_cons_succ]
           refine wpAnyH_ready (rs := [7]) (by kernel_rfl) (by simp) ?_
           refine AllReadyH.cons rfl (fun K hK => ?_) AllReadyH.nil
           refine step_append_lies _ (by rfl) _ _ _ (by rfl) lo 45 i0 (.agg (tenZero ⟨#[]⟩)) 33 160 Tryz.underlying27 hi0 hz0 hz1 hz2 rfl (by decide) (.slice ao l.length cp) l.length _ (by rfl) (by first | exact hOwn | exact hOwnD) ⟨W15.heap.size, 0, none⟩ 1 1 row.toList (by rfl) (by rw [Array.length_toList]; exact hrs) (by first | exact hNews | exact hNewsD) HR.out.2.2.2.1 (by omega) (by unfold maxLen; omega) (by omega) (by have := HR.out.1.low; simp at this; simp; omega) (W15.heap.size + 1) (by simp) ?_
           intro g' cap' w' hown' hgrow hwhere hlt'
           obtain ⟨hR8, hc8, hf8, ht8⟩ := RLine.tenant (by first | exact hRA8 | exact hRD8) (tv' := .slice (some ⟨g', 0, none⟩) (l.length + 1) cap') HR.out.2.1 rfl rfl rfl (by rw [← HR.out.2.2.1]; exact hown') (by rw [htv]; exact turn_of_grown hgrow)
           rw [htv] at hc8
           have hT8 : w'.heap[T]? = some (.cells row 45 (0, 0)) := (turn_of_grown hgrow).block T (by first | exact hTl | exact hTlD) hTn |>.trans (by first | exact hTA | exact hTD)
           have hT9 : (w'.setCell ⟨C, 28, none⟩ (.slice (some ⟨g', 0, none⟩) (l.length + 1) cap')).heap[T]? = some (.cells row 45 (0, 0)) := by rw [Below.heap_setCell _ _ _ _ hTC]; exact hT8
           have HR8 := Lib.hid (And.intro hR8 ht8)
           clear hR8 ht8 hown' hgrow hwhere hlt'
           refine hK.out _ _ hT8 (fun hHeld => ?_)
           clear hK K
           try simp only [Act.put, List.setIfInBounds_toArray, List.set_cons_zero, List.set_cons_succ]
           refine wpAnyH_take (i := 8) (v := .pointer (some ⟨C, 0, none⟩)) rfl (by kernel_rfl) (by kernel_rfl) (by kernel_rfl) (fun _ _ _ h => h) (Or.inl ⟨by rfl, fun w' hSw => by dsimp only at hSw; go_simp⟩) hHeld ?_
           simp only [Act.put, List.setIfInBounds_toArray, List.set_cons_zero, List.set_cons_succ]
           refine wpAnyH_take (i := 9) (v := .pointer (some ⟨C, 28, none⟩)) rfl (by kernel_rfl) (by kernel_rfl) (by kernel_rfl) (fun _ _ _ h => h) (Or.inl ⟨by rfl, fun w' hSw => by dsimp only at hSw; go_simp⟩) hHeld ?_
           simp only [Act.put, List.setIfInBounds_toArray, List.set_cons_zero, List.set_cons_succ]
           refine wpAnyH_ready (rs := [10]) (by kernel_rfl) (by simp) ?_
           refine AllReadyH.cons rfl (fun K hK => ?_) AllReadyH.nil
           rw [if_pos (by rfl)]
           go_simp
           refine hK.out _ _ (hT9) (fun hHeld => ?_)
           clear hK K
           try simp only [Act.put, List.setIfInBounds_toArray, List.set_cons_zero, List.set_cons_succ]
           refine wpAnyH_done (by kernel_rfl) ?_ _)
      all_goals
        go_wp2_with fail
        go_end0
        have e : bodyR c L en = (tenantP L en 1).map fun r => ({ c with tens := c.tens ++ [r.1] }, r.2) := by
          unfold bodyR
          rw [nextP_some H.out.2]
          show bodyP c (tenName, a0) L en 1 = _
          unfold bodyP
          rw [if_pos rfl]
        obtain ⟨f1, f2⟩ := HR.out.2.2.2.2.1
        have e2 : (bodyR c L en).map (·.2) = st11 := by rw [e, f1]; cases tenantP L en 1 <;> rfl
        refine ⟨rfl, _, _, _, by rw [e2]; exact HR8.out.1, ?_, ?_⟩
        · have u1 : Turn (fun k => k = b ∨ k = C ∨ lo ≤ k) w W15.drew := (H2.out.2.trans (HR.out.2.2.2.2.2.trans (Turn.refl _ _).drew)).mono (fun _ _ e => Or.inl e)
          have u2 : Turn (fun k => k = b ∨ k = C ∨ lo ≤ k) w (W15.alloc (.cells row 45)) := (H2.out.2.trans (HR.out.2.2.2.2.2.alloc (.cells row 45))).mono (fun _ _ e => Or.inl e)
          first | exact (u1.trans ((Turn.refl (fun k => k = b ∨ k = C ∨ lo ≤ k) W15.drew).alloc (.cells row 45))).trans (HR8.out.2.mono (fun _ _ e => Or.inr e)) | exact (u2.trans (Turn.refl (fun k => k = b ∨ k = C ∨ lo ≤ k) (W15.alloc (.cells row 45))).drew).trans (HR8.out.2.mono (fun _ _ e => Or.inr e))
        · intro u m hu
          rw [e] at hu
          rcases except_cases (tenantP L en 1) with ⟨pl3, r3⟩ | ⟨⟨t3, m3⟩, r3⟩
          · rw [r3] at hu; cases hu
          · obtain rfl := f2 t3 m3 r3
            rw [r3] at hu
            cases hu
            rfl
    | false =>
      rw [hn] at hname
      have HT := Lib.hid (And.intro hT3 (And.intro r1 hn))
      clear hT3 hRA r1 hw hblkn hn hct0 hft0
      go_wp2_with fail
      refine hname.mono ?_
      rintro e w5 ⟨rfl, t5⟩
      have hT5 := HT.out.1.quiet t5
      have cn0' := (cell_turn0 t5 hqW (fun h => h)).trans cn0
      have cn1' := (cell_turn0 t5 hqW (fun h => h)).trans cn1
      have hqW5 := Nat.lt_of_lt_of_le hqW t5.size
      have h29 := rfail_any b g cap L en _ a1 w5 hT5.line
      have HT5 := Lib.hid hT5
      clear hT5 t5 cn0 cn1 c4 hname hqW
      go_wp2_with fail
      refine h29.mono ?_
      rintro e w6 ⟨rfl, q6, t6⟩
      have hT6 := HT5.out.call q6 t6
      have cn0 := (cell_turn0 t6 hqW5 hnb).trans cn0'
      obtain ⟨vt1, hct1⟩ := hT6.cell (j := 0) (by decide)
      have hft1 := hT6.free 0
      have HT6 := Lib.hid hT6
      clear hT6 q6 t6 h29 cn0' cn1'
      go_wp2_with fail
      obtain ⟨st2, hS6, hD⟩ : ∃ st2, TSt w0 b g cap L en st2 T ((tenZero ⟨#[]⟩).setIfInBounds 0 (.string s)) (w6.setCell ⟨T, 0, none⟩ (.string s)) ∧ TenD L en s st2 := ⟨_, HT6.out.put 0 _, tenD_bad HT.out.2.1 HT.out.2.2⟩
      clear cn0 hct1 hft1 hnb HT HT5 HT6 hqW5
      generalize w6.setCell ⟨T, 0, none⟩ (.string s) = W6 at *
      refine (rmust_any vniName b g cap L en st2 W6 hS6.line).mono ?_
      rintro e w7 ⟨rfl, q3, t3⟩
      have hS7 := hS6.call q3 t3
      clear q3 t3 hS6
      obtain ⟨st3, e3⟩ : ∃ x, x = mustS vniName st2 L en := ⟨_, rfl⟩
      rw [← e3] at hS7
      obtain ⟨v, hc4, hm4, hv4⟩ := rNum_any 16777215 (by decide) b g cap L en st3 w7 hS7.line
      have hS7h := Lib.hid hS7
      clear hS7
      go_wp2_with fail
      refine hc4.mono ?_
      rintro e w8 ⟨rfl, q4, t4⟩
      have hS8 := hS7h.out.call q4 t4
      clear q4 t4 hc4 hS7h
      obtain ⟨st4, e4⟩ : ∃ x, x = (readS (fun l => numOf l 16777215) st3 L en).map (·.2) := ⟨_, rfl⟩
      rw [← e4] at hS8
      obtain ⟨vt4, hct4⟩ := hS8.cell (j := 1) (by decide)
      have hft4 := hS8.free 1
      have hS8p := hS8.put 1 (.int .u32 (v : Int))
      have hS8ph := Lib.hid hS8p
      clear hS8 hS8p
      go_wp2_with fail
      have hS8p := hS8ph.out
      clear hct4 hft4 hS8ph
      generalize w8.setCell ⟨T, 1, none⟩ (.int .u32 (v : Int)) = W8 at *
      refine (rmust_any keyName b g cap L en st4 W8 hS8p.line).mono ?_
      rintro e w9 ⟨rfl, q5, t5⟩
      have hS9 := hS8p.call q5 t5
      clear q5 t5 hS8p
      obtain ⟨st5, e5⟩ : ∃ x, x = mustS keyName st4 L en := ⟨_, rfl⟩
      rw [← e5] at hS9
      obtain ⟨K, hz6, hc6, hv6⟩ := rKey_any b g cap L en st5 w9 hS9.line
      have hS9h := Lib.hid hS9
      clear hS9
      go_wp2_with fail
      refine hc6.mono ?_
      rintro e w10 ⟨rfl, q6, t6⟩
      have hS10 := hS9h.out.call q6 t6
      clear q6 t6 hc6 hS9h
      obtain ⟨st6, e6⟩ : ∃ x, x = (readS keyOf st5 L en).map (·.2) := ⟨_, rfl⟩
      rw [← e6] at hS10
      have hs6 : (u8row K).size = 8 := (u8row_len K).trans hz6
      obtain ⟨st6s, hS10p⟩ := hS10.row 2 (u8row K).toList (by rw [u8row_len, hz6]; decide) (u8row_one K)
      have hS10ph := Lib.hid hS10p
      clear hS10 hS10p
      go_wp2_with fail
      have hS10p := hS10ph.out
      clear st6s hs6 hS10ph
      generalize w10.setRow T (rowPut (((tenZero ⟨#[]⟩).setIfInBounds 0 (.string s)).setIfInBounds 1 (.int .u32 (v : Int))) 2 (u8row K).toList) = W10 at *
      refine (rmust_any vtepName b g cap L en st6 W10 hS10p.line).mono ?_
      rintro e w11 ⟨rfl, q7, t7⟩
      have hS11 := hS10p.call q7 t7
      clear q7 t7 hS10p
      obtain ⟨st7, e7⟩ : ∃ x, x = mustS vtepName st6 L en := ⟨_, rfl⟩
      rw [← e7] at hS11
      obtain ⟨p, hc8, hv8⟩ := rIp_any b g cap L en st7 w11 hS11.line
      have hS11h := Lib.hid hS11
      clear hS11
      go_wp2_with fail
      refine hc8.mono ?_
      rintro e w12 ⟨rfl, q8, t8⟩
      have hS12 := hS11h.out.call q8 t8
      clear q8 t8 hc8 hS11h
      obtain ⟨st8, e8⟩ : ∃ x, x = (readS ipOf st7 L en).map (·.2) := ⟨_, rfl⟩
      rw [← e8] at hS12
      obtain ⟨vt8, hct8⟩ := hS12.cell (j := 10) (by decide)
      have hft8 := hS12.free 10
      have hS12p := hS12.put 10 (.int .u32 (p : Int))
      have hS12ph := Lib.hid hS12p
      clear hS12 hS12p
      go_wp2_with fail
      have hS12p := hS12ph.out
      clear hct8 hft8 hS12ph
      generalize w12.setCell ⟨T, 10, none⟩ (.int .u32 (p : Int)) = W12 at *
      obtain ⟨M, hz9, hc9, hv9⟩ := rMac_any b g cap L en st8 W12 hS12p.line
      have hS12ph := Lib.hid hS12p
      clear hS12p
      go_wp2_with fail
      refine hc9.mono ?_
      rintro e w13 ⟨rfl, q9, t9⟩
      have hS13 := hS12ph.out.call q9 t9
      clear q9 t9 hc9 hS12ph
      obtain ⟨st9, e9⟩ : ∃ x, x = (readS macOf st8 L en).map (·.2) := ⟨_, rfl⟩
      rw [← e9] at hS13
      have hs9 : (u8row M).size = 6 := (u8row_len M).trans hz9
      obtain ⟨st9s, hS13p⟩ := hS13.row 11 (u8row M).toList (by rw [u8row_len, hz9]; decide) (u8row_one M)
      have hS13ph := Lib.hid hS13p
      clear hS13 hS13p
      go_wp2_with fail
      have hS13p := hS13ph.out
      clear st9s hs9 hS13ph
      generalize World.setRow w13 T _ = W13 at *
      refine (rmust_any hostName b g cap L en st9 W13 hS13p.line).mono ?_
      rintro e w14 ⟨rfl, q10, t10⟩
      have hS14 := hS13p.call q10 t10
      clear q10 t10 hS13p
      obtain ⟨st10, e10⟩ : ∃ x, x = mustS hostName st9 L en := ⟨_, rfl⟩
      rw [← e10] at hS14
      obtain ⟨Hm, hz11, hc11, hv11⟩ := rMac_any b g cap L en st10 w14 hS14.line
      have hS14h := Lib.hid hS14
      clear hS14
      go_wp2_with fail
      refine hc11.mono ?_
      rintro e w15 ⟨rfl, q11, t11⟩
      have hS15 := hS14h.out.call q11 t11
      clear q11 t11 hc11 hS14h
      obtain ⟨st11, e11⟩ : ∃ x, x = (readS macOf st10 L en).map (·.2) := ⟨_, rfl⟩
      rw [← e11] at hS15
      have hs11 : (u8row Hm).size = 6 := (u8row_len Hm).trans hz11
      obtain ⟨st11s, hS15p⟩ := hS15.row 17 (u8row Hm).toList (by rw [u8row_len, hz11]; decide) (u8row_one Hm)
      have hS15ph := Lib.hid hS15p
      clear hS15 hS15p
      go_upto_region 16 with (fail)
      have hS15p := hS15ph.out
      clear st11s hs11 hS15ph
      generalize World.setRow w15 T _ = W15 at *
      obtain ⟨row, hrow⟩ : ∃ row, row = tenRow ⟨s, v, K, p, M, Hm, [], 0, 0, 0, [], [], 0, 0, 0, 0⟩ (.slice none 0 0) (.slice none 0 0) (.slice none 0 0) := ⟨_, rfl⟩
      have hcr : (rowPut (rowPut ((rowPut (((tenZero ⟨#[]⟩).setIfInBounds 0 (.string s)).setIfInBounds 1 (.int .u32 (v : Int))) 2 (u8row K).toList).setIfInBounds 10 (.int .u32 (p : Int))) 11 (u8row M).toList) 17 (u8row Hm).toList) = row := (ten_cells s v p K M Hm hz6 hz9 hz11).trans hrow.symm
      rw [hcr] at hS15p
      have hwt : WfTen ⟨s, v, K, p, M, Hm, [], 0, 0, 0, [], [], 0, 0, 0, 0⟩ := ⟨hz6, hz9, hz11⟩
      have hrs : row.size = 33 := hS15p.size
      have hr1 : ∀ u ∈ row.toList, u.oneCell' = true := by rw [hrow]; exact ten_one _ _ _ _ rfl rfl rfl
      have hbs := fold_ten row hrs
      have hfin := tenS_is hD e3 e4 hv4 e5 e6 hv6 e7 e8 hv8 e9 hv9 e10 e11 hv11
      have hR := (H2.out.1.call hS15p.line hS15p.turn).quiet (Turn.refl _ _).drew
      have hblk : W15.drew.heap[T]? = some (.cells row 45 (0, 0)) := hS15p.blk
      have hi45 : (Tryz.prog.info? 45).map (·.size) = some row.size := by rw [hrs]; kernel_rfl
      have hcC : W15.drew.cell? ⟨C, 28, none⟩ = some (.slice ao l.length cp) := by rw [← htv]; exact hR.cell
      have hcC2 := alloc_cell (o := .cells row 45) hcC
      have hR0 := H2.out.1.call hS15p.line hS15p.turn
      have hRA8 := (hR0.quiet (Turn.refl (fun _ => False) W15).drew).quiet ((Turn.refl (fun _ => False) W15.drew).alloc (.cells row 45))
      have hRD8 := (hR0.quiet ((Turn.refl (fun _ => False) W15).alloc (.cells row 45))).quiet (Turn.refl (fun _ => False) (W15.alloc (.cells row 45))).drew
      have hOwn := hRA8.tens.row
      have hOwnD := hRD8.tens.row
      rw [htv] at hOwn hOwnD
      have hNews : ∀ j u, row.toList[j]? = some u → (W15.drew.alloc (.cells row 45)).cell? ((⟨W15.heap.size, 0, none⟩ : Addr).add j) = some u := World.news_of_block (cs := row) (t := 45) (fr := (0, 0)) (heap_alloc_new W15.drew _)
      have hNewsD : ∀ j u, row.toList[j]? = some u → ((W15.alloc (.cells row 45)).drew).cell? ((⟨W15.heap.size, 0, none⟩ : Addr).add j) = some u := World.news_of_block (cs := row) (t := 45) (fr := (0, 0)) (heap_alloc_new W15 _)
      have hTA : (W15.drew.alloc (.cells row 45)).heap[T]? = some (.cells row 45 (0, 0)) := block_alloc_old hblk
      have hTD : ((W15.alloc (.cells row 45)).drew).heap[T]? = some (.cells row 45 (0, 0)) := block_alloc_old (w := W15) hblk
      have hTl := block_lt hTA
      have hTlD := block_lt hTD
      have hTn : (Value.slice ao l.length cp).ownBlock ≠ some T := by
        intro e
        rw [← htv] at e
        obtain ⟨gs, hgs⟩ := own_cells H2.out.1.tens.row e
        have := block_lt hgs
        have := hS15p.fresh
        omega
      have hTC : T ≠ C := by have := block_lt H2.out.1.cel; have := hS15p.fresh; omega
      have hcC3 := alloc_cell (o := .cells row 45) (show W15.cell? ⟨C, 28, none⟩ = _ from hcC)
      have HR := Lib.hid (And.intro hR (And.intro hwt (And.intro hrow (And.intro hr1 (And.intro hfin hS15p.turn)))))
      clear hR hwt hrow hr1 hfin hcr hS15p hD e3 e4 hv4 e5 e6 hv6 e7 e8 hv8 e9 hv9 e10 e11 hv11 hz6 hz9 hz11 hm4
      refine wp_region_held_drew (S := fun w' => w'.heap[T]? = some (.cells row 45 (0, 0))) (by kernel_rfl) hblk (fun hHeld => ?_)
      refine wpAnyH_take (i := 0) (v := .pointer (some ⟨C, 0, none⟩)) rfl (by kernel_rfl) (by kernel_rfl) (by kernel_rfl) (fun _ _ _ h => h) (Or.inl ⟨by rfl, fun w' hSw => by dsimp only at hSw; go_simp⟩) hHeld ?_
      simp only [Act.put, List.setIfInBounds_toArray, List.set_cons_zero, List.set_cons_succ]
      refine wpAnyH_take (i := 1) (v := .pointer (some ⟨C, 0, none⟩)) rfl (by kernel_rfl) (by kernel_rfl) (by kernel_rfl) (fun _ _ _ h => h) (Or.inl ⟨by rfl, fun w' hSw => by dsimp only at hSw; go_simp⟩) hHeld ?_
      simp only [Act.put, List.setIfInBounds_toArray, List.set_cons_zero, List.set_cons_succ]
      refine wpAnyH_take (i := 2) (v := .pointer (some ⟨C, 0, none⟩)) rfl (by kernel_rfl) (by kernel_rfl) (by kernel_rfl) (fun _ _ _ h => h) (Or.inl ⟨by rfl, fun w' hSw => by dsimp only at hSw; go_simp⟩) hHeld ?_
      simp only [Act.put, List.setIfInBounds_toArray, List.set_cons_zero, List.set_cons_succ]
      refine wpAnyH_take (i := 3) (v := .pointer (some ⟨C, 28, none⟩)) rfl (by kernel_rfl) (by kernel_rfl) (by kernel_rfl) (fun _ _ _ h => h) (Or.inl ⟨by rfl, fun w' hSw => by dsimp only at hSw; go_simp⟩) hHeld ?_
      simp only [Act.put, List.setIfInBounds_toArray, List.set_cons_zero, List.set_cons_succ]
      refine wpAnyH_take (i := 5) (v := .agg row) rfl (by kernel_rfl) (by kernel_rfl) (by kernel_rfl) (fun _ _ _ h => h) (Or.inl ⟨by rfl, fun w' hSw => exec_load_row 45 (.tmp 5) rfl T rfl 45 row (0, 0) _ hSw Tryz.underlying45 rfl hi45⟩) hHeld ?_
      simp only [Act.put, List.setIfInBounds_toArray, List.set_cons_zero, List.set_cons_succ]
      refine wpAnyH_ready (rs := [4, 6]) (by kernel_rfl) (by simp) ?_
      refine AllReadyH.cons rfl (fun K hK => ?_) (AllReadyH.cons rfl (fun K hK => ?_) AllReadyH.nil)
      all_goals first
        | (rw [if_pos (by rfl)]
           go_simp
           refine hK.out _ _ (hblk) (fun hHeld => ?_)
           clear hK K
           try simp only [Act.put, List.setIfInBounds_toArray, List.set_cons_zero, List.set_cons_succ]
           refine wpAnyH_ready (rs := [6]) (by kernel_rfl) (by simp) ?_
           refine AllReadyH.cons rfl (fun K hK => ?_) AllReadyH.nil
           rw [if_pos (by rfl)]
           go_simp
           refine hK.out _ _ (by first | exact hTA | exact hTD) (fun hHeld => ?_)
           clear hK K
           try simp only [Act.put, List.setIfInBounds_toArray, List.set_cons_zero, List.set_cons_succ]
           refine wpAnyH_ready (rs := [7]) (by kernel_rfl) (by simp) ?_
           refine AllReadyH.cons rfl (fun K hK => ?_) AllReadyH.nil
           refine step_append_lies _ (by rfl) _ _ _ (by rfl) lo 45 i0 (.agg (tenZero ⟨#[]⟩)) 33 160 Tryz.underlying27 hi0 hz0 hz1 hz2 rfl (by decide) (.slice ao l.length cp) l.length _ (by rfl) (by first | exact hOwn | exact hOwnD) ⟨W15.heap.size, 0, none⟩ 1 1 row.toList (by rfl) (by rw [Array.length_toList]; exact hrs) (by first | exact hNews | exact hNewsD) HR.out.2.2.2.1 (by omega) (by unfold maxLen; omega) (by omega) (by have := HR.out.1.low; simp at this; simp; omega) (W15.heap.size + 1) (by simp) ?_
           intro g' cap' w' hown' hgrow hwhere hlt'
           obtain ⟨hR8, hc8, hf8, ht8⟩ := RLine.tenant (by first | exact hRA8 | exact hRD8) (tv' := .slice (some ⟨g', 0, none⟩) (l.length + 1) cap') HR.out.2.1 rfl rfl rfl (by rw [← HR.out.2.2.1]; exact hown') (by rw [htv]; exact turn_of_grown hgrow)
           rw [htv] at hc8
           have hT8 : w'.heap[T]? = some (.cells row 45 (0, 0)) := (turn_of_grown hgrow).block T (by first | exact hTl | exact hTlD) hTn |>.trans (by first | exact hTA | exact hTD)
           have hT9 : (w'.setCell ⟨C, 28, none⟩ (.slice (some ⟨g', 0, none⟩) (l.length + 1) cap')).heap[T]? = some (.cells row 45 (0, 0)) := by rw [Below.heap_setCell _ _ _ _ hTC]; exact hT8
           have HR8 := Lib.hid (And.intro hR8 ht8)
           clear hR8 ht8 hown' hgrow hwhere hlt'
           refine hK.out _ _ hT8 (fun hHeld => ?_)
           clear hK K
           try simp only [Act.put, List.setIfInBounds_toArray, List.set_cons_zero, List.set_cons_succ]
           refine wpAnyH_take (i := 8) (v := .pointer (some ⟨C, 0, none⟩)) rfl (by kernel_rfl) (by kernel_rfl) (by kernel_rfl) (fun _ _ _ h => h) (Or.inl ⟨by rfl, fun w' hSw => by dsimp only at hSw; go_simp⟩) hHeld ?_
           simp only [Act.put, List.setIfInBounds_toArray, List.set_cons_zero, List.set_cons_succ]
           refine wpAnyH_take (i := 9) (v := .pointer (some ⟨C, 28, none⟩)) rfl (by kernel_rfl) (by kernel_rfl) (by kernel_rfl) (fun _ _ _ h => h) (Or.inl ⟨by rfl, fun w' hSw => by dsimp only at hSw; go_simp⟩) hHeld ?_
           simp only [Act.put, List.setIfInBounds_toArray, List.set_cons_zero, List.set_cons_succ]
           refine wpAnyH_ready (rs := [10]) (by kernel_rfl) (by simp) ?_
           refine AllReadyH.cons rfl (fun K hK => ?_) AllReadyH.nil
           rw [if_pos (by rfl)]
           go_simp
           refine hK.out _ _ (hT9) (fun hHeld => ?_)
           clear hK K
           try simp only [Act.put, List.setIfInBounds_toArray, List.set_cons_zero, List.set_cons_succ]
           refine wpAnyH_done (by kernel_rfl) ?_ _)
        | (rw [if_pos (by rfl)]
           go_simp
           refine hK.out _ _ (by first | exact hTA | exact hTD) (fun hHeld => ?_)
           clear hK K
           try simp only [Act.put, List.setIfInBounds_toArray, List.set_cons_zero, List.set_cons_succ]
           refine wpAnyH_ready (rs := [4]) (by kernel_rfl) (by simp) ?_
           refine AllReadyH.cons rfl (fun K hK => ?_) AllReadyH.nil
           rw [if_pos (by rfl)]
           go_simp
           refine hK.out _ _ (by first | exact hTA | exact hTD) (fun hHeld => ?_)
           clear hK K
           try simp only [Act.put, List.setIfInBounds_toArray, List.set_cons_zero, List.set_cons_succ]
           refine wpAnyH_ready (rs := [7]) (by kernel_rfl) (by simp) ?_
           refine AllReadyH.cons rfl (fun K hK => ?_) AllReadyH.nil
           refine step_append_lies _ (by rfl) _ _ _ (by rfl) lo 45 i0 (.agg (tenZero ⟨#[]⟩)) 33 160 Tryz.underlying27 hi0 hz0 hz1 hz2 rfl (by decide) (.slice ao l.length cp) l.length _ (by rfl) (by first | exact hOwn | exact hOwnD) ⟨W15.heap.size, 0, none⟩ 1 1 row.toList (by rfl) (by rw [Array.length_toList]; exact hrs) (by first | exact hNews | exact hNewsD) HR.out.2.2.2.1 (by omega) (by unfold maxLen; omega) (by omega) (by have := HR.out.1.low; simp at this; simp; omega) (W15.heap.size + 1) (by simp) ?_
           intro g' cap' w' hown' hgrow hwhere hlt'
           obtain ⟨hR8, hc8, hf8, ht8⟩ := RLine.tenant (by first | exact hRA8 | exact hRD8) (tv' := .slice (some ⟨g', 0, none⟩) (l.length + 1) cap') HR.out.2.1 rfl rfl rfl (by rw [← HR.out.2.2.1]; exact hown') (by rw [htv]; exact turn_of_grown hgrow)
           rw [htv] at hc8
           have hT8 : w'.heap[T]? = some (.cells row 45 (0, 0)) := (turn_of_grown hgrow).block T (by first | exact hTl | exact hTlD) hTn |>.trans (by first | exact hTA | exact hTD)
           have hT9 : (w'.setCell ⟨C, 28, none⟩ (.slice (some ⟨g', 0, none⟩) (l.length + 1) cap')).heap[T]? = some (.cells row 45 (0, 0)) := by rw [Below.heap_setCell _ _ _ _ hTC]; exact hT8
           have HR8 := Lib.hid (And.intro hR8 ht8)
           clear hR8 ht8 hown' hgrow hwhere hlt'
           refine hK.out _ _ hT8 (fun hHeld => ?_)
           clear hK K
           try simp only [Act.put, List.setIfInBounds_toArray, List.set_cons_zero, List.set_cons_succ]
           refine wpAnyH_take (i := 8) (v := .pointer (some ⟨C, 0, none⟩)) rfl (by kernel_rfl) (by kernel_rfl) (by kernel_rfl) (fun _ _ _ h => h) (Or.inl ⟨by rfl, fun w' hSw => by dsimp only at hSw; go_simp⟩) hHeld ?_
           simp only [Act.put, List.setIfInBounds_toArray, List.set_cons_zero, List.set_cons_succ]
           refine wpAnyH_take (i := 9) (v := .pointer (some ⟨C, 28, none⟩)) rfl (by kernel_rfl) (by kernel_rfl) (by kernel_rfl) (fun _ _ _ h => h) (Or.inl ⟨by rfl, fun w' hSw => by dsimp only at hSw; go_simp⟩) hHeld ?_
           simp only [Act.put, List.setIfInBounds_toArray, List.set_cons_zero, List.set_cons_succ]
           refine wpAnyH_ready (rs := [10]) (by kernel_rfl) (by simp) ?_
           refine AllReadyH.cons rfl (fun K hK => ?_) AllReadyH.nil
           rw [if_pos (by rfl)]
           go_simp
           refine hK.out _ _ (hT9) (fun hHeld => ?_)
           clear hK K
           try simp only [Act.put, List.setIfInBounds_toArray, List.set_cons_zero, List.set_cons_succ]
           refine wpAnyH_done (by kernel_rfl) ?_ _)
      all_goals
        go_wp2_with fail
        go_end0
        have e : bodyR c L en = (tenantP L en 1).map fun r => ({ c with tens := c.tens ++ [r.1] }, r.2) := by
          unfold bodyR
          rw [nextP_some H.out.2]
          show bodyP c (tenName, a0) L en 1 = _
          unfold bodyP
          rw [if_pos rfl]
        obtain ⟨f1, f2⟩ := HR.out.2.2.2.2.1
        have e2 : (bodyR c L en).map (·.2) = st11 := by rw [e, f1]; cases tenantP L en 1 <;> rfl
        refine ⟨rfl, _, _, _, by rw [e2]; exact HR8.out.1, ?_, ?_⟩
        · have u1 : Turn (fun k => k = b ∨ k = C ∨ lo ≤ k) w W15.drew := (H2.out.2.trans (HR.out.2.2.2.2.2.trans (Turn.refl _ _).drew)).mono (fun _ _ e => Or.inl e)
          have u2 : Turn (fun k => k = b ∨ k = C ∨ lo ≤ k) w (W15.alloc (.cells row 45)) := (H2.out.2.trans (HR.out.2.2.2.2.2.alloc (.cells row 45))).mono (fun _ _ e => Or.inl e)
          first | exact (u1.trans ((Turn.refl (fun k => k = b ∨ k = C ∨ lo ≤ k) W15.drew).alloc (.cells row 45))).trans (HR8.out.2.mono (fun _ _ e => Or.inr e)) | exact (u2.trans (Turn.refl (fun k => k = b ∨ k = C ∨ lo ≤ k) (W15.alloc (.cells row 45))).drew).trans (HR8.out.2.mono (fun _ _ e => Or.inr e))
        · intro u m hu
          rw [e] at hu
          rcases except_cases (tenantP L en 1) with ⟨pl3, r3⟩ | ⟨⟨t3, m3⟩, r3⟩
          · rw [r3] at hu; cases hu
          · obtain rfl := f2 t3 m3 r3
            rw [r3] at hu
            cases hu
            rfl
end Go.Proofs.YtbkpbcmjgbdbkaaGreatDoor
