/- The first line of a tenant. Condition: Env. -/
import Derived.Test.YtbkpbcmjgbdbkaaGreatDoorME
import Derived.Test.YtbkpbcmjgbdbkaaGreatDoorF2
namespace Go.Proofs.YtbkpbcmjgbdbkaaGreatDoor
open Go.RowKit Go.Lib
set_option linter.unusedVariables false
set_option linter.unusedSimpArgs false
set_option maxRecDepth 100000

def vniName : ByteArray := ⟨#[118, 110, 105]⟩
def keyName : ByteArray := ⟨#[107, 101, 121]⟩
def vtepName : ByteArray := ⟨#[118, 116, 101, 112]⟩
def hostName : ByteArray := ⟨#[104, 111, 115, 116]⟩
def tenantP (L : List Wd) (en n : Nat) : Except Nat (Ten × Nat) := do
  let (x, n) ← nextP L en n
  let _ ← (if nameOf x.1.data.toList then .ok () else .error x.2 : Except Nat Unit)
  let n ← mustP vniName L en n
  let (v, n) ← readP (fun l => numOf l 16777215) L en n
  let n ← mustP keyName L en n
  let (k, n) ← readP keyOf L en n
  let n ← mustP vtepName L en n
  let (p, n) ← readP ipOf L en n
  let (m, n) ← readP macOf L en n
  let n ← mustP hostName L en n
  let (h, n) ← readP macOf L en n
  .ok (⟨x.1, v, k, p, m, h, [], 0, 0, 0, [], [], 0, 0, 0, 0⟩, n)
def tenZero (s : ByteArray) : Array Value := #[.string s, .int .u32 0, .int .u8 0, .int .u8 0, .int .u8 0, .int .u8 0, .int .u8 0, .int .u8 0, .int .u8 0, .int .u8 0, .int .u32 0, .int .u8 0, .int .u8 0, .int .u8 0, .int .u8 0, .int .u8 0, .int .u8 0, .int .u8 0, .int .u8 0, .int .u8 0, .int .u8 0, .int .u8 0, .int .u8 0, .slice none 0 0, .int .u16 0, .int .u16 0, .int .i64 0, .slice none 0 0, .slice none 0 0, .int .i64 0, .int .i64 0, .int .u32 0, .int .u32 0]
theorem tenZero_one (s : ByteArray) : ∀ v ∈ (tenZero s).toList, v.oneCell' = true := by
  intro v hv
  simp [tenZero] at hv
  rcases hv with rfl | rfl | rfl | rfl | rfl | rfl | rfl | rfl | rfl | rfl | rfl <;> rfl
theorem ten_cells (s : ByteArray) (v p : Nat) (K M H : List Nat) (h1 : K.length = 8) (h2 : M.length = 6) (h3 : H.length = 6) :
    (rowPut (rowPut ((rowPut ((tenZero s).setIfInBounds 1 (.int .u32 (v : Int))) 2 (u8row K).toList).setIfInBounds 10 (.int .u32 (p : Int))) 11 (u8row M).toList) 17 (u8row H).toList) = tenRow ⟨s, v, K, p, M, H, [], 0, 0, 0, [], [], 0, 0, 0, 0⟩ (.slice none 0 0) (.slice none 0 0) (.slice none 0 0) := by
  obtain ⟨_, _, _, _, _, _, _, _, rfl⟩ := list8 K h1
  obtain ⟨_, _, _, _, _, _, rfl⟩ := list6 M h2
  obtain ⟨_, _, _, _, _, _, rfl⟩ := list6 H h3
  kernel_rfl
theorem ten_one (t : Ten) (p s q : Value) (hp : p.oneCell' = true) (hs : s.oneCell' = true) (hq : q.oneCell' = true) : ∀ v ∈ (tenRow t p s q).toList, v.oneCell' = true := by
  intro v hv
  simp only [tenRow, Array.toList_append, List.mem_append] at hv
  rcases hv with ((((hv | hv) | hv) | hv) | hv) | hv
  · simp at hv; rcases hv with rfl | rfl <;> rfl
  · exact u8row_one _ v hv
  · simp at hv; subst hv; rfl
  · exact u8row_one _ v hv
  · exact u8row_one _ v hv
  · simp at hv; rcases hv with rfl | rfl | rfl | rfl | rfl | rfl | rfl | rfl | rfl | rfl <;> first | rfl | assumption
theorem nextP_is {L : List Wd} {en n m : Nat} {x : Wd} (h : nextP L en n = .ok (x, m)) : L[n]? = some x ∧ m = n + 1 := by
  unfold nextP at h
  split at h
  · rename_i y hy; cases h; exact ⟨hy, rfl⟩
  · cases h
theorem next_any (b g cap : Nat) (L : List Wd) (en n : Nat) (w : World) (h : LineIs w b g cap L en n) :
    Calls Tryz.prog 51 #[.pointer (some ⟨b, 0, none⟩)] w (Took w b g cap L en ((nextP L en n).map fun r => (.agg #[.string r.1.1, .int .i64 (r.1.2 : Int)], r.2))) := by
  cases hx : L[n]? with
  | none =>
    have hn := line_end h hx
    subst hn
    exact (next_no b g cap L en w h).mono fun e w' f => took_error (nextP_none hx) (f.mono (fun _ _ h => h.elim))
  | some x => exact (next_ok b g cap L en n w h x.1 x.2 hx).mono fun e w' ⟨h1, h2, h3⟩ => took_ok (nextP_some hx) rfl h1 h2 h3
set_option maxHeartbeats 4000000 in
theorem tenant_any (b g cap : Nat) (L : List Wd) (en n : Nat) (w : World) (h : LineIs w b g cap L en n) (he : Env w) :
    Calls Tryz.prog 52 #[.pointer (some ⟨b, 0, none⟩)] w (Took w b g cap L en ((tenantP L en n).map fun r => (.agg (tenRow r.1 (.slice none 0 0) (.slice none 0 0) (.slice none 0 0)), r.2))) := by
  have hsz := h.size
  have s0 := (Stage.start h he).alloc (.cells (tenZero ⟨#[]⟩) 45)
  clear h he
  go_enter Tryz.func52, Tryz.ntmps52
  go_wp2_with fail
  change Calls _ _ _ (w.alloc (.cells (tenZero ⟨#[]⟩) 45)) _
  generalize w.alloc (.cells (tenZero ⟨#[]⟩) 45) = W0 at *
  go_wp2_with fail
  refine (next_any b g cap L en n _ s0.line).mono ?_
  intro e w1 h1
  rcases except_cases (nextP L en n) with ⟨pl, r1⟩ | ⟨⟨⟨s, at1⟩, n1⟩, r1⟩
  · rw [r1] at h1
    have hf := s0.fails h1
    obtain ⟨p, rfl, _⟩ := h1
    exact ⟨rfl, took_error (by simp only [tenantP, r1, bind, Except.bind]) hf⟩
  rw [r1] at h1
  obtain ⟨rfl, l1, c1⟩ := h1
  have t1 := s0.call l1 c1
  clear s0 l1 c1
  have hx := (nextP_is r1).1
  have hs := hsz n _ hx
  have hlt : w.heap.size < w1.heap.size := block_lt (t1.keep _ (List.mem_cons_self ..))
  have u1 := t1.alloc (.cells #[.string s, .int .i64 (at1 : Int)] 108)
  clear t1 hsz hx
  dsimp only at hs u1
  go_wp2_with fail
  generalize w1.alloc (.cells #[.string s, .int .i64 (at1 : Int)] 108) = W1 at *
  refine (pname_any s hs _ u1.env).mono ?_
  rintro e w2 ⟨rfl, c2⟩
  have t2 := u1.quiet c2
  clear u1 c2
  have hwb := t2.keep _ (List.mem_cons_self ..)
  have hw0 : w2.cell? ⟨w1.heap.size, 0, none⟩ = some (.string s) := cell_of_block hwb 0
  have hw1 : w2.cell? ⟨w1.heap.size, 1, none⟩ = some (.int .i64 (at1 : Int)) := cell_of_block hwb 1
  have hlt1 : w1.heap.size < w2.heap.size := block_lt hwb
  cases hn : nameOf s.data.toList with
  | false =>
    have hR : tenantP L en n = .error at1 := by simp [tenantP, r1, hn, bind, Except.bind]
    clear hwb
    go_wp2_with (go_at_call 47; refine (fail_any at1 _).mono ?_; rintro e w3 ⟨p, rfl, f⟩)
    exact ⟨rfl, took_error hR (t2.fails ⟨p, rfl, f.1, f.2.1, f.2.2.mono (fun _ _ h => h.elim)⟩)⟩
  | true =>
    have hB : ∀ p ∈ [(w1.heap.size, Obj.cells #[.string s, .int .i64 (at1 : Int)] 108 (0, 0)), (w.heap.size, Obj.cells (tenZero ⟨#[]⟩) 45 (0, 0))], p.1 ≠ w2.heap.size := by
      intro p hp
      rcases List.mem_cons.1 hp with rfl | hp
      · exact Nat.ne_of_lt hlt1
      · rcases List.mem_singleton.1 hp with rfl; exact Nat.ne_of_lt (Nat.lt_trans hlt hlt1)
    obtain ⟨st0, a1⟩ := (t2.alloc (.cells (tenZero ⟨#[]⟩) 45)).whole hB (tenZero s) rfl (tenZero_one s)
    clear t2 hwb
    go_wp2_with (refine wpList_store_put rfl 45 _ _ rfl w2.heap.size 0 (tenZero s) rfl rfl (by kernel_rfl) _ st0 ?_)
    change Calls _ _ _ ((w2.alloc (.cells (tenZero ⟨#[]⟩) 45)).setRow w2.heap.size (tenZero s)) _
    clear st0 hw0 hw1
    generalize (w2.alloc (.cells (tenZero ⟨#[]⟩) 45)).setRow w2.heap.size (tenZero s) = W2 at *
    have z0 : (tenZero s).size = 33 := rfl
    go_wp2_with fail
    refine (must_any vniName b g cap L en n1 _ a1.line).mono ?_
    intro e w3 h3
    rcases except_cases (mustP vniName L en n1) with ⟨pl, r3⟩ | ⟨n3, r3⟩
    · rw [r3] at h3
      have hf := a1.fails h3
      obtain ⟨p, rfl, _⟩ := h3
      exact ⟨rfl, took_error (by simp only [tenantP, r1, hn, if_true,  r3, bind, Except.bind]) hf⟩
    rw [r3] at h3
    obtain ⟨rfl, l3, c3⟩ := h3
    have t3 := a1.call l3 c3
    clear a1 l3 c3
    go_wp2_with fail
    refine (readNum_any 16777215 (by omega) b g cap L en n3 _ t3.line).mono ?_
    intro e w4 h4
    rcases except_cases (readP (fun l => numOf l 16777215) L en n3) with ⟨pl, r4⟩ | ⟨x, r4⟩
    · rw [r4] at h4
      have hf := t3.fails h4
      obtain ⟨p, rfl, _⟩ := h4
      exact ⟨rfl, took_error (by simp only [tenantP, r1, hn, if_true,  r3, r4, bind, Except.bind]) hf⟩
    obtain ⟨v, n4⟩ := x
    rw [r4] at h4
    obtain ⟨rfl, l4, c4⟩ := h4
    have t4 := t3.call l4 c4
    clear t3 l4 c4
    have hblk := t4.keep _ (List.mem_cons_self ..)
    obtain ⟨vv1, hc1⟩ : ∃ v, w4.cell? ⟨w2.heap.size, 1, none⟩ = some v := ⟨_, (cell_of_block hblk 1).trans (Array.getElem?_eq_getElem (by rw [z0]; omega))⟩
    have hf1 : w4.frozen? ⟨w2.heap.size, 1, none⟩ = false := free_of_block hblk 1
    have a2 := t4.cell hB 1 (.int .u32 (v : Int))
    have z1 : ((tenZero s).setIfInBounds 1 (.int .u32 (v : Int))).size = 33 := by rw [Array.size_setIfInBounds]; exact z0
    clear hblk
    go_wp2_with fail
    refine (must_any keyName b g cap L en n4 _ a2.line).mono ?_
    intro e w5 h5
    rcases except_cases (mustP keyName L en n4) with ⟨pl, r5⟩ | ⟨n5, r5⟩
    · rw [r5] at h5
      have hf := a2.fails h5
      obtain ⟨p, rfl, _⟩ := h5
      exact ⟨rfl, took_error (by simp only [tenantP, r1, hn, if_true,  r3, r4, r5, bind, Except.bind]) hf⟩
    rw [r5] at h5
    obtain ⟨rfl, l5, c5⟩ := h5
    have t5 := a2.call l5 c5
    clear a2 l5 c5
    clear hc1 hf1
    go_wp2_with fail
    refine (readKey_any b g cap L en n5 _ t5.line t5.env).mono ?_
    intro e w6 h6
    rcases except_cases (readP keyOf L en n5) with ⟨pl, r6⟩ | ⟨x, r6⟩
    · rw [r6] at h6
      have hf := t5.fails h6
      obtain ⟨p, rfl, _⟩ := h6
      exact ⟨rfl, took_error (by simp only [tenantP, r1, hn, if_true,  r3, r4, r5, r6, bind, Except.bind]) hf⟩
    obtain ⟨K, n6⟩ := x
    rw [r6] at h6
    obtain ⟨rfl, l6, c6⟩ := h6
    have t6 := t5.call l6 c6
    clear t5 l6 c6
    have q1 := readP_key r6
    have hs1 : (u8row K).size = 8 := (u8row_len K).trans q1
    obtain ⟨st2, a3⟩ := t6.row hB 2 (u8row K).toList (by rw [u8row_len, q1, z1]; omega) (u8row_one K)
    have z2 : (rowPut ((tenZero s).setIfInBounds 1 (.int .u32 (v : Int))) 2 (u8row K).toList).size = 33 := (rowPut_size (by rw [u8row_len, q1, z1]; omega)).trans z1
    go_wp2_with fail
    refine (must_any vtepName b g cap L en n6 _ a3.line).mono ?_
    intro e w7 h7
    rcases except_cases (mustP vtepName L en n6) with ⟨pl, r7⟩ | ⟨n7, r7⟩
    · rw [r7] at h7
      have hf := a3.fails h7
      obtain ⟨p, rfl, _⟩ := h7
      exact ⟨rfl, took_error (by simp only [tenantP, r1, hn, if_true,  r3, r4, r5, r6, r7, bind, Except.bind]) hf⟩
    rw [r7] at h7
    obtain ⟨rfl, l7, c7⟩ := h7
    have t7 := a3.call l7 c7
    clear a3 l7 c7
    clear st2 hs1
    go_wp2_with fail
    refine (readIp_any b g cap L en n7 _ t7.line t7.env).mono ?_
    intro e w8 h8
    rcases except_cases (readP ipOf L en n7) with ⟨pl, r8⟩ | ⟨x, r8⟩
    · rw [r8] at h8
      have hf := t7.fails h8
      obtain ⟨p, rfl, _⟩ := h8
      exact ⟨rfl, took_error (by simp only [tenantP, r1, hn, if_true,  r3, r4, r5, r6, r7, r8, bind, Except.bind]) hf⟩
    obtain ⟨p, n8⟩ := x
    rw [r8] at h8
    obtain ⟨rfl, l8, c8⟩ := h8
    have t8 := t7.call l8 c8
    clear t7 l8 c8
    have hblk := t8.keep _ (List.mem_cons_self ..)
    obtain ⟨vv10, hc10⟩ : ∃ v, w8.cell? ⟨w2.heap.size, 10, none⟩ = some v := ⟨_, (cell_of_block hblk 10).trans (Array.getElem?_eq_getElem (by rw [z2]; omega))⟩
    have hf10 : w8.frozen? ⟨w2.heap.size, 10, none⟩ = false := free_of_block hblk 10
    have a4 := t8.cell hB 10 (.int .u32 (p : Int))
    have z3 : ((rowPut ((tenZero s).setIfInBounds 1 (.int .u32 (v : Int))) 2 (u8row K).toList).setIfInBounds 10 (.int .u32 (p : Int))).size = 33 := by rw [Array.size_setIfInBounds]; exact z2
    clear hblk
    go_wp2_with fail
    refine (readMac_any b g cap L en n8 _ a4.line a4.env).mono ?_
    intro e w9 h9
    rcases except_cases (readP macOf L en n8) with ⟨pl, r9⟩ | ⟨x, r9⟩
    · rw [r9] at h9
      have hf := a4.fails h9
      obtain ⟨p, rfl, _⟩ := h9
      exact ⟨rfl, took_error (by simp only [tenantP, r1, hn, if_true,  r3, r4, r5, r6, r7, r8, r9, bind, Except.bind]) hf⟩
    obtain ⟨M, n9⟩ := x
    rw [r9] at h9
    obtain ⟨rfl, l9, c9⟩ := h9
    have t9 := a4.call l9 c9
    clear a4 l9 c9
    clear hc10 hf10
    have q2 := readP_mac r9
    have hs2 : (u8row M).size = 6 := (u8row_len M).trans q2
    obtain ⟨st4, a5⟩ := t9.row hB 11 (u8row M).toList (by rw [u8row_len, q2, z3]; omega) (u8row_one M)
    have z4 : (rowPut ((rowPut ((tenZero s).setIfInBounds 1 (.int .u32 (v : Int))) 2 (u8row K).toList).setIfInBounds 10 (.int .u32 (p : Int))) 11 (u8row M).toList).size = 33 := (rowPut_size (by rw [u8row_len, q2, z3]; omega)).trans z3
    go_wp2_with fail
    refine (must_any hostName b g cap L en n9 _ a5.line).mono ?_
    intro e w10 h10
    rcases except_cases (mustP hostName L en n9) with ⟨pl, r10⟩ | ⟨n10, r10⟩
    · rw [r10] at h10
      have hf := a5.fails h10
      obtain ⟨p, rfl, _⟩ := h10
      exact ⟨rfl, took_error (by simp only [tenantP, r1, hn, if_true,  r3, r4, r5, r6, r7, r8, r9, r10, bind, Except.bind]) hf⟩
    rw [r10] at h10
    obtain ⟨rfl, l10, c10⟩ := h10
    have t10 := a5.call l10 c10
    clear a5 l10 c10
    clear st4 hs2
    go_wp2_with fail
    refine (readMac_any b g cap L en n10 _ t10.line t10.env).mono ?_
    intro e w11 h11
    rcases except_cases (readP macOf L en n10) with ⟨pl, r11⟩ | ⟨x, r11⟩
    · rw [r11] at h11
      have hf := t10.fails h11
      obtain ⟨p, rfl, _⟩ := h11
      exact ⟨rfl, took_error (by simp only [tenantP, r1, hn, if_true,  r3, r4, r5, r6, r7, r8, r9, r10, r11, bind, Except.bind]) hf⟩
    obtain ⟨H, n11⟩ := x
    rw [r11] at h11
    obtain ⟨rfl, l11, c11⟩ := h11
    have t11 := t10.call l11 c11
    clear t10 l11 c11
    have q3 := readP_mac r11
    have hs3 : (u8row H).size = 6 := (u8row_len H).trans q3
    obtain ⟨st5, a6⟩ := t11.row hB 17 (u8row H).toList (by rw [u8row_len, q3, z4]; omega) (u8row_one H)
    have z5 : (rowPut (rowPut ((rowPut ((tenZero s).setIfInBounds 1 (.int .u32 (v : Int))) 2 (u8row K).toList).setIfInBounds 10 (.int .u32 (p : Int))) 11 (u8row M).toList) 17 (u8row H).toList).size = 33 := (rowPut_size (by rw [u8row_len, q3, z4]; omega)).trans z4
    obtain ⟨csF, hcF⟩ : ∃ cs, cs = (rowPut (rowPut ((rowPut ((tenZero s).setIfInBounds 1 (.int .u32 (v : Int))) 2 (u8row K).toList).setIfInBounds 10 (.int .u32 (p : Int))) 11 (u8row M).toList) 17 (u8row H).toList) := ⟨_, rfl⟩
    rw [← hcF] at a6 st5 z5
    have hR : tenantP L en n = .ok (⟨s, v, K, p, M, H, [], 0, 0, 0, [], [], 0, 0, 0, 0⟩, n11) := by simp only [tenantP, r1, hn, if_true, r3, r4, r5, r6, r7, r8, r9, r10, r11, bind, Except.bind]
    have hV : csF = tenRow ⟨s, v, K, p, M, H, [], 0, 0, 0, [], [], 0, 0, 0, 0⟩ (.slice none 0 0) (.slice none 0 0) (.slice none 0 0) := hcF.trans (ten_cells s v p K M H q1 q2 q3)
    have h1 : ∀ v ∈ csF.toList, v.oneCell' = true := by rw [hV]; exact ten_one _ _ _ _ rfl rfl rfl
    have hgF := a6.keep _ (List.mem_cons_self ..)
    have hgR := a6.keep _ (List.mem_cons_of_mem _ (List.mem_cons_of_mem _ (List.mem_cons_self ..)))
    obtain ⟨stF, lF, tF, kF⟩ := a6.last hgR h1 z5.symm (by omega)
    have H := Lib.hid (And.intro lF (And.intro tF (And.intro kF (And.intro hR hV))))
    have hi45 : (Tryz.prog.info? 45).map (·.size) = some csF.size := by rw [z5]; kernel_rfl
    clear hcF hV hR lF tF kF a6 h1 hgR r1 r3 r4 r5 r6 r7 r8 r9 r10 r11 z0 z1 z2 z3 z4 q1 q2 q3 z5
    go_wp2_with (first | (refine wpList_load_row rfl 45 _ rfl w2.heap.size rfl 45 csF (0, 0) _ hgF Tryz.underlying45 rfl hi45 ?_) | (refine wpList_store_put rfl 45 _ _ rfl w.heap.size 0 csF rfl rfl hi45 _ stF ?_))
    exact bodyPost_ret (results_row Tryz.results52 _ _ w.heap.size _ rfl H.out.2.2.1 _ Tryz.underlying45 rfl hi45) rfl (took_ok H.out.2.2.2.1 (by rw [H.out.2.2.2.2]) rfl H.out.1 H.out.2.1)
end Go.Proofs.YtbkpbcmjgbdbkaaGreatDoor

