/- The reference's line: ports, quota, rate. Condition: Env. The reference's line: filter, static, twice. Condition: Env. The reference's line: pool. Condition: Env. The reference's line: an unknown word; no tenant yet. Condition: Env. -/
import Derived.Test.YtbkpbcmjgbdbkaaGreatDoorX3
import Derived.Maps.AppendAt
/-! X4 -/
namespace Go.Proofs.YtbkpbcmjgbdbkaaGreatDoor
open Go.RowKit Go.Lib
set_option linter.unusedVariables false
set_option linter.unusedSimpArgs false
set_option maxRecDepth 100000
set_option pp.maxSteps 2500

/-- Two numbers, one behind the other. -/
def twoP (most : Nat) (f : Nat → Nat → Ten) (L : List Wd) (en n : Nat) : Except Nat (Ten × Nat) := do
  let (x, n) ← numP most L en n
  let (y, n) ← numP most L en n
  .ok (f x y, n)
theorem two_st (most : Nat) (f : Nat → Nat → Ten) (L : List Wd) (en n : Nat) : (readS (fun l => numOf l most) ((readS (fun l => numOf l most) (.ok n) L en).map (·.2)) L en).map (·.2) = (twoP most f L en n).map (·.2) := by
  unfold twoP numP
  show (readS (fun l => numOf l most) ((readP (fun l => numOf l most) L en n).map (·.2)) L en).map (·.2) = _
  rcases except_cases (readP (fun l => numOf l most) L en n) with ⟨pl, h1⟩ | ⟨⟨a, m⟩, h1⟩
  · rw [h1]; rfl
  · rw [h1]
    show (readP (fun l => numOf l most) L en m).map (·.2) = ((readP (fun l => numOf l most) L en m).bind fun r => .ok (f a r.1, r.2)).map (·.2)
    rcases except_cases (readP (fun l => numOf l most) L en m) with ⟨pl, h2⟩ | ⟨⟨b, k⟩, h2⟩
    · rw [h2]; rfl
    · rw [h2]; rfl
theorem two_val {most : Nat} {f : Nat → Nat → Ten} {L : List Wd} {en n v1 v2 : Nat} (h1 : ∀ x m, readS (fun l => numOf l most) (.ok n) L en = .ok (x, m) → x = v1)
    (h2 : ∀ x m, readS (fun l => numOf l most) ((readS (fun l => numOf l most) (.ok n) L en).map (·.2)) L en = .ok (x, m) → x = v2) : ∀ u m, twoP most f L en n = .ok (u, m) → f v1 v2 = u := by
  intro u m hu
  unfold twoP numP at hu
  have h1 : ∀ x m, readP (fun l => numOf l most) L en n = .ok (x, m) → x = v1 := h1
  have h2 : ∀ x m, readS (fun l => numOf l most) ((readP (fun l => numOf l most) L en n).map (·.2)) L en = .ok (x, m) → x = v2 := h2
  rcases except_cases (readP (fun l => numOf l most) L en n) with ⟨pl, e1⟩ | ⟨⟨a, k⟩, e1⟩
  · rw [e1] at hu; cases hu
  · have := h1 a k e1
    subst this
    rw [e1] at hu h2
    have hu : ((readP (fun l => numOf l most) L en k).bind fun r => Except.ok (f a r.1, r.2)) = .ok (u, m) := hu
    have h2 : ∀ x m, readP (fun l => numOf l most) L en k = .ok (x, m) → x = v2 := h2
    rcases except_cases (readP (fun l => numOf l most) L en k) with ⟨pl, e2⟩ | ⟨⟨b, j⟩, e2⟩
    · rw [e2] at hu; cases hu
    · have := h2 b j e2
      subst this
      rw [e2] at hu
      cases hu
      rfl

set_option maxHeartbeats 4000000 in
theorem rline_ports {lo b g cap en C : Nat} {L : List Wd} {c : Cfg} {tv : Value} {l0 : List TenM} {x : TenM} {w : World} {a0 : Nat} (h : RLine w lo b g cap L en (.ok 0) C c tv (l0 ++ [x])) (hx : L[0]? = some (portsName, a0)) (hlen : l0.length ≤ 1000000) :
    Calls Tryz.prog 28 #[.pointer (some ⟨b, 0, none⟩), .pointer (some ⟨C, 0, none⟩)] w (RLinePost w lo b g cap L en C (bodyR c L en)) := by
  obtain ⟨G, cp, cur, rfl, hlG, hTen⟩ := h.tens.last
  obtain ⟨pl, hRA⟩ := h.line
  have hc58 := rword_some b g cap L en 0 pl false w hRA portsName a0 hx
  have e0 : (portsName.toList == [116, 101, 110, 97, 110, 116]) = false := by kernel_rfl
  have e1 : (portsName.toList == [112, 111, 111, 108]) = false := by kernel_rfl
  have e2 : (portsName.toList == [112, 111, 114, 116, 115]) = true := by kernel_rfl
  have e3 : (portsName.toList == [102, 105, 108, 116, 101, 114]) = false := by kernel_rfl
  have e4 : (portsName.toList == [115, 116, 97, 116, 105, 99]) = false := by kernel_rfl
  have e5 : (portsName.toList == [116, 119, 105, 99, 101]) = false := by kernel_rfl
  have e6 : (portsName.toList == [113, 117, 111, 116, 97]) = false := by kernel_rfl
  have e7 : (portsName.toList == [114, 97, 116, 101]) = false := by kernel_rfl
  have hne : ¬ portsName = tenName := by decide
  have hl1 : (((l0.length : Int) + 1) == 0) = false := by rw [beq_eq_false_iff_ne]; omega
  have hsub : IntKind.i64.wrap (l0.length : Int) = (l0.length : Int) := by rw [IntKind.wrap_i64]; omega
  have i7 : (0 : Int) ≤ (l0.length : Int) := by omega
  have i8 : (l0.length : Int) < (l0.length : Int) + 1 := by omega
  have H := Lib.hid (And.intro h (And.intro hx hne))
  clear h hRA hTen hlG cur hx hne
  go_enter Tryz.func28, Tryz.ntmps28
  go_wp2_with fail
  refine hc58.mono ?_
  rintro e w1 ⟨rfl, q1, t1⟩
  have h1 : RLine w1 lo b g cap L en (.ok 1) C c (.slice (some ⟨G, 0, none⟩) (l0.length + 1) cp) (l0 ++ [x]) := H.out.1.call ⟨pl, q1⟩ t1
  have t2 := t1.alloc (.cells #[.string portsName, .int .i64 (a0 : Int)] 82)
  have h2 := h1.quiet ((Turn.refl (fun _ => False) w1).alloc (.cells #[.string portsName, .int .i64 (a0 : Int)] 82))
  have cd0 : (w1.alloc (.cells #[.string portsName, .int .i64 (a0 : Int)] 82)).cell? ⟨w1.heap.size, 0, none⟩ = some (.string portsName) := cell_of_block (block_alloc_new _ _) 0
  have cd1 : (w1.alloc (.cells #[.string portsName, .int .i64 (a0 : Int)] 82)).cell? ⟨w1.heap.size, 1, none⟩ = some (.int .i64 (a0 : Int)) := cell_of_block (block_alloc_new _ _) 1
  have cC := h2.cell
  have H2 := Lib.hid (And.intro h2 t2)
  clear h1 h2 t2 q1 t1 hc58
  go_upto_region 19 with (fail)
  generalize w1.alloc (.cells #[.string portsName, .int .i64 (a0 : Int)] 82) = W at *
  generalize w1.heap.size = q at *
  go_quiet (fail)
  have h3 := H2.out.1.quiet ((Turn.refl (fun _ => False) W).drewN nq)
  have t3 : Turn (fun k => k = b) w (W.drewN nq) := H2.out.2.drewN nq
  have cd0 : (W.drewN nq).cell? ⟨q, 0, none⟩ = some (.string portsName) := cd0
  have cd1 : (W.drewN nq).cell? ⟨q, 1, none⟩ = some (.int .i64 (a0 : Int)) := cd1
  clear cC H2
  generalize W.drewN nq = W3 at *
  obtain ⟨G2, cp2, cur, htv, hlG, hTen⟩ := h3.tens.last
  injection htv with hao _ hcp
  injection hao with hao
  injection hao with hG
  subst hG; subst hcp
  have hS := h3.begin hlG hTen
  have H3 := Lib.hid (And.intro h3 (And.intro t3 (And.intro hlG hTen.blk)))
  clear h3 t3 hTen hlG
  obtain ⟨v1, hc1, hm1, hv1⟩ := rNum_any 65535 (by decide) b g cap L en (.ok 1) W3 hS.line
  have hgets := ten_get x.1 hS.ten.wf x.2.1 x.2.2.1 x.2.2.2
  have HS := Lib.hid (And.intro hS (And.intro hv1 hgets))
  have cv1 : IntKind.u16.wrap (v1 : Int) = (v1 : Int) := by unfold IntKind.wrap; simp [IntKind.bits, IntKind.signed]; omega
  clear hS hv1 hgets
  go_wp2_with fail
  refine hc1.mono ?_
  rintro e w4 ⟨rfl, q4, t4⟩
  have hS4 := HS.out.1.call q4 t4
  have k1 := hS4.ten.cell HS.out.2.2.2.1
  have f1 := hS4.cellFree 24
  have HS4 := Lib.hid hS4
  clear hS4 q4 t4 hc1
  go_upto_region 27 with (fail)
  clear k1 f1
  have hS5 := HS4.out.put (j := 24) (by decide) (.int .u16 (v1 : Int)) { x.1 with lo := v1 } ((ten_set_num x.1 HS4.out.ten.wf x.2.1 x.2.2.1 x.2.2.2).1 v1) rfl rfl rfl ⟨HS4.out.ten.wf.key, HS4.out.ten.wf.vmac, HS4.out.ten.wf.host⟩
  generalize w4.setCell ⟨G, l0.length * 33 + 24, none⟩ (.int .u16 (v1 : Int)) = W5 at *
  obtain ⟨v2, hc2, hm2, hv2⟩ := rNum_any 65535 (by decide) b g cap L en _ W5 hS5.line
  have hgets2 := ten_get { x.1 with lo := v1 } hS5.ten.wf x.2.1 x.2.2.1 x.2.2.2
  have HS5 := Lib.hid (And.intro hS5 (And.intro hv2 hgets2))
  have cv2 : IntKind.u16.wrap (v2 : Int) = (v2 : Int) := by unfold IntKind.wrap; simp [IntKind.bits, IntKind.signed]; omega
  clear hS5 hv2 hgets2 HS4
  go_wp2_with fail
  refine hc2.mono ?_
  rintro e w6 ⟨rfl, q6, t6⟩
  have hS6 := HS5.out.1.call q6 t6
  have k2 := hS6.ten.cell HS5.out.2.2.2.2.1
  have f2 := hS6.cellFree 25
  have HS6 := Lib.hid hS6
  clear hS6 q6 t6 hc2
  go_wp2_with fail
  go_end0
  have hS7 := HS6.out.put (j := 25) (by decide) (.int .u16 (v2 : Int)) { x.1 with lo := v1, hi := v2 } ((ten_set_num { x.1 with lo := v1 } HS6.out.ten.wf x.2.1 x.2.2.1 x.2.2.2).2.1 v2) rfl rfl rfl ⟨HS6.out.ten.wf.key, HS6.out.ten.wf.vmac, HS6.out.ten.wf.host⟩
  refine rline_close (F := twoP 65535 (fun a b => { x.1 with lo := a, hi := b }) L en 1) H3.out.2.1 H3.out.1 H3.out.2.2.1 H3.out.2.2.2 H.out.2.1 H.out.2.2 hS7 (by rfl) ?_ ?_
  · exact two_st _ _ _ _ _
  · exact two_val HS.out.2.1 HS5.out.2.1
set_option maxHeartbeats 4000000 in
theorem rline_quota {lo b g cap en C : Nat} {L : List Wd} {c : Cfg} {tv : Value} {l0 : List TenM} {x : TenM} {w : World} {a0 : Nat} (h : RLine w lo b g cap L en (.ok 0) C c tv (l0 ++ [x])) (hx : L[0]? = some (quotaName, a0)) (hlen : l0.length ≤ 1000000) :
    Calls Tryz.prog 28 #[.pointer (some ⟨b, 0, none⟩), .pointer (some ⟨C, 0, none⟩)] w (RLinePost w lo b g cap L en C (bodyR c L en)) := by
  obtain ⟨G, cp, cur, rfl, hlG, hTen⟩ := h.tens.last
  obtain ⟨pl, hRA⟩ := h.line
  have hc58 := rword_some b g cap L en 0 pl false w hRA quotaName a0 hx
  have e0 : (quotaName.toList == [116, 101, 110, 97, 110, 116]) = false := by kernel_rfl
  have e1 : (quotaName.toList == [112, 111, 111, 108]) = false := by kernel_rfl
  have e2 : (quotaName.toList == [112, 111, 114, 116, 115]) = false := by kernel_rfl
  have e3 : (quotaName.toList == [102, 105, 108, 116, 101, 114]) = false := by kernel_rfl
  have e4 : (quotaName.toList == [115, 116, 97, 116, 105, 99]) = false := by kernel_rfl
  have e5 : (quotaName.toList == [116, 119, 105, 99, 101]) = false := by kernel_rfl
  have e6 : (quotaName.toList == [113, 117, 111, 116, 97]) = true := by kernel_rfl
  have e7 : (quotaName.toList == [114, 97, 116, 101]) = false := by kernel_rfl
  have hne : ¬ quotaName = tenName := by decide
  have hl1 : (((l0.length : Int) + 1) == 0) = false := by rw [beq_eq_false_iff_ne]; omega
  have hsub : IntKind.i64.wrap (l0.length : Int) = (l0.length : Int) := by rw [IntKind.wrap_i64]; omega
  have i7 : (0 : Int) ≤ (l0.length : Int) := by omega
  have i8 : (l0.length : Int) < (l0.length : Int) + 1 := by omega
  have H := Lib.hid (And.intro h (And.intro hx hne))
  clear h hRA hTen hlG cur hx hne
  go_enter Tryz.func28, Tryz.ntmps28
  go_wp2_with fail
  refine hc58.mono ?_
  rintro e w1 ⟨rfl, q1, t1⟩
  have h1 : RLine w1 lo b g cap L en (.ok 1) C c (.slice (some ⟨G, 0, none⟩) (l0.length + 1) cp) (l0 ++ [x]) := H.out.1.call ⟨pl, q1⟩ t1
  have t2 := t1.alloc (.cells #[.string quotaName, .int .i64 (a0 : Int)] 82)
  have h2 := h1.quiet ((Turn.refl (fun _ => False) w1).alloc (.cells #[.string quotaName, .int .i64 (a0 : Int)] 82))
  have cd0 : (w1.alloc (.cells #[.string quotaName, .int .i64 (a0 : Int)] 82)).cell? ⟨w1.heap.size, 0, none⟩ = some (.string quotaName) := cell_of_block (block_alloc_new _ _) 0
  have cd1 : (w1.alloc (.cells #[.string quotaName, .int .i64 (a0 : Int)] 82)).cell? ⟨w1.heap.size, 1, none⟩ = some (.int .i64 (a0 : Int)) := cell_of_block (block_alloc_new _ _) 1
  have cC := h2.cell
  have H2 := Lib.hid (And.intro h2 t2)
  clear h1 h2 t2 q1 t1 hc58
  go_upto_region 19 with (fail)
  generalize w1.alloc (.cells #[.string quotaName, .int .i64 (a0 : Int)] 82) = W at *
  generalize w1.heap.size = q at *
  go_quiet (fail)
  have h3 := H2.out.1.quiet ((Turn.refl (fun _ => False) W).drewN nq)
  have t3 : Turn (fun k => k = b) w (W.drewN nq) := H2.out.2.drewN nq
  have cd0 : (W.drewN nq).cell? ⟨q, 0, none⟩ = some (.string quotaName) := cd0
  have cd1 : (W.drewN nq).cell? ⟨q, 1, none⟩ = some (.int .i64 (a0 : Int)) := cd1
  clear cC H2
  generalize W.drewN nq = W3 at *
  obtain ⟨G2, cp2, cur, htv, hlG, hTen⟩ := h3.tens.last
  injection htv with hao _ hcp
  injection hao with hao
  injection hao with hG
  subst hG; subst hcp
  have hS := h3.begin hlG hTen
  have H3 := Lib.hid (And.intro h3 (And.intro t3 (And.intro hlG hTen.blk)))
  clear h3 t3 hTen hlG
  obtain ⟨v1, hc1, hm1, hv1⟩ := rNum_any 65535 (by decide) b g cap L en (.ok 1) W3 hS.line
  have hgets := ten_get x.1 hS.ten.wf x.2.1 x.2.2.1 x.2.2.2
  have HS := Lib.hid (And.intro hS (And.intro hv1 hgets))
  have cv1 : IntKind.i64.wrap (v1 : Int) = (v1 : Int) := by rw [IntKind.wrap_i64]; omega
  clear hS hv1 hgets
  go_wp2_with fail
  refine hc1.mono ?_
  rintro e w4 ⟨rfl, q4, t4⟩
  have hS4 := HS.out.1.call q4 t4
  have k1 := hS4.ten.cell HS.out.2.2.2.2.2.2.2.2.1
  have f1 := hS4.cellFree 29
  have HS4 := Lib.hid hS4
  clear hS4 q4 t4 hc1
  go_upto_region 47 with (fail)
  clear k1 f1
  have hS5 := HS4.out.put (j := 29) (by decide) (.int .i64 (v1 : Int)) { x.1 with sess := (v1 : Int) } ((ten_set_num x.1 HS4.out.ten.wf x.2.1 x.2.2.1 x.2.2.2).2.2.2.1 (v1 : Int)) rfl rfl rfl ⟨HS4.out.ten.wf.key, HS4.out.ten.wf.vmac, HS4.out.ten.wf.host⟩
  generalize w4.setCell ⟨G, l0.length * 33 + 29, none⟩ (.int .i64 (v1 : Int)) = W5 at *
  obtain ⟨v2, hc2, hm2, hv2⟩ := rNum_any 65535 (by decide) b g cap L en _ W5 hS5.line
  have hgets2 := ten_get { x.1 with sess := (v1 : Int) } hS5.ten.wf x.2.1 x.2.2.1 x.2.2.2
  have HS5 := Lib.hid (And.intro hS5 (And.intro hv2 hgets2))
  have cv2 : IntKind.i64.wrap (v2 : Int) = (v2 : Int) := by rw [IntKind.wrap_i64]; omega
  clear hS5 hv2 hgets2 HS4
  go_wp2_with fail
  refine hc2.mono ?_
  rintro e w6 ⟨rfl, q6, t6⟩
  have hS6 := HS5.out.1.call q6 t6
  have k2 := hS6.ten.cell HS5.out.2.2.2.2.2.2.2.2.2.1
  have f2 := hS6.cellFree 30
  have HS6 := Lib.hid hS6
  clear hS6 q6 t6 hc2
  go_wp2_with fail
  go_end0
  have hS7 := HS6.out.put (j := 30) (by decide) (.int .i64 (v2 : Int)) { x.1 with sess := (v1 : Int), queue := (v2 : Int) } ((ten_set_num { x.1 with sess := (v1 : Int) } HS6.out.ten.wf x.2.1 x.2.2.1 x.2.2.2).2.2.2.2.1 (v2 : Int)) rfl rfl rfl ⟨HS6.out.ten.wf.key, HS6.out.ten.wf.vmac, HS6.out.ten.wf.host⟩
  refine rline_close (F := twoP 65535 (fun a b => { x.1 with sess := (a : Int), queue := (b : Int) }) L en 1) H3.out.2.1 H3.out.1 H3.out.2.2.1 H3.out.2.2.2 H.out.2.1 H.out.2.2 hS7 (by rfl) ?_ ?_
  · exact two_st _ _ _ _ _
  · exact two_val HS.out.2.1 HS5.out.2.1
set_option maxHeartbeats 4000000 in
theorem rline_rate {lo b g cap en C : Nat} {L : List Wd} {c : Cfg} {tv : Value} {l0 : List TenM} {x : TenM} {w : World} {a0 : Nat} (h : RLine w lo b g cap L en (.ok 0) C c tv (l0 ++ [x])) (hx : L[0]? = some (rateName, a0)) (hlen : l0.length ≤ 1000000) :
    Calls Tryz.prog 28 #[.pointer (some ⟨b, 0, none⟩), .pointer (some ⟨C, 0, none⟩)] w (RLinePost w lo b g cap L en C (bodyR c L en)) := by
  obtain ⟨G, cp, cur, rfl, hlG, hTen⟩ := h.tens.last
  obtain ⟨pl, hRA⟩ := h.line
  have hc58 := rword_some b g cap L en 0 pl false w hRA rateName a0 hx
  have e0 : (rateName.toList == [116, 101, 110, 97, 110, 116]) = false := by kernel_rfl
  have e1 : (rateName.toList == [112, 111, 111, 108]) = false := by kernel_rfl
  have e2 : (rateName.toList == [112, 111, 114, 116, 115]) = false := by kernel_rfl
  have e3 : (rateName.toList == [102, 105, 108, 116, 101, 114]) = false := by kernel_rfl
  have e4 : (rateName.toList == [115, 116, 97, 116, 105, 99]) = false := by kernel_rfl
  have e5 : (rateName.toList == [116, 119, 105, 99, 101]) = false := by kernel_rfl
  have e6 : (rateName.toList == [113, 117, 111, 116, 97]) = false := by kernel_rfl
  have e7 : (rateName.toList == [114, 97, 116, 101]) = true := by kernel_rfl
  have hne : ¬ rateName = tenName := by decide
  have hl1 : (((l0.length : Int) + 1) == 0) = false := by rw [beq_eq_false_iff_ne]; omega
  have hsub : IntKind.i64.wrap (l0.length : Int) = (l0.length : Int) := by rw [IntKind.wrap_i64]; omega
  have i7 : (0 : Int) ≤ (l0.length : Int) := by omega
  have i8 : (l0.length : Int) < (l0.length : Int) + 1 := by omega
  have H := Lib.hid (And.intro h (And.intro hx hne))
  clear h hRA hTen hlG cur hx hne
  go_enter Tryz.func28, Tryz.ntmps28
  go_wp2_with fail
  refine hc58.mono ?_
  rintro e w1 ⟨rfl, q1, t1⟩
  have h1 : RLine w1 lo b g cap L en (.ok 1) C c (.slice (some ⟨G, 0, none⟩) (l0.length + 1) cp) (l0 ++ [x]) := H.out.1.call ⟨pl, q1⟩ t1
  have t2 := t1.alloc (.cells #[.string rateName, .int .i64 (a0 : Int)] 82)
  have h2 := h1.quiet ((Turn.refl (fun _ => False) w1).alloc (.cells #[.string rateName, .int .i64 (a0 : Int)] 82))
  have cd0 : (w1.alloc (.cells #[.string rateName, .int .i64 (a0 : Int)] 82)).cell? ⟨w1.heap.size, 0, none⟩ = some (.string rateName) := cell_of_block (block_alloc_new _ _) 0
  have cd1 : (w1.alloc (.cells #[.string rateName, .int .i64 (a0 : Int)] 82)).cell? ⟨w1.heap.size, 1, none⟩ = some (.int .i64 (a0 : Int)) := cell_of_block (block_alloc_new _ _) 1
  have cC := h2.cell
  have H2 := Lib.hid (And.intro h2 t2)
  clear h1 h2 t2 q1 t1 hc58
  go_upto_region 19 with (fail)
  generalize w1.alloc (.cells #[.string rateName, .int .i64 (a0 : Int)] 82) = W at *
  generalize w1.heap.size = q at *
  go_quiet (fail)
  have h3 := H2.out.1.quiet ((Turn.refl (fun _ => False) W).drewN nq)
  have t3 : Turn (fun k => k = b) w (W.drewN nq) := H2.out.2.drewN nq
  have cd0 : (W.drewN nq).cell? ⟨q, 0, none⟩ = some (.string rateName) := cd0
  have cd1 : (W.drewN nq).cell? ⟨q, 1, none⟩ = some (.int .i64 (a0 : Int)) := cd1
  clear cC H2
  generalize W.drewN nq = W3 at *
  obtain ⟨G2, cp2, cur, htv, hlG, hTen⟩ := h3.tens.last
  injection htv with hao _ hcp
  injection hao with hao
  injection hao with hG
  subst hG; subst hcp
  have hS := h3.begin hlG hTen
  have H3 := Lib.hid (And.intro h3 (And.intro t3 (And.intro hlG hTen.blk)))
  clear h3 t3 hTen hlG
  obtain ⟨v1, hc1, hm1, hv1⟩ := rNum_any 4294967295 (by decide) b g cap L en (.ok 1) W3 hS.line
  have hgets := ten_get x.1 hS.ten.wf x.2.1 x.2.2.1 x.2.2.2
  have HS := Lib.hid (And.intro hS (And.intro hv1 hgets))
  clear hS hv1 hgets
  go_wp2_with fail
  refine hc1.mono ?_
  rintro e w4 ⟨rfl, q4, t4⟩
  have hS4 := HS.out.1.call q4 t4
  have k1 := hS4.ten.cell HS.out.2.2.2.2.2.2.2.2.2.2.1
  have f1 := hS4.cellFree 31
  have HS4 := Lib.hid hS4
  clear hS4 q4 t4 hc1
  go_upto_region 50 with (fail)
  clear k1 f1
  have hS5 := HS4.out.put (j := 31) (by decide) (.int .u32 (v1 : Int)) { x.1 with rate := v1 } ((ten_set_num x.1 HS4.out.ten.wf x.2.1 x.2.2.1 x.2.2.2).2.2.2.2.2.1 v1) rfl rfl rfl ⟨HS4.out.ten.wf.key, HS4.out.ten.wf.vmac, HS4.out.ten.wf.host⟩
  generalize w4.setCell ⟨G, l0.length * 33 + 31, none⟩ (.int .u32 (v1 : Int)) = W5 at *
  obtain ⟨v2, hc2, hm2, hv2⟩ := rNum_any 4294967295 (by decide) b g cap L en _ W5 hS5.line
  have hgets2 := ten_get { x.1 with rate := v1 } hS5.ten.wf x.2.1 x.2.2.1 x.2.2.2
  have HS5 := Lib.hid (And.intro hS5 (And.intro hv2 hgets2))
  clear hS5 hv2 hgets2 HS4
  go_wp2_with fail
  refine hc2.mono ?_
  rintro e w6 ⟨rfl, q6, t6⟩
  have hS6 := HS5.out.1.call q6 t6
  have k2 := hS6.ten.cell HS5.out.2.2.2.2.2.2.2.2.2.2.2
  have f2 := hS6.cellFree 32
  have HS6 := Lib.hid hS6
  clear hS6 q6 t6 hc2
  go_wp2_with fail
  go_end0
  have hS7 := HS6.out.put (j := 32) (by decide) (.int .u32 (v2 : Int)) { x.1 with rate := v1, burst := v2 } ((ten_set_num { x.1 with rate := v1 } HS6.out.ten.wf x.2.1 x.2.2.1 x.2.2.2).2.2.2.2.2.2 v2) rfl rfl rfl ⟨HS6.out.ten.wf.key, HS6.out.ten.wf.vmac, HS6.out.ten.wf.host⟩
  refine rline_close (F := twoP 4294967295 (fun a b => { x.1 with rate := a, burst := b }) L en 1) H3.out.2.1 H3.out.1 H3.out.2.2.1 H3.out.2.2.2 H.out.2.1 H.out.2.2 hS7 (by rfl) ?_ ?_
  · exact two_st _ _ _ _ _
  · exact two_val HS.out.2.1 HS5.out.2.1
end Go.Proofs.YtbkpbcmjgbdbkaaGreatDoor

/-! X5 -/
namespace Go.Proofs.YtbkpbcmjgbdbkaaGreatDoor
open Go.RowKit Go.Lib
set_option linter.unusedVariables false
set_option linter.unusedSimpArgs false
set_option maxRecDepth 100000
set_option pp.maxSteps 2500

theorem map_st {α : Type} {r : Except Nat (α × Nat)} {f : α → Ten} : r.map (·.2) = (r.bind fun x => .ok (f x.1, x.2) : Except Nat (Ten × Nat)).map (·.2) := by
  cases r <;> rfl
theorem map_val {α : Type} {r : Except Nat (α × Nat)} {f : α → Ten} {v : α} (h : ∀ x m, r = .ok (x, m) → x = v) : ∀ u m, (r.bind fun x => .ok (f x.1, x.2) : Except Nat (Ten × Nat)) = .ok (u, m) → f v = u := by
  intro u m hu
  cases r with
  | error pl => cases hu
  | ok x =>
    obtain ⟨a, k⟩ := x
    have := h a k rfl
    subst this
    cases hu
    rfl
theorem map_no {α : Type} {r : Except Nat (α × Nat)} {f : α → Ten} {Q : Ten → Prop} (h : ∀ x m, r ≠ .ok (x, m)) : ∀ u m, (r.bind fun x => .ok (f x.1, x.2) : Except Nat (Ten × Nat)) = .ok (u, m) → Q u := by
  intro u m hu
  cases r with
  | error pl => cases hu
  | ok x => exact absurd rfl (h x.1 x.2)
def pairS (L : List Wd) (en : Nat) : Except Nat ((Nat × Nat) × Nat) := pairP L en 1
theorem pair_st (L : List Wd) (en n : Nat) : (readS ipOf ((readS ipOf (.ok n) L en).map (·.2)) L en).map (·.2) = (pairP L en n).map (·.2) := by
  unfold pairP
  show (readS ipOf ((readP ipOf L en n).map (·.2)) L en).map (·.2) = _
  rcases except_cases (readP ipOf L en n) with ⟨pl, h1⟩ | ⟨⟨a, m⟩, h1⟩
  · rw [h1]; rfl
  · rw [h1]
    show (readP ipOf L en m).map (·.2) = _
    dsimp only
    rcases except_cases (readP ipOf L en m) with ⟨pl, h2⟩ | ⟨⟨b, k⟩, h2⟩
    · rw [h2]; rfl
    · rw [h2]; rfl
theorem pair_val {L : List Wd} {en n v1 v2 : Nat} (h1 : ∀ x m, readS ipOf (.ok n) L en = .ok (x, m) → x = v1) (h2 : ∀ x m, readS ipOf ((readS ipOf (.ok n) L en).map (·.2)) L en = .ok (x, m) → x = v2) : ∀ u m, pairP L en n = .ok (u, m) → u = (v1, v2) := by
  intro u m hu
  unfold pairP at hu
  have h1 : ∀ x m, readP ipOf L en n = .ok (x, m) → x = v1 := h1
  have h2 : ∀ x m, readS ipOf ((readP ipOf L en n).map (·.2)) L en = .ok (x, m) → x = v2 := h2
  rcases except_cases (readP ipOf L en n) with ⟨pl, e1⟩ | ⟨⟨a, k⟩, e1⟩
  · rw [e1] at hu; cases hu
  · have := h1 a k e1
    subst this
    rw [e1] at hu h2
    dsimp only at hu
    have h2 : ∀ x m, readP ipOf L en k = .ok (x, m) → x = v2 := h2
    rcases except_cases (readP ipOf L en k) with ⟨pl, e2⟩ | ⟨⟨b, j⟩, e2⟩
    · rw [e2] at hu; cases hu
    · have := h2 b j e2
      subst this
      rw [e2] at hu
      cases hu
      rfl

set_option maxHeartbeats 4000000 in
theorem rline_filter {lo b g cap en C : Nat} {L : List Wd} {c : Cfg} {tv : Value} {l0 : List TenM} {x : TenM} {w : World} {a0 : Nat} (h : RLine w lo b g cap L en (.ok 0) C c tv (l0 ++ [x])) (hx : L[0]? = some (filtName, a0)) (hlen : l0.length ≤ 1000000) :
    Calls Tryz.prog 28 #[.pointer (some ⟨b, 0, none⟩), .pointer (some ⟨C, 0, none⟩)] w (RLinePost w lo b g cap L en C (bodyR c L en)) := by
  obtain ⟨G, cp, cur, rfl, hlG, hTen⟩ := h.tens.last
  obtain ⟨pl, hRA⟩ := h.line
  have hc58 := rword_some b g cap L en 0 pl false w hRA filtName a0 hx
  have e0 : (filtName.toList == [116, 101, 110, 97, 110, 116]) = false := by kernel_rfl
  have e1 : (filtName.toList == [112, 111, 111, 108]) = false := by kernel_rfl
  have e2 : (filtName.toList == [112, 111, 114, 116, 115]) = false := by kernel_rfl
  have e3 : (filtName.toList == [102, 105, 108, 116, 101, 114]) = true := by kernel_rfl
  have e4 : (filtName.toList == [115, 116, 97, 116, 105, 99]) = false := by kernel_rfl
  have e5 : (filtName.toList == [116, 119, 105, 99, 101]) = false := by kernel_rfl
  have e6 : (filtName.toList == [113, 117, 111, 116, 97]) = false := by kernel_rfl
  have e7 : (filtName.toList == [114, 97, 116, 101]) = false := by kernel_rfl
  have hne : ¬ filtName = tenName := by decide
  have hl1 : (((l0.length : Int) + 1) == 0) = false := by rw [beq_eq_false_iff_ne]; omega
  have hsub : IntKind.i64.wrap (l0.length : Int) = (l0.length : Int) := by rw [IntKind.wrap_i64]; omega
  have i7 : (0 : Int) ≤ (l0.length : Int) := by omega
  have i8 : (l0.length : Int) < (l0.length : Int) + 1 := by omega
  have H := Lib.hid (And.intro h (And.intro hx hne))
  clear h hRA hTen hlG cur hx hne
  go_enter Tryz.func28, Tryz.ntmps28
  go_wp2_with fail
  refine hc58.mono ?_
  rintro e w1 ⟨rfl, q1, t1⟩
  have h1 : RLine w1 lo b g cap L en (.ok 1) C c (.slice (some ⟨G, 0, none⟩) (l0.length + 1) cp) (l0 ++ [x]) := H.out.1.call ⟨pl, q1⟩ t1
  have t2 := t1.alloc (.cells #[.string filtName, .int .i64 (a0 : Int)] 82)
  have h2 := h1.quiet ((Turn.refl (fun _ => False) w1).alloc (.cells #[.string filtName, .int .i64 (a0 : Int)] 82))
  have cd0 : (w1.alloc (.cells #[.string filtName, .int .i64 (a0 : Int)] 82)).cell? ⟨w1.heap.size, 0, none⟩ = some (.string filtName) := cell_of_block (block_alloc_new _ _) 0
  have cd1 : (w1.alloc (.cells #[.string filtName, .int .i64 (a0 : Int)] 82)).cell? ⟨w1.heap.size, 1, none⟩ = some (.int .i64 (a0 : Int)) := cell_of_block (block_alloc_new _ _) 1
  have cC := h2.cell
  have H2 := Lib.hid (And.intro h2 t2)
  clear h1 h2 t2 q1 t1 hc58
  go_upto_region 19 with (fail)
  generalize w1.alloc (.cells #[.string filtName, .int .i64 (a0 : Int)] 82) = W at *
  generalize w1.heap.size = q at *
  go_quiet (fail)
  have h3 := H2.out.1.quiet ((Turn.refl (fun _ => False) W).drewN nq)
  have t3 : Turn (fun k => k = b) w (W.drewN nq) := H2.out.2.drewN nq
  have cd0 : (W.drewN nq).cell? ⟨q, 0, none⟩ = some (.string filtName) := cd0
  have cd1 : (W.drewN nq).cell? ⟨q, 1, none⟩ = some (.int .i64 (a0 : Int)) := cd1
  clear cC H2
  generalize W.drewN nq = W3 at *
  obtain ⟨G2, cp2, cur, htv, hlG, hTen⟩ := h3.tens.last
  injection htv with hao _ hcp
  injection hao with hao
  injection hao with hG
  subst hG; subst hcp
  have hS := h3.begin hlG hTen
  have H3 := Lib.hid (And.intro h3 (And.intro t3 (And.intro hlG hTen.blk)))
  clear h3 t3 hTen hlG
  obtain ⟨fs, fa, hc1, hsz1, hw1⟩ := rword_any b g cap L en (.ok 1) W3 hS.line
  have hgets := ten_get x.1 hS.ten.wf x.2.1 x.2.2.1 x.2.2.2
  have HS := Lib.hid (And.intro hS (And.intro hw1 hgets))
  clear hS hw1 hgets
  go_wp2_with fail
  refine hc1.mono ?_
  rintro e w4 ⟨rfl, q4, t4⟩
  have hS4 := (HS.out.1.call q4 t4).quiet ((Turn.refl (fun _ => False) w4).alloc (.cells #[.string fs, .int .i64 (fa : Int)] 82))
  have cf0 : (w4.alloc (.cells #[.string fs, .int .i64 (fa : Int)] 82)).cell? ⟨w4.heap.size, 0, none⟩ = some (.string fs) := cell_of_block (block_alloc_new _ _) 0
  have cf1 : (w4.alloc (.cells #[.string fs, .int .i64 (fa : Int)] 82)).cell? ⟨w4.heap.size, 1, none⟩ = some (.int .i64 (fa : Int)) := cell_of_block (block_alloc_new _ _) 1
  have k1 := hS4.ten.cell HS.out.2.2.2.2.2.1
  have f1 := hS4.cellFree 26
  have HS4 := Lib.hid hS4
  clear hS4 q4 t4 hc1
  go_upto_region 30 with (fail)
  generalize w4.alloc (.cells #[.string fs, .int .i64 (fa : Int)] 82) = W4 at *
  generalize w4.heap.size = q4 at *
  by_cases g0 : fs.data.toList = [97, 110, 121]
  · have hf : filterOf fs.data.toList = some 0 := by rw [g0]; rfl
    have s0 : (fs.toList == [97, 110, 121]) = true := by rw [eq_bytes]; exact decide_eq_true g0
    obtain ⟨y1, y2⟩ := readS_yes HS.out.2.1 hf
    have HY := Lib.hid (And.intro y1 y2)
    clear y1 y2 hf g0
    go_wp2_with fail
    go_end0
    have hS7 := HS4.out.put (j := 26) (by decide) (.int .i64 0) { x.1 with filter := ((0 : Nat) : Int) } ((ten_set_num x.1 HS4.out.ten.wf x.2.1 x.2.2.1 x.2.2.2).2.2.1 0) rfl rfl rfl ⟨HS4.out.ten.wf.key, HS4.out.ten.wf.vmac, HS4.out.ten.wf.host⟩
    refine rline_close (F := (readP filterOf L en 1).bind fun r => .ok ({ x.1 with filter := (r.1 : Int) }, r.2)) H3.out.2.1 H3.out.1 H3.out.2.2.1 H3.out.2.2.2 H.out.2.1 H.out.2.2 hS7 (by rfl) ?_ ?_
    · rw [← HY.out.1]; exact map_st (f := fun v => { x.1 with filter := ((v : Nat) : Int) })
    · exact map_val (f := fun v => { x.1 with filter := ((v : Nat) : Int) }) HY.out.2
  by_cases g1 : fs.data.toList = [97, 100, 100, 114, 101, 115, 115]
  · have hf : filterOf fs.data.toList = some 1 := by rw [g1]; rfl
    have s0 : (fs.toList == [97, 110, 121]) = false := by rw [eq_bytes]; exact decide_eq_false g0
    have s1 : (fs.toList == [97, 100, 100, 114, 101, 115, 115]) = true := by rw [eq_bytes]; exact decide_eq_true g1
    obtain ⟨y1, y2⟩ := readS_yes HS.out.2.1 hf
    have HY := Lib.hid (And.intro y1 y2)
    clear y1 y2 hf g0 g1
    go_wp2_with fail
    go_end0
    have hS7 := HS4.out.put (j := 26) (by decide) (.int .i64 1) { x.1 with filter := ((1 : Nat) : Int) } ((ten_set_num x.1 HS4.out.ten.wf x.2.1 x.2.2.1 x.2.2.2).2.2.1 1) rfl rfl rfl ⟨HS4.out.ten.wf.key, HS4.out.ten.wf.vmac, HS4.out.ten.wf.host⟩
    refine rline_close (F := (readP filterOf L en 1).bind fun r => .ok ({ x.1 with filter := (r.1 : Int) }, r.2)) H3.out.2.1 H3.out.1 H3.out.2.2.1 H3.out.2.2.2 H.out.2.1 H.out.2.2 hS7 (by rfl) ?_ ?_
    · rw [← HY.out.1]; exact map_st (f := fun v => { x.1 with filter := ((v : Nat) : Int) })
    · exact map_val (f := fun v => { x.1 with filter := ((v : Nat) : Int) }) HY.out.2
  by_cases g2 : fs.data.toList = [112, 111, 114, 116]
  · have hf : filterOf fs.data.toList = some 2 := by rw [g2]; rfl
    have s0 : (fs.toList == [97, 110, 121]) = false := by rw [eq_bytes]; exact decide_eq_false g0
    have s1 : (fs.toList == [97, 100, 100, 114, 101, 115, 115]) = false := by rw [eq_bytes]; exact decide_eq_false g1
    have s2 : (fs.toList == [112, 111, 114, 116]) = true := by rw [eq_bytes]; exact decide_eq_true g2
    obtain ⟨y1, y2⟩ := readS_yes HS.out.2.1 hf
    have HY := Lib.hid (And.intro y1 y2)
    clear y1 y2 hf g0 g1 g2
    go_wp2_with fail
    go_end0
    have hS7 := HS4.out.put (j := 26) (by decide) (.int .i64 2) { x.1 with filter := ((2 : Nat) : Int) } ((ten_set_num x.1 HS4.out.ten.wf x.2.1 x.2.2.1 x.2.2.2).2.2.1 2) rfl rfl rfl ⟨HS4.out.ten.wf.key, HS4.out.ten.wf.vmac, HS4.out.ten.wf.host⟩
    refine rline_close (F := (readP filterOf L en 1).bind fun r => .ok ({ x.1 with filter := (r.1 : Int) }, r.2)) H3.out.2.1 H3.out.1 H3.out.2.2.1 H3.out.2.2.2 H.out.2.1 H.out.2.2 hS7 (by rfl) ?_ ?_
    · rw [← HY.out.1]; exact map_st (f := fun v => { x.1 with filter := ((v : Nat) : Int) })
    · exact map_val (f := fun v => { x.1 with filter := ((v : Nat) : Int) }) HY.out.2
  have hf : filterOf fs.data.toList = none := by unfold filterOf; rw [if_neg g0, if_neg g1, if_neg g2]
  have s0 : (fs.toList == [97, 110, 121]) = false := by rw [eq_bytes]; exact decide_eq_false g0
  have s1 : (fs.toList == [97, 100, 100, 114, 101, 115, 115]) = false := by rw [eq_bytes]; exact decide_eq_false g1
  have s2 : (fs.toList == [112, 111, 114, 116]) = false := by rw [eq_bytes]; exact decide_eq_false g2
  obtain ⟨y1, y2⟩ := readS_no HS.out.2.1 hf
  have HY := Lib.hid (And.intro y1 y2)
  have h29 := rfail_any b g cap L en _ fa W4 HS4.out.line
  clear y1 y2 hf g0 g1 g2
  go_wp2_with fail
  refine h29.mono ?_
  rintro e w8 ⟨rfl, q8, t8⟩
  have hS7 := HS4.out.call q8 t8
  have HS7 := Lib.hid hS7
  clear h29 hS7 q8 t8
  go_wp2_with fail
  go_end0
  refine rline_close (F := (readP filterOf L en 1).bind fun r => .ok ({ x.1 with filter := (r.1 : Int) }, r.2)) H3.out.2.1 H3.out.1 H3.out.2.2.1 H3.out.2.2.2 H.out.2.1 H.out.2.2 HS7.out (by rfl) ?_ ?_
  · rw [← HY.out.1]; exact map_st (f := fun v => { x.1 with filter := ((v : Nat) : Int) })
  · exact fun u m hu => (map_no (f := fun v => { x.1 with filter := ((v : Nat) : Int) }) (Q := fun _ => False) (fun z m hz => HY.out.2 z m hz) u m hu).elim
set_option maxHeartbeats 4000000 in
theorem rline_static {lo b g cap en C : Nat} {L : List Wd} {c : Cfg} {tv : Value} {l0 : List TenM} {x : TenM} {w : World} {a0 : Nat} (h : RLine w lo b g cap L en (.ok 0) C c tv (l0 ++ [x])) (hx : L[0]? = some (statName, a0)) (hlen : l0.length ≤ 1000000) (hb : x.1.statics.length ≤ 10000000) :
    Calls Tryz.prog 28 #[.pointer (some ⟨b, 0, none⟩), .pointer (some ⟨C, 0, none⟩)] w (RLinePost w lo b g cap L en C (bodyR c L en)) := by
  obtain ⟨G, cp, cur, rfl, hlG, hTen⟩ := h.tens.last
  obtain ⟨pl, hRA⟩ := h.line
  have hc58 := rword_some b g cap L en 0 pl false w hRA statName a0 hx
  have e0 : (statName.toList == [116, 101, 110, 97, 110, 116]) = false := by kernel_rfl
  have e1 : (statName.toList == [112, 111, 111, 108]) = false := by kernel_rfl
  have e2 : (statName.toList == [112, 111, 114, 116, 115]) = false := by kernel_rfl
  have e3 : (statName.toList == [102, 105, 108, 116, 101, 114]) = false := by kernel_rfl
  have e4 : (statName.toList == [115, 116, 97, 116, 105, 99]) = true := by kernel_rfl
  have e5 : (statName.toList == [116, 119, 105, 99, 101]) = false := by kernel_rfl
  have e6 : (statName.toList == [113, 117, 111, 116, 97]) = false := by kernel_rfl
  have e7 : (statName.toList == [114, 97, 116, 101]) = false := by kernel_rfl
  have hne : ¬ statName = tenName := by decide
  have hl1 : (((l0.length : Int) + 1) == 0) = false := by rw [beq_eq_false_iff_ne]; omega
  have hsub : IntKind.i64.wrap (l0.length : Int) = (l0.length : Int) := by rw [IntKind.wrap_i64]; omega
  have i7 : (0 : Int) ≤ (l0.length : Int) := by omega
  have i8 : (l0.length : Int) < (l0.length : Int) + 1 := by omega
  have H := Lib.hid (And.intro h (And.intro hx hne))
  clear h hRA hTen hlG cur hx hne
  go_enter Tryz.func28, Tryz.ntmps28
  go_wp2_with fail
  refine hc58.mono ?_
  rintro e w1 ⟨rfl, q1, t1⟩
  have h1 : RLine w1 lo b g cap L en (.ok 1) C c (.slice (some ⟨G, 0, none⟩) (l0.length + 1) cp) (l0 ++ [x]) := H.out.1.call ⟨pl, q1⟩ t1
  have t2 := t1.alloc (.cells #[.string statName, .int .i64 (a0 : Int)] 82)
  have h2 := h1.quiet ((Turn.refl (fun _ => False) w1).alloc (.cells #[.string statName, .int .i64 (a0 : Int)] 82))
  have cd0 : (w1.alloc (.cells #[.string statName, .int .i64 (a0 : Int)] 82)).cell? ⟨w1.heap.size, 0, none⟩ = some (.string statName) := cell_of_block (block_alloc_new _ _) 0
  have cd1 : (w1.alloc (.cells #[.string statName, .int .i64 (a0 : Int)] 82)).cell? ⟨w1.heap.size, 1, none⟩ = some (.int .i64 (a0 : Int)) := cell_of_block (block_alloc_new _ _) 1
  have cdb : (w1.alloc (.cells #[.string statName, .int .i64 (a0 : Int)] 82)).heap[w1.heap.size]? = some (.cells #[.string statName, .int .i64 (a0 : Int)] 82 (0, 0)) := block_alloc_new _ _
  have cC := h2.cell
  have H2 := Lib.hid (And.intro h2 t2)
  clear h1 h2 t2 q1 t1 hc58
  go_upto_region 19 with (fail)
  generalize w1.alloc (.cells #[.string statName, .int .i64 (a0 : Int)] 82) = W at *
  generalize w1.heap.size = q at *
  go_quiet (fail)
  have h3 := H2.out.1.quiet ((Turn.refl (fun _ => False) W).drewN nq)
  have t3 : Turn (fun k => k = b) w (W.drewN nq) := H2.out.2.drewN nq
  have cd0 : (W.drewN nq).cell? ⟨q, 0, none⟩ = some (.string statName) := cd0
  have cd1 : (W.drewN nq).cell? ⟨q, 1, none⟩ = some (.int .i64 (a0 : Int)) := cd1
  have cdb : (W.drewN nq).heap[q]? = some (.cells #[.string statName, .int .i64 (a0 : Int)] 82 (0, 0)) := cdb
  clear cC H2
  generalize W.drewN nq = W3 at *
  obtain ⟨G2, cp2, cur, htv, hlG, hTen⟩ := h3.tens.last
  injection htv with hao _ hcp
  injection hao with hao
  injection hao with hG
  subst hG; subst hcp
  have hS := h3.begin hlG hTen
  have H3 := Lib.hid (And.intro h3 (And.intro t3 (And.intro hlG hTen.blk)))
  clear h3 t3 hTen hlG
  obtain ⟨i0, hi0, hz0, hz1, hz2⟩ := info_parts info97
  obtain ⟨v1, hc1, hv1⟩ := rIp_any b g cap L en (.ok 1) W3 hS.line
  have hgets := ten_get x.1 hS.ten.wf x.2.1 x.2.2.1 x.2.2.2
  have HS := Lib.hid (And.intro hS (And.intro hv1 hgets))
  have hqb : q ≠ b := by obtain ⟨bs, hb⟩ := H3.out.1.line.bty; exact tag_ne cdb hb (by decide)
  have hq0 := block_lt cdb
  clear cdb
  clear hS hv1 hgets
  go_wp2_with fail
  refine hc1.mono ?_
  rintro e w4 ⟨rfl, q4, t4⟩
  have hS4 := HS.out.1.call q4 t4
  have cd4 := (cell_turn0 t4 hq0 hqb).trans cd0
  have hq4 := Nat.lt_of_lt_of_le hq0 t4.size
  obtain ⟨v2, hc2, hv2⟩ := rIp_any b g cap L en _ w4 hS4.line
  have HS4 := Lib.hid (And.intro hS4 hv2)
  clear hS4 hv2 q4 t4 hc1
  go_wp2_with fail
  refine hc2.mono ?_
  rintro e w5 ⟨rfl, q5, t5⟩
  have hS5 := HS4.out.1.call q5 t5
  have cd5 := (cell_turn0 t5 hq4 hqb).trans cd4
  have k1 := hS5.ten.cell HS.out.2.2.2.2.2.2.1
  have HS5 := Lib.hid hS5
  clear hS5 q5 t5 hc2 cd0 cd1 cd4 hq4 hqb
  go_wp2_with (at_builtin; refine wpList_append_own_at _ rfl _ _ 43 rfl lo 97 i0 (.agg #[.int .u32 0, .int .u32 0]) 2 8 Tryz.underlying43 hi0 hz0 hz1 hz2 rfl (by decide) _ _ _ rfl (HS5.out.ten.stat.alloc (.cells #[.int .u32 (v1 : Int), .int .u32 (v2 : Int)] 97)) ⟨w5.heap.size, 0, none⟩ 1 1 [.int .u32 (v1 : Int), .int .u32 (v2 : Int)] rfl rfl (World.news_of_block (block_alloc_new _ _)) (by intro u hu; simp at hu; rcases hu with rfl | rfl <;> rfl) (by unfold maxLen; omega) (by omega) (by have := HS5.out.low; have := HS5.out.turn.size; simp; omega) ?_)
  intro v' w' hown' hgrow _ hat
  have hS6 := HS5.out.quiet ((Turn.refl (fun _ => False) w5).alloc (.cells #[.int .u32 (v1 : Int), .int .u32 (v2 : Int)] 97))
  have hb6 := ((turn_of_grown hgrow).block G (block_lt hS6.ten.blk) (fun e => hS6.ten.off (Or.inr (Or.inl e)))).trans hS6.ten.blk
  obtain ⟨ao2, cap2, rfl, _⟩ := own_form hown' hb6 (by decide)
  have k2 : w'.cell? ⟨G, l0.length * 33 + 27, none⟩ = some x.2.2.1 := (cell_of_block hb6 _).trans (hS6.ten.row 27 _ HS.out.2.2.2.2.2.2.1)
  have f2 : w'.frozen? ⟨G, l0.length * 33 + 27, none⟩ = false := free_of_block hb6 _
  have hS7 := hS6.statPut  (v1, v2) hown' (turn_of_grown hgrow) (hat.imp id (fun e => e.trans (by simp)))
  have HS7 := Lib.hid hS7
  clear hS7 hS6 hb6 hown' hgrow hat
  go_wp2_with fail
  go_end0
  refine rline_close (F := (pairP L en 1).bind fun r => .ok ({ x.1 with statics := x.1.statics ++ [r.1] }, r.2)) H3.out.2.1 H3.out.1 H3.out.2.2.1 H3.out.2.2.2 H.out.2.1 H.out.2.2 HS7.out (by rfl) ?_ ?_
  · rw [pair_st]; exact map_st (f := fun v => { x.1 with statics := x.1.statics ++ [v] })
  · exact map_val (f := fun v => { x.1 with statics := x.1.statics ++ [v] }) (pair_val HS.out.2.1 HS4.out.2)
set_option maxHeartbeats 4000000 in
theorem rline_twice {lo b g cap en C : Nat} {L : List Wd} {c : Cfg} {tv : Value} {l0 : List TenM} {x : TenM} {w : World} {a0 : Nat} (h : RLine w lo b g cap L en (.ok 0) C c tv (l0 ++ [x])) (hx : L[0]? = some (twiceName, a0)) (hlen : l0.length ≤ 1000000) (hb : x.1.twices.length ≤ 10000000) :
    Calls Tryz.prog 28 #[.pointer (some ⟨b, 0, none⟩), .pointer (some ⟨C, 0, none⟩)] w (RLinePost w lo b g cap L en C (bodyR c L en)) := by
  obtain ⟨G, cp, cur, rfl, hlG, hTen⟩ := h.tens.last
  obtain ⟨pl, hRA⟩ := h.line
  have hc58 := rword_some b g cap L en 0 pl false w hRA twiceName a0 hx
  have e0 : (twiceName.toList == [116, 101, 110, 97, 110, 116]) = false := by kernel_rfl
  have e1 : (twiceName.toList == [112, 111, 111, 108]) = false := by kernel_rfl
  have e2 : (twiceName.toList == [112, 111, 114, 116, 115]) = false := by kernel_rfl
  have e3 : (twiceName.toList == [102, 105, 108, 116, 101, 114]) = false := by kernel_rfl
  have e4 : (twiceName.toList == [115, 116, 97, 116, 105, 99]) = false := by kernel_rfl
  have e5 : (twiceName.toList == [116, 119, 105, 99, 101]) = true := by kernel_rfl
  have e6 : (twiceName.toList == [113, 117, 111, 116, 97]) = false := by kernel_rfl
  have e7 : (twiceName.toList == [114, 97, 116, 101]) = false := by kernel_rfl
  have hne : ¬ twiceName = tenName := by decide
  have hl1 : (((l0.length : Int) + 1) == 0) = false := by rw [beq_eq_false_iff_ne]; omega
  have hsub : IntKind.i64.wrap (l0.length : Int) = (l0.length : Int) := by rw [IntKind.wrap_i64]; omega
  have i7 : (0 : Int) ≤ (l0.length : Int) := by omega
  have i8 : (l0.length : Int) < (l0.length : Int) + 1 := by omega
  have H := Lib.hid (And.intro h (And.intro hx hne))
  clear h hRA hTen hlG cur hx hne
  go_enter Tryz.func28, Tryz.ntmps28
  go_wp2_with fail
  refine hc58.mono ?_
  rintro e w1 ⟨rfl, q1, t1⟩
  have h1 : RLine w1 lo b g cap L en (.ok 1) C c (.slice (some ⟨G, 0, none⟩) (l0.length + 1) cp) (l0 ++ [x]) := H.out.1.call ⟨pl, q1⟩ t1
  have t2 := t1.alloc (.cells #[.string twiceName, .int .i64 (a0 : Int)] 82)
  have h2 := h1.quiet ((Turn.refl (fun _ => False) w1).alloc (.cells #[.string twiceName, .int .i64 (a0 : Int)] 82))
  have cd0 : (w1.alloc (.cells #[.string twiceName, .int .i64 (a0 : Int)] 82)).cell? ⟨w1.heap.size, 0, none⟩ = some (.string twiceName) := cell_of_block (block_alloc_new _ _) 0
  have cd1 : (w1.alloc (.cells #[.string twiceName, .int .i64 (a0 : Int)] 82)).cell? ⟨w1.heap.size, 1, none⟩ = some (.int .i64 (a0 : Int)) := cell_of_block (block_alloc_new _ _) 1
  have cdb : (w1.alloc (.cells #[.string twiceName, .int .i64 (a0 : Int)] 82)).heap[w1.heap.size]? = some (.cells #[.string twiceName, .int .i64 (a0 : Int)] 82 (0, 0)) := block_alloc_new _ _
  have cC := h2.cell
  have H2 := Lib.hid (And.intro h2 t2)
  clear h1 h2 t2 q1 t1 hc58
  go_upto_region 19 with (fail)
  generalize w1.alloc (.cells #[.string twiceName, .int .i64 (a0 : Int)] 82) = W at *
  generalize w1.heap.size = q at *
  go_quiet (fail)
  have h3 := H2.out.1.quiet ((Turn.refl (fun _ => False) W).drewN nq)
  have t3 : Turn (fun k => k = b) w (W.drewN nq) := H2.out.2.drewN nq
  have cd0 : (W.drewN nq).cell? ⟨q, 0, none⟩ = some (.string twiceName) := cd0
  have cd1 : (W.drewN nq).cell? ⟨q, 1, none⟩ = some (.int .i64 (a0 : Int)) := cd1
  have cdb : (W.drewN nq).heap[q]? = some (.cells #[.string twiceName, .int .i64 (a0 : Int)] 82 (0, 0)) := cdb
  clear cC H2
  generalize W.drewN nq = W3 at *
  obtain ⟨G2, cp2, cur, htv, hlG, hTen⟩ := h3.tens.last
  injection htv with hao _ hcp
  injection hao with hao
  injection hao with hG
  subst hG; subst hcp
  have hS := h3.begin hlG hTen
  have H3 := Lib.hid (And.intro h3 (And.intro t3 (And.intro hlG hTen.blk)))
  clear h3 t3 hTen hlG
  obtain ⟨i0, hi0, hz0, hz1, hz2⟩ := info_parts info97
  obtain ⟨v1, hc1, hv1⟩ := rIp_any b g cap L en (.ok 1) W3 hS.line
  have hgets := ten_get x.1 hS.ten.wf x.2.1 x.2.2.1 x.2.2.2
  have HS := Lib.hid (And.intro hS (And.intro hv1 hgets))
  have hqb : q ≠ b := by obtain ⟨bs, hb⟩ := H3.out.1.line.bty; exact tag_ne cdb hb (by decide)
  have hq0 := block_lt cdb
  clear cdb
  clear hS hv1 hgets
  go_wp2_with fail
  refine hc1.mono ?_
  rintro e w4 ⟨rfl, q4, t4⟩
  have hS4 := HS.out.1.call q4 t4
  have cd4 := (cell_turn0 t4 hq0 hqb).trans cd0
  have hq4 := Nat.lt_of_lt_of_le hq0 t4.size
  obtain ⟨v2, hc2, hv2⟩ := rIp_any b g cap L en _ w4 hS4.line
  have HS4 := Lib.hid (And.intro hS4 hv2)
  clear hS4 hv2 q4 t4 hc1
  go_wp2_with fail
  refine hc2.mono ?_
  rintro e w5 ⟨rfl, q5, t5⟩
  have hS5 := HS4.out.1.call q5 t5
  have cd5 := (cell_turn0 t5 hq4 hqb).trans cd4
  have k1 := hS5.ten.cell HS.out.2.2.2.2.2.2.2.1
  have HS5 := Lib.hid hS5
  clear hS5 q5 t5 hc2 cd0 cd1 cd4 hq4 hqb
  go_wp2_with (at_builtin; refine wpList_append_own_at _ rfl _ _ 43 rfl lo 97 i0 (.agg #[.int .u32 0, .int .u32 0]) 2 8 Tryz.underlying43 hi0 hz0 hz1 hz2 rfl (by decide) _ _ _ rfl (HS5.out.ten.twic.alloc (.cells #[.int .u32 (v1 : Int), .int .u32 (v2 : Int)] 97)) ⟨w5.heap.size, 0, none⟩ 1 1 [.int .u32 (v1 : Int), .int .u32 (v2 : Int)] rfl rfl (World.news_of_block (block_alloc_new _ _)) (by intro u hu; simp at hu; rcases hu with rfl | rfl <;> rfl) (by unfold maxLen; omega) (by omega) (by have := HS5.out.low; have := HS5.out.turn.size; simp; omega) ?_)
  intro v' w' hown' hgrow _ hat
  have hS6 := HS5.out.quiet ((Turn.refl (fun _ => False) w5).alloc (.cells #[.int .u32 (v1 : Int), .int .u32 (v2 : Int)] 97))
  have hb6 := ((turn_of_grown hgrow).block G (block_lt hS6.ten.blk) (fun e => hS6.ten.off (Or.inr (Or.inr e)))).trans hS6.ten.blk
  obtain ⟨ao2, cap2, rfl, _⟩ := own_form hown' hb6 (by decide)
  have k2 : w'.cell? ⟨G, l0.length * 33 + 28, none⟩ = some x.2.2.2 := (cell_of_block hb6 _).trans (hS6.ten.row 28 _ HS.out.2.2.2.2.2.2.2.1)
  have f2 : w'.frozen? ⟨G, l0.length * 33 + 28, none⟩ = false := free_of_block hb6 _
  have hS7 := hS6.twicPut  (v1, v2) hown' (turn_of_grown hgrow) (hat.imp id (fun e => e.trans (by simp)))
  have HS7 := Lib.hid hS7
  clear hS7 hS6 hb6 hown' hgrow hat
  go_wp2_with fail
  go_end0
  refine rline_close (F := (pairP L en 1).bind fun r => .ok ({ x.1 with twices := x.1.twices ++ [r.1] }, r.2)) H3.out.2.1 H3.out.1 H3.out.2.2.1 H3.out.2.2.2 H.out.2.1 H.out.2.2 HS7.out (by rfl) ?_ ?_
  · rw [pair_st]; exact map_st (f := fun v => { x.1 with twices := x.1.twices ++ [v] })
  · exact map_val (f := fun v => { x.1 with twices := x.1.twices ++ [v] }) (pair_val HS.out.2.1 HS4.out.2)
end Go.Proofs.YtbkpbcmjgbdbkaaGreatDoor

/-! X6 -/
namespace Go.Proofs.YtbkpbcmjgbdbkaaGreatDoor
open Go.RowKit Go.Lib
set_option linter.unusedVariables false
set_option linter.unusedSimpArgs false
set_option maxRecDepth 100000
set_option pp.maxSteps 2500

/-- The pool's loop: what was read so far; or the first error. -/
def PoolS (w : World) (lo b g cap : Nat) (L : List Wd) (en G o : Nat) (cur0 : Array Value) (p0 s0 q0 : Value) (t : Ten) (g' : Nat) (W : World) : Prop :=
  (∃ m l cur p, g' = L.length - m + 1 ∧ RSt w lo b g cap L en G o cur0 p0 s0 q0 (.ok m) cur { t with pool := l } p s0 q0 W ∧ poolGo L en (L.length - 1) 1 t.pool = poolGo L en (L.length - m) m l ∧ l.length + 1 = t.pool.length + m) ∨
  (∃ pl l cur p, g' = 0 ∧ RSt w lo b g cap L en G o cur0 p0 s0 q0 (.error pl) cur { t with pool := l } p s0 q0 W ∧ poolGo L en (L.length - 1) 1 t.pool = .error pl)
/-- A round's end. -/
theorem PoolS.next {w W : World} {lo b g cap en G o m v : Nat} {L : List Wd} {cur0 cur : Array Value} {p0 s0 q0 p : Value} {t : Ten} {l : List Nat} (hm : m < L.length)
    (h : RSt w lo b g cap L en G o cur0 p0 s0 q0 ((readS ipOf (.ok m) L en).map (·.2)) cur { t with pool := l ++ [v] } p s0 q0 W) (hv : ∀ x k, readS ipOf (.ok m) L en = .ok (x, k) → x = v)
    (hgo : poolGo L en (L.length - 1) 1 t.pool = poolGo L en (L.length - m) m l) (hl : l.length + 1 = t.pool.length + m) : ∃ g', g' < L.length - m + 1 ∧ PoolS w lo b g cap L en G o cur0 p0 s0 q0 t g' W := by
  have hv : ∀ x k, readP ipOf L en m = .ok (x, k) → x = v := hv
  have h : RSt w lo b g cap L en G o cur0 p0 s0 q0 ((readP ipOf L en m).map (·.2)) cur { t with pool := l ++ [v] } p s0 q0 W := h
  rw [show L.length - m = (L.length - (m + 1)) + 1 by omega] at hgo
  rcases except_cases (readP ipOf L en m) with ⟨pl, h1⟩ | ⟨⟨a, k⟩, h1⟩
  · rw [h1] at h
    refine ⟨0, by omega, Or.inr ⟨pl, _, _, _, rfl, h, ?_⟩⟩
    rw [hgo, poolGo, h1]
  · obtain ⟨rfl, _⟩ := readP_n h1
    obtain rfl := hv a _ h1
    rw [h1] at h
    refine ⟨L.length - (m + 1) + 1, by omega, Or.inl ⟨m + 1, _, _, _, rfl, h, ?_, by rw [List.length_append]; simp; omega⟩⟩
    rw [hgo, poolGo, h1]

set_option maxHeartbeats 4000000 in
theorem rline_pool {lo b g cap en C : Nat} {L : List Wd} {c : Cfg} {tv : Value} {l0 : List TenM} {x : TenM} {w : World} {a0 : Nat} (h : RLine w lo b g cap L en (.ok 0) C c tv (l0 ++ [x])) (hx : L[0]? = some (poolName, a0)) (hlen : l0.length ≤ 1000000) (hb : x.1.pool.length + L.length ≤ 10000000) :
    Calls Tryz.prog 28 #[.pointer (some ⟨b, 0, none⟩), .pointer (some ⟨C, 0, none⟩)] w (RLinePost w lo b g cap L en C (bodyR c L en)) := by
  obtain ⟨G, cp, cur, rfl, hlG, hTen⟩ := h.tens.last
  obtain ⟨pl, hRA⟩ := h.line
  have hc58 := rword_some b g cap L en 0 pl false w hRA poolName a0 hx
  have e0 : (poolName.toList == [116, 101, 110, 97, 110, 116]) = false := by kernel_rfl
  have e1 : (poolName.toList == [112, 111, 111, 108]) = true := by kernel_rfl
  have e2 : (poolName.toList == [112, 111, 114, 116, 115]) = false := by kernel_rfl
  have e3 : (poolName.toList == [102, 105, 108, 116, 101, 114]) = false := by kernel_rfl
  have e4 : (poolName.toList == [115, 116, 97, 116, 105, 99]) = false := by kernel_rfl
  have e5 : (poolName.toList == [116, 119, 105, 99, 101]) = false := by kernel_rfl
  have e6 : (poolName.toList == [113, 117, 111, 116, 97]) = false := by kernel_rfl
  have e7 : (poolName.toList == [114, 97, 116, 101]) = false := by kernel_rfl
  have hne : ¬ poolName = tenName := by decide
  have hl1 : (((l0.length : Int) + 1) == 0) = false := by rw [beq_eq_false_iff_ne]; omega
  have hsub : IntKind.i64.wrap (l0.length : Int) = (l0.length : Int) := by rw [IntKind.wrap_i64]; omega
  have i7 : (0 : Int) ≤ (l0.length : Int) := by omega
  have i8 : (l0.length : Int) < (l0.length : Int) + 1 := by omega
  have H := Lib.hid (And.intro h (And.intro hx hne))
  clear h hRA hTen hlG cur hx hne
  go_enter Tryz.func28, Tryz.ntmps28
  go_wp2_with fail
  refine hc58.mono ?_
  rintro e w1 ⟨rfl, q1, t1⟩
  have h1 : RLine w1 lo b g cap L en (.ok 1) C c (.slice (some ⟨G, 0, none⟩) (l0.length + 1) cp) (l0 ++ [x]) := H.out.1.call ⟨pl, q1⟩ t1
  have t2 := t1.alloc (.cells #[.string poolName, .int .i64 (a0 : Int)] 82)
  have h2 := h1.quiet ((Turn.refl (fun _ => False) w1).alloc (.cells #[.string poolName, .int .i64 (a0 : Int)] 82))
  have cd0 : (w1.alloc (.cells #[.string poolName, .int .i64 (a0 : Int)] 82)).cell? ⟨w1.heap.size, 0, none⟩ = some (.string poolName) := cell_of_block (block_alloc_new _ _) 0
  have cd1 : (w1.alloc (.cells #[.string poolName, .int .i64 (a0 : Int)] 82)).cell? ⟨w1.heap.size, 1, none⟩ = some (.int .i64 (a0 : Int)) := cell_of_block (block_alloc_new _ _) 1
  have cC := h2.cell
  have H2 := Lib.hid (And.intro h2 t2)
  clear h1 h2 t2 q1 t1 hc58
  go_upto_region 19 with (fail)
  generalize w1.alloc (.cells #[.string poolName, .int .i64 (a0 : Int)] 82) = W at *
  generalize w1.heap.size = q at *
  go_quiet (fail)
  have h3 := H2.out.1.quiet ((Turn.refl (fun _ => False) W).drewN nq)
  have t3 : Turn (fun k => k = b) w (W.drewN nq) := H2.out.2.drewN nq
  have cd0 : (W.drewN nq).cell? ⟨q, 0, none⟩ = some (.string poolName) := cd0
  have cd1 : (W.drewN nq).cell? ⟨q, 1, none⟩ = some (.int .i64 (a0 : Int)) := cd1
  clear cC H2
  generalize W.drewN nq = W3 at *
  obtain ⟨G2, cp2, cur, htv, hlG, hTen⟩ := h3.tens.last
  injection htv with hao _ hcp
  injection hao with hao
  injection hao with hG
  subst hG; subst hcp
  have hS := h3.begin hlG hTen
  have H3 := Lib.hid (And.intro h3 (And.intro t3 (And.intro hlG hTen.blk)))
  clear h3 t3 hTen hlG
  obtain ⟨i0, hi0, hz0, hz1, hz2⟩ := info_parts info23
  have hst : PoolS W3 lo b g cap L en G (l0.length * 33) cur x.2.1 x.2.2.1 x.2.2.2 x.1 (L.length - 1 + 1) W3 := Or.inl ⟨1, x.1.pool, cur, x.2.1, rfl, hS, rfl, rfl⟩
  have HI := Lib.hid hst
  clear hS hst
  go_wp2_with fail
  clear cd0 cd1
  go_loopg [] (L.length - 1 + 1) (fun g' wr => Hid (PoolS W3 lo b g cap L en G (l0.length * 33) cur x.2.1 x.2.2.1 x.2.2.2 x.1 g' wr))
  case atStart => exact HI
  case round =>
    rcases hrel.out with ⟨m, l, cur1, p1, hgm, hA, hgo, hlen⟩ | ⟨pl, l, cur1, p1, hgm, hA, hgo⟩
    · obtain ⟨pl, hRA⟩ := hA.line
      have hle := hRA.le
      obtain ⟨x1, x2, x3, x4⟩ := hRA.ex
      have c0 : wr.cell? ⟨b, 0, none⟩ = some (.slice (some ⟨g, 0, none⟩) L.length cap) := cell_of_block x1 0
      have c1 : wr.cell? ⟨b, 1, none⟩ = some (.int .i64 (m : Int)) := cell_of_block x1 1
      have c4 : wr.cell? ⟨b, 4, none⟩ = some (.bool false) := cell_of_block x1 4
      clear x4 hrel x1 hRA
      by_cases hlt : m < L.length
      · have i2 : (m : Int) < (L.length : Int) := by omega
        have hd : decide ((m : Int) < (L.length : Int)) = true := decide_eq_true i2
        go_wp2_with fail
        go_quiet (fail)
        have hB := hA.quiet ((Turn.refl (fun _ => False) wr).drewN nq)
        generalize wr.drewN nq = W1 at *
        clear c0 c1 c4 hA hd
        go_wp2_with fail
        have hwf := hB.ten.wf
        have hg0 := (ten_get _ hwf p1 x.2.2.1 x.2.2.2).1
        obtain ⟨v, hcall, hv⟩ := rIp_any b g cap L en (.ok m) W1.drew (hB.quiet (Turn.refl _ _).drew).line
        have hcW : W1.drew.cell? ⟨G, l0.length * 33 + 23, none⟩ = some p1 := (hB.quiet (Turn.refl _ _).drew).ten.cell hg0
        have HB := Lib.hid (And.intro hB (And.intro hv (And.intro hgo hlen)))
        have hll : l.length ≤ 10000000 := by omega
        clear hlen hB hgo hv x2 x3 HI
        have hcall2 : Calls Tryz.prog 24 #[.pointer (some ⟨b, 0, none⟩)] W1.drew (fun e w1 => e = .returned (.int .u32 (v : Int)) ∧ RSt W3 lo b g cap L en G (l0.length * 33) cur x.2.1 x.2.2.1 x.2.2.2 ((readS ipOf (.ok m) L en).map (·.2)) cur1 { x.1 with pool := l } p1 x.2.2.1 x.2.2.2 w1 ∧ w1.cell? ⟨G, l0.length * 33 + 23, none⟩ = some p1) := by
          refine hcall.mono ?_
          rintro e w1 ⟨he, l1, t1⟩
          have hq := ((HB.out.1.quiet (Turn.refl _ _).drew).call l1 t1)
          exact ⟨he, hq, hq.ten.cell hg0⟩
        clear hcall
        go_region_law
          (first
            | (go_simp; go_at_call 24; refine hcall2.mono ?_; rintro e w1 ⟨rfl, hq, hc⟩; have hc2 := alloc_cell hc; have HQ := Lib.hid hq; clear hq)
            | (refine step_append_lies _ (by rfl) _ _ _ (by rfl) lo 23 i0 (.int .u32 0) 1 4 Tryz.underlying41 hi0 hz0 hz1 hz2 rfl (by decide) p1 l.length _ (by rfl) (HQ.out.ten.pool.alloc _) ⟨w1.heap.size, 0, none⟩ 1 1 [.int .u32 (v : Int)] (by rfl) (by rfl) (World.news_of_block (block_alloc_new _ _)) (by intro u hu; simp at hu; subst hu; rfl) (by omega) (by unfold maxLen; omega) (by omega) (by have := HQ.out.low; have := HQ.out.turn.size; simp; omega) (w1.heap.size + 1) (by simp) ?_
               intro g' cap' w' hown' hgrow hwhere hlt'
               have hq2 := HQ.out.quiet ((Turn.refl (fun _ => False) w1).alloc (.cells #[.int .u32 (v : Int)] 23))
               have hb' := ((turn_of_grown hgrow).block G (block_lt hq2.ten.blk) (fun e => hq2.ten.off (Or.inl e))).trans hq2.ten.blk
               have hc' : w'.cell? ⟨G, l0.length * 33 + 23, none⟩ = some p1 := (cell_of_block hb' _).trans (hq2.ten.row 23 _ hg0)
               have hf' : w'.frozen? ⟨G, l0.length * 33 + 23, none⟩ = false := free_of_block hb' _
               have hfin := hq2.poolPut (p' := .slice (some ⟨g', 0, none⟩) (l.length + 1) cap') v hown' (turn_of_grown hgrow) (hat_of hwhere (by simp))
               have HF := Lib.hid hfin
               clear hfin hq2 hb' hgrow hown' hwhere hlt'))
        all_goals
          obtain ⟨g2, hg2, hP⟩ := PoolS.next (t := x.1) (l := l) hlt HF.out HB.out.2.1 HB.out.2.2.1 HB.out.2.2.2
          go_wp2_with fail
          go_roundg g2
          case measure => omega
          case rel => exact Lib.hid hP
      · obtain rfl : m = L.length := by omega
        have i2 : ¬ ((L.length : Int) < (L.length : Int)) := by omega
        have hd : decide ((L.length : Int) < (L.length : Int)) = false := decide_eq_false i2
        go_wp2_with fail
        go_quiet (fail)
        have hB := hA.quiet ((Turn.refl (fun _ => False) wr).drewN nq)
        have hR : poolP L en 1 x.1 = .ok ({ x.1 with pool := l }, L.length) := by
          unfold poolP
          rw [hgo, Nat.sub_self]
          rfl
        go_wp2_with fail
        go_end0
        refine rline_close (F := poolP L en 1 x.1) H3.out.2.1 H3.out.1 H3.out.2.2.1 H3.out.2.2.2 H.out.2.1 H.out.2.2 hB (by rfl) (by rw [hR]; rfl) ?_
        intro u k hu
        rw [hR] at hu
        cases hu
        rfl
    · obtain ⟨i, hRA⟩ := hA.line
      have hle := hRA.le
      obtain ⟨x1, x2, x3, x4⟩ := hRA.ex
      have c0 : wr.cell? ⟨b, 0, none⟩ = some (.slice (some ⟨g, 0, none⟩) L.length cap) := cell_of_block x1 0
      have c1 : wr.cell? ⟨b, 1, none⟩ = some (.int .i64 (i : Int)) := cell_of_block x1 1
      have c4 : wr.cell? ⟨b, 4, none⟩ = some (.bool true) := cell_of_block x1 4
      have hR : poolP L en 1 x.1 = .error pl := by
        unfold poolP
        rw [hgo]
        rfl
      clear x4 hrel x1 hRA
      by_cases hlt : i < L.length
      · have i2 : (i : Int) < (L.length : Int) := by omega
        have hd : decide ((i : Int) < (L.length : Int)) = true := decide_eq_true i2
        go_wp2_with fail
        go_quiet (fail)
        have hB := hA.quiet ((Turn.refl (fun _ => False) wr).drewN nq)
        go_wp2_with fail
        go_end0
        refine rline_close (F := poolP L en 1 x.1) H3.out.2.1 H3.out.1 H3.out.2.2.1 H3.out.2.2.2 H.out.2.1 H.out.2.2 hB (by rfl) (by rw [hR]; rfl) ?_
        intro u k hu
        rw [hR] at hu
        cases hu
      · have i2 : ¬ ((i : Int) < (L.length : Int)) := by omega
        have hd : decide ((i : Int) < (L.length : Int)) = false := decide_eq_false i2
        go_wp2_with fail
        go_quiet (fail)
        have hB := hA.quiet ((Turn.refl (fun _ => False) wr).drewN nq)
        go_wp2_with fail
        go_end0
        refine rline_close (F := poolP L en 1 x.1) H3.out.2.1 H3.out.1 H3.out.2.2.1 H3.out.2.2.2 H.out.2.1 H.out.2.2 hB (by rfl) (by rw [hR]; rfl) ?_
        intro u k hu
        rw [hR] at hu
        cases hu
end Go.Proofs.YtbkpbcmjgbdbkaaGreatDoor

/-! X7 -/
namespace Go.Proofs.YtbkpbcmjgbdbkaaGreatDoor
open Go.RowKit Go.Lib
set_option linter.unusedVariables false
set_option linter.unusedSimpArgs false
set_option maxRecDepth 100000
set_option pp.maxSteps 2500

set_option maxHeartbeats 4000000 in
theorem rline_none {lo b g cap en C : Nat} {L : List Wd} {c : Cfg} {tv : Value} {l0 : List TenM} {x : TenM} {w : World} {xw : ByteArray} {a0 : Nat} (h : RLine w lo b g cap L en (.ok 0) C c tv (l0 ++ [x])) (hx : L[0]? = some (xw, a0)) (hlen : l0.length ≤ 1000000) (n0 : ¬ xw = tenName) (n1 : ¬ xw = poolName) (n2 : ¬ xw = portsName) (n3 : ¬ xw = filtName) (n4 : ¬ xw = statName) (n5 : ¬ xw = twiceName) (n6 : ¬ xw = quotaName) (n7 : ¬ xw = rateName) :
    Calls Tryz.prog 28 #[.pointer (some ⟨b, 0, none⟩), .pointer (some ⟨C, 0, none⟩)] w (RLinePost w lo b g cap L en C (bodyR c L en)) := by
  obtain ⟨G, cp, cur, rfl, hlG, hTen⟩ := h.tens.last
  obtain ⟨pl, hRA⟩ := h.line
  have hc58 := rword_some b g cap L en 0 pl false w hRA xw a0 hx
  have e0 : (xw.toList == [116, 101, 110, 97, 110, 116]) = false := by have := str_ne n0; rwa [show tenName.toList = [116, 101, 110, 97, 110, 116] by kernel_rfl] at this
  have e1 : (xw.toList == [112, 111, 111, 108]) = false := by have := str_ne n1; rwa [show poolName.toList = [112, 111, 111, 108] by kernel_rfl] at this
  have e2 : (xw.toList == [112, 111, 114, 116, 115]) = false := by have := str_ne n2; rwa [show portsName.toList = [112, 111, 114, 116, 115] by kernel_rfl] at this
  have e3 : (xw.toList == [102, 105, 108, 116, 101, 114]) = false := by have := str_ne n3; rwa [show filtName.toList = [102, 105, 108, 116, 101, 114] by kernel_rfl] at this
  have e4 : (xw.toList == [115, 116, 97, 116, 105, 99]) = false := by have := str_ne n4; rwa [show statName.toList = [115, 116, 97, 116, 105, 99] by kernel_rfl] at this
  have e5 : (xw.toList == [116, 119, 105, 99, 101]) = false := by have := str_ne n5; rwa [show twiceName.toList = [116, 119, 105, 99, 101] by kernel_rfl] at this
  have e6 : (xw.toList == [113, 117, 111, 116, 97]) = false := by have := str_ne n6; rwa [show quotaName.toList = [113, 117, 111, 116, 97] by kernel_rfl] at this
  have e7 : (xw.toList == [114, 97, 116, 101]) = false := by have := str_ne n7; rwa [show rateName.toList = [114, 97, 116, 101] by kernel_rfl] at this
  have hne := n0
  have hl1 : (((l0.length : Int) + 1) == 0) = false := by rw [beq_eq_false_iff_ne]; omega
  have hsub : IntKind.i64.wrap (l0.length : Int) = (l0.length : Int) := by rw [IntKind.wrap_i64]; omega
  have i7 : (0 : Int) ≤ (l0.length : Int) := by omega
  have i8 : (l0.length : Int) < (l0.length : Int) + 1 := by omega
  have HN := Lib.hid (And.intro n1 (And.intro n2 (And.intro n3 (And.intro n4 (And.intro n5 (And.intro n6 n7))))))
  have H := Lib.hid (And.intro h (And.intro hx hne))
  clear h hRA hTen hlG cur hx hne n0 n1 n2 n3 n4 n5 n6 n7
  go_enter Tryz.func28, Tryz.ntmps28
  go_wp2_with fail
  refine hc58.mono ?_
  rintro e w1 ⟨rfl, q1, t1⟩
  have h1 : RLine w1 lo b g cap L en (.ok 1) C c (.slice (some ⟨G, 0, none⟩) (l0.length + 1) cp) (l0 ++ [x]) := H.out.1.call ⟨pl, q1⟩ t1
  have t2 := t1.alloc (.cells #[.string xw, .int .i64 (a0 : Int)] 82)
  have h2 := h1.quiet ((Turn.refl (fun _ => False) w1).alloc (.cells #[.string xw, .int .i64 (a0 : Int)] 82))
  have cd0 : (w1.alloc (.cells #[.string xw, .int .i64 (a0 : Int)] 82)).cell? ⟨w1.heap.size, 0, none⟩ = some (.string xw) := cell_of_block (block_alloc_new _ _) 0
  have cd1 : (w1.alloc (.cells #[.string xw, .int .i64 (a0 : Int)] 82)).cell? ⟨w1.heap.size, 1, none⟩ = some (.int .i64 (a0 : Int)) := cell_of_block (block_alloc_new _ _) 1
  have cC := h2.cell
  have H2 := Lib.hid (And.intro h2 t2)
  clear h1 h2 t2 q1 t1 hc58
  go_upto_region 19 with (fail)
  generalize w1.alloc (.cells #[.string xw, .int .i64 (a0 : Int)] 82) = W at *
  generalize w1.heap.size = q at *
  go_quiet (fail)
  have h3 := H2.out.1.quiet ((Turn.refl (fun _ => False) W).drewN nq)
  have t3 : Turn (fun k => k = b) w (W.drewN nq) := H2.out.2.drewN nq
  have cd0 : (W.drewN nq).cell? ⟨q, 0, none⟩ = some (.string xw) := cd0
  have cd1 : (W.drewN nq).cell? ⟨q, 1, none⟩ = some (.int .i64 (a0 : Int)) := cd1
  clear cC H2
  generalize W.drewN nq = W3 at *
  obtain ⟨G2, cp2, cur, htv, hlG, hTen⟩ := h3.tens.last
  injection htv with hao _ hcp
  injection hao with hao
  injection hao with hG
  subst hG; subst hcp
  have hS := h3.begin hlG hTen
  have H3 := Lib.hid (And.intro h3 (And.intro t3 (And.intro hlG hTen.blk)))
  clear h3 t3 hTen hlG
  have h29 := rfail_any b g cap L en (.ok 1) a0 W3 hS.line
  have HS := Lib.hid hS
  clear hS
  go_wp2_with fail
  refine h29.mono ?_
  rintro e w4 ⟨rfl, q4, t4⟩
  have HS4 := Lib.hid (HS.out.call q4 t4)
  clear h29 q4 t4
  go_wp2_with fail
  go_end0
  obtain ⟨n1, n2, n3, n4, n5, n6, n7⟩ := HN.out
  refine rline_close (F := .error a0) H3.out.2.1 H3.out.1 H3.out.2.2.1 H3.out.2.2.2 H.out.2.1 H.out.2.2 HS4.out (by unfold fieldP; rw [if_neg n1, if_neg n2, if_neg n3, if_neg n4, if_neg n5, if_neg n6, if_neg n7]) rfl ?_
  intro u m hu
  cases hu
set_option maxHeartbeats 4000000 in
theorem rline_empty {lo b g cap en C : Nat} {L : List Wd} {c : Cfg} {tv : Value} {w : World} {xw : ByteArray} {a0 : Nat} (h : RLine w lo b g cap L en (.ok 0) C c tv []) (hx : L[0]? = some (xw, a0)) (n0 : ¬ xw = tenName) :
    Calls Tryz.prog 28 #[.pointer (some ⟨b, 0, none⟩), .pointer (some ⟨C, 0, none⟩)] w (RLinePost w lo b g cap L en C (bodyR c L en)) := by
  obtain ⟨pl, hRA⟩ := h.line
  have hc58 := rword_some b g cap L en 0 pl false w hRA xw a0 hx
  have e0 : (xw.toList == [116, 101, 110, 97, 110, 116]) = false := by have := str_ne n0; rwa [show tenName.toList = [116, 101, 110, 97, 110, 116] by kernel_rfl] at this
  obtain ⟨ao, cp, htv⟩ : ∃ ao cp, tv = .slice ao 0 cp := by
    rcases h.tens.row.2 with ⟨hv, _⟩ | ⟨G, cp, cur, hv, _⟩
    · exact ⟨none, 0, hv⟩
    · exact ⟨_, _, hv⟩
  have H := Lib.hid (And.intro h (And.intro hx n0))
  clear h hRA hx n0
  go_enter Tryz.func28, Tryz.ntmps28
  go_wp2_with fail
  refine hc58.mono ?_
  rintro e w1 ⟨rfl, q1, t1⟩
  have h1 : RLine w1 lo b g cap L en (.ok 1) C c tv [] := H.out.1.call ⟨pl, q1⟩ t1
  have t2 := t1.alloc (.cells #[.string xw, .int .i64 (a0 : Int)] 82)
  have h2 := h1.quiet ((Turn.refl (fun _ => False) w1).alloc (.cells #[.string xw, .int .i64 (a0 : Int)] 82))
  have cd0 : (w1.alloc (.cells #[.string xw, .int .i64 (a0 : Int)] 82)).cell? ⟨w1.heap.size, 0, none⟩ = some (.string xw) := cell_of_block (block_alloc_new _ _) 0
  have cd1 : (w1.alloc (.cells #[.string xw, .int .i64 (a0 : Int)] 82)).cell? ⟨w1.heap.size, 1, none⟩ = some (.int .i64 (a0 : Int)) := cell_of_block (block_alloc_new _ _) 1
  have cC : (w1.alloc (.cells #[.string xw, .int .i64 (a0 : Int)] 82)).cell? ⟨C, 28, none⟩ = some (.slice ao 0 cp) := by rw [← htv]; exact (cell_of_block h2.cel 28).trans (cfgRow_get h2.wfc tv)
  have h29 := rfail_any b g cap L en (.ok 1) a0 _ h2.line
  have H2 := Lib.hid (And.intro h2 t2)
  clear h1 h2 t2 q1 t1 hc58
  go_upto_region 17 with (fail)
  generalize w1.alloc (.cells #[.string xw, .int .i64 (a0 : Int)] 82) = W at *
  generalize w1.heap.size = q at *
  go_wp2_with fail
  refine h29.mono ?_
  rintro e w4 ⟨rfl, q4, t4⟩
  have h4 := H2.out.1.call q4 t4
  have t5 := H2.out.2.trans t4
  have HQ := Lib.hid (And.intro h4 t5)
  clear h29 q4 t4 h4 t5
  go_wp2_with fail
  go_end0
  have hc : c.tens = [] := HQ.out.1.eqt.symm
  have e : bodyR c L en = .error a0 := by
    unfold bodyR
    rw [nextP_some H.out.2.1]
    exact bodyP_nil H.out.2.2 hc
  rw [e]
  exact ⟨rfl, c, tv, [], HQ.out.1, HQ.out.2.mono (fun _ _ e => Or.inl e), fun u m hu => by cases hu⟩
end Go.Proofs.YtbkpbcmjgbdbkaaGreatDoor
