/- LangWrites: whether its tenants are light; the walk. Conditions: Env, ErrType. -/
import Derived.Test.YtbkpbcmjgbdbkaaGreatDoorA1
import Derived.Test.YtbkpbcmjgbdbkaaGreatDoorN6
import Derived.Test.YtbkpbcmjgbdbkaaGreatDoorN4
import Derived.Test.YtbkpbcmjgbdbkaaGreatDoorV1
namespace Go.Proofs.YtbkpbcmjgbdbkaaGreatDoor
open Go.RowKit Go.Lib
set_option linter.unusedVariables false
set_option linter.unusedSimpArgs false
set_option maxRecDepth 100000
set_option pp.maxSteps 2500

def RowsAny (w : World) (v : Value) (R : List (Array Value)) : Prop :=
  ∃ ao cap, v = .slice ao R.length cap ∧ R.length ≤ maxLen ∧ ∀ (i : Nat) (r : Array Value), R[i]? = some r → r.size = 33 ∧ ∃ b off, ao = some ⟨b, off, none⟩ ∧ b < w.heap.size ∧ ∀ (j : Nat) (u : Value), r.toList[j]? = some u → w.cell? ⟨b, off + i * 33 + j, none⟩ = some u
set_option maxHeartbeats 2000000 in
theorem lights_big (R : List (Array Value)) (f : Nat → Bool) (most : Nat) (hm : most ≤ 1000000) (v : Value) (w : World) (ha : RowsAny w v R)
    (hL : ∀ (i : Nat) (r : Array Value), R[i]? = some r → ∀ W, Turn (fun _ => False) w W → Calls Tryz.prog 31 #[.agg r] W fun e w' => e = .returned (.bool (f i)) ∧ Turn (fun _ => False) W w') :
    Calls Tryz.prog 14 #[v, .int .i64 (most : Int)] w (LightsPost R.length f most w) := by
  obtain ⟨ao, ca, rfl, hl, hA⟩ := ha
  unfold maxLen at hl
  go_enter Tryz.func14, Tryz.ntmps14
  go_wp2_with fail
  go_loopg [5] R.length (fun g i wr => ∃ k : Nat, g = R.length - k ∧ k ≤ R.length ∧ k ≤ most ∧ i = .int .i64 (k : Int) ∧ Turn (fun _ => False) w wr ∧ ∀ i, i < k → f i = true)
  case atStart => exact ⟨0, rfl, Nat.zero_le _, Nat.zero_le _, rfl, Turn.refl _ _, fun i hi => by omega⟩
  case round =>
    obtain ⟨k, rfl, hk, hkm, rfl, t, hf⟩ := hrel
    by_cases hlt : k < R.length
    · have i2 : (k : Int) < (R.length : Int) := by omega
      by_cases hlm : k < most
      · obtain ⟨r, hr⟩ : ∃ x, R[k]? = some x := ⟨_, List.getElem?_eq_getElem hlt⟩
        obtain ⟨z1, b, off, rfl, h1, h2⟩ := hA k _ hr
        have kA := run_loadAt_at (W := wr) (b := b) (o := off + k * 33) z1 (fun j u hj => (World.cell?_of_block (t.block b h1 (fun h => h))).trans (h2 j u hj))
        have cT := hL k r hr wr t
        have i1 : (0 : Int) ≤ (k : Int) := by omega
        have i3 : (k : Int) < (most : Int) := by omega
        have HF := Lib.hid hf
        clear hA hL h2 hr hf
        cases hfk : f k with
        | true =>
          rw [hfk] at cT
          go_wp2_with (refine wpList_load_run rfl 45 _ rfl (.agg r) kA ?_)
          refine cT.mono ?_
          rintro e w1 ⟨rfl, t1⟩
          go_wp2_with fail
          go_roundg (R.length - (k + 1))
          case measure => omega
          case rel => exact ⟨k + 1, rfl, by omega, by omega, by go_num, t.trans t1, fun i hi => by
            rcases Nat.lt_or_ge i k with h | h
            · exact HF.out i h
            · have : i = k := by omega
              rw [this]; exact hfk⟩
        | false =>
          rw [hfk] at cT
          go_wp2_with (refine wpList_load_run rfl 45 _ rfl (.agg r) kA ?_)
          refine cT.mono ?_
          rintro e w1 ⟨rfl, t1⟩
          go_wp2_with fail
          go_ret
          exact ⟨false, rfl, (fun h => by cases h), t.trans t1⟩
      · have i3 : ¬ (k : Int) < (most : Int) := by omega
        have hkm' : k = most := by omega
        have i4 : ¬ (R.length : Int) ≤ (most : Int) := by omega
        clear hA hL
        go_wp2_with fail
        go_ret
        exact ⟨false, rfl, (fun h => by cases h), t⟩
    · obtain rfl : k = R.length := by omega
      have i4 : (R.length : Int) ≤ (most : Int) := by omega
      clear hA hL
      go_wp2_with fail
      go_ret
      exact ⟨true, rfl, fun _ => ⟨hkm, hf⟩, t⟩

def lightT (t : Ten) : Bool := decide (t.name.size ≤ 300 ∧ t.pool.length ≤ 300 ∧ t.statics.length ≤ 300 ∧ t.twices.length ≤ 300)
theorem lightT_any (x : TenM) (w w0 : World) (h : TenAny w0 x) : Calls Tryz.prog 31 #[.agg (tmRow x)] w fun e w' => e = .returned (.bool (lightT x.1)) ∧ Turn (fun _ => False) w w' := by
  obtain ⟨t, p, s, q⟩ := x
  obtain ⟨hw, ⟨a1, c1, e1, _⟩, ⟨a2, c2, e2, _⟩, ⟨a3, c3, e3, _⟩, _⟩ := h
  dsimp only at e1 e2 e3 hw
  subst e1; subst e2; subst e3
  obtain ⟨nm, vni, key, vtep, vmac, host, pool, lo, hi, fi, st, tw, se, qu, ra, bu⟩ := t
  obtain ⟨_, _, _, _, _, _, _, _, rfl⟩ := list8 key hw.key
  obtain ⟨_, _, _, _, _, _, rfl⟩ := list6 vmac hw.vmac
  obtain ⟨_, _, _, _, _, _, rfl⟩ := list6 host hw.host
  unfold tmRow
  rw [tenRow_lit]
  exact light_any _ _ _ _ _ _ _ _ _ _ _ _ _ _ _ _ _ _ _ _ _ _ _ _ _ _ _ _ _ _ a1 a2 a3 _ _ _ c1 c2 c3 w
theorem TensAny.rows {w : World} {tv : Value} {l : List TenM} (h : TensAny w tv l) : RowsAny w tv (l.map tmRow) := by
  obtain ⟨ao, cap, h1, h2, h3⟩ := h
  refine ⟨ao, cap, by rw [List.length_map]; exact h1, by rw [List.length_map]; exact h2, fun i r hr => ?_⟩
  rw [List.getElem?_map] at hr
  cases hx : l[i]? with
  | none => rw [hx] at hr; cases hr
  | some x =>
    rw [hx] at hr
    have hr : tmRow x = r := by simpa using hr
    subst hr
    exact ⟨tenRow_size (h3 i x hx).1.1 _ _ _, (h3 i x hx).2⟩
theorem lights_tens {w : World} {tv : Value} {l : List TenM} (h : TensAny w tv l) (most : Nat) (hm : most ≤ 1000000) : Calls Tryz.prog 14 #[tv, .int .i64 (most : Int)] w fun e w' => ∃ b, e = .returned (.bool b) ∧ (b = true → l.length ≤ most ∧ ∀ x ∈ l, lightT x.1 = true) ∧ Turn (fun _ => False) w w' := by
  haveI : Inhabited TenM := ⟨(⟨⟨#[]⟩, 0, [], 0, [], [], [], 0, 0, 0, [], [], 0, 0, 0, 0⟩, .nilIface, .nilIface, .nilIface)⟩
  refine (lights_big (l.map tmRow) (fun i => lightT (l[i]!).1) most hm tv w h.rows ?_).mono ?_
  · intro i r hr W t
    rw [List.getElem?_map] at hr
    cases hx : l[i]? with
    | none => rw [hx] at hr; cases hr
    | some x =>
      rw [hx] at hr
      have hr : tmRow x = r := by simpa using hr
      subst hr
      have hg : l[i]! = x := by rw [List.getElem!_eq_getElem?_getD, hx]; rfl
      show Calls _ _ _ _ (fun e w' => e = .returned (.bool (lightT (l[i]!).1)) ∧ _)
      rw [hg]
      obtain ⟨ao, cap, h1, h2, h3⟩ := h
      exact lightT_any x W w (h3 i x hx).1
  · rintro e w' ⟨b, rfl, hb, t⟩
    refine ⟨b, rfl, fun hbt => ?_, t⟩
    obtain ⟨h1, h2⟩ := hb hbt
    rw [List.length_map] at h1 h2
    refine ⟨h1, fun x hx => ?_⟩
    obtain ⟨i, hi, rfl⟩ := List.getElem_of_mem hx
    have : lightT (l[i]!).1 = true := h2 i hi
    rwa [show l[i]! = l[i] from by rw [List.getElem!_eq_getElem?_getD, List.getElem?_eq_getElem hi]; rfl] at this
/-! ### the law -/
theorem tens_in {w : World} {tv : Value} {l : List TenM} (h : TensAny w tv l) (h1 : l.length ≤ 20) (h2 : ∀ x ∈ l, lightT x.1 = true) : TensIn w tv l := by
  obtain ⟨ao, cap, e1, e2, e3⟩ := h
  have hlt : ∀ x ∈ l, x.1.pool.length ≤ 300 ∧ x.1.statics.length ≤ 300 ∧ x.1.twices.length ≤ 300 := fun x hx => by
    have := h2 x hx
    unfold lightT at this
    have := of_decide_eq_true this
    exact this.2
  refine ⟨⟨ao, cap, by rw [List.length_map]; exact e1, by rw [List.length_map]; omega, fun i r hr => ?_⟩, fun x hx => ?_⟩
  · rw [List.getElem?_map] at hr
    cases hx : l[i]? with
    | none => rw [hx] at hr; cases hr
    | some x =>
      rw [hx] at hr
      have hr : tmRow x = r := by simpa using hr
      subst hr
      exact ⟨tenRow_size (e3 i x hx).1.1 _ _ _, (e3 i x hx).2⟩
  · obtain ⟨i, hi⟩ := List.mem_iff_getElem?.1 hx
    obtain ⟨q1, q2, q3, q4, q5⟩ := (e3 i x hi).1
    have := hlt x hx
    exact ⟨q1, q2.in_ (by omega), q3.in_ (by omega), q4.in_ (by omega)⟩
theorem ten_rng {w : World} {x : TenM} (h : TenAny w x) (hl : lightT x.1 = true) (h1 : 0 ≤ x.1.sess) (h2 : 0 ≤ x.1.queue) : RngTen x.1 := by
  obtain ⟨q1, q2, q3, q4, q5⟩ := h
  unfold lightT at hl
  have hl := of_decide_eq_true hl
  exact ⟨by omega, q5.vni, q5.key, q5.vtep, q5.vmac, q5.host, q2.lt, q5.lo, q5.hi, q3.lt, q4.lt, ⟨h1, q5.sess⟩, ⟨h2, q5.queue⟩, q5.rate, q5.burst, by omega⟩
theorem tenL_light {t : Ten} (h : RngTen t) (hw : WfTen t) (hl : lightT t = true) : (tenL t).length ≤ 100000 := by
  unfold lightT at hl
  have hl := of_decide_eq_true hl
  have hns : t.name.data.toList.length = t.name.size := bytes_len t.name
  have d20 : ∀ n : Nat, n < 9223372036854775808 → (decL n).length ≤ 20 := fun n hn => decL_short 20 n (by omega) (by omega)
  have a1 : (tenHeadL t).length ≤ 500 := by
    unfold tenHeadL
    rw [line_len _ (by simp)]
    have := d20 t.vni (by have := h.vni; omega)
    have := keyText_len t.key
    have := hw.key
    have := ipText_len _ h.vtep
    have := macText_len hw.vmac
    have := macText_len hw.host
    simp only [List.map_cons, List.map_nil, List.sum_cons, List.sum_nil, List.length_cons, List.length_nil, tenB, vniB, keyB, vtepB, hostB, hns]
    omega
  have a2 : (poolL t).length ≤ 6000 := by
    unfold poolL
    split
    · simp
    · rw [line_len _ (by simp)]
      have : ∀ l : List Nat, (∀ x ∈ l, x < 4294967296) → ((l.map ipText).map List.length).sum ≤ l.length * 15 := by
        intro l
        induction l with
        | nil => intro _; simp
        | cons x l ih =>
          intro hx
          have h1 := ih (fun y hy => hx y (by simp [hy]))
          have h2 := ipText_len x (hx x (by simp))
          simp only [List.map_cons, List.sum_cons, List.length_cons, Nat.succ_mul]
          omega
      have := this t.pool h.pool
      simp only [List.map_cons, List.sum_cons, List.length_cons, List.length_map, poolB] at this ⊢
      simp only [List.length_nil]
      omega
  have a3 : (portsL t).length ≤ 100 := by
    unfold portsL
    rw [line_len _ (by simp)]
    have := d20 t.lo (by have := h.lo; omega)
    have := d20 t.hi (by have := h.hi; omega)
    simp [portsB]
    omega
  have a4 : (filtL t).length ≤ 100 := by
    unfold filtL
    rw [line_len _ (by simp)]
    have : (filterL t.filter).length ≤ 10 := by
      unfold filterL
      split
      · decide
      · split <;> decide
    simp [filtB]
    omega
  have a5 : (t.statics.flatMap statL).length ≤ t.statics.length * 45 := flat_len _ _ _ (fun x hx => pair_len x (h.statics x hx).1 (h.statics x hx).2 (by decide))
  have a6 : (t.twices.flatMap twicL).length ≤ t.twices.length * 45 := flat_len _ _ _ (fun x hx => pair_len x (h.twices x hx).1 (h.twices x hx).2 (by decide))
  have a7 : (quotaL t).length ≤ 100 := by
    unfold quotaL
    rw [line_len _ (by simp)]
    have := d20 t.sess.toNat (by have := h.sess; omega)
    have := d20 t.queue.toNat (by have := h.queue; omega)
    simp [quotaB]
    omega
  have a8 : (rateL t).length ≤ 100 := by
    unfold rateL
    rw [line_len _ (by simp)]
    have := d20 t.rate (by have := h.rate; omega)
    have := d20 t.burst (by have := h.burst; omega)
    simp [rateB]
    omega
  unfold tenL
  simp only [List.length_append]
  omega
theorem textL_light {c : Cfg} (h : RngCfg c) (hw : WfCfg c) (ht : ∀ t ∈ c.tens, WfTen t ∧ lightT t = true) (hl : c.tens.length ≤ 20) : (textL c).length ≤ 100000000 := by
  have a1 : (headL c).length ≤ 300 := by
    unfold headL
    rw [line_len _ (by simp)]
    have := ipText_len _ h.ip
    have := macText_len hw.1
    have := macText_len hw.2.1
    have := macText_len hw.2.2.1
    have := keyText_len c.key
    have := hw.2.2.2
    have := decL_len10 c.drain h.drain
    simp [gwB, drB]
    omega
  have a2 := flat_len tenL 100000 c.tens (fun t h' => tenL_light (h.tens t h') (ht t h').1 (ht t h').2)
  unfold textL
  rw [List.length_append]
  omega
theorem NumsAny.turn {w w' : World} {v : Value} {l : List Nat} (h : NumsAny w v l) (t : Turn (fun _ => False) w w') : NumsAny w' v l := by
  obtain ⟨ao, cap, h1, h2, h3⟩ := h
  refine ⟨ao, cap, h1, h2, fun i x hx => ?_⟩
  obtain ⟨q0, b, off, q1, q2, q3⟩ := h3 i x hx
  exact ⟨q0, b, off, q1, Nat.lt_of_lt_of_le q2 t.size, (cell_turn0 t q2 (fun h => h)).trans q3⟩
theorem PairsAny.turn {w w' : World} {v : Value} {l : List (Nat × Nat)} (h : PairsAny w v l) (t : Turn (fun _ => False) w w') : PairsAny w' v l := by
  obtain ⟨ao, cap, h1, h2, h3⟩ := h
  refine ⟨ao, cap, h1, h2, fun i x hx => ?_⟩
  obtain ⟨q0, b, off, q1, q2, q3, q4⟩ := h3 i x hx
  exact ⟨q0, b, off, q1, Nat.lt_of_lt_of_le q2 t.size, (cell_turn0 t q2 (fun h => h)).trans q3, (cell_turn0 t q2 (fun h => h)).trans q4⟩
theorem TensAny.turn {w w' : World} {v : Value} {l : List TenM} (h : TensAny w v l) (t : Turn (fun _ => False) w w') : TensAny w' v l := by
  obtain ⟨ao, cap, h1, h2, h3⟩ := h
  refine ⟨ao, cap, h1, h2, fun i x hx => ?_⟩
  obtain ⟨⟨q0, q1, q2, q3, q4⟩, b, off, p1, p2, p3⟩ := h3 i x hx
  exact ⟨⟨q0, q1.turn t, q2.turn t, q3.turn t, q4⟩, b, off, p1, Nat.lt_of_lt_of_le p2 t.size, fun j u hj => (cell_turn0 t p2 (fun h => h)).trans (p3 j u hj)⟩
theorem rtext_cfg {w : World} {c : Cfg} {v : Value} (h : CfgIn w c v) (hc : RngCfg c) (hlen : (textL c).length ≤ 100000000) : Calls Tryz.prog 16 #[v] w (TextPost (textL c) w) := by
  obtain ⟨tv, l, rfl, hw, h1, h2⟩ := h
  exact rtext_any c tv l w hc hw h1 h2 hlen
set_option maxHeartbeats 4000000 in
theorem writes_walk (c : Cfg) (tv : Value) (l : List TenM) (w : World) (he : Env w) (hg : ErrType w) (hw : WfCfg c) (hh : RngHead c) (hT : TensAny w tv l) (hl : l.map (·.1) = c.tens) : Calls Tryz.prog 4 #[.agg (cfgRow c tv)] w (BoolPost true w) := by
  have hmix : Tryz.prog.follows .mixedOrders = true := by kernel_rfl
  have z1 := cfgRow_size hw tv
  have hrow : (cfgRow c tv)[28]? = some tv := cfgRow_get hw tv
  obtain ⟨row, hr⟩ : ∃ row, row = cfgRow c tv := ⟨_, rfl⟩
  rw [← hr] at z1 hrow ⊢
  have t0 := (Turn.refl (fun _ => False) w).alloc (.cells row 29)
  have k0 := block_alloc_new w (.cells row 29)
  have hkn := known_any (w.alloc (.cells row 29)) (he.keep t0) (hg.turn t0 he.pos)
  have HX := Lib.hid (And.intro hr (And.intro t0 (And.intro k0 (And.intro he (And.intro hw (And.intro hh (And.intro hT hl)))))))
  have hi29 : (Tryz.prog.info? 29).map (·.size) = some row.size := by rw [z1]; kernel_rfl
  have HZ := Lib.hid z1
  have HR := Lib.hid hrow
  clear hr t0 k0 he hg hw hh hT hl z1 hrow
  go_enter Tryz.func4, Tryz.ntmps4
  go_wp2_with fail
  refine hkn.mono ?_
  rintro e w1 ⟨rfl, t1⟩
  clear hkn
  obtain ⟨hr, t0, k0, he, hw, hh, hT, hl⟩ := HX.out
  have q1 := t0.trans t1
  have k1 := (t1.block _ (block_lt k0) (fun h => h)).trans k0
  have c28 : w1.cell? ⟨w.heap.size, 28, none⟩ = some tv := (cell_of_block k1 28).trans HR.out
  have hT1 := hT.turn q1
  have hli := lights_tens hT1 20 (by decide)
  obtain ⟨ao, cap, e1, e2, e3⟩ := hT1
  have HT := Lib.hid (And.intro q1 (And.intro k1 e3))
  unfold maxLen at e2
  subst e1
  clear hr t0 k0 he hw hh hT hl q1 k1 e3
  go_wp2_with fail
  refine hli.mono ?_
  rintro e w2 ⟨b, rfl, hb, t2⟩
  clear hli
  have q2 := HT.out.1.trans t2
  have k2 := (t2.block _ (block_lt HT.out.2.1) (fun h => h)).trans HT.out.2.1
  cases b with
  | false =>
    go_wp2_with fail
    go_ret
    exact ⟨rfl, q2⟩
  | true =>
    have HB := Lib.hid (hb rfl)
    have c28 : w2.cell? ⟨w.heap.size, 28, none⟩ = some (.slice ao l.length cap) := (cell_of_block k2 28).trans HR.out
    have H2 := Lib.hid (And.intro t2 (And.intro q2 k2))
    clear hb t2 q2 k2
    go_wp2_with fail
    go_loopg [3] l.length (fun g i wr => ∃ k : Nat, g = l.length - k ∧ i = .int .i64 (k : Int) ∧ k ≤ l.length ∧ wr = w2 ∧ Hid (∀ j x, j < k → l[j]? = some x → 0 ≤ x.1.sess ∧ 0 ≤ x.1.queue))
    case atStart => exact ⟨0, rfl, rfl, Nat.zero_le _, rfl, Lib.hid (fun j x hj => by omega)⟩
    case round =>
      obtain ⟨k, rfl, rfl, hk, rfl, HK⟩ := hrel
      have i1 : (0 : Int) ≤ (k : Int) := by omega
      by_cases hlt : k < l.length
      · have i2 : (k : Int) < (l.length : Int) := by omega
        obtain ⟨x, hx⟩ : ∃ x, l[k]? = some x := ⟨_, List.getElem?_eq_getElem hlt⟩
        obtain ⟨hx1, b, off, rfl, hbs, hbc⟩ := HT.out.2.2 k x hx
        have hge := ten_get x.1 hx1.1 x.2.1 x.2.2.1 x.2.2.2
        have c29 : wr.cell? ⟨b, off + k * 33 + 29, none⟩ = some (.int .i64 x.1.sess) := (cell_turn0 H2.out.1 hbs (fun h => h)).trans (hbc 29 _ hge.2.2.2.2.2.2.1)
        have c30 : wr.cell? ⟨b, off + k * 33 + 30, none⟩ = some (.int .i64 x.1.queue) := (cell_turn0 H2.out.1 hbs (fun h => h)).trans (hbc 30 _ hge.2.2.2.2.2.2.2.1)
        have HXX := Lib.hid hx
        clear hx hx1 hbc hge
        generalize hse : x.1.sess = se at *
        generalize hqu : x.1.queue = qu at *
        have HSQ := Lib.hid (And.intro hse hqu)
        clear hse hqu
        by_cases h1 : se < 0
        · go_wp2_with fail
          go_ret
          exact ⟨rfl, H2.out.2.1⟩
        · by_cases h2 : qu < 0
          · go_wp2_with fail
            go_ret
            exact ⟨rfl, H2.out.2.1⟩
          · go_wp2_with fail
            go_roundg (l.length - (k + 1))
            case measure => omega
            case rel => exact ⟨k + 1, rfl, by go_num, by omega, rfl, Lib.hid (fun j y hj hy => by
              by_cases e : j < k
              · exact HK.out j y e hy
              · have : j = k := by omega
                subst this
                have := HXX.out.symm.trans hy
                cases this
                rw [HSQ.out.1, HSQ.out.2]; omega)⟩
      · have i2 : ¬ (k : Int) < (l.length : Int) := by omega
        have hkl : k = l.length := by omega
        have hcin : CfgIn wr c (.agg (cfgRow c (.slice ao l.length cap))) := by
          obtain ⟨hr, t0, k0, he, hw, hh, hT, hl⟩ := HX.out
          refine ⟨_, l, rfl, hw, tens_in (hT.turn H2.out.2.1) HB.out.1 HB.out.2, hl⟩
        have hrng : RngCfg c := by
          obtain ⟨hr, t0, k0, he, hw, hh, hT, hl⟩ := HX.out
          refine ⟨hh.ip, hh.mac, hh.out, hh.next, hh.key, hh.drain, fun t ht => ?_⟩
          rw [← hl] at ht
          obtain ⟨x, hx, rfl⟩ := List.mem_map.1 ht
          obtain ⟨i, hi⟩ := List.mem_iff_getElem?.1 hx
          have hil := (List.getElem?_eq_some_iff.1 hi).1
          have hsq := HK.out i x (by omega) hi
          obtain ⟨ao', cap', e1, e2, e3⟩ := hT
          exact ten_rng (e3 i x hi).1 (HB.out.2 x hx) hsq.1 hsq.2
        have hlen : (textL c).length ≤ 100000000 := by
          obtain ⟨hr, t0, k0, he, hw, hh, hT, hl⟩ := HX.out
          refine textL_light hrng hw (fun t ht => ?_) ?_
          · rw [← hl] at ht
            obtain ⟨x, hx, rfl⟩ := List.mem_map.1 ht
            obtain ⟨i, hi⟩ := List.mem_iff_getElem?.1 hx
            obtain ⟨ao', cap', e1, e2, e3⟩ := hT
            exact ⟨(e3 i x hi).1.1, HB.out.2 x hx⟩
          · rw [← hl, List.length_map]; exact HB.out.1
        have henv : ∀ W, Turn (fun _ => False) wr W → Env W := fun W t => HX.out.2.2.2.1.keep (H2.out.2.1.trans t)
        have hrw := HX.out.1
        have hwc := HX.out.2.2.2.2.1
        rw [← hrw] at hcin
        have cA := quiet_val (w := wr) (f := 15) (args := #[.agg row]) (v := .string ⟨(textL c).toArray⟩) (fun W tW => text_cfg (hcin.turn tW) (henv W tW) hrng hlen)
        have cB := quiet_val (w := wr) (f := 16) (args := #[.agg row]) (v := .string ⟨(textL c).toArray⟩) (fun W tW => rtext_cfg (hcin.turn tW) hrng hlen)
        have kA := regr_load (W := wr) (k := w.heap.size) (o := 0) (n := 29) (ty := 29) (cs := row) (r := row) H2.out.2.2 HZ.out agg29 size29 (fun j u hj => by rw [Nat.zero_add, ← Array.getElem?_toList]; exact hj)
        generalize (⟨(textL c).toArray⟩ : ByteArray) = S at *
        have KA := Lib.hid kA
        clear kA hcin hrng hlen henv hrw hwc HK HB
        go_upto_region 10 with (fail)
        refine wp_region_quiet_below hmix (by kernel_rfl) ?_
        refine wpQuiet_load rfl 29 _ rfl (.agg row) KA.out ?_
        repeat (quiet_step (exact cA _ _))
        refine wpQuiet_load rfl 29 _ rfl (.agg row) KA.out ?_
        repeat (quiet_step (exact cB _ _))
        refine wpQuiet_nil ?_
        intro _ hw'
        obtain ⟨⟨dq, osq⟩, hw''⟩ := hw'
        subst hw''
        have t4 := H2.out.2.1.trans (turn_of_below0 (below_regrown wr dq osq))
        generalize Sort.grow (redrawn wr dq) osq = w3 at *
        clear cA cB KA
        go_wp2_with fail
        go_ret
        exact ⟨rfl, t4⟩
end Go.Proofs.YtbkpbcmjgbdbkaaGreatDoor
