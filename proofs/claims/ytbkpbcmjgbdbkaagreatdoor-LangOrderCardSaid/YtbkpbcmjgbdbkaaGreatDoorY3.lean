/- Settings held against settings that read alike; the statements' own known settings. Conditions: Env, ErrType. -/
import Derived.Test.YtbkpbcmjgbdbkaaGreatDoorY2
import Derived.Test.YtbkpbcmjgbdbkaaGreatDoorQ0
import Derived.Test.YtbkpbcmjgbdbkaaGreatDoorU3
import Derived.Test.YtbkpbcmjgbdbkaaGreatDoorN2
import Derived.Test.YtbkpbcmjgbdbkaaGreatDoorN3
import Derived.Test.YtbkpbcmjgbdbkaaGreatDoorMD
import Derived.Test.YtbkpbcmjgbdbkaaGreatDoorK1
namespace Go.Proofs.YtbkpbcmjgbdbkaaGreatDoor
open Go.RowKit Go.Lib
set_option linter.unusedVariables false
set_option linter.unusedSimpArgs false
set_option maxRecDepth 100000
set_option pp.maxSteps 2500

theorem cfgRow_lit (ip d m0 m1 m2 m3 m4 m5 o0 o1 o2 o3 o4 o5 y0 y1 y2 y3 y4 y5 k0 k1 k2 k3 k4 k5 k6 k7 : Nat) (ts : List Ten) (v : Value) :
    cfgRow ⟨ip, [m0, m1, m2, m3, m4, m5], [o0, o1, o2, o3, o4, o5], [y0, y1, y2, y3, y4, y5], [k0, k1, k2, k3, k4, k5, k6, k7], d, ts⟩ v = #[.int .u32 (ip : Int), .int .u8 (m0 : Int), .int .u8 (m1 : Int), .int .u8 (m2 : Int), .int .u8 (m3 : Int), .int .u8 (m4 : Int), .int .u8 (m5 : Int), .int .u8 (o0 : Int), .int .u8 (o1 : Int), .int .u8 (o2 : Int), .int .u8 (o3 : Int), .int .u8 (o4 : Int), .int .u8 (o5 : Int), .int .u8 (y0 : Int), .int .u8 (y1 : Int), .int .u8 (y2 : Int), .int .u8 (y3 : Int), .int .u8 (y4 : Int), .int .u8 (y5 : Int), .int .u8 (k0 : Int), .int .u8 (k1 : Int), .int .u8 (k2 : Int), .int .u8 (k3 : Int), .int .u8 (k4 : Int), .int .u8 (k5 : Int), .int .u8 (k6 : Int), .int .u8 (k7 : Int), .int .u32 (d : Int), v] := by kernel_rfl
theorem tenRow_lit (s : ByteArray) (vni vt lo hi ra bu k0 k1 k2 k3 k4 k5 k6 k7 m0 m1 m2 m3 m4 m5 x0 x1 x2 x3 x4 x5 : Nat) (fi se qu : Int) (l : List Nat) (st tw : List (Nat × Nat)) (p u q : Value) :
    tenRow ⟨s, vni, [k0, k1, k2, k3, k4, k5, k6, k7], vt, [m0, m1, m2, m3, m4, m5], [x0, x1, x2, x3, x4, x5], l, lo, hi, fi, st, tw, se, qu, ra, bu⟩ p u q = #[.string s, .int .u32 (vni : Int), .int .u8 (k0 : Int), .int .u8 (k1 : Int), .int .u8 (k2 : Int), .int .u8 (k3 : Int), .int .u8 (k4 : Int), .int .u8 (k5 : Int), .int .u8 (k6 : Int), .int .u8 (k7 : Int), .int .u32 (vt : Int), .int .u8 (m0 : Int), .int .u8 (m1 : Int), .int .u8 (m2 : Int), .int .u8 (m3 : Int), .int .u8 (m4 : Int), .int .u8 (m5 : Int), .int .u8 (x0 : Int), .int .u8 (x1 : Int), .int .u8 (x2 : Int), .int .u8 (x3 : Int), .int .u8 (x4 : Int), .int .u8 (x5 : Int), p, .int .u16 (lo : Int), .int .u16 (hi : Int), .int .i64 fi, u, q, .int .i64 se, .int .i64 qu, .int .u32 (ra : Int), .int .u32 (bu : Int)] := by kernel_rfl
theorem hten_any (t : Ten) (h : WfTen t) (p u q p' u' q' : Value) (w : World) (h1 : NumsIn w p t.pool) (h1' : NumsIn w p' t.pool) (h2 : PairsIn w u t.statics) (h2' : PairsIn w u' t.statics) (h3 : PairsIn w q t.twices) (h3' : PairsIn w q' t.twices) :
    Calls Tryz.prog 64 #[.agg (tenRow t p u q), .agg (tenRow t p' u' q')] w fun e w' => e = .returned (.bool true) ∧ Turn (fun _ => False) w w' := by
  obtain ⟨nm, vni, key, vtep, vmac, host, pool, lo, hi, fi, st, tw, se, qu, ra, bu⟩ := t
  obtain ⟨_, _, _, _, _, _, _, _, rfl⟩ := list8 key h.key
  obtain ⟨_, _, _, _, _, _, rfl⟩ := list6 vmac h.vmac
  obtain ⟨_, _, _, _, _, _, rfl⟩ := list6 host h.host
  rw [tenRow_lit, tenRow_lit]
  exact ten_eq _ _ _ _ _ _ _ _ _ _ _ _ _ _ _ _ _ _ _ _ _ _ _ _ _ _ _ _ _ _ pool st tw p u q p' u' q' w h1 h1' h2 h2' h3 h3'
theorem htens_any {tv tv' : Value} {l l' : List TenM} {w : World} (h : TensIn w tv l) (h' : TensIn w tv' l') (e : l.map (·.1) = l'.map (·.1)) :
    Calls Tryz.prog 30 #[tv, tv'] w fun e w' => e = .returned (.bool true) ∧ Turn (fun _ => False) w w' := by
  refine tens_eq (l.map tmRow) (l'.map tmRow) ?_ tv tv' w h.1 h'.1 ?_
  · have := congrArg List.length e
    simpa using this
  · intro i r s hr hs W t
    rw [List.getElem?_map] at hr hs
    cases hx : l[i]? with
    | none => rw [hx] at hr; cases hr
    | some x =>
      cases hy : l'[i]? with
      | none => rw [hy] at hs; cases hs
      | some y =>
        rw [hx] at hr
        rw [hy] at hs
        have hr : tmRow x = r := by simpa using hr
        have hs : tmRow y = s := by simpa using hs
        subst hr; subst hs
        have hxy : x.1 = y.1 := by
          have := congrArg (fun q => q[i]?) e
          simpa [hx, hy] using this
        obtain ⟨w1, n1, p1, q1⟩ := h.2 x (List.mem_of_getElem? hx)
        obtain ⟨w2, n2, p2, q2⟩ := h'.2 y (List.mem_of_getElem? hy)
        obtain ⟨t1, a, b, c⟩ := x
        obtain ⟨t2, a', b', c'⟩ := y
        dsimp only at hxy w1 n1 p1 q1 w2 n2 p2 q2
        subst hxy
        exact hten_any t1 w1 a b c a' b' c' W (n1.turn t) (n2.turn t) (p1.turn t) (p2.turn t) (q1.turn t) (q2.turn t)
/-- help.Config at two settings that read alike. -/
theorem hconfig_any (c : Cfg) (hw : WfCfg c) {tv tv' : Value} {l l' : List TenM} {w : World} (h : ∀ W, Turn (fun _ => False) w W → TensIn W tv l ∧ TensIn W tv' l') (e : l.map (·.1) = l'.map (·.1)) :
    Calls Tryz.prog 13 #[.agg (cfgRow c tv), .agg (cfgRow c tv')] w fun e w' => e = .returned (.bool true) ∧ Turn (fun _ => False) w w' := by
  obtain ⟨ip, mac, out, next, key, drain, tens⟩ := c
  obtain ⟨h1, h2, h3, h4⟩ := hw
  obtain ⟨_, _, _, _, _, _, rfl⟩ := list6 mac h1
  obtain ⟨_, _, _, _, _, _, rfl⟩ := list6 out h2
  obtain ⟨_, _, _, _, _, _, rfl⟩ := list6 next h3
  obtain ⟨_, _, _, _, _, _, _, _, rfl⟩ := list8 key h4
  rw [cfgRow_lit, cfgRow_lit]
  exact cfg_eq _ _ _ _ _ _ _ _ _ _ _ _ _ _ _ _ _ _ _ _ _ _ _ _ _ _ _ _ tv tv' w (fun W t => htens_any (h W t).1 (h W t).2 e)
theorem TensIn.nil (w : World) : TensIn w (.slice none 0 0) [] := ⟨⟨none, 0, rfl, by simp, fun i r hr => by simp at hr⟩, fun x hx => by simp at hx⟩
theorem RowsIn.turn {w w' : World} {v : Value} {R : List (Array Value)} (h : RowsIn w v R) (t : Turn (fun _ => False) w w') : RowsIn w' v R := by
  obtain ⟨ao, cap, h1, h2, h3⟩ := h
  refine ⟨ao, cap, h1, h2, fun i r hr => ?_⟩
  obtain ⟨q0, b, off, q1, q2, q3⟩ := h3 i r hr
  exact ⟨q0, b, off, q1, Nat.lt_of_lt_of_le q2 t.size, fun j u hj => (cell_turn0 t q2 (fun h => h)).trans (q3 j u hj)⟩
theorem TensIn.turn {w w' : World} {v : Value} {l : List TenM} (h : TensIn w v l) (t : Turn (fun _ => False) w w') : TensIn w' v l :=
  ⟨h.1.turn t, fun x hx => ⟨(h.2 x hx).1, (h.2 x hx).2.1.turn t, (h.2 x hx).2.2.1.turn t, (h.2 x hx).2.2.2.turn t⟩⟩
/-- Settings in memory. -/
def CfgIn (w : World) (c : Cfg) (v : Value) : Prop := ∃ tv l, v = .agg (cfgRow c tv) ∧ WfCfg c ∧ TensIn w tv l ∧ l.map (·.1) = c.tens
theorem CfgIn.turn {w w' : World} {c : Cfg} {v : Value} (h : CfgIn w c v) (t : Turn (fun _ => False) w w') : CfgIn w' c v := by
  obtain ⟨tv, l, h1, h2, h3, h4⟩ := h
  exact ⟨tv, l, h1, h2, h3.turn t, h4⟩
theorem hcfg_same {w : World} {c : Cfg} {u v : Value} (h : CfgIn w c u) (k : CfgIn w c v) : Calls Tryz.prog 13 #[u, v] w fun e w' => e = .returned (.bool true) ∧ Turn (fun _ => False) w w' := by
  obtain ⟨tv, l, rfl, hw, h1, h2⟩ := h
  obtain ⟨tv', l', rfl, _, h1', h2'⟩ := k
  exact hconfig_any c hw (fun W t => ⟨h1.turn t, h1'.turn t⟩) (h2.trans h2'.symm)
theorem text_cfg {w : World} {c : Cfg} {v : Value} (h : CfgIn w c v) (he : Env w) (hc : RngCfg c) (hlen : (textL c).length ≤ 100000000) : Calls Tryz.prog 15 #[v] w (TextPost (textL c) w) := by
  obtain ⟨tv, l, rfl, hw, h1, h2⟩ := h
  exact text_any c tv l w he hc hw h1 h2 hlen
/-- Small settings. -/
def SmallCfg (c : Cfg) : Prop := c.tens.length ≤ 1000000 ∧ ∀ t ∈ c.tens, t.pool.length ≤ 1000000 ∧ t.statics.length ≤ 1000000 ∧ t.twices.length ≤ 1000000
theorem cfg_of_own {w : World} {lo : Nat} {c : Cfg} {tv : Value} {l : List TenM} (hw : WfCfg c) (h : TensAt w lo tv l) (e : l.map (·.1) = c.tens) (hs : SmallCfg c) : CfgIn w c (.agg (cfgRow c tv)) := by
  refine ⟨tv, l, rfl, hw, tens_of_own h ?_ ?_, e⟩
  · have := hs.1
    rw [← e] at this
    simpa using this
  · intro x hx
    exact hs.2 x.1 (by rw [← e]; exact List.mem_map_of_mem hx)
theorem seat_small (ks : List Nat) (d : Nat) (hk : ∀ x ∈ ks, x < 65536) : SmallCfg (seatCfg ks d) := by
  have a3 : ∀ (l : List Nat) (n : Nat), (seatTens n l).length = l.length := by
    intro l
    induction l with
    | nil => intro n; rfl
    | cons x l ih => intro n; show (seatTens (n + 1) l).length + 1 = _; rw [ih]; rfl
  refine ⟨?_, fun t ht => ?_⟩
  · show (seatTens 0 (ks.take 4)).length ≤ _
    rw [a3, List.length_take]; omega
  · obtain ⟨i, kind, h1, h2, rfl⟩ := seat_tens hk ht
    have := seat_lens i kind
    omega
theorem seat_cfg (ks : List Nat) (d : Nat) (hd : d < 256) (hk : ∀ x ∈ ks, x < 65536) (kv : Value) (w : World) (h : HwsIn w kv ks) : Calls Tryz.prog 17 #[kv, .int .u8 (d : Int)] w fun e w' => ∃ v, e = .returned v ∧ CfgIn w' (seatCfg ks d) v ∧ Turn (fun _ => False) w w' := by
  refine (sconfig_any ks d hd kv w h).mono ?_
  rintro e w' ⟨tv, l, rfl, h1, h2, h3⟩
  exact ⟨_, rfl, cfg_of_own (seatHead_wf d _) h1 h2 (seat_small ks d hk), h3⟩
/-- lang.Parse where settings are read. -/
theorem parse_ok {s : ByteArray} {c : Cfg} (hs : s.size ≤ 100000) (w : World) (he : Env w) (h : configP s = .ok c) (hc : SmallCfg c) : Calls Tryz.prog 10 #[.string s] w fun e w' => ∃ v, e = .returned (.tuple #[v, .nilIface]) ∧ CfgIn w' c v ∧ Turn (fun _ => False) w w' := by
  refine (parse_any s hs w he).mono ?_
  intro e w' hp
  rw [h] at hp
  obtain ⟨tv, l, rfl, h1, h2, h3, h4⟩ := hp
  exact ⟨_, rfl, cfg_of_own h3 h1 h2 hc, h4⟩
def zeroC : Cfg := ⟨0, [0, 0, 0, 0, 0, 0], [0, 0, 0, 0, 0, 0], [0, 0, 0, 0, 0, 0], [0, 0, 0, 0, 0, 0, 0, 0], 0, []⟩
theorem zero_cfg (w : World) : CfgIn w zeroC (.agg (cfgZero 0)) :=
  ⟨.slice none 0 0, [], by kernel_rfl, ⟨rfl, rfl, rfl, rfl⟩, TensIn.nil w, rfl⟩
theorem parse_err {s : ByteArray} {pl : Nat} (hs : s.size ≤ 100000) (w : World) (he : Env w) (h : configP s = .error pl) : Calls Tryz.prog 10 #[.string s] w fun e w' => ∃ v pp, e = .returned (.tuple #[v, errV pp]) ∧ CfgIn w' zeroC v ∧ w'.heap[pp]? = some (.cells #[.int .i64 (pl : Int), .int .i64 60] 67 (0, 0)) ∧ Turn (fun _ => False) w w' := by
  refine (parse_any s hs w he).mono ?_
  intro e w' hp
  rw [h] at hp
  obtain ⟨pp, rfl, h1, h2⟩ := hp
  exact ⟨_, pp, rfl, zero_cfg w', h1, h2⟩
theorem back_ok (ks : List Nat) (d : Nat) (hk : ∀ x ∈ ks, x < 65536) : configP ⟨(textL (seatCfg ks d)).toArray⟩ = .ok (seatCfg ks d) := by
  refine configP_spread (seatCfg_ok hk d) (seatCfg_names hk d) ?_ ?_
  · exact spt_text _
  · have := seatText_len hk d
    show (textL (seatCfg ks d)).toArray.size ≤ _
    simp; omega
end Go.Proofs.YtbkpbcmjgbdbkaaGreatDoor
