/- LangReads: the walk. Conditions: Env, ErrType. -/
import Derived.Test.YtbkpbcmjgbdbkaaGreatDoorXC
import Derived.Test.YtbkpbcmjgbdbkaaGreatDoorXD
import Derived.Test.YtbkpbcmjgbdbkaaGreatDoorY4
namespace Go.Proofs.YtbkpbcmjgbdbkaaGreatDoor
open Go.RowKit Go.Lib
set_option linter.unusedVariables false
set_option linter.unusedSimpArgs false
set_option maxRecDepth 100000

theorem parse_both (s : ByteArray) (hs : s.size ≤ 32768) : ∃ (c : Cfg) (a n : Nat),
    (∀ w, Env w → ErrType w → Calls Tryz.prog 10 #[.string s] w fun e w' => ∃ v u, e = .returned (.tuple #[v, u]) ∧ CfgIn w' c v ∧ Turn (fun _ => False) w w' ∧
      ∀ W, Turn (fun _ => False) w' W → Calls Tryz.prog 11 #[u] W fun e W' => e = .returned (.tuple #[.int .i64 (a : Int), .int .i64 (n : Int)]) ∧ Turn (fun _ => False) W W') ∧
    (∀ w, Env w → Calls Tryz.prog 12 #[.string s] w fun e w' => ∃ v, e = .returned (.tuple #[v, .int .i64 (a : Int), .int .i64 (n : Int)]) ∧ CfgIn w' c v ∧ Turn (fun _ => False) w w') := by
  rcases except_cases (configP s) with ⟨pl, hc⟩ | ⟨c, hc⟩
  · refine ⟨zeroC, pl, 60, fun w he hg => ?_, fun w he => ?_⟩
    · refine (parse_err (by omega) w he hc).mono ?_
      rintro e w' ⟨v, pp, rfl, h1, h2, h3⟩
      refine ⟨v, errV pp, rfl, h1, h3, fun W t => ?_⟩
      exact told_err pp pl 60 W ((hg.turn h3 he.pos).turn t (by have := he.pos; have := h3.size; omega)) ((t.block pp (block_lt h2) (fun h => h)).trans h2)
    · refine (rparse_any s hs w he).mono ?_
      intro e w' hp
      rw [hc] at hp
      obtain ⟨rfl, h1⟩ := hp
      exact ⟨_, rfl, zero_cfg w', h1⟩
  · have hsm := conf_small hc
    refine ⟨c, 0, 0, fun w he hg => ?_, fun w he => ?_⟩
    · refine (parse_ok (by omega) w he hc hsm).mono ?_
      rintro e w' ⟨v, rfl, h1, h3⟩
      refine ⟨v, .nilIface, rfl, h1, h3, fun W t => ?_⟩
      exact (told_nil W).mono fun e W' ⟨h1, h2⟩ => ⟨h1, by rw [h2]; exact Turn.refl _ _⟩
    · refine (rparse_any s hs w he).mono ?_
      intro e w' hp
      rw [hc] at hp
      obtain ⟨tv, l, rfl, h1, h2, h3, h4⟩ := hp
      exact ⟨_, rfl, cfg_of_own h3 h1 h2 hsm, h4⟩
set_option maxHeartbeats 8000000 in
theorem reads_walk (s : ByteArray) (w : World) (he : Env w) (hg : ErrType w) : Calls Tryz.prog 3 #[.string s] w (BoolPost true w) := by
  have hkn := known_any w he hg
  have HE := Lib.hid (And.intro he hg)
  have hp0 := he.pos
  clear he hg
  go_enter Tryz.func3, Tryz.ntmps3
  go_wp2_with fail
  refine hkn.mono ?_
  rintro e w1 ⟨rfl, t1⟩
  clear hkn
  by_cases h4 : 4000 < s.size
  · have h4' : (4000 : Int) < (s.size : Int) := by omega
    go_wp2_with fail
    go_ret
    exact ⟨rfl, t1⟩
  · have h4' : ¬ (4000 : Int) < (s.size : Int) := by omega
    obtain ⟨c, a, n, hA, hB⟩ := parse_both s (by omega)
    have h10 := hA w1 (HE.out.1.keep t1) (HE.out.2.turn t1 hp0)
    have HT := Lib.hid (And.intro t1 hB)
    clear t1 hA hB
    go_wp2_with fail
    refine h10.mono ?_
    rintro e w2 ⟨v1, u, rfl, hc1, t2, hTold⟩
    obtain ⟨row1, rfl, z1, o1⟩ := hc1.row
    obtain ⟨W1, st1, k1, s1⟩ := keep_cfg (w := w2) z1 o1
    have i1 : (Tryz.prog.info? 29).map (·.size) = some row1.size := by rw [z1]; kernel_rfl
    have h11 := hTold W1 s1
    have H1 := Lib.hid (And.intro (hc1.turn s1) (And.intro ((HT.out.1.trans t2).trans s1) k1))
    clear h10 hc1 t2 hTold s1 k1 o1
    go_wp2_with (first | (refine wpList_store_put rfl 29 _ _ rfl w2.heap.size 0 row1 rfl rfl i1 W1 st1 ?_))
    refine h11.mono ?_
    rintro e w3 ⟨rfl, t3⟩
    have q3 := H1.out.2.1.trans t3
    have h12 := HT.out.2 w3 (HE.out.1.keep q3)
    have H2 := Lib.hid (And.intro t3 q3)
    clear h11 t3 q3 st1
    go_wp2_with fail
    refine h12.mono ?_
    rintro e w4 ⟨v2, rfl, hc2, t4⟩
    obtain ⟨row2, rfl, z2, o2⟩ := hc2.row
    obtain ⟨W4, st2, k2, s2⟩ := keep_cfg (w := w4) z2 o2
    have i2 : (Tryz.prog.info? 29).map (·.size) = some row2.size := by rw [z2]; kernel_rfl
    have p3 := (H2.out.1.trans t4).trans s2
    have k1 := (p3.block _ (block_lt H1.out.2.2) (fun h => h)).trans H1.out.2.2
    have l1 := load_cfg z1 k1
    have l2 := load_cfg z2 k2
    have h13 := hcfg_same (H1.out.1.turn p3) (hc2.turn s2)
    have HQ := Lib.hid ((H2.out.2.trans t4).trans s2)
    clear h12 hc2 t4 s2 o2 p3 k1 k2
    go_wp2_with (first | (refine wpList_store_put rfl 29 _ _ rfl w4.heap.size 0 row2 rfl rfl i2 W4 st2 ?_) | (refine wpList_load_met (by rfl) 29 _ rfl (.agg row1) l1 ?_) | (refine wpList_load_met (by rfl) 29 _ rfl (.agg row2) l2 ?_))
    refine h13.mono ?_
    rintro e w5 ⟨rfl, t5⟩
    have H7 := Lib.hid (HQ.out.trans t5)
    clear h13 t5 l1 l2
    go_wp2_with fail
    go_ret
    exact ⟨rfl, H7.out⟩
end Go.Proofs.YtbkpbcmjgbdbkaaGreatDoor
