/- LangWords: the walk. Conditions: Env, ErrType. -/
import Derived.Test.YtbkpbcmjgbdbkaaGreatDoorA2
import Derived.Test.YtbkpbcmjgbdbkaaGreatDoorA6
import Derived.Test.YtbkpbcmjgbdbkaaGreatDoorMJ
import Derived.Laws.BitsAllLaws
namespace Go.Proofs.YtbkpbcmjgbdbkaaGreatDoor
open Go.RowKit Go.Lib
set_option linter.unusedVariables false
set_option linter.unusedSimpArgs false
set_option maxRecDepth 100000
set_option pp.maxSteps 2500

theorem info3 : (Tryz.prog.info? 3).map (fun i => (i.zero, i.size, i.bytes)) = some (some (.int .i64 0), 1, 8) := by kernel_rfl
def natCells (L : List Nat) : List Value := L.map fun (n : Nat) => .int .i64 (n : Int)
theorem natCells_snoc (L : List Nat) (n : Nat) : natCells (L ++ [n]) = natCells L ++ [.int .i64 (n : Int)] := by simp [natCells]
theorem nat_snoc {w : World} {base : Nat} {v : Value} {L : List Nat} {n : Nat} (h : w.ownsRow base 3 1 v (L.length + 1) (natCells L ++ [.int .i64 (n : Int)])) : w.ownsRow base 3 1 v (L ++ [n]).length (natCells (L ++ [n])) := by
  rw [List.length_append, List.length_singleton, natCells_snoc]
  exact h
theorem nls_yes {s : ByteArray} {k : Nat} (h : byteAt s k = 10) : nls s (k + 1) = nls s k ++ [k] := by rw [nls, if_pos h]
theorem nls_no {s : ByteArray} {k : Nat} (h : byteAt s k ≠ 10) : nls s (k + 1) = nls s k := by rw [nls, if_neg h]

set_option maxHeartbeats 4000000 in
theorem words_walk (x : Nat) (hx : x < 65536) (z : Int) (hz : -9223372036854775808 ≤ z ∧ z ≤ 9223372036854775807) (mo : Bool) (w : World) (he : Env w) (hg : ErrType w) : Calls Tryz.prog 8 #[.int .u16 (x : Int), .int .i64 z, .bool mo] w (BoolPost true w) := by
  have hkn := known_any w he hg
  have hp0 := he.pos
  have hb1 : bits .or .u16 (x : Int) 128 = ((x ||| 128 : Nat) : Int) := u16_or_nat x 128 hx (by decide)
  have hlt1 : x ||| 128 < 65536 := Nat.or_lt_two_pow (n := 16) hx (by decide)
  generalize (x ||| 128) = x1 at *
  have hb2 : bits .or .u16 (x1 : Int) 256 = ((x1 ||| 256 : Nat) : Int) := u16_or_nat x1 256 hlt1 (by decide)
  have hlt2 : x1 ||| 256 < 65536 := Nat.or_lt_two_pow (n := 16) hlt1 (by decide)
  generalize (x1 ||| 256) = y at *
  have hks : ∀ x ∈ [y], x < 65536 := by simpa using hlt2
  have h17 : ∀ W, Turn (fun _ => False) w W → Calls Tryz.prog 17 #[.slice (some ⟨W.heap.size, 0, none⟩) 1 1, .int .u8 1] (W.alloc (.cells #[.int .u16 (y : Int)] 42)) fun e w' => ∃ v, e = .returned v ∧ CfgIn w' (seatCfg [y] 1) v ∧ Turn (fun _ => False) (W.alloc (.cells #[.int .u16 (y : Int)] 42)) w' := fun W _ =>
    seat_cfg [y] 1 (by decide) hks (.slice (some ⟨W.heap.size, 0, none⟩) 1 1) (W.alloc (.cells #[.int .u16 (y : Int)] 42)) ⟨_, _, rfl, by simp, hks, fun i x hx => ⟨W.heap.size, 0, rfl, by simp, by
      match i, hx with
      | 0, hx => cases hx; exact cell_of_block (block_alloc_new _ _) 0⟩⟩
  obtain ⟨c, T, hc, hT, hrng, hlen, hTs, hok, hsm, h35, h7, h32, hnl⟩ := words_facts y hlt2
  rw [hc] at h17
  have HP := Lib.hid (And.intro hrng (And.intro hlen (And.intro hok (And.intro hsm (And.intro he (And.intro hg (And.intro h17 (And.intro h35 (And.intro h7 (And.intro h32 hnl))))))))))
  have HT0 := Lib.hid hT
  clear hrng hlen hok hsm he hg h17 h35 h7 h32 hnl hc hT hks
  obtain ⟨i0, hi0, hz0, hz1, hz2⟩ := info_parts info3
  go_enter Tryz.func8, Tryz.ntmps8
  go_wp2_with fail
  refine hkn.mono ?_
  rintro e w1 ⟨rfl, t1⟩
  clear hkn
  have h17 := HP.out.2.2.2.2.2.2.1 w1 t1
  have t1 := t1.alloc (.cells #[.int .u16 (y : Int)] 42)
  have HT := Lib.hid t1
  clear t1
  go_wp2_with fail
  refine h17.mono ?_
  rintro e w2 ⟨v1, rfl, hc1, t2⟩
  have h16 := rtext_cfg hc1 HP.out.1 (by have := HP.out.2.1; omega)
  have HT2 := Lib.hid (HT.out.trans t2)
  clear h17 hc1 t2 HT
  go_wp2_with fail
  refine h16.mono ?_
  rintro e w3 ⟨rfl, t3⟩
  have HT3 := Lib.hid (HT2.out.trans t3)
  clear h16 t3 HT2
  rw [← HT0.out]
  clear hb1 hb2 hlt1 hlt2
  go_wp2_with fail
  go_loopg [8, 9] T.size (fun g v i wr => ∃ k : Nat, g = T.size - k ∧ i = .int .i64 (k : Int) ∧ k ≤ T.size ∧ Hid (wr.ownsRow w3.heap.size 3 1 v (nls T k).length (natCells (nls T k))) ∧ Hid (Turn (fun _ => False) w3 wr))
  case atStart => exact ⟨0, rfl, rfl, Nat.zero_le _, Lib.hid (World.ownsRow_nil _ _ _ _), Lib.hid (Turn.refl _ _)⟩
  case round =>
    obtain ⟨k, rfl, rfl, hk, HO, Ht⟩ := hrel
    have n1 : (0 : Int) ≤ (k : Int) := by omega
    have hnlen := nls_len T k
    by_cases hlt : k < T.size
    · have n2 : (k : Int) < (T.size : Int) := by omega
      obtain ⟨b, hb1, hb2⟩ := bytes_get T k hlt
      have hba := byteAt_is hb1
      by_cases hb : b = 10
      · subst hb
        have b1 : (((10 : UInt8).toNat : Int) == 10) = true := by decide
        have hnl := Lib.hid (nls_yes (s := T) (k := k) (by rw [hba]; rfl))
        have o5 := HO.out.alloc (.cells #[.int .i64 (k : Int)] 3)
        clear hba
        go_wp2_with (at_builtin; refine wpList_append_own_at _ rfl _ _ 56 rfl w3.heap.size 3 i0 (.int .i64 0) 1 8 Tryz.underlying56 hi0 hz0 hz1 hz2 rfl (by decide) u8 _ _ rfl o5 ⟨wr.heap.size, 0, none⟩ 1 1 [.int .i64 (k : Int)] rfl rfl ?c1 ?c2 ?c3 ?c4 ?c5 ?_)
        case c1 => exact cell_one_new _ _ _
        case c2 => first | rfl | (intro u hu; simp at hu; rw [hu]; rfl)
        case c3 => unfold maxLen; omega
        case c4 => omega
        case c5 => have := Ht.out.size; simp; omega
        intro v' w' hown' hgrow _ _
        have t2 : Turn (fun _ => False) w3 w' := (Ht.out.alloc _).trans2 (turn_of_grown hgrow) (fun i hi e => by have := (o5.lt i e).1; omega)
        have hown2 := nat_snoc hown'
        rw [← hnl.out] at hown2
        have H2 := Lib.hid hown2
        have H3 := Lib.hid t2
        clear hgrow o5 HO Ht hown' hown2 t2 hnl
        go_wp2_with fail
        go_roundg (T.size - (k + 1))
        case measure => omega
        case rel => exact ⟨k + 1, rfl, by go_num, by omega, H2, H3⟩
      · have b1 : ((b.toNat : Int) == 10) = false := by
          have : b.toNat ≠ 10 := fun e => hb (UInt8.toNat_inj.1 e)
          simp; omega
        have hnl := nls_no (s := T) (k := k) (by rw [hba]; exact fun e => hb (UInt8.toNat_inj.1 e))
        have H2 := HO.out
        rw [← hnl] at H2
        have H2 := Lib.hid H2
        clear hba HO hnl
        go_wp2_with fail
        go_roundg (T.size - (k + 1))
        case measure => omega
        case rel => exact ⟨k + 1, rfl, by go_num, by omega, H2, Ht⟩
    · have n2 : ¬ (k : Int) < (T.size : Int) := by omega
      obtain rfl : k = T.size := by omega
      obtain ⟨p, hpn, hpl⟩ := place_fix z (nls T T.size).length (List.length_pos_iff.2 HP.out.2.2.2.2.2.2.2.2.2.2) (by omega) hz
      obtain ⟨E, hE⟩ : ∃ E, (nls T T.size)[p]? = some E := ⟨_, List.getElem?_eq_getElem hpn⟩
      have hEm := nls_mem (List.mem_of_getElem? hE)
      obtain ⟨g, cap, rfl, _, hgl⟩ := World.ownsRow.form HO.out (by omega)
      have hcell : wr.cell? ⟨g, p, none⟩ = some (.int .i64 (E : Int)) := by
        rw [HO.out.cellAt p (by omega)]
        unfold natCells
        rw [List.getElem?_map, hE]
        rfl
      have h18 := hpl wr
      have m1 : (0 : Int) ≤ (p : Int) := by omega
      have m2 : (p : Int) < ((nls T T.size).length : Int) := by omega
      have HE := Lib.hid hEm
      have he1 : E < T.size := hEm.1
      have HTT := Lib.hid (HT3.out.trans Ht.out)
      generalize (nls T T.size).length = N at *
      clear hE hEm HO Ht HT3 hnlen hpl hgl hpn
      go_wp2_with fail
      refine h18.mono ?_
      rintro e w4 ⟨rfl, rfl⟩
      clear h18
      have m3 : (0 : Int) ≤ (E : Int) := by omega
      have m4 : (E : Int) ≤ (T.size : Int) := by omega
      cases mo with
      | true =>
        have x1 : (T.extract 0 E).size = E := by rw [ByteArray.size_extract]; omega
        have x2 : (T.extract E T.size).size = T.size - E := by rw [ByteArray.size_extract]; omega
        have hcu : configP (T.extract 0 E ++ { data := #[32, 122, 122] } ++ T.extract E T.size) = .error (E + 1) := more_text HP.out.2.2.1 (by omega) HE.out.1 HE.out.2 HP.out.2.2.2.2.2.2.2.1
        have hsu : (T.extract 0 E ++ { data := #[32, 122, 122] } ++ T.extract E T.size : ByteArray).size ≤ 2300 := by
          rw [ByteArray.size_append, ByteArray.size_append, x1, x2]
          show E + 3 + _ ≤ _
          omega
        have HU := Lib.hid (And.intro hcu hsu)
        clear hcu hsu
        go_upto_region 12 with (fail)
        go_region
        generalize (T.extract 0 E ++ { data := #[32, 122, 122] } ++ T.extract E T.size : ByteArray) = u at *
        have tq : Turn (fun _ => False) w wr.drew := HTT.out.trans (Turn.refl _ _).drew
        have h10 := parse_err (s := u) (pl := E + 1) (by have := HU.out.2; omega) wr.drew (HP.out.2.2.2.2.1.keep tq) HU.out.1
        have HQ := Lib.hid tq
        clear tq x1 x2
        generalize wr.drew = wq at *
        go_wp2_with fail
        refine h10.mono ?_
        rintro e w6 ⟨v3, pp, rfl, hc3, hpp, t4⟩
        obtain ⟨row3, rfl, z3, o3⟩ := hc3.row
        obtain ⟨W4, st4, k4, s4⟩ := keep_cfg (w := w6) z3 o3
        have q4 := HQ.out.trans (t4.trans s4)
        have hpp := (s4.block _ (block_lt hpp) (fun h => h)).trans hpp
        have h11 := told_err pp (E + 1) 60 W4 (HP.out.2.2.2.2.2.1.turn q4 HP.out.2.2.2.2.1.pos) hpp
        have i4 : (Tryz.prog.info? 29).map (·.size) = some row3.size := by rw [z3]; kernel_rfl
        have H4 := Lib.hid q4
        clear h10 t4 q4 hc3 hpp k4 s4 z3 o3
        go_wp2_with (first | (refine wpList_store_put rfl 29 _ _ rfl w6.heap.size 0 row3 rfl rfl i4 W4 st4 ?_))
        clear st4 i4
        refine h11.mono ?_
        rintro e w7 ⟨rfl, t7⟩
        have H7 := Lib.hid (H4.out.trans t7)
        clear h11 t7
        go_wp2_with fail
        go_ret
        exact ⟨rfl, H7.out⟩
      | false =>
        have hE7 : 7 ≤ E := by
          rcases Nat.lt_or_ge E 7 with h | h
          · exact absurd HE.out.2 (HP.out.2.2.2.2.2.2.2.2.1 E h)
          · exact h
        go_wp2_with fail
        go_loopg [16] (E + 1) (fun g i wr' => ∃ j : Nat, g = j + 1 ∧ i = .int .i64 (j : Int) ∧ 7 ≤ j ∧ j ≤ E ∧ wr' = wr)
        case atStart => exact ⟨E, rfl, rfl, hE7, Nat.le_refl _, rfl⟩
        case round =>
          obtain ⟨j, rfl, rfl, hj7, hjE, rfl⟩ := hrel
          have k1 : (0 : Int) ≤ (j : Int) := by omega
          have hjT : j < T.size := by omega
          have k2 : (j : Int) < (T.size : Int) := by omega
          obtain ⟨b, hb1, hb2⟩ := bytes_get T j hjT
          have hba := byteAt_is hb1
          by_cases hb : b = 32
          · subst hb
            have b1 : (((32 : UInt8).toNat : Int) == 32) = true := by decide
            clear hba
            have k3 : (j : Int) ≤ (T.size : Int) := by omega
            have x1 : (T.extract 0 j).size = j := by rw [ByteArray.size_extract]; omega
            have x2 : (T.extract E T.size).size = T.size - E := by rw [ByteArray.size_extract]; omega
            have hsu : (T.extract 0 j ++ T.extract E T.size : ByteArray).size ≤ 2300 := by
              rw [ByteArray.size_append, x1, x2]
              omega
            have HU := Lib.hid hsu
            clear hsu
            go_upto_region 19 with (fail)
            go_region
            generalize (T.extract 0 j ++ T.extract E T.size : ByteArray) = u at *
            have tq : Turn (fun _ => False) w wr.drew := HTT.out.trans (Turn.refl _ _).drew
            have hue := HP.out.2.2.2.2
            clear HP HTT HE HT0 hcell x1 x2 hb1 hb2
            generalize wr.drew = wq at *
            obtain ⟨c2, a, n, hA, hB⟩ := parse_both u (by have := HU.out; omega)
            have h10 := hA wq (hue.1.keep tq) (hue.2.1.turn tq hp0)
            have HQ := Lib.hid (And.intro tq (And.intro hue.1 hB))
            clear tq hue hA hB
            go_wp2_with fail
            refine h10.mono ?_
            rintro e w5 ⟨v5, ev, rfl, hc5, t5, hTold⟩
            obtain ⟨row5, rfl, z5, o5⟩ := hc5.row
            obtain ⟨W5, st5, k5, s5⟩ := keep_cfg (w := w5) z5 o5
            have i5 : (Tryz.prog.info? 29).map (·.size) = some row5.size := by rw [z5]; kernel_rfl
            have h11 := hTold W5 s5
            have H5 := Lib.hid ((HQ.out.1.trans t5).trans s5)
            clear h10 hc5 t5 hTold s5 k5 o5
            go_wp2_with (first | (refine wpList_store_put rfl 29 _ _ rfl w5.heap.size 0 row5 rfl rfl i5 W5 st5 ?_))
            refine h11.mono ?_
            rintro e w6 ⟨rfl, t6⟩
            have q6 := H5.out.trans t6
            have h12 := HQ.out.2.2 w6 (HQ.out.2.1.keep q6)
            have H6 := Lib.hid q6
            clear h11 t6 q6 st5
            go_wp2_with fail
            refine h12.mono ?_
            rintro e w7 ⟨v7, rfl, hc7, t7⟩
            obtain ⟨row7, rfl, z7, o7⟩ := hc7.row
            obtain ⟨W7, st7, k7, s7⟩ := keep_cfg (w := w7) z7 o7
            have i7 : (Tryz.prog.info? 29).map (·.size) = some row7.size := by rw [z7]; kernel_rfl
            have H7 := Lib.hid ((H6.out.trans t7).trans s7)
            clear h12 hc7 t7 s7 k7 o7
            go_wp2_with (first | (refine wpList_store_put rfl 29 _ _ rfl w7.heap.size 0 row7 rfl rfl i7 W7 st7 ?_))
            go_ret
            exact ⟨rfl, H7.out⟩
          · have b1 : ((b.toNat : Int) == 32) = false := by
              have : b.toNat ≠ 32 := fun e => hb (UInt8.toNat_inj.1 e)
              simp; omega
            have hj8 : 8 ≤ j := by
              rcases Nat.lt_or_ge j 8 with h | h
              · exfalso
                obtain rfl : j = 7 := by omega
                have := HP.out.2.2.2.2.2.2.2.2.2.1
                rw [hba] at this
                exact hb (UInt8.toNat_inj.1 this)
              · exact h
            clear hba
            go_wp2_with fail
            go_roundg (j - 1 + 1)
            case measure => omega
            case rel => exact ⟨j - 1, rfl, by go_num, by omega, by omega, rfl⟩
end Go.Proofs.YtbkpbcmjgbdbkaaGreatDoor
