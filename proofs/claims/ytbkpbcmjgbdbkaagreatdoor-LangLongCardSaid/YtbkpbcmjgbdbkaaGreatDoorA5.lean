/- LangLong: the walk. Conditions: Env, ErrType. -/
import Derived.Test.YtbkpbcmjgbdbkaaGreatDoorA2
import Derived.Laws.OwnMore
import Derived.OwnWalk
namespace Go.Proofs.YtbkpbcmjgbdbkaaGreatDoor
open Go.RowKit Go.Lib
set_option linter.unusedVariables false
set_option linter.unusedSimpArgs false
set_option maxRecDepth 100000
set_option pp.maxSteps 2500

/-- k signs laid into n places. -/
def xsAt (n k : Nat) : List UInt8 := List.replicate k 120 ++ List.replicate (n - k) 0
theorem xsAt_len {n k : Nat} (h : k ≤ n) : (xsAt n k).length = n := by unfold xsAt; simp; omega
theorem xsAt_set {n k : Nat} (h : k < n) : (byteVals (xsAt n k)).set k (.int .u8 120) = byteVals (xsAt n (k + 1)) := by
  unfold xsAt byteVals
  obtain ⟨m, hm⟩ : ∃ m, n - k = m + 1 := ⟨n - k - 1, by omega⟩
  rw [hm, show n - (k + 1) = m by omega, List.replicate_succ' (n := k) (a := (120 : UInt8)), List.replicate_succ (n := m) (a := (0 : UInt8))]
  simp only [List.map_append, List.map_cons, List.map_nil]
  rw [List.set_append, if_neg (by simp)]
  simp
def longText (T : List UInt8) (n : Nat) : List UInt8 := (T ++ [35]) ++ List.replicate n 120
theorem long_ok (ks : List Nat) (d : Nat) (hk : ∀ x ∈ ks, x < 65536) (n : Nat) (hl : (longText (textL (seatCfg ks d)) n).length ≤ 32768) : configP ⟨(longText (textL (seatCfg ks d)) n).toArray⟩ = .ok (seatCfg ks d) := by
  unfold configP
  rw [if_neg (by show ¬ 32768 < (longText (textL (seatCfg ks d)) n).toArray.size; simp only [List.size_toArray]; omega)]
  refine from_lines (seatCfg_ok hk d) (lines_comment (t := textL (seatCfg ks d)) (xs := List.replicate n 120) (spt_text _) (words_good (seatCfg_ok hk d) (seatCfg_names hk d)) ?_ ?_)
  · show longText (textL (seatCfg ks d)) n = _
    unfold longText
    simp
  · intro b hb
    rw [List.eq_of_mem_replicate hb]
    decide
theorem long_err (T : List UInt8) (n : Nat) (hl : 32768 < (longText T n).length) : configP ⟨(longText T n).toArray⟩ = .error 32768 := by
  unfold configP
  rw [if_pos (by show 32768 < (longText T n).toArray.size; simp only [List.size_toArray]; omega)]
set_option maxHeartbeats 4000000 in
theorem long_walk (z : Int) (hz : -9223372036854775808 ≤ z ∧ z ≤ 9223372036854775807) (w : World) (he : Env w) (hg : ErrType w) : Calls Tryz.prog 6 #[.int .i64 z] w (BoolPost true w) := by
  have hkn := known_any w he hg
  obtain ⟨p, hp5, hpl⟩ := place_fix z 5 (by omega) (by omega) hz
  have hks : ∀ x ∈ [1], x < 65536 := by decide
  have hrng : RngCfg (seatCfg [1] 1) := seatCfg_rng hks 1
  have htl : (textL (seatCfg [1] 1)).length ≤ 2200 := seatText_len hks 1
  have hok := long_ok [1] 1 hks
  have hsm : SmallCfg (seatCfg [1] 1) := seat_small [1] 1 hks
  have h17 : ∀ W, Turn (fun _ => False) w W → Calls Tryz.prog 17 #[.slice (some ⟨W.heap.size, 0, none⟩) 1 1, .int .u8 1] (W.alloc (.cells #[.int .u16 1] 42)) fun e w' => ∃ v, e = .returned v ∧ CfgIn w' (seatCfg [1] 1) v ∧ Turn (fun _ => False) (W.alloc (.cells #[.int .u16 1] 42)) w' := fun W _ =>
    seat_cfg [1] 1 (by decide) hks (.slice (some ⟨W.heap.size, 0, none⟩) 1 1) (W.alloc (.cells #[.int .u16 1] 42)) ⟨_, _, rfl, by decide, hks, fun i x hx => ⟨W.heap.size, 0, rfl, by simp, by
      match i, hx with
      | 0, hx => cases hx; exact cell_of_block (block_alloc_new _ _) 0⟩⟩
  generalize seatCfg [1] 1 = c at *
  have HP := Lib.hid (And.intro hrng (And.intro htl (And.intro hok (And.intro hsm (And.intro he (And.intro hg h17))))))
  have HPL := Lib.hid hpl
  clear hrng htl hok hsm he hg h17 hpl hks
  obtain ⟨i0, hi0, hz0, hz1, hz2⟩ := info_parts info5
  go_enter Tryz.func6, Tryz.ntmps6
  go_wp2_with fail
  refine hkn.mono ?_
  rintro e w1 ⟨rfl, t1⟩
  clear hkn
  have h17 := HP.out.2.2.2.2.2.2 w1 t1
  have t1 := t1.alloc (.cells #[.int .u16 1] 42)
  have HT := Lib.hid t1
  clear t1
  go_wp2_with fail
  refine h17.mono ?_
  rintro e w2 ⟨v1, rfl, hc1, t2⟩
  have h16 := rtext_cfg hc1 HP.out.1 (by have := HP.out.2.1; omega)
  have HT2 := Lib.hid (HT.out.trans t2)
  clear h17 hc1 t2
  go_wp2_with fail
  refine h16.mono ?_
  rintro e w3 ⟨rfl, t3⟩
  have HT3 := Lib.hid (HT2.out.trans t3)
  clear h16 t3
  obtain ⟨T1, hT1⟩ : ∃ T1 : ByteArray, T1 = ⟨(textL c).toArray⟩ := ⟨_, rfl⟩
  rw [← hT1]
  have hs1 : T1.size ≤ 2200 := by rw [hT1]; show (textL c).toArray.size ≤ _; simp only [List.size_toArray]; exact HP.out.2.1
  have HS1 := Lib.hid hT1
  clear hT1
  go_upto_region 4 with (fail)
  have hs2 : (T1 ++ { data := #[35] } : ByteArray).size = T1.size + 1 := by rw [ByteArray.size_append]; rfl
  generalize hTb : (T1 ++ { data := #[35] } : ByteArray) = Tb at *
  have HTb := Lib.hid (And.intro hTb hs2)
  have hs3 : Tb.size ≤ 2201 := by omega
  clear hTb hs2 hs1
  obtain ⟨n, hn⟩ : ∃ n : Nat, 32766 + (p : Int) - (Tb.size : Int) = (n : Int) := ⟨(32766 + (p : Int) - (Tb.size : Int)).toNat, by omega⟩
  have hn2 : n ≤ 40000 := by omega
  have h18 : Calls Tryz.prog 18 #[.int .i64 z, .int .i64 5] w3 fun e w' => e = .returned (.int .i64 (p : Int)) ∧ w3 = w' := HPL.out w3
  go_wp2_with fail
  refine h18.mono ?_
  rintro e w4 ⟨rfl, rfl⟩
  clear h18
  go_upto_region 5 with (first | (refine wpList_make_full _ rfl (.tmp 21) (.tmp 21) 49 rfl w3.heap.size 5 i0 (.int .u8 0) 1 Tryz.underlying49 hi0 hz0 hz1 .i64 .i64 _ _ n rfl rfl (by omega) (by omega) (by rw [hz2]; omega) (by unfold maxLen; omega) (Nat.le_refl _) ?_; intro w5 hown hgrow))
  have hB : w.heap.size ≤ w3.heap.size := HT3.out.size
  have hown : w5.ownsRow w3.heap.size 5 1 (.slice (some ⟨w3.heap.size, 0, none⟩) n n) n (byteVals (xsAt n 0)) := by
    have e : (madeCells (Value.int .u8 0).cells (n * 1)).toList = byteVals (xsAt n 0) := by
      rw [Nat.mul_one, show (Value.int .u8 0).cells = #[Value.int .u8 0] from rfl, toList_madeCells_one]
      unfold xsAt byteVals
      simp
    rw [← e]
    exact hown
  have t5 : Turn (fun _ => False) w3 w5 := ((turn_of_grown hgrow).mono (fun k _ e => by cases e))
  have H5 := Lib.hid (And.intro hown (HT3.out.trans t5))
  have HB := Lib.hid hB
  generalize w3.heap.size = B at *
  clear hown hgrow t5 hB
  go_wp2_with fail
  go_loopg [5] n (fun g i wr => ∃ k : Nat, g = n - k ∧ i = .int .i64 (k : Int) ∧ k ≤ n ∧ Hid (wr.ownsRow B 5 1 (.slice (some ⟨B, 0, none⟩) n n) n (byteVals (xsAt n k)) ∧ Turn (fun _ => False) w wr))
  case atStart => exact ⟨0, rfl, rfl, Nat.zero_le _, H5⟩
  case round =>
    obtain ⟨k, rfl, rfl, hk, HK⟩ := hrel
    have n1 : (0 : Int) ≤ (k : Int) := by omega
    by_cases hlt : k < n
    · have n2 : (k : Int) < (n : Int) := by omega
      have hc : ∃ u, wr.cell? ⟨B, k, none⟩ = some u := by
        rw [HK.out.1.cellAt k (by omega)]
        exact ⟨_, List.getElem?_eq_getElem (by simp [byteVals, xsAt_len hk]; exact hlt)⟩
      obtain ⟨u, hc⟩ := hc
      have hf := HK.out.1.frozenAt k
      have hst := (HK.out.1.stored k (.int .u8 120)).1
      rw [xsAt_set hlt] at hst
      have t6 := HK.out.2.trans2 ((Turn.refl (fun k => k = B) wr).setCell (p := ⟨B, k, none⟩) (.int .u8 120) (fun _ => rfl)) (fun j hj e => by have := HB.out; omega)
      have H6 := Lib.hid (And.intro hst t6)
      clear hst t6 HK
      go_wp2_with fail
      go_roundg (n - (k + 1))
      case measure => omega
      case rel => exact ⟨k + 1, rfl, by go_num, by omega, H6⟩
    · have n2 : ¬ (k : Int) < (n : Int) := by omega
      obtain rfl : k = n := by omega
      have hcv := run_text_of_row (t := 49) (e := 5) (dst := 9) HK.out.1 (xsAt_len hk) Tryz.underlying49 Tryz.underlying5 Tryz.underlying9
      have hX : ∃ X : ByteArray, X = ⟨(xsAt k k).toArray⟩ ∧ X.size = k := ⟨_, rfl, by show (xsAt k k).toArray.size = k; simp only [List.size_toArray]; exact xsAt_len hk⟩
      obtain ⟨X, hX, hXs⟩ := hX
      rw [← hX] at hcv
      have hTX : (Tb ++ X : ByteArray) = ⟨(longText (textL c) k).toArray⟩ := by
        rw [hX, ← HTb.out.1, HS1.out]
        apply ByteArray.ext
        unfold longText xsAt
        simp [ByteArray.data_append]
      have hTXs : (longText (textL c) k).length = Tb.size + k := by
        have := congrArg ByteArray.size hTX
        rw [ByteArray.size_append, hXs] at this
        rw [this]
        show _ = (longText (textL c) k).toArray.size
        simp
      have HX := Lib.hid (And.intro hTX hTXs)
      have hx1 : X.size ≤ 40000 := by omega
      have HXs := Lib.hid hXs
      clear hX hXs hTX hTXs
      by_cases hlong : 32768 < Tb.size + k
      · have n3 : (32768 : Int) < (Tb.size : Int) + (k : Int) := by omega
        have h10 := parse_err (s := Tb ++ X) (pl := 32768) (by rw [ByteArray.size_append, HXs.out]; omega) wr (HP.out.2.2.2.2.1.keep HK.out.2) (by rw [HX.out.1]; exact long_err _ _ (by rw [HX.out.2]; exact hlong))
        have HT := Lib.hid HK.out.2
        clear HK hlong
        go_wp2_with fail
        refine h10.mono ?_
        rintro e w6 ⟨v3, pp, rfl, hc3, hpp, t4⟩
        obtain ⟨row3, rfl, z3, o3⟩ := hc3.row
        obtain ⟨W4, st4, k4, s4⟩ := keep_cfg (w := w6) z3 o3
        have q4 := HT.out.trans (t4.trans s4)
        have hpp := (s4.block _ (block_lt hpp) (fun h => h)).trans hpp
        have h11 := told_err pp 32768 60 W4 (HP.out.2.2.2.2.2.1.turn q4 HP.out.2.2.2.2.1.pos) hpp
        have i4 : (Tryz.prog.info? 29).map (·.size) = some row3.size := by rw [z3]; kernel_rfl
        have H4 := Lib.hid q4
        clear h10 t4 q4 hc3 hpp k4 s4 z3 o3
        go_wp2_with (first | (refine wpList_store_put rfl 29 _ _ rfl w6.heap.size 0 row3 rfl rfl i4 W4 st4 ?_))
        clear st4 i4
        refine h11.mono ?_
        rintro e w7 ⟨rfl, t7⟩
        have H7 := Lib.hid (H4.out.trans t7)
        clear h11 t7
        go_wp2_with fail
        go_ret
        exact ⟨rfl, H7.out⟩
      · have n3 : ¬ (32768 : Int) < (Tb.size : Int) + (k : Int) := by omega
        have h10 := parse_ok (s := Tb ++ X) (c := c) (by rw [ByteArray.size_append, HXs.out]; omega) wr (HP.out.2.2.2.2.1.keep HK.out.2) (by rw [HX.out.1]; exact HP.out.2.2.1 _ (by rw [HX.out.2]; omega)) HP.out.2.2.2.1
        have HT := Lib.hid HK.out.2
        clear HK hlong
        go_wp2_with fail
        refine h10.mono ?_
        rintro e w6 ⟨v3, rfl, hc3, t4⟩
        obtain ⟨row3, rfl, z3, o3⟩ := hc3.row
        obtain ⟨W4, st4, k4, s4⟩ := keep_cfg (w := w6) z3 o3
        have q4 := HT.out.trans (t4.trans s4)
        have h11 := told_nil W4
        have i4 : (Tryz.prog.info? 29).map (·.size) = some row3.size := by rw [z3]; kernel_rfl
        have H4 := Lib.hid q4
        clear h10 t4 q4 hc3 k4 s4 z3 o3
        go_wp2_with (first | (refine wpList_store_put rfl 29 _ _ rfl w6.heap.size 0 row3 rfl rfl i4 W4 st4 ?_))
        clear st4 i4
        refine h11.mono ?_
        rintro e w7 ⟨rfl, rfl⟩
        clear h11
        go_wp2_with fail
        go_ret
        exact ⟨rfl, H4.out⟩
end Go.Proofs.YtbkpbcmjgbdbkaaGreatDoor
