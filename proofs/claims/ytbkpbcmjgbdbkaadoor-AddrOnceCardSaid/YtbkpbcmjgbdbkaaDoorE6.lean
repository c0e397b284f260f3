/- The reference's Key. No condition but the text's length. -/
import Derived.Test.YtbkpbcmjgbdbkaaDoorE5
namespace Go.Proofs.YtbkpbcmjgbdbkaaDoor
open Go.RowKit Go.Lib
set_option linter.unusedVariables false
set_option linter.unusedSimpArgs false

theorem pairs_two_no {l : List UInt8} (h2 : 2 ≤ l.length) (h : twoOf (l.take 2) = none) : pairsOf l = none := by
  match l, h2, h with
  | a :: b :: r, _, h =>
    have := two_none h (by rfl)
    simp only [List.take_succ_cons, List.take_zero, pairsOf] at this
    rw [pairsOf]
    split
    · rename_i x y l' h1 h3 h4
      rw [h1, h3] at this; cases this
    · rfl
theorem pairs_two_ok {l : List UInt8} {x : Nat} (h2 : 2 ≤ l.length) (h : twoOf (l.take 2) = some x) : pairsOf l = (pairsOf (l.drop 2)).map (x :: ·) := by
  match l, h2, h with
  | a :: b :: r, _, h =>
    have := (two_pairs h).2
    simp only [List.take_succ_cons, List.take_zero, pairsOf] at this
    rw [pairsOf]
    cases ha : hexOf a with
    | none => rw [ha] at this; cases this
    | some y =>
      cases hb : hexOf b with
      | none => rw [ha, hb] at this; cases this
      | some z =>
        rw [ha, hb] at this
        simp only [Option.some.injEq, List.cons.injEq, and_true] at this
        subst this
        show _ = (pairsOf r).map _
        cases pairsOf r <;> rfl

set_option maxRecDepth 100000 in
set_option maxHeartbeats 2000000 in
theorem rkey_any (s : ByteArray) (hs : s.size ≤ 1000000) (w : World) : Calls Tryd.prog 18 #[.string s] w (RowPost 8 (keyOf s.data.toList) w) := by
  have hlen := bytes_len s
  have hblk := heap_alloc2_old w (.cells #[.int .u8 0, .int .u8 0, .int .u8 0, .int .u8 0, .int .u8 0, .int .u8 0, .int .u8 0, .int .u8 0] 41) (.cells #[.int .u8 0, .int .u8 0, .int .u8 0, .int .u8 0, .int .u8 0, .int .u8 0, .int .u8 0, .int .u8 0] 41)
  have hblm := heap_alloc2_new w (.cells #[.int .u8 0, .int .u8 0, .int .u8 0, .int .u8 0, .int .u8 0, .int .u8 0, .int .u8 0, .int .u8 0] 41) (.cells #[.int .u8 0, .int .u8 0, .int .u8 0, .int .u8 0, .int .u8 0, .int .u8 0, .int .u8 0, .int .u8 0] 41)
  have t0 : Turn (fun _ => False) w ((w.alloc (.cells #[.int .u8 0, .int .u8 0, .int .u8 0, .int .u8 0, .int .u8 0, .int .u8 0, .int .u8 0, .int .u8 0] 41)).alloc (.cells #[.int .u8 0, .int .u8 0, .int .u8 0, .int .u8 0, .int .u8 0, .int .u8 0, .int .u8 0, .int .u8 0] 41)) := ((Turn.refl _ w).alloc _).alloc _
  have hsz : w.heap.size + 2 ≤ ((w.alloc (.cells #[.int .u8 0, .int .u8 0, .int .u8 0, .int .u8 0, .int .u8 0, .int .u8 0, .int .u8 0, .int .u8 0] 41)).alloc (.cells #[.int .u8 0, .int .u8 0, .int .u8 0, .int .u8 0, .int .u8 0, .int .u8 0, .int .u8 0, .int .u8 0] 41)).heap.size := by simp
  by_cases h16 : s.size = 16
  · have hk : keyOf s.data.toList = pairsOf s.data.toList := by unfold keyOf; rw [if_pos (by omega)]
    have h16b : ((s.size : Int) != 16) = false := by rw [bne_eq_false_iff_eq]; omega
    have HK := Lib.hid (And.intro hk (And.intro h16 (And.intro hlen hblk)))
    have h16c : (16 : Int) ≤ (s.size : Int) := by omega
    have h16d : s.size ≤ 16 := by omega
    have hlen16 : s.data.toList.length = 16 := by omega
    have HL := Lib.hid hlen16
    clear hk h16 hlen hlen16
    go_enter Tryd.func18, Tryd.ntmps18
    go_wp2_with fail
    obtain ⟨w1, hw1⟩ : ∃ w1, w1 = (w.alloc (.cells #[.int .u8 0, .int .u8 0, .int .u8 0, .int .u8 0, .int .u8 0, .int .u8 0, .int .u8 0, .int .u8 0] 41)).alloc (.cells #[.int .u8 0, .int .u8 0, .int .u8 0, .int .u8 0, .int .u8 0, .int .u8 0, .int .u8 0, .int .u8 0] 41) := ⟨_, rfl⟩
    rw [← hw1] at t0 hsz hblm hblk ⊢
    generalize hR : w.heap.size = R at *
    have HC := Lib.hid (And.intro hblk hR)
    clear hR hblk hw1
    go_loopw [5] (fun i wr => ∃ (k : Nat) (done : List Nat), k ≤ 8 ∧ i = .int .i64 k ∧ done.length = k ∧ wr.heap[R + 1]? = some (.cells (u8row (done ++ List.replicate (8 - k) 0)) 41 (0, 0)) ∧ Turn (fun x => x = R + 1) w1 wr ∧
      Hid (pairsOf s.data.toList = (pairsOf (s.data.toList.drop (2 * k))).map (done ++ ·))) (fun i _ => 8 - (intOf i).toNat)
    case atStart => exact ⟨0, [], by omega, rfl, rfl, hblm, Turn.refl _ _, by show _ = _; rw [List.drop_zero]; cases pairsOf s.data.toList <;> rfl⟩
    case round =>
      clear hblm
      obtain ⟨k, done, hk, rfl, hd, hrow, ht, hgo⟩ := hrel
      by_cases hlt : k < 8
      · have k0 : (0 : Int) ≤ (k : Int) := by omega
        have k6 : (k : Int) < 8 := by omega
        have hix := idx41 (R + 1) k hlt
        have hcm := cell_of_block hrow k
        have hfm := free_of_block hrow k
        rw [row_next hd hlt] at hcm
        have hex : (s.extract (2 * k) (2 * k + 2)).data.toList = (s.data.toList.drop (2 * k)).take 2 := by
          rw [extract_part]
          simp
        have h2l : 2 ≤ (s.data.toList.drop (2 * k)).length := by have := HL.out; rw [List.length_drop]; omega
        have H1 := Lib.hid (And.intro hgo.out (And.intro hrow (And.intro hd hex)))
        clear hgo hrow hd
        cases htw : twoOf ((s.data.toList.drop (2 * k)).take 2) with
        | none =>
          have hnone : keyOf s.data.toList = none := by rw [HK.out.1, H1.out.1, pairs_two_no h2l htw]; rfl
          rw [← hex] at htw
          have CALL := Lib.hid (two_no htw)
          have HN := Lib.hid hnone
          have hblk := (ht.block R (by omega) (by omega)).trans HC.out.1
          obtain ⟨hce, hfr⟩ := row_facts hblk
          have t3 : Turn (fun x => x = R + 1) w wr := (t0.mono (fun _ _ h => h.elim)).trans ht
          clear hblk hnone htw hix hcm hfm hex
          go_wp2_with fail
          refine (CALL.out _).mono ?_
          rintro e w2 ⟨⟨v, rfl⟩, rfl⟩
          go_wp2_with fail
          exact bodyPost_ret (v := rowV (List.replicate 8 0) 60) (by simp [results, Tryd.results18, go_sem, rowV, u8row, List.replicate, hce, hfr]) rfl ⟨by rw [HN.out]; rfl,
            (turn_row8 (F := fun x => x = R + 1 ∨ x = R) (fun _ => Or.inr rfl) (t3.mono (fun _ _ h => Or.inl h)) _ _ _ _ _ _ _ _).mono (fun i hi h => by have := HC.out.2; omega)⟩
        | some x =>
          have hg2 := H1.out.1
          rw [pairs_two_ok h2l htw] at hg2
          rw [← hex] at htw
          have CALL := Lib.hid (two_ok htw)
          have hset := row_set (x := x) H1.out.2.2.1 hlt
          have H2 := Lib.hid (And.intro hg2 hset)
          clear hg2 hset htw hex
          go_wp2_with fail
          refine (CALL.out _).mono ?_
          rintro e w2 ⟨rfl, rfl⟩
          go_wp2_with fail
          go_roundw
          case rel => exact ⟨k + 1, done ++ [x], by omega, by go_num, by rw [List.length_append, H1.out.2.2.1]; rfl, by rw [block_setCell H1.out.2.1, H2.out.2], ht.setCell _ (fun _ => rfl), by
            show _ = _
            rw [H2.out.1, Option.map_map, List.drop_drop, show 2 * k + 2 = 2 * (k + 1) by omega]
            cases pairsOf (s.data.toList.drop (2 * (k + 1))) <;> simp⟩
          case measure => simp [intOf]; omega
      · have hk8 : k = 8 := by omega
        subst hk8
        have hg1 := hgo.out
        rw [List.drop_eq_nil_of_le (by have := HL.out; omega)] at hg1
        simp only [pairsOf, Option.map_some, List.append_nil] at hg1
        match done, hd, hrow, hg1 with
        | [a0, a1, a2, a3, a4, a5, a6, a7], hd, hrow, hg1 =>
          have hsome : keyOf s.data.toList = some [a0, a1, a2, a3, a4, a5, a6, a7] := by rw [HK.out.1, hg1]
          have hrow1 : wr.heap[R + 1]? = some (.cells #[.int .u8 (a0 : Int), .int .u8 (a1 : Int), .int .u8 (a2 : Int), .int .u8 (a3 : Int), .int .u8 (a4 : Int), .int .u8 (a5 : Int), .int .u8 (a6 : Int), .int .u8 (a7 : Int)] 41 (0, 0)) := hrow
          obtain ⟨hcm, hfm⟩ := row_facts hrow1
          have hblk := (ht.block R (by omega) (by omega)).trans HC.out.1
          obtain ⟨hce, hfr⟩ := row_facts hblk
          have HN := Lib.hid hsome
          have t3 : Turn (fun x => x = R + 1) w wr := (t0.mono (fun _ _ h => h.elim)).trans ht
          clear hblk hsome hrow1 hrow hg1 hgo hd
          go_wp2_with fail
          exact bodyPost_ret (v := rowV [a0, a1, a2, a3, a4, a5, a6, a7] 0) (by simp [results, Tryd.results18, go_sem, rowV, u8row, hce, hfr, hcm, hfm]) rfl ⟨by rw [HN.out]; rfl,
            (turn_row8 (F := fun x => x = R + 1 ∨ x = R) (fun _ => Or.inr rfl) (t3.mono (fun _ _ h => Or.inl h)) _ _ _ _ _ _ _ _).mono (fun i hi h => by have := HC.out.2; omega)⟩
  · have hnone : keyOf s.data.toList = none := by unfold keyOf; rw [if_neg (by omega)]
    have h16b : ((s.size : Int) != 16) = true := by rw [bne_iff_ne]; omega
    have HN := Lib.hid (And.intro hnone h16)
    clear hnone h16 hlen hsz
    go_enter Tryd.func18, Tryd.ntmps18
    go_wp2_with fail
    exact bodyPost_ret (v := rowV (List.replicate 8 0) 60) (by simp [results, Tryd.results18, go_sem, rowV, u8row, List.replicate]) rfl ⟨by rw [HN.out.1]; rfl, ((Turn.refl _ w).alloc _).alloc _⟩
end Go.Proofs.YtbkpbcmjgbdbkaaDoor
