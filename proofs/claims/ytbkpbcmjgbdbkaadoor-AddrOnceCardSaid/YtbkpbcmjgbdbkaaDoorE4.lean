/- The reference's Mac. No condition but the text's length. -/
import Derived.Test.YtbkpbcmjgbdbkaaDoorE3
namespace Go.Proofs.YtbkpbcmjgbdbkaaDoor
open Go.RowKit Go.Lib
set_option linter.unusedVariables false
set_option linter.unusedSimpArgs false

theorem two_pairs {p : List UInt8} {x : Nat} (h : twoOf p = some x) : p.length = 2 ∧ pairsOf p = some [x] := by
  unfold twoOf at h
  split at h
  · rename_i h2
    split at h
    · rename_i y hy
      injection h with h
      subst h
      exact ⟨h2, hy⟩
    · cases h
  · cases h
theorem two_none {p : List UInt8} (h : twoOf p = none) : p.length = 2 * 1 → pairsOf p = none := fun h2 => by
  cases hp : pairsOf p with
  | none => rfl
  | some L =>
    have := (pairsOf_read _ hp).2.2
    rw [h2] at this
    match L, this, hp with
    | [x], _, hp =>
      unfold twoOf at h
      rw [if_pos (by omega), hp] at h
      cases h
    | [], this, _ => exact absurd this (by simp)
    | a :: b :: r, this, _ => exact absurd this (by simp only [List.length_cons]; omega)
theorem macGo_two_no {p : List UInt8} {ps : List (List UInt8)} (h : twoOf p = none) : macGo (p :: ps) = none := macGo_bad (two_none h)
theorem macGo_two_ok {p : List UInt8} {ps : List (List UInt8)} {x : Nat} (h : twoOf p = some x) : macGo (p :: ps) = (macGo ps).map (x :: ·) := macGo_good (two_pairs h).1 (two_pairs h).2
theorem idx36 (b k : Nat) (h : k < 6) (W : World) : (Instr.indexAt 36 (.pointer (some ⟨b, 0, none⟩)) (.int .i64 (k : Int))).run Tryd.prog W = .ok (.pointer (some ⟨b, k, none⟩)) W := by
  rcases k with _ | _ | _ | _ | _ | _ | k
  case succ.succ.succ.succ.succ.succ => omega
  all_goals kernel_rfl
theorem row_next {done : List Nat} {k n : Nat} (hd : done.length = k) (hk : k < n) : (u8row (done ++ List.replicate (n - k) 0))[k]? = some (.int .u8 0) := by
  unfold u8row
  rw [List.getElem?_toArray, List.getElem?_map, List.getElem?_append_right (by omega), List.getElem?_replicate, if_pos (by omega)]; rfl
theorem row_set {done : List Nat} {k n x : Nat} (hd : done.length = k) (hk : k < n) : (u8row (done ++ List.replicate (n - k) 0)).setIfInBounds k (.int .u8 (x : Int)) = u8row ((done ++ [x]) ++ List.replicate (n - (k + 1)) 0) := by
  apply Array.ext'
  unfold u8row
  rw [Array.toList_setIfInBounds, show n - k = (n - (k + 1)) + 1 by omega, List.replicate_succ]
  subst hd
  simp [List.set_append]

set_option maxRecDepth 100000 in
set_option maxHeartbeats 2000000 in
theorem rmac_any (s : ByteArray) (hs : s.size ≤ 1000000) (w : World) :
    Calls Tryd.prog 16 #[.string s] w (RowPost 6 (macOf s.data.toList) w) := by
  have hsp : ∀ W, Turn (fun _ => False) w W → Calls Tryd.prog 29 #[.string s, .int .u8 58] W (PartsPost s 58 W) := fun W _ => parts_any s 58 hs W
  have HSP := Lib.hid hsp
  clear hsp
  have hpl : (partsOf s 58).length = (splitL 58 s.data.toList).length := by simp [partsOf]
  by_cases h6 : (partsOf s 58).length = 6
  · have hip : macOf s.data.toList = macGo (splitL 58 s.data.toList) := by unfold macOf; rw [if_pos (by omega)]
    have HIP := Lib.hid hip
    have hps : ∀ p ∈ partsOf s 58, p.size ≤ 1000000 := fun p hp => Nat.le_trans (part_size hp) hs
    have hgo : (partsOf s 58).map (·.data.toList) = splitL 58 s.data.toList := by unfold partsOf; rw [List.map_map]; exact List.map_id _
    have HPS := Lib.hid (And.intro hps hgo)
    clear hip hps hgo hpl
    go_enter Tryd.func16, Tryd.ntmps16
    go_wp2_with fail
    refine (HSP.out _ (((Turn.refl _ _).alloc _).alloc _)).mono ?_
    rintro e w1 ⟨g, cap, rfl, hcells, hg, ht⟩
    rw [h6]
    have hblk := (ht.block w.heap.size (by simp; omega) (fun h => h)).trans (heap_alloc2_old w _ _)
    have hblm := (ht.block (w.heap.size + 1) (by simp) (fun h => h)).trans (heap_alloc2_new w _ _)
    have t0 : Turn (fun _ => False) w w1 := (((Turn.refl _ w).alloc _).alloc _).trans ht
    have hsz : w.heap.size + 2 ≤ w1.heap.size := by have := ht.size; simpa using this
    have hgM : ∀ i p, (partsOf s 58)[i]? = some p → g ≠ w.heap.size + 1 := fun i p hp e => by
      have h1 := hcells i p hp
      rw [e, cell_of_block hblm] at h1
      match i, h1 with
      | 0, h1 => cases h1
      | 1, h1 => cases h1
      | 2, h1 => cases h1
      | 3, h1 => cases h1
      | 4, h1 => cases h1
      | 5, h1 => cases h1
      | i + 6, h1 => simp at h1
    generalize hR : w.heap.size = R at *
    have HC := Lib.hid (And.intro hcells (And.intro h6 (And.intro hR (And.intro hblk hgM))))
    have hgM2 : g ≠ R + 1 := hgM 0 _ (List.getElem?_eq_getElem (by omega))
    clear hcells h6 hR hblk hgM ht
    go_wp2_with fail
    go_loopw [6] (fun i wr => ∃ (k : Nat) (done : List Nat), k ≤ 6 ∧ i = .int .i64 k ∧ done.length = k ∧ wr.heap[R + 1]? = some (.cells (u8row (done ++ List.replicate (6 - k) 0)) 36 (0, 0)) ∧ Turn (fun x => x = R + 1) w1 wr ∧
      Hid (macGo (splitL 58 s.data.toList) = (macGo ((splitL 58 s.data.toList).drop k)).map (done ++ ·))) (fun i _ => 6 - (intOf i).toNat)
    case atStart => exact ⟨0, [], by omega, rfl, rfl, hblm, Turn.refl _ _, by show _ = _; rw [List.drop_zero]; cases macGo (splitL 58 s.data.toList) <;> rfl⟩
    case round =>
      clear hblm
      obtain ⟨k, done, hk, rfl, hd, hrow, ht, hgo⟩ := hrel
      by_cases hlt : k < 6
      · obtain ⟨p, hp⟩ : ∃ p, (partsOf s 58)[k]? = some p := ⟨_, List.getElem?_eq_getElem (by rw [HC.out.2.1]; exact hlt)⟩
        have hcell : wr.cell? ⟨g, k, none⟩ = some (.string p) := (World.cell?_of_block (ht.block g hg hgM2)).trans (HC.out.1 k p hp)
        have hps := HPS.out.1 p (List.mem_of_getElem? hp)
        have hdr : (splitL 58 s.data.toList).drop k = p.data.toList :: (splitL 58 s.data.toList).drop (k + 1) := by
          have h1 := HPS.out.2
          have h2 : (splitL 58 s.data.toList)[k]? = some p.data.toList := by rw [← h1, List.getElem?_map, hp]; rfl
          obtain ⟨h3, h5⟩ := List.getElem?_eq_some_iff.1 h2
          rw [List.drop_eq_getElem_cons h3, h5]
        have hg1 := hgo.out
        rw [hdr] at hg1
        have k0 : (0 : Int) ≤ (k : Int) := by omega
        have k6 : (k : Int) < 6 := by omega
        have hix := idx36 (R + 1) k hlt
        have hcm := cell_of_block hrow k
        have hfm := free_of_block hrow k
        rw [row_next hd hlt] at hcm
        have H1 := Lib.hid (And.intro hg1 (And.intro hrow hd))
        clear hg1 hdr hgo hrow hd hp
        cases htw : twoOf p.data.toList with
        | none =>
          have CALL := Lib.hid (two_no htw)
          have hnone : macOf s.data.toList = none := by rw [HIP.out, H1.out.1, macGo_two_no htw]; rfl
          have HN := Lib.hid hnone
          have hblk := (ht.block R (by omega) (by omega)).trans HC.out.2.2.2.1
          obtain ⟨hce, hfr⟩ := row_facts hblk
          have t3 : Turn (fun x => x = R + 1) w wr := (t0.mono (fun _ _ h => h.elim)).trans ht
          clear hblk hnone htw hix hcm hfm
          go_wp2_with fail
          refine (CALL.out _).mono ?_
          rintro e w2 ⟨⟨v, rfl⟩, rfl⟩
          go_wp2_with fail
          exact bodyPost_ret (v := rowV (List.replicate 6 0) 60) (by simp [results, Tryd.results16, go_sem, rowV, u8row, List.replicate, hce, hfr]) rfl ⟨by rw [HN.out]; rfl,
            (turn_row6 (F := fun x => x = R + 1 ∨ x = R) (fun _ => Or.inr rfl) (t3.mono (fun _ _ h => Or.inl h)) _ _ _ _ _ _).mono (fun i hi h => by have := HC.out.2.2.1; omega)⟩
        | some x =>
          have CALL := Lib.hid (two_ok htw)
          have hg2 := H1.out.1
          rw [macGo_two_ok htw] at hg2
          have hset := row_set (x := x) H1.out.2.2 hlt
          have H2 := Lib.hid (And.intro hg2 hset)
          clear hg2 hset htw
          go_wp2_with fail
          refine (CALL.out _).mono ?_
          rintro e w2 ⟨rfl, rfl⟩
          go_wp2_with fail
          go_roundw
          case rel => exact ⟨k + 1, done ++ [x], by omega, by go_num, by rw [List.length_append, H1.out.2.2]; rfl, by rw [block_setCell H1.out.2.1, H2.out.2], ht.setCell _ (fun _ => rfl), by
            show _ = _
            rw [H2.out.1, Option.map_map]
            cases macGo ((splitL 58 s.data.toList).drop (k + 1)) <;> simp⟩
          case measure => simp [intOf]; omega
      · have hk6 : k = 6 := by omega
        subst hk6
        have hl : (splitL 58 s.data.toList).length = 6 := by have h1 := HPS.out.2; have h2 := HC.out.2.1; rw [← h1, List.length_map]; exact h2
        have hg1 := hgo.out
        rw [List.drop_eq_nil_of_le (by omega)] at hg1
        simp only [macGo, Option.map_some, List.append_nil] at hg1
        match done, hd, hrow, hg1 with
        | [a0, a1, a2, a3, a4, a5], hd, hrow, hg1 =>
          have hsome : macOf s.data.toList = some [a0, a1, a2, a3, a4, a5] := by rw [HIP.out, hg1]
          have hrow1 : wr.heap[R + 1]? = some (.cells #[.int .u8 (a0 : Int), .int .u8 (a1 : Int), .int .u8 (a2 : Int), .int .u8 (a3 : Int), .int .u8 (a4 : Int), .int .u8 (a5 : Int)] 36 (0, 0)) := hrow
          obtain ⟨hcm, hfm⟩ := row_facts hrow1
          have hblk := (ht.block R (by omega) (by omega)).trans HC.out.2.2.2.1
          obtain ⟨hce, hfr⟩ := row_facts hblk
          have HN := Lib.hid hsome
          have t3 : Turn (fun x => x = R + 1) w wr := (t0.mono (fun _ _ h => h.elim)).trans ht
          clear hblk hsome hrow1 hrow hg1 hgo hl hd
          go_wp2_with fail
          exact bodyPost_ret (v := rowV [a0, a1, a2, a3, a4, a5] 0) (by simp [results, Tryd.results16, go_sem, rowV, u8row, hce, hfr, hcm, hfm]) rfl ⟨by rw [HN.out]; rfl,
            (turn_row6 (F := fun x => x = R + 1 ∨ x = R) (fun _ => Or.inr rfl) (t3.mono (fun _ _ h => Or.inl h)) _ _ _ _ _ _).mono (fun i hi h => by have := HC.out.2.2.1; omega)⟩
  · have hip : macOf s.data.toList = none := by unfold macOf; rw [if_neg (by omega)]
    have HIP := Lib.hid hip
    have h6b : (((partsOf s 58).length : Int) != 6) = true := by rw [bne_iff_ne]; omega
    clear hip hpl h6
    go_enter Tryd.func16, Tryd.ntmps16
    go_wp2_with fail
    refine (HSP.out _ (((Turn.refl _ _).alloc _).alloc _)).mono ?_
    rintro e w1 ⟨g, cap, rfl, hcells, hg, ht⟩
    clear hcells
    have hblk : w1.heap[w.heap.size]? = _ := (ht.block w.heap.size (by simp; omega) (fun h => h)).trans (block_alloc_old (block_alloc_new w _))
    obtain ⟨hce, hfr⟩ := row_facts hblk
    clear hblk
    generalize hR : w.heap.size = R at *
    have t0 : Turn (fun _ => False) w w1 := (((Turn.refl _ w).alloc _).alloc _).trans ht
    have HR := Lib.hid hR
    clear hR
    go_wp2_with fail
    exact bodyPost_ret (v := rowV (List.replicate 6 0) 60) (by simp [results, Tryd.results16, go_sem, rowV, u8row, List.replicate, hce, hfr]) rfl ⟨by rw [HIP.out]; rfl, turn_row6 (fun h => by have := HR.out; omega) t0 _ _ _ _ _ _⟩
end Go.Proofs.YtbkpbcmjgbdbkaaDoor
