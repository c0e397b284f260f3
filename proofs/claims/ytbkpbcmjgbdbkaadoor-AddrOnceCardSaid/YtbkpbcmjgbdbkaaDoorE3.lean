/- addr.Mac. Condition: that the split's contract holds. -/
import Derived.Test.YtbkpbcmjgbdbkaaDoorE2
import Derived.Laws.Rows
namespace Go.Proofs.YtbkpbcmjgbdbkaaDoor
open Go.RowKit Go.Lib
set_option linter.unusedVariables false
set_option linter.unusedSimpArgs false

def rowV (L : List Nat) (e : Int) : Value := .tuple #[.agg (u8row L), .int .i64 e]
def rowOr (n : Nat) : Option (List Nat) → Value
  | some L => rowV L 0
  | none => rowV (List.replicate n 0) 60
def RowPost (n : Nat) (o : Option (List Nat)) (w : World) (e : Ending) (w' : World) : Prop := e = .returned (rowOr n o) ∧ Turn (fun _ => False) w w'

theorem row_facts {w : World} {b : Nat} {cs : Array Value} {T : TypeId} (h : w.heap[b]? = some (.cells cs T (0, 0))) : (∀ i, w.cell? ⟨b, i, none⟩ = cs[i]?) ∧ ∀ i, w.frozen? ⟨b, i, none⟩ = false :=
  ⟨cell_of_block h, free_of_block h⟩

theorem turn_row6 {F : Nat → Prop} {a b : World} {R : Nat} (hR : R < a.heap.size → F R) (h : Turn F a b) (v0 v1 v2 v3 v4 v5 : Value) :
    Turn F a ((((((b.setCell ⟨R, 0, none⟩ v0).setCell ⟨R, 1, none⟩ v1).setCell ⟨R, 2, none⟩ v2).setCell ⟨R, 3, none⟩ v3).setCell ⟨R, 4, none⟩ v4).setCell ⟨R, 5, none⟩ v5) :=
  (((((h.setCell _ hR).setCell _ hR).setCell _ hR).setCell _ hR).setCell _ hR).setCell _ hR
theorem slice36 (b k : Nat) (h : k < 6) (W : World) : (Instr.sliceAt 36 (.pointer (some ⟨b, 0, none⟩)) (some (.int .i64 (k : Int))) (some (.int .i64 ((k : Int) + 1))) none).run Tryd.prog W = .ok (.slice (some ⟨b, k, none⟩) 1 (6 - k)) W := by
  have h6 : Tryd.prog.arrayLen 36 = 6 := by kernel_rfl
  have ht : Tryd.prog.underlying 36 = some (.array (Tryd.prog.arrayLen 36) (Tryd.prog.elem 36)) := by kernel_rfl
  have hs : (sizeOf (Tryd.prog.elem 36)).run Tryd.prog W = .ok 1 W := by kernel_rfl
  rw [run_sliceAt_array_lh W 36 ⟨b, 0, none⟩ ht .i64 .i64 (k : Int) ((k : Int) + 1) (by omega) (by omega) (by rw [h6]; omega), hs, h6]
  simp only [Result.andThen_ok, slicedAt, Int.toNat_natCast]
  rw [show ((k : Int) + 1).toNat = k + 1 by omega, if_neg (by omega), show k + 1 - k = 1 by omega]
  simp only [Addr.add, Nat.mul_one, Nat.zero_add]
  by_cases h0 : k = 0
  · subst h0; rfl
  · simp [h0]
theorem put_next {done : List Nat} {k : Nat} {x : Nat} (hd : done.length = k) (hk : k < 6) : put (done ++ List.replicate (6 - k) 0) k [x] = (done ++ [x]) ++ List.replicate (6 - (k + 1)) 0 := by
  subst hd
  apply List.ext_getElem?
  intro i
  unfold put
  by_cases hi : i < 6
  · rw [List.getElem?_map, List.getElem?_range (by simp; omega)]
    simp only [Option.map_some, List.length_singleton]
    by_cases h1 : i < done.length
    · rw [if_neg (by omega), List.getElem?_append_left (by simp; omega), List.getElem?_append_left h1, List.getD_eq_getElem?_getD, List.getElem?_append_left h1, List.getElem?_eq_getElem h1]; rfl
    · by_cases h2 : i = done.length
      · subst h2
        rw [if_pos (by omega), List.getElem?_append_left (by simp), List.getElem?_append_right (by omega)]
        simp
      · rw [if_neg (by omega), List.getD_eq_getElem?_getD, List.getElem?_append_right (by omega), List.getElem?_append_right (by simp; omega), List.getElem?_replicate, List.getElem?_replicate]
        rw [if_pos (by omega), if_pos (by simp; omega)]; rfl
  · rw [List.getElem?_eq_none (by simp; omega), List.getElem?_eq_none (by simp; omega)]
theorem macGo_bad {p : List UInt8} {ps : List (List UInt8)} (h : p.length = 2 * 1 → pairsOf p = none) : macGo (p :: ps) = none := by
  rw [macGo]
  split
  · rename_i h2
    rw [h (by omega)]
  · rfl
theorem macGo_good {p : List UInt8} {ps : List (List UInt8)} {x : Nat} (h2 : p.length = 2) (h : pairsOf p = some [x]) : macGo (p :: ps) = (macGo ps).map (x :: ·) := by
  rw [macGo, if_pos h2, h]
  cases macGo ps <;> rfl

set_option maxRecDepth 100000 in
set_option maxHeartbeats 2000000 in
theorem pmac_any (s : ByteArray) (hs : s.size ≤ 1000000) (w : World) (hsp : ∀ W, Turn (fun _ => False) w W → Calls Tryd.prog 28 #[.string s, .string ⟨#[58]⟩] W (PartsPost s 58 W)) :
    Calls Tryd.prog 15 #[.string s] w (RowPost 6 (macOf s.data.toList) w) := by
  have HSP := Lib.hid hsp
  clear hsp
  have hpl : (partsOf s 58).length = (splitL 58 s.data.toList).length := by simp [partsOf]
  by_cases h6 : (partsOf s 58).length = 6
  · have hip : macOf s.data.toList = macGo (splitL 58 s.data.toList) := by unfold macOf; rw [if_pos (by omega)]
    have HIP := Lib.hid hip
    have hps : ∀ p ∈ partsOf s 58, p.size ≤ 1000000 := fun p hp => Nat.le_trans (part_size hp) hs
    have hgo : (partsOf s 58).map (·.data.toList) = splitL 58 s.data.toList := by unfold partsOf; rw [List.map_map]; exact List.map_id _
    have HPS := Lib.hid (And.intro hps hgo)
    clear hip hps hgo hpl
    go_enter Tryd.func15, Tryd.ntmps15
    go_wp2_with fail
    refine (HSP.out _ (((Turn.refl _ _).alloc _).alloc _)).mono ?_
    rintro e w1 ⟨g, cap, rfl, hcells, hg, ht⟩
    rw [h6]
    have hblk := (ht.block w.heap.size (by simp; omega) (fun h => h)).trans (heap_alloc2_old w _ _)
    have hblm := (ht.block (w.heap.size + 1) (by simp) (fun h => h)).trans (heap_alloc2_new w _ _)
    have t0 : Turn (fun _ => False) w w1 := (((Turn.refl _ w).alloc _).alloc _).trans ht
    have hsz : w.heap.size + 2 ≤ w1.heap.size := by have := ht.size; simpa using this
    have hgM : ∀ i p, (partsOf s 58)[i]? = some p → g ≠ w.heap.size + 1 := fun i p hp e => by
      have h1 := hcells i p hp
      rw [e, cell_of_block hblm] at h1
      match i, h1 with
      | 0, h1 => cases h1
      | 1, h1 => cases h1
      | 2, h1 => cases h1
      | 3, h1 => cases h1
      | 4, h1 => cases h1
      | 5, h1 => cases h1
      | i + 6, h1 => simp at h1
    generalize hR : w.heap.size = R at *
    have HC := Lib.hid (And.intro hcells (And.intro h6 (And.intro hR (And.intro hblk hgM))))
    have hgM2 : g ≠ R + 1 := hgM 0 _ (List.getElem?_eq_getElem (by omega))
    clear hcells h6 hR hblk hgM ht
    go_wp2_with fail
    go_loopw [17] (fun i wr => ∃ (k : Nat) (done : List Nat), k ≤ 6 ∧ i = .int .i64 k ∧ done.length = k ∧ wr.heap[R + 1]? = some (.cells (u8row (done ++ List.replicate (6 - k) 0)) 36 (0, 0)) ∧ Turn (fun x => x = R + 1) w1 wr ∧
      Hid (macGo (splitL 58 s.data.toList) = (macGo ((splitL 58 s.data.toList).drop k)).map (done ++ ·))) (fun i _ => 6 - (intOf i).toNat)
    case atStart => exact ⟨0, [], by omega, rfl, rfl, hblm, Turn.refl _ _, by show _ = _; rw [List.drop_zero]; cases macGo (splitL 58 s.data.toList) <;> rfl⟩
    case round =>
      clear hblm
      obtain ⟨k, done, hk, rfl, hd, hrow, ht, hgo⟩ := hrel
      by_cases hlt : k < 6
      · obtain ⟨p, hp⟩ : ∃ p, (partsOf s 58)[k]? = some p := ⟨_, List.getElem?_eq_getElem (by rw [HC.out.2.1]; exact hlt)⟩
        have hcell : wr.cell? ⟨g, k, none⟩ = some (.string p) := (World.cell?_of_block (ht.block g hg hgM2)).trans (HC.out.1 k p hp)
        have hps := HPS.out.1 p (List.mem_of_getElem? hp)
        have hdr : (splitL 58 s.data.toList).drop k = p.data.toList :: (splitL 58 s.data.toList).drop (k + 1) := by
          have h1 := HPS.out.2
          have h2 : (splitL 58 s.data.toList)[k]? = some p.data.toList := by rw [← h1, List.getElem?_map, hp]; rfl
          obtain ⟨h3, h5⟩ := List.getElem?_eq_some_iff.1 h2
          rw [List.drop_eq_getElem_cons h3, h5]
        have hg1 := hgo.out
        rw [hdr] at hg1
        have call := digits_any p hps (R + 1) k 1 (6 - k) (done ++ List.replicate (6 - k) 0) 36 wr hrow (by simp; omega) (by omega) (fun i h1 h2 => by
          have : i = k := by omega
          subst this
          rw [List.getD_eq_getElem?_getD, List.getElem?_append_right (by omega), List.getElem?_replicate]
          split <;> rfl) (by omega)
        have CALL := Lib.hid (And.intro call (And.intro hg1 (And.intro hd hrow)))
        have k0 : (0 : Int) ≤ (k : Int) := by omega
        have k6 : (k : Int) + 1 ≤ 6 := by omega
        have hsl := slice36 (R + 1) k hlt
        clear call hg1 hdr hgo hrow hd hp
        go_wp2_with fail
        refine CALL.out.1.mono ?_
        rintro e w2 ⟨t2, ⟨rfl, hno⟩ | ⟨rfl, L, h2, hL, hrow2⟩⟩
        · have hblk := (t2.block R (by have := ht.size; omega) (by omega)).trans ((ht.block R (by omega) (by omega)).trans HC.out.2.2.2.1)
          obtain ⟨hce, hfr⟩ := row_facts hblk
          have hnone : macOf s.data.toList = none := by rw [HIP.out, CALL.out.2.1, macGo_bad hno]; rfl
          have HN := Lib.hid hnone
          have t3 : Turn (fun x => x = R + 1) w w2 := (t0.mono (fun _ _ h => h.elim)).trans (ht.trans t2)
          clear hblk hnone hno CALL hsl
          go_wp2_with fail
          exact bodyPost_ret (v := rowV (List.replicate 6 0) 60) (by simp [results, Tryd.results15, go_sem, rowV, u8row, List.replicate, hce, hfr]) rfl ⟨by rw [HN.out]; rfl,
            (turn_row6 (F := fun x => x = R + 1 ∨ x = R) (fun _ => Or.inr rfl) (t3.mono (fun _ _ h => Or.inl h)) _ _ _ _ _ _).mono (fun i hi h => by have := HC.out.2.2.1; omega)⟩
        · obtain ⟨x, rfl⟩ : ∃ x, L = [x] := by
            have := (pairsOf_read _ hL).2.2
            rw [h2] at this
            match L, this with
            | [x], _ => exact ⟨x, rfl⟩
            | [], this => exact absurd this (by simp)
            | a :: b :: r, this => exact absurd this (by simp only [List.length_cons]; omega)
          have hg2 := CALL.out.2.1
          rw [macGo_good (by omega) hL] at hg2
          rw [put_next CALL.out.2.2.1 hlt] at hrow2
          have H2 := Lib.hid (And.intro hg2 (And.intro hrow2 CALL.out.2.2.1))
          clear hg2 hrow2 hL h2 CALL hsl
          go_wp2_with fail
          go_roundw
          case rel => exact ⟨k + 1, done ++ [x], by omega, by go_num, by rw [List.length_append, H2.out.2.2]; rfl, H2.out.2.1, ht.trans t2, by
            show _ = _
            rw [H2.out.1, Option.map_map]
            cases macGo ((splitL 58 s.data.toList).drop (k + 1)) <;> simp⟩
          case measure => simp [intOf]; omega
      · have hk6 : k = 6 := by omega
        subst hk6
        have hl : (splitL 58 s.data.toList).length = 6 := by have h1 := HPS.out.2; have h2 := HC.out.2.1; rw [← h1, List.length_map]; exact h2
        have hg1 := hgo.out
        rw [List.drop_eq_nil_of_le (by omega)] at hg1
        simp only [macGo, Option.map_some, List.append_nil] at hg1
        match done, hd, hrow, hg1 with
        | [a0, a1, a2, a3, a4, a5], hd, hrow, hg1 =>
          have hsome : macOf s.data.toList = some [a0, a1, a2, a3, a4, a5] := by rw [HIP.out, hg1]
          have hrow1 : wr.heap[R + 1]? = some (.cells #[.int .u8 (a0 : Int), .int .u8 (a1 : Int), .int .u8 (a2 : Int), .int .u8 (a3 : Int), .int .u8 (a4 : Int), .int .u8 (a5 : Int)] 36 (0, 0)) := hrow
          obtain ⟨hcm, hfm⟩ := row_facts hrow1
          have hblk := (ht.block R (by omega) (by omega)).trans HC.out.2.2.2.1
          obtain ⟨hce, hfr⟩ := row_facts hblk
          have HN := Lib.hid hsome
          have t3 : Turn (fun x => x = R + 1) w wr := (t0.mono (fun _ _ h => h.elim)).trans ht
          clear hblk hsome hrow1 hrow hg1 hgo hl hd
          go_wp2_with fail
          exact bodyPost_ret (v := rowV [a0, a1, a2, a3, a4, a5] 0) (by simp [results, Tryd.results15, go_sem, rowV, u8row, hce, hfr, hcm, hfm]) rfl ⟨by rw [HN.out]; rfl,
            (turn_row6 (F := fun x => x = R + 1 ∨ x = R) (fun _ => Or.inr rfl) (t3.mono (fun _ _ h => Or.inl h)) _ _ _ _ _ _).mono (fun i hi h => by have := HC.out.2.2.1; omega)⟩
  · have hip : macOf s.data.toList = none := by unfold macOf; rw [if_neg (by omega)]
    have HIP := Lib.hid hip
    have h6b : (((partsOf s 58).length : Int) != 6) = true := by rw [bne_iff_ne]; omega
    clear hip hpl h6
    go_enter Tryd.func15, Tryd.ntmps15
    go_wp2_with fail
    refine (HSP.out _ (((Turn.refl _ _).alloc _).alloc _)).mono ?_
    rintro e w1 ⟨g, cap, rfl, hcells, hg, ht⟩
    clear hcells
    have hblk : w1.heap[w.heap.size]? = _ := (ht.block w.heap.size (by simp; omega) (fun h => h)).trans (block_alloc_old (block_alloc_new w _))
    obtain ⟨hce, hfr⟩ := row_facts hblk
    clear hblk
    generalize hR : w.heap.size = R at *
    have t0 : Turn (fun _ => False) w w1 := (((Turn.refl _ w).alloc _).alloc _).trans ht
    have HR := Lib.hid hR
    clear hR
    go_wp2_with fail
    exact bodyPost_ret (v := rowV (List.replicate 6 0) 60) (by simp [results, Tryd.results15, go_sem, rowV, u8row, List.replicate, hce, hfr]) rfl ⟨by rw [HIP.out]; rfl, turn_row6 (fun h => by have := HR.out; omega) t0 _ _ _ _ _ _⟩
end Go.Proofs.YtbkpbcmjgbdbkaaDoor
