/- Key of both. No condition but the text's length. -/
import Derived.Test.YtbkpbcmjgbdbkaaDoorE4
namespace Go.Proofs.YtbkpbcmjgbdbkaaDoor
open Go.RowKit Go.Lib
set_option linter.unusedVariables false
set_option linter.unusedSimpArgs false

theorem turn_row8 {F : Nat → Prop} {a b : World} {R : Nat} (hR : R < a.heap.size → F R) (h : Turn F a b) (v0 v1 v2 v3 v4 v5 v6 v7 : Value) :
    Turn F a ((((((((b.setCell ⟨R, 0, none⟩ v0).setCell ⟨R, 1, none⟩ v1).setCell ⟨R, 2, none⟩ v2).setCell ⟨R, 3, none⟩ v3).setCell ⟨R, 4, none⟩ v4).setCell ⟨R, 5, none⟩ v5).setCell ⟨R, 6, none⟩ v6).setCell ⟨R, 7, none⟩ v7) :=
  (((((((h.setCell _ hR).setCell _ hR).setCell _ hR).setCell _ hR).setCell _ hR).setCell _ hR).setCell _ hR).setCell _ hR
theorem put_all {L : List Nat} (h : L.length = 8) : put (List.replicate 8 0) 0 L = L := by
  apply List.ext_getElem?
  intro i
  unfold put
  by_cases hi : i < 8
  · rw [List.getElem?_map, List.getElem?_range (by simpa using hi)]
    simp only [Option.map_some]
    rw [if_pos (by omega), List.getD_eq_getElem?_getD, List.getElem?_eq_getElem (by omega)]
    simp
  · rw [List.getElem?_eq_none (by simp; omega), List.getElem?_eq_none (by omega)]
theorem idx41 (b k : Nat) (h : k < 8) (W : World) : (Instr.indexAt 41 (.pointer (some ⟨b, 0, none⟩)) (.int .i64 (k : Int))).run Tryd.prog W = .ok (.pointer (some ⟨b, k, none⟩)) W := by
  rcases k with _ | _ | _ | _ | _ | _ | _ | _ | k
  case succ.succ.succ.succ.succ.succ.succ.succ => omega
  all_goals kernel_rfl

set_option maxRecDepth 100000 in
set_option maxHeartbeats 2000000 in
theorem pkey_any (s : ByteArray) (hs : s.size ≤ 1000000) (w : World) : Calls Tryd.prog 17 #[.string s] w (RowPost 8 (keyOf s.data.toList) w) := by
  go_enter Tryd.func17, Tryd.ntmps17
  have hblk := heap_alloc2_old w (.cells #[.int .u8 0, .int .u8 0, .int .u8 0, .int .u8 0, .int .u8 0, .int .u8 0, .int .u8 0, .int .u8 0] 41) (.cells #[.int .u8 0, .int .u8 0, .int .u8 0, .int .u8 0, .int .u8 0, .int .u8 0, .int .u8 0, .int .u8 0] 41)
  have hblm := heap_alloc2_new w (.cells #[.int .u8 0, .int .u8 0, .int .u8 0, .int .u8 0, .int .u8 0, .int .u8 0, .int .u8 0, .int .u8 0] 41) (.cells #[.int .u8 0, .int .u8 0, .int .u8 0, .int .u8 0, .int .u8 0, .int .u8 0, .int .u8 0, .int .u8 0] 41)
  have call := digits_any s hs (w.heap.size + 1) 0 8 8 (List.replicate 8 0) 41 _ hblm (by simp) (by omega) (fun i h1 h2 => by rw [List.getD_eq_getElem?_getD, List.getElem?_replicate]; split <;> rfl) (by omega)
  have t0 : Turn (fun _ => False) w ((w.alloc (.cells #[.int .u8 0, .int .u8 0, .int .u8 0, .int .u8 0, .int .u8 0, .int .u8 0, .int .u8 0, .int .u8 0] 41)).alloc (.cells #[.int .u8 0, .int .u8 0, .int .u8 0, .int .u8 0, .int .u8 0, .int .u8 0, .int .u8 0, .int .u8 0] 41)) := ((Turn.refl _ w).alloc _).alloc _
  have CALL := Lib.hid (And.intro call hblk)
  clear hblm call hblk
  go_wp2_with fail
  refine CALL.out.1.mono ?_
  rintro e w2 ⟨t2, harm⟩
  have hblk := (t2.block w.heap.size (by simp; omega) (by omega)).trans CALL.out.2
  obtain ⟨hce, hfr⟩ := row_facts hblk
  have t3 : Turn (fun x => x = w.heap.size + 1) w w2 := (t0.mono (fun _ _ h => h.elim)).trans t2
  clear hblk CALL t2 t0
  generalize hR : w.heap.size = R at *
  have HR := Lib.hid hR
  clear hR
  rcases harm with ⟨rfl, hno⟩ | ⟨rfl, L, h2, hL, hrow2⟩
  · have hnone : keyOf s.data.toList = none := by
      unfold keyOf
      split
      · exact hno (by omega)
      · rfl
    have HN := Lib.hid hnone
    clear hnone hno
    go_wp2_with fail
    exact bodyPost_ret (v := rowV (List.replicate 8 0) 60) (by simp [results, Tryd.results17, go_sem, rowV, u8row, List.replicate, hce, hfr]) rfl ⟨by rw [HN.out]; rfl,
      (turn_row8 (F := fun x => x = R + 1 ∨ x = R) (fun _ => Or.inr rfl) (t3.mono (fun _ _ h => Or.inl h)) _ _ _ _ _ _ _ _).mono (fun i hi h => by have := HR.out; omega)⟩
  · have hsome : keyOf s.data.toList = some L := by unfold keyOf; rw [if_pos (by omega), hL]
    have hl8 : L.length = 8 := by have := (pairsOf_read _ hL).2.2; omega
    rw [put_all hl8] at hrow2
    match L, hl8, hrow2, hsome with
    | [a0, a1, a2, a3, a4, a5, a6, a7], _, hrow2, hsome =>
      have hrow1 : w2.heap[R + 1]? = some (.cells #[.int .u8 (a0 : Int), .int .u8 (a1 : Int), .int .u8 (a2 : Int), .int .u8 (a3 : Int), .int .u8 (a4 : Int), .int .u8 (a5 : Int), .int .u8 (a6 : Int), .int .u8 (a7 : Int)] 41 (0, 0)) := hrow2
      obtain ⟨hcm, hfm⟩ := row_facts hrow1
      have HN := Lib.hid hsome
      clear hsome hrow1 hrow2 hL h2
      go_wp2_with fail
      exact bodyPost_ret (v := rowV [a0, a1, a2, a3, a4, a5, a6, a7] 0) (by simp [results, Tryd.results17, go_sem, rowV, u8row, hce, hfr, hcm, hfm]) rfl ⟨by rw [HN.out]; rfl,
        (turn_row8 (F := fun x => x = R + 1 ∨ x = R) (fun _ => Or.inr rfl) (t3.mono (fun _ _ h => Or.inl h)) _ _ _ _ _ _ _ _).mono (fun i hi h => by have := HR.out; omega)⟩
end Go.Proofs.YtbkpbcmjgbdbkaaDoor
