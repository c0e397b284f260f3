/- KeyText of both. No condition but the bytes' bound. -/
import Derived.Test.YtbkpbcmjgbdbkaaDoorE7
namespace Go.Proofs.YtbkpbcmjgbdbkaaDoor
open Go.RowKit Go.Lib
set_option linter.unusedVariables false
set_option linter.unusedSimpArgs false

def TextPost (l : List UInt8) (w : World) (e : Ending) (w' : World) : Prop := e = .returned (.string ⟨l.toArray⟩) ∧ Turn (fun _ => False) w w'
theorem str_append (a b : List UInt8) : ((⟨a.toArray⟩ : ByteArray) ++ ⟨b.toArray⟩) = ⟨(a ++ b).toArray⟩ := ByteArray.ext (by rw [ByteArray.data_append]; simp only [List.append_toArray])

set_option maxRecDepth 100000 in
set_option maxHeartbeats 2000000 in
theorem pkeyText_any (K : List Nat) (h8 : K.length = 8) (hK : ∀ b ∈ K, b < 256) (w : World) : Calls Tryd.prog 22 #[.agg (u8row K)] w (TextPost (keyText K) w) := by
  match K, h8, hK with
  | [a0, a1, a2, a3, a4, a5, a6, a7], _, hK =>
    have hnew := block_alloc_new w (.cells #[.int .u8 (a0 : Int), .int .u8 (a1 : Int), .int .u8 (a2 : Int), .int .u8 (a3 : Int), .int .u8 (a4 : Int), .int .u8 (a5 : Int), .int .u8 (a6 : Int), .int .u8 (a7 : Int)] 41)
    have call : Calls Tryd.prog 34 #[.slice (some ⟨w.heap.size, 0, none⟩) 8 8] _ _ := digitsText_any [a0, a1, a2, a3, a4, a5, a6, a7] hK (by simp) (by simp) w.heap.size 0 8 41 _ (fun i x hx => by
      rw [cell_of_block hnew]
      match i, hx with
      | 0, hx | 1, hx | 2, hx | 3, hx | 4, hx | 5, hx | 6, hx | 7, hx => simp at hx; subst hx; rfl
      | i + 8, hx => simp at hx) (by simp)
    have CALL := Lib.hid call
    clear call hnew
    show Calls Tryd.prog 22 #[.agg #[.int .u8 (a0 : Int), .int .u8 (a1 : Int), .int .u8 (a2 : Int), .int .u8 (a3 : Int), .int .u8 (a4 : Int), .int .u8 (a5 : Int), .int .u8 (a6 : Int), .int .u8 (a7 : Int)]] w _
    go_enter Tryd.func22, Tryd.ntmps22
    go_wp2_with fail
    refine CALL.out.mono ?_
    rintro e w2 ⟨rfl, t2⟩
    go_wp2_with fail
    go_ret
    exact ⟨rfl, ((Turn.refl _ _).alloc _).trans t2⟩

set_option maxRecDepth 100000 in
set_option maxHeartbeats 2000000 in
theorem rkeyText_any (K : List Nat) (h8 : K.length = 8) (hK : ∀ b ∈ K, b < 256) (w : World) : Calls Tryd.prog 25 #[.agg (u8row K)] w (TextPost (keyText K) w) := by
  obtain ⟨a0, a1, a2, a3, a4, a5, a6, a7, he⟩ : ∃ a0 a1 a2 a3 a4 a5 a6 a7 : Nat, K = [a0, a1, a2, a3, a4, a5, a6, a7] := by
    match K, h8 with
    | [a0, a1, a2, a3, a4, a5, a6, a7], _ => exact ⟨_, _, _, _, _, _, _, _, rfl⟩
  have hr : u8row K = #[.int .u8 (a0 : Int), .int .u8 (a1 : Int), .int .u8 (a2 : Int), .int .u8 (a3 : Int), .int .u8 (a4 : Int), .int .u8 (a5 : Int), .int .u8 (a6 : Int), .int .u8 (a7 : Int)] := by rw [he]; rfl
  have hnew := block_alloc_new w (.cells (u8row K) 41)
  have hsz : w.heap.size < (w.alloc (.cells (u8row K) 41)).heap.size := by simp
  have t0 : Turn (fun _ => False) w (w.alloc (.cells (u8row K) 41)) := (Turn.refl _ _).alloc _
  have HK := Lib.hid (And.intro h8 (And.intro hK (And.intro hnew (And.intro hsz t0))))
  have HR := Lib.hid hr
  rw [hr]
  clear h8 hK hnew hsz t0 hr he
  go_enter Tryd.func25, Tryd.ntmps25
  go_wp2_with fail
  rw [← HR.out]
  have t0 := HK.out.2.2.2.2
  have hsz := HK.out.2.2.2.1
  have hnw := HK.out.2.2.1
  generalize w.alloc (.cells (u8row K) 41) = w1 at *
  generalize w.heap.size = B at *
  have HN := Lib.hid hnw
  clear hnw
  go_loopw [3, 4] (fun o i wr => ∃ k : Nat, k ≤ 8 ∧ i = .int .i64 k ∧ o = .string ⟨(keyText (K.take k)).toArray⟩ ∧ Turn (fun _ => False) w1 wr) (fun _ i _ => 8 - (RowKit.intOf i).toNat)
  case atStart => exact ⟨0, by omega, rfl, rfl, Turn.refl _ _⟩
  case round =>
    obtain ⟨k, hk, rfl, rfl, ht⟩ := hrel
    by_cases hlt : k < 8
    · obtain ⟨y, hy⟩ : ∃ y, K[k]? = some y := ⟨_, List.getElem?_eq_getElem (by have := HK.out.1; omega)⟩
      have hcell : wr.cell? ⟨B, k, none⟩ = some (.int .u8 (y : Int)) := (World.cell?_of_block (ht.block B hsz (fun h => h))).trans (by
        rw [cell_of_block HN.out]
        unfold u8row
        rw [List.getElem?_toArray, List.getElem?_map, hy]; rfl)
      have hix := idx41 B k hlt
      have call := hexes_any y (HK.out.2.1 y (List.mem_of_getElem? hy))
      have hkt : keyText (K.take (k + 1)) = keyText (K.take k) ++ hexL y := by rw [List.take_add_one, hy]; simp [keyText]
      obtain ⟨A, hA⟩ : ∃ A : ByteArray, A = ⟨(keyText (K.take k)).toArray⟩ := ⟨_, rfl⟩
      obtain ⟨D, hD⟩ : ∃ D : ByteArray, D = ⟨(hexL y).toArray⟩ := ⟨_, rfl⟩
      have hs1 : A.size ≤ 16 := by rw [hA]; show (keyText (K.take k)).toArray.size ≤ _; rw [List.size_toArray, keyText_len]; simp; omega
      have hs2 : D.size = 2 := by rw [hD]; rfl
      have hs3 : ¬ (A.size + D.size > 9223372036854775807) := by omega
      have hAD : A ++ D = ⟨(keyText (K.take (k + 1))).toArray⟩ := by rw [hkt, hA, hD, str_append]
      rw [← hA]
      rw [← hD] at call
      have E := Lib.hid (And.intro call hAD)
      clear call hAD hA hD hkt hs1 hs2 hy
      go_wp2_with fail
      refine (E.out.1 _).mono ?_
      rintro e w2 ⟨rfl, t2⟩
      go_wp2_with fail
      all_goals first
        | (exfalso; omega)
        | (go_roundw
           case rel => exact ⟨k + 1, by omega, by go_num, by rw [E.out.2], ht.trans t2⟩
           case measure => simp [RowKit.intOf]; omega)
    · obtain rfl : k = 8 := by omega
      have hf : K.take 8 = K := List.take_of_length_le (by have := HK.out.1; omega)
      rw [hf]
      clear hf
      go_wp2_with fail
      go_ret
      exact ⟨rfl, t0.trans ht⟩
end Go.Proofs.YtbkpbcmjgbdbkaaDoor
