/- IpText of both. Conditions: the number's bound; of the program's: the library's table (Env). -/
import Derived.Test.YtbkpbcmjgbdbkaaDoorE9
import Derived.Sort.Grow
namespace Go.Proofs.YtbkpbcmjgbdbkaaDoor
open Go.RowKit Go.Lib
set_option linter.unusedVariables false
set_option linter.unusedSimpArgs false

theorem turn_grow (w : World) (k : Nat) (os : Array Obj) : Turn (fun _ => False) w (Sort.grow (w.drewN k) os) :=
  ((Turn.refl _ w).drewN k).trans ⟨rfl, rfl, rfl, by simp [Sort.grow], fun i hi _ => Sort.heap_grow_old _ _ hi⟩
theorem itoa_any (n : Nat) (hn : n ≤ 9223372036854775807) (w : World) (h : Env w) : Calls Tryd.prog 32 #[.int .i64 (n : Int)] w (TextPost (decL n) w) :=
  (Tryd.strconv_Itoa (n : Int) (by omega) (by omega) w h.pow10).mono fun e w' ⟨he, k, os, hw⟩ => ⟨by rw [he, itoa_dec], by rw [hw]; exact turn_grow _ _ _⟩
theorem and255 (x : Nat) (h : x < 4294967296) : bits .and .u32 (x : Int) 255 = ((x % 256 : Nat) : Int) := by
  have := u32_and_nat x 255 h (by omega)
  rw [nat_mask8] at this
  exact this
def octs (n : Nat) : List Nat := [n / 16777216, n / 65536 % 256, n / 256 % 256, n % 256]
theorem ipText_octs (n : Nat) : ipText n = joinL 46 ((octs n).map decL) := rfl
theorem decL_len3 (n : Nat) (h : n < 256) : (decL n).length ≤ 3 := by
  by_cases h1 : n < 10
  · rw [decL_one h1]; simp
  · rw [decL_more h1]
    by_cases h2 : n / 10 < 10
    · rw [decL_one h2]; simp
    · rw [decL_more h2, decL_one (show n / 10 / 10 < 10 by omega)]; simp
def octStr (n k : Nat) : List Value := strCells (((octs n).take k).map decL)

set_option maxRecDepth 100000 in
set_option maxHeartbeats 4000000 in
theorem pipText_any (n : Nat) (hn : n < 4294967296) (w : World) (he : Env w) : Calls Tryd.prog 20 #[.int .u32 (n : Int)] w (TextPost (ipText n) w) := by
  obtain ⟨i0, hi, hz0, hz1, hz2⟩ := info_parts info9
  obtain ⟨o0, ho0⟩ : ∃ o, o = n / 16777216 := ⟨_, rfl⟩
  obtain ⟨o1, ho1⟩ : ∃ o, o = n / 65536 % 256 := ⟨_, rfl⟩
  obtain ⟨o2, ho2⟩ : ∃ o, o = n / 256 % 256 := ⟨_, rfl⟩
  obtain ⟨o3, ho3⟩ : ∃ o, o = n % 256 := ⟨_, rfl⟩
  have ha0 : bits .and .u32 ((n : Int) / 16777216) 255 = (o0 : Int) := by rw [show (n : Int) / 16777216 = ((n / 16777216 : Nat) : Int) by omega, and255 _ (by omega)]; omega
  have ha1 : bits .and .u32 ((n : Int) / 65536) 255 = (o1 : Int) := by rw [show (n : Int) / 65536 = ((n / 65536 : Nat) : Int) by omega, and255 _ (by omega)]; omega
  have ha2 : bits .and .u32 ((n : Int) / 256) 255 = (o2 : Int) := by rw [show (n : Int) / 256 = ((n / 256 : Nat) : Int) by omega, and255 _ (by omega)]; omega
  have ha3 : bits .and .u32 (n : Int) 255 = (o3 : Int) := by rw [and255 _ hn]; omega
  have l0 : o0 < 256 := by omega
  have l1 : o1 < 256 := by omega
  have l2 : o2 < 256 := by omega
  have l3 : o3 < 256 := by omega
  have hoc : octs n = [o0, o1, o2, o3] := by unfold octs; rw [ho0, ho1, ho2, ho3]
  have HO := Lib.hid (And.intro hoc he)
  clear ho0 ho1 ho2 ho3 hoc he
  go_enter Tryd.func20, Tryd.ntmps20
  go_wp2_with fail
  go_loopw [3, 5] (fun v i wr => ∃ k : Nat, k ≤ 4 ∧ i = .int .i64 k ∧ wr.ownsRow w.heap.size 9 1 v k (octStr n k) ∧ Turn (fun _ => False) w wr) (fun _ i _ => 4 - (RowKit.intOf i).toNat)
  case atStart => exact ⟨0, by omega, rfl, World.ownsRow_nil _ _ _ _, Turn.refl _ _⟩
  case round =>
    obtain ⟨k, hk, rfl, hown, ht⟩ := hrel
    have henv : Env wr := HO.out.2.turn ht (fun _ _ h => h)
    by_cases hlt : k < 4
    · obtain ⟨o, ho⟩ : ∃ o, (octs n)[k]? = some o := ⟨_, List.getElem?_eq_getElem (by rw [HO.out.1]; exact hlt)⟩
      have hst : octStr n (k + 1) = octStr n k ++ [.string ⟨(decL o).toArray⟩] := by unfold octStr; rw [List.take_add_one, ho, List.map_append]; exact strCells_snoc _ _
      have ho2 := ho
      rw [HO.out.1] at ho2
      have call := fun h => itoa_any o h wr henv
      have E := Lib.hid (And.intro call hst)
      clear call hst ho henv
      rcases (show k = 0 ∨ k = 1 ∨ k = 2 ∨ k = 3 by omega) with rfl | rfl | rfl | rfl
      all_goals
        simp only [List.getElem?_cons_zero, List.getElem?_cons_succ, Option.some.injEq] at ho2
        have ho3 := ho2.symm
        subst ho3
        clear ho2
        go_wp2_with fail
        refine (E.out.1 (by omega)).mono ?_
        rintro e w2 ⟨rfl, t2⟩
        have hown1 := ownsRow_turn hown t2 (fun _ _ h => h)
        have t3 := ht.trans t2
        have o5 := hown1.alloc (.cells #[.string ⟨(decL o).toArray⟩] 9)
        clear hown hown1 t2 ht
        go_wp2_with (at_builtin; refine wpList_append_own_at _ rfl _ _ 54 rfl w.heap.size 9 i0 (.string ⟨#[]⟩) 1 16 Tryd.underlying54 hi hz0 hz1 hz2 rfl (by decide) u3 _ _ rfl o5 ⟨w2.heap.size, 0, none⟩ 1 1 [.string ⟨(decL o).toArray⟩] rfl rfl (cell_one_new _ _ _) (by intro u hu; simp at hu; rw [hu]; rfl) (by unfold maxLen; omega) (by omega) (by have := t3.size; simp; omega) ?_)
        intro v' w' hown' hgrow _ _
        have t4 : Turn (fun _ => False) w w' := (t3.alloc _).trans2 (turn_of_grown hgrow) (fun i hi e => by have := (o5.lt i e).1; omega)
        rw [← E.out.2] at hown'
        clear hgrow o5 t3
        go_wp2_with fail
        go_roundw
        case rel =>
          refine ⟨_, ?_, ?_, hown', t4⟩
          · omega
          · rfl
        case measure => simp [RowKit.intOf]
    · obtain rfl : k = 4 := by omega
      have hown2 : wr.ownsRow w.heap.size 9 1 u3 4 (strCells ((octs n).map decL)) := by unfold octStr at hown; rw [List.take_of_length_le (by rw [HO.out.1]; simp)] at hown; exact hown
      have hle : (joinL 46 ((octs n).map decL)).length ≤ 15 := by
        rw [HO.out.1]
        have := decL_len3 o0 l0; have := decL_len3 o1 l1; have := decL_len3 o2 l2; have := decL_len3 o3 l3
        simp only [List.map_cons, List.map_nil, joinL, List.length_append, List.length_cons]
        omega
      have call := pjoin 46 hown2 (by rw [List.length_map, HO.out.1]; rfl) (by omega) (by omega) (by omega)
      rw [← ipText_octs] at call
      have E := Lib.hid call
      clear call hown hown2 hle
      go_wp2_with fail
      refine E.out.mono ?_
      rintro e w2 ⟨rfl, t2⟩
      go_wp2_with fail
      go_ret
      exact ⟨rfl, ht.trans t2⟩
end Go.Proofs.YtbkpbcmjgbdbkaaDoor
