/- AddrNums: the walk. Condition: the library's tables (Env). -/
import Derived.Test.YtbkpbcmjgbdbkaaDoorF5
namespace Go.Proofs.YtbkpbcmjgbdbkaaDoor
open Go.RowKit Go.Lib
set_option linter.unusedVariables false
set_option linter.unusedSimpArgs false

theorem num_val (s : ByteArray) (most : Nat) (v : Value) (hm : most < 4294967296) (hs : s.size ≤ 9223372036854775807) (hv : numV (numOf s.data.toList most) = v) (w : World) :
    Calls Tryd.prog 12 #[.string s, .int .u32 (most : Int)] w (ValPost v w) :=
  (pnum_any s most hm hs w).mono fun e w' ⟨he, p, hp⟩ => ⟨by rw [he, hv], by rw [hp]; exact (Turn.refl _ _).iter _ _⟩
theorem decL_len10 (n : Nat) (h : n < 4294967296) : (decL n).length ≤ 10 := by
  have key : ∀ k n, n < 10 ^ (k + 1) → (decL n).length ≤ k + 1 := by
    intro k
    induction k with
    | zero => intro n h; rw [decL_one (by omega)]; simp
    | succ k ih =>
      intro n h
      by_cases h1 : n < 10
      · rw [decL_one h1]; simp
      · rw [decL_more h1]
        have := ih (n / 10) (by rw [Nat.pow_succ] at h; omega)
        simp only [List.length_append, List.length_singleton]; omega
  exact key 9 n (by omega)

set_option maxRecDepth 100000 in
set_option maxHeartbeats 4000000 in
theorem nums_walk (n most : Nat) (hn : n < 4294967296) (hm : most < 4294967296) (b : Bool) (w : World) (he : Env w) :
    Calls Tryd.prog 4 #[.int .u32 (n : Int), .int .u32 (most : Int), .bool b] w (BoolPost true w) := by
  obtain ⟨D, hD⟩ : ∃ D : ByteArray, D = ⟨(decL n).toArray⟩ := ⟨_, rfl⟩
  have hdd : D.data.toList = decL n := by rw [hD]
  have hds : D.size ≤ 10 := by rw [hD]; show (decL n).toArray.size ≤ 10; rw [List.size_toArray]; exact decL_len10 n hn
  have cd := dec_any n hn
  rw [← hD] at cd
  have HK := Lib.hid (And.intro (fun W h => known_any W h) (And.intro cd he))
  clear cd he hD
  cases b with
  | true =>
    obtain ⟨Z, hZ⟩ : ∃ Z : ByteArray, Z = ⟨#[48]⟩ ++ D := ⟨_, rfl⟩
    have hzd : Z.data.toList = 48 :: decL n := by rw [hZ, ByteArray.data_append, Array.toList_append, hdd]; rfl
    have hzs : Z.size ≤ 11 := by rw [hZ, ByteArray.size_append]; have : (⟨#[48]⟩ : ByteArray).size = 1 := rfl; omega
    have hsum : ¬ ((⟨#[48]⟩ : ByteArray).size + D.size > 9223372036854775807) := by have : (⟨#[48]⟩ : ByteArray).size = 1 := rfl; omega
    have cn := num_val Z most (.tuple #[.int .u32 0, .int .i64 60]) hm (by omega) (by rw [hzd, numOf_nought_dec]; rfl)
    have HN := Lib.hid cn
    have HZ := Lib.hid hZ
    clear cn hZ hzd hdd
    go_enter Tryd.func4, Tryd.ntmps4
    go_wp2_with fail
    refine (HK.out.1 _ HK.out.2.2).mono ?_
    rintro e w1 ⟨rfl, t1⟩
    go_wp2_with fail
    refine (HK.out.2.1 _).mono ?_
    rintro e w2 ⟨rfl, rfl⟩
    go_wp2_with fail
    all_goals first
      | (exfalso; omega)
      | skip
    rw [← HZ.out]
    refine (HN.out _).mono ?_
    rintro e w2 ⟨rfl, t2⟩
    go_wp2_with fail
    go_ret
    exact ⟨rfl, t1.trans t2⟩
  | false =>
    by_cases hle : n ≤ most
    · have cn := num_val D most (.tuple #[.int .u32 (n : Int), .int .i64 0]) hm (by omega) (by rw [hdd, numOf_dec, if_pos hle]; rfl)
      have HN := Lib.hid cn
      clear cn hdd
      go_enter Tryd.func4, Tryd.ntmps4
      go_wp2_with fail
      refine (HK.out.1 _ HK.out.2.2).mono ?_
      rintro e w1 ⟨rfl, t1⟩
      go_wp2_with fail
      refine (HK.out.2.1 _).mono ?_
      rintro e w2 ⟨rfl, rfl⟩
      go_wp2_with fail
      refine (HN.out _).mono ?_
      rintro e w2 ⟨rfl, t2⟩
      go_wp2_with fail
      go_ret
      exact ⟨rfl, t1.trans t2⟩
    · have cn := num_val D most (.tuple #[.int .u32 0, .int .i64 60]) hm (by omega) (by rw [hdd, numOf_dec, if_neg hle]; rfl)
      have HN := Lib.hid cn
      have hgt : (most : Int) < (n : Int) := by omega
      clear cn hdd
      go_enter Tryd.func4, Tryd.ntmps4
      go_wp2_with fail
      refine (HK.out.1 _ HK.out.2.2).mono ?_
      rintro e w1 ⟨rfl, t1⟩
      go_wp2_with fail
      refine (HK.out.2.1 _).mono ?_
      rintro e w2 ⟨rfl, rfl⟩
      go_wp2_with fail
      refine (HN.out _).mono ?_
      rintro e w2 ⟨rfl, t2⟩
      go_wp2_with fail
      go_ret
      exact ⟨rfl, t1.trans t2⟩
end Go.Proofs.YtbkpbcmjgbdbkaaDoor
