/- AddrReads: the walk. Condition: the library's tables (Env). -/
import Derived.Test.YtbkpbcmjgbdbkaaDoorF6
namespace Go.Proofs.YtbkpbcmjgbdbkaaDoor
open Go.RowKit Go.Lib
set_option linter.unusedVariables false
set_option linter.unusedSimpArgs false

theorem numV_form (o : Option Nat) : ∃ a e : Int, numV o = .tuple #[.int .u32 a, .int .i64 e] ∧ 0 ≤ e ∧ e ≤ 60 := by
  cases o with
  | none => exact ⟨_, _, rfl, by omega, by omega⟩
  | some n => exact ⟨_, _, rfl, by omega, by omega⟩
theorem row6_form (l : List UInt8) : ∃ a0 a1 a2 a3 a4 a5 e : Int, rowOr 6 (macOf l) = .tuple #[.agg #[.int .u8 a0, .int .u8 a1, .int .u8 a2, .int .u8 a3, .int .u8 a4, .int .u8 a5], .int .i64 e] ∧ 0 ≤ e ∧ e ≤ 60 := by
  cases h : macOf l with
  | none => exact ⟨_, _, _, _, _, _, _, rfl, by omega, by omega⟩
  | some L =>
    have h6 := (macOf_read h).2.1
    match L, h6 with
    | [a0, a1, a2, a3, a4, a5], _ => exact ⟨_, _, _, _, _, _, _, rfl, by omega, by omega⟩
theorem row8_form (l : List UInt8) : ∃ a0 a1 a2 a3 a4 a5 a6 a7 e : Int, rowOr 8 (keyOf l) = .tuple #[.agg #[.int .u8 a0, .int .u8 a1, .int .u8 a2, .int .u8 a3, .int .u8 a4, .int .u8 a5, .int .u8 a6, .int .u8 a7], .int .i64 e] ∧ 0 ≤ e ∧ e ≤ 60 := by
  cases h : keyOf l with
  | none => exact ⟨_, _, _, _, _, _, _, _, _, rfl, by omega, by omega⟩
  | some L =>
    have h8 := (keyOf_read h).2.1
    match L, h8 with
    | [a0, a1, a2, a3, a4, a5, a6, a7], _ => exact ⟨_, _, _, _, _, _, _, _, _, rfl, by omega, by omega⟩

set_option maxRecDepth 100000 in
set_option maxHeartbeats 8000000 in
theorem reads_walk (s : ByteArray) (hs : s.size ≤ 9223372036854775807) (most : Nat) (hm : most < 4294967296) (w : World) (he : Env w) :
    Calls Tryd.prog 5 #[.string s, .int .u32 (most : Int)] w (BoolPost true w) := by
  have HK := Lib.hid (And.intro (fun W h => known_any W h) he)
  clear he
  by_cases h300 : s.size ≤ 300
  · have c1 : ∀ W, Env W → Calls Tryd.prog 13 #[.string s] W (ValPost (numV (ipOf s.data.toList)) W) := fun W h => ip_val s _ rfl (by omega) W h
    have c2 : ∀ W, Calls Tryd.prog 14 #[.string s] W (ValPost (numV (ipOf s.data.toList)) W) := fun W => (rip_any s (by omega) W).mono fun e w' h => h
    have c3 : ∀ W, Env W → Calls Tryd.prog 15 #[.string s] W (ValPost (rowOr 6 (macOf s.data.toList)) W) := fun W h => mac_val s _ rfl (by omega) W h
    have c4 : ∀ W, Calls Tryd.prog 16 #[.string s] W (ValPost (rowOr 6 (macOf s.data.toList)) W) := fun W => (rmac_any s (by omega) W).mono fun e w' h => h
    have c5 : ∀ W, Calls Tryd.prog 17 #[.string s] W (ValPost (rowOr 8 (keyOf s.data.toList)) W) := fun W => (pkey_any s (by omega) W).mono fun e w' h => h
    have c6 : ∀ W, Calls Tryd.prog 18 #[.string s] W (ValPost (rowOr 8 (keyOf s.data.toList)) W) := fun W => (rkey_any s (by omega) W).mono fun e w' h => h
    have c7 : ∀ W, Calls Tryd.prog 12 #[.string s, .int .u32 (most : Int)] W (ValPost (numV (numOf s.data.toList most)) W) := fun W => num_val s most _ hm hs rfl W
    have c8 : ∀ W, Calls Tryd.prog 19 #[.string s, .int .u32 (most : Int)] W (ValPost (numV (numOf s.data.toList most)) W) := fun W => (rnum_any s most hm hs W).mono fun e w' ⟨h1, h2⟩ => ⟨h1, by rw [← h2]; exact Turn.refl _ _⟩
    have c9 : ∀ W, Env W → Calls Tryd.prog 9 #[.string s] W (ValPost (.bool (nameOf s.data.toList)) W) := fun W h => name_val s _ rfl (by omega) W h
    have c10 : ∀ W, Env W → Calls Tryd.prog 10 #[.string s] W (ValPost (.bool (nameOf s.data.toList)) W) := fun W h => (rname_any s (by omega) W h).mono fun e w' h => h
    obtain ⟨a, ae, h1, ae0, ae1⟩ := numV_form (ipOf s.data.toList)
    obtain ⟨m0, m1, m2, m3, m4, m5, me, h2, me0, me1⟩ := row6_form s.data.toList
    obtain ⟨k0, k1, k2, k3, k4, k5, k6, k7, ke, h3, ke0, ke1⟩ := row8_form s.data.toList
    obtain ⟨x, xe, h4, xe0, xe1⟩ := numV_form (numOf s.data.toList most)
    rw [h1] at c1 c2
    rw [h2] at c3 c4
    rw [h3] at c5 c6
    rw [h4] at c7 c8
    generalize nameOf s.data.toList = nb at c9 c10
    have eq6 := eql36 m0 m1 m2 m3 m4 m5
    have eq8 := eql41 k0 k1 k2 k3 k4 k5 k6 k7
    have HC := Lib.hid (And.intro c1 (And.intro c2 (And.intro c3 (And.intro c4 (And.intro c5 (And.intro c6 (And.intro c7 (And.intro c8 (And.intro c9 c10)))))))))
    clear c1 c2 c3 c4 c5 c6 c7 c8 c9 c10 h1 h2 h3 h4
    obtain ⟨OM, hOM⟩ : ∃ o : Obj, o = .cells #[.int .u8 m0, .int .u8 m1, .int .u8 m2, .int .u8 m3, .int .u8 m4, .int .u8 m5] 36 := ⟨_, rfl⟩
    obtain ⟨OK, hOK⟩ : ∃ o : Obj, o = .cells #[.int .u8 k0, .int .u8 k1, .int .u8 k2, .int .u8 k3, .int .u8 k4, .int .u8 k5, .int .u8 k6, .int .u8 k7] 41 := ⟨_, rfl⟩
    have HO := Lib.hid (And.intro hOM hOK)
    clear hOM hOK
    go_enter Tryd.func5, Tryd.ntmps5
    go_wp2_with fail
    refine (HK.out.1 _ HK.out.2).mono ?_
    rintro e w1 ⟨rfl, t1⟩
    go_wp2_with fail
    refine (HC.out.1 _ (HK.out.2.keep t1)).mono ?_
    rintro e w2 ⟨rfl, t2⟩
    have t3 := t1.trans t2
    clear t1 t2
    go_wp2_with fail
    refine (HC.out.2.1 _).mono ?_
    rintro e w3 ⟨rfl, t4⟩
    have t5 := t3.trans t4
    clear t3 t4
    go_wp2_with fail
    refine (HC.out.2.2.1 _ (HK.out.2.keep t5)).mono ?_
    rintro e w4 ⟨rfl, t6⟩
    have t7 := t5.trans t6
    clear t5 t6
    go_wp2_with fail
    rw [← HO.out.1]
    have b1 := block_alloc_new w4 OM
    have t8 := t7.alloc OM
    clear t7
    refine (HC.out.2.2.2.1 _).mono ?_
    rintro e w5 ⟨rfl, t9⟩
    have b2 := (t9.block w4.heap.size (by simp) (fun h => h)).trans b1
    have t10 := t8.trans t9
    clear t8 t9 b1
    generalize w4.heap.size = X1 at *
    go_wp2_with fail
    rw [← HO.out.1]
    have b3 := block_alloc_new w5 OM
    have b4 := block_alloc_old (o := OM) b2
    have t11 := t10.alloc OM
    clear t10 b2
    refine (HC.out.2.2.2.2.1 _).mono ?_
    rintro e w6 ⟨rfl, t12⟩
    have b5 := (t12.block w5.heap.size (by simp) (fun h => h)).trans b3
    have b6 := (t12.block X1 (block_lt b4) (fun h => h)).trans b4
    have t13 := t11.trans t12
    clear t11 t12 b3 b4
    generalize w5.heap.size = X2 at *
    go_wp2_with fail
    rw [← HO.out.2]
    have b7 := block_alloc_new w6 OK
    have b8 := block_alloc_old (o := OK) b5
    have b9 := block_alloc_old (o := OK) b6
    have t14 := t13.alloc OK
    clear t13 b5 b6
    refine (HC.out.2.2.2.2.2.1 _).mono ?_
    rintro e w7 ⟨rfl, t15⟩
    have b10 := (t15.block w6.heap.size (by simp) (fun h => h)).trans b7
    have b11 := (t15.block X2 (block_lt b8) (fun h => h)).trans b8
    have b12 := (t15.block X1 (block_lt b9) (fun h => h)).trans b9
    have t16 := t14.trans t15
    clear t14 t15 b7 b8 b9
    generalize w6.heap.size = X3 at *
    go_wp2_with fail
    rw [← HO.out.2]
    have b13 := block_alloc_new w7 OK
    have b14 := block_alloc_old (o := OK) b10
    have b15 := block_alloc_old (o := OK) b11
    have b16 := block_alloc_old (o := OK) b12
    have t17 := t16.alloc OK
    clear t16 b10 b11 b12
    refine (HC.out.2.2.2.2.2.2.1 _).mono ?_
    rintro e w8 ⟨rfl, t18⟩
    have b17 := (t18.block w7.heap.size (by simp) (fun h => h)).trans b13
    have b18 := (t18.block X3 (block_lt b14) (fun h => h)).trans b14
    have b19 := (t18.block X2 (block_lt b15) (fun h => h)).trans b15
    have b20 := (t18.block X1 (block_lt b16) (fun h => h)).trans b16
    have t19 := t17.trans t18
    clear t17 t18 b13 b14 b15 b16
    generalize w7.heap.size = X4 at *
    have B := Lib.hid (And.intro b17 (And.intro b18 (And.intro b19 b20)))
    clear b17 b18 b19 b20
    go_wp2_with fail
    refine (HC.out.2.2.2.2.2.2.2.1 _).mono ?_
    rintro e w9 ⟨rfl, t20⟩
    have b1 := (t20.block X4 (block_lt B.out.1) (fun h => h)).trans B.out.1
    have b2 := (t20.block X3 (block_lt B.out.2.1) (fun h => h)).trans B.out.2.1
    have b3 := (t20.block X2 (block_lt B.out.2.2.1) (fun h => h)).trans B.out.2.2.1
    have b4 := (t20.block X1 (block_lt B.out.2.2.2) (fun h => h)).trans B.out.2.2.2
    rw [HO.out.2] at b1 b2
    rw [HO.out.1] at b3 b4
    obtain ⟨d1, _⟩ := row_facts b1
    obtain ⟨d2, _⟩ := row_facts b2
    obtain ⟨d3, _⟩ := row_facts b3
    obtain ⟨d4, _⟩ := row_facts b4
    have t21 := t19.trans t20
    clear b1 b2 b3 b4 t19 t20
    go_wp2_with fail
    refine (HC.out.2.2.2.2.2.2.2.2.1 _ (HK.out.2.keep t21)).mono ?_
    rintro e w10 ⟨rfl, t22⟩
    have t23 := t21.trans t22
    clear t21 t22
    go_wp2_with fail
    refine (HC.out.2.2.2.2.2.2.2.2.2 _ (HK.out.2.keep t23)).mono ?_
    rintro e w11 ⟨rfl, t24⟩
    go_wp2_with fail
    go_ret
    exact ⟨rfl, t23.trans t24⟩
  · have hgt : (300 : Int) < (s.size : Int) := by omega
    clear h300
    go_enter Tryd.func5, Tryd.ntmps5
    go_wp2_with fail
    refine (HK.out.1 _ HK.out.2).mono ?_
    rintro e w1 ⟨rfl, t1⟩
    go_wp2_with fail
    go_ret
    exact ⟨rfl, t1⟩
end Go.Proofs.YtbkpbcmjgbdbkaaDoor
