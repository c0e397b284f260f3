/- AddrBack: the walk. Condition: the library's tables (Env). -/
import Derived.Test.YtbkpbcmjgbdbkaaDoorF7
import Derived.Lib.QuietBelow
namespace Go.Proofs.YtbkpbcmjgbdbkaaDoor
open Go.RowKit Go.Lib
set_option linter.unusedVariables false
set_option linter.unusedSimpArgs false

theorem below_of_turn {w w' : World} (t : Turn (fun _ => False) w w') : Below w.heap.size w w' := t.below (Nat.le_refl _) (fun _ _ h => h)
theorem regrown_val {f : FuncId} {args : Array Value} {w : World} {v : Value} (he : Env w) (h : ∀ W, Env W → Calls Tryd.prog f args W (ValPost v W)) (d : Nat) (os : Array Obj) :
    Calls Tryd.prog f args (Sort.grow (redrawn w d) os) fun e w'' => e = .returned v ∧ ∃ p : Regrown, w'' = Sort.grow (redrawn w p.d) p.os :=
  Calls.regrown_of ((h _ (he.keep (turn_of_below (below_regrown w d os)))).mono fun e w' ⟨h1, h2⟩ => ⟨h1, below_of_turn h2⟩)
theorem macText_len (M : List Nat) (h : M.length = 6) : (macText M).length ≤ 18 := by
  have e : macAt M 6 = macText M := by unfold macAt macText; rw [List.take_of_length_le (by omega)]
  have := macAt_len M 6
  rw [e] at this
  omega
theorem ipText_len (n : Nat) (h : n < 4294967296) : (ipText n).length ≤ 15 := by
  have := decL_len3 (n / 16777216) (by omega); have := decL_len3 (n / 65536 % 256) (by omega); have := decL_len3 (n / 256 % 256) (by omega); have := decL_len3 (n % 256) (by omega)
  simp only [ipText, joinL, List.length_append, List.length_cons]
  omega

theorem list6 : ∀ (M : List Nat) (_ : M.length = 6), ∃ m0 m1 m2 m3 m4 m5 : Nat, M = [m0, m1, m2, m3, m4, m5]
  | [m0, m1, m2, m3, m4, m5], _ => ⟨m0, m1, m2, m3, m4, m5, rfl⟩
theorem list8 : ∀ (M : List Nat) (_ : M.length = 8), ∃ m0 m1 m2 m3 m4 m5 m6 m7 : Nat, M = [m0, m1, m2, m3, m4, m5, m6, m7]
  | [m0, m1, m2, m3, m4, m5, m6, m7], _ => ⟨m0, m1, m2, m3, m4, m5, m6, m7, rfl⟩

set_option maxRecDepth 100000 in
set_option maxHeartbeats 8000000 in
theorem back_walk (n : Nat) (hn : n < 4294967296) (M K : List Nat) (hM6 : M.length = 6) (hK8 : K.length = 8) (hM : ∀ b ∈ M, b < 256) (hK : ∀ b ∈ K, b < 256) (w : World) (he : Env w) :
    Calls Tryd.prog 6 #[.int .u32 (n : Int), .agg (u8row M), .agg (u8row K)] w (BoolPost true w) := by
  have HK := Lib.hid (And.intro (fun W h => known_any W h) he)
  obtain ⟨S, hS⟩ : ∃ S : ByteArray, S = ⟨(ipText n).toArray⟩ := ⟨_, rfl⟩
  obtain ⟨T, hT⟩ : ∃ T : ByteArray, T = ⟨(macText M).toArray⟩ := ⟨_, rfl⟩
  obtain ⟨U, hU⟩ : ∃ U : ByteArray, U = ⟨(keyText K).toArray⟩ := ⟨_, rfl⟩
  have s1 : S.size ≤ 15 := by rw [hS]; show (ipText n).toArray.size ≤ 15; rw [List.size_toArray]; exact ipText_len n hn
  have s2 : T.size ≤ 18 := by rw [hT]; show (macText M).toArray.size ≤ 18; rw [List.size_toArray]; exact macText_len M hM6
  have s3 : U.size ≤ 16 := by rw [hU]; show (keyText K).toArray.size ≤ 16; rw [List.size_toArray, keyText_len]; omega
  have c1 : ∀ W, Env W → Calls Tryd.prog 20 #[.int .u32 (n : Int)] W (ValPost (.string S) W) := fun W h => by rw [hS]; exact (pipText_any n hn W h).mono fun e w' h => h
  have c2 : ∀ W, Env W → Calls Tryd.prog 21 #[.agg (u8row M)] W (ValPost (.string T) W) := fun W h => by rw [hT]; exact (pmacText_any M hM6 hM W).mono fun e w' h => h
  have c3 : ∀ W, Env W → Calls Tryd.prog 22 #[.agg (u8row K)] W (ValPost (.string U) W) := fun W h => by rw [hU]; exact (pkeyText_any K hK8 hK W).mono fun e w' h => h
  have c4 : ∀ W, Env W → Calls Tryd.prog 13 #[.string S] W (ValPost (.tuple #[.int .u32 (n : Int), .int .i64 0]) W) := fun W h => ip_val S _ (by rw [hS]; show numV (ipOf (ipText n)) = _; rw [ipOf_text n hn]; rfl) (by omega) W h
  have c5 : ∀ W, Env W → Calls Tryd.prog 15 #[.string T] W (ValPost (.tuple #[.agg (u8row M), .int .i64 0]) W) := fun W h => mac_val T _ (by rw [hT]; show rowOr 6 (macOf (macText M)) = _; rw [macOf_text M hM6 hM]; rfl) (by omega) W h
  have c6 : ∀ W, Calls Tryd.prog 17 #[.string U] W (ValPost (.tuple #[.agg (u8row K), .int .i64 0]) W) := fun W => (pkey_any U (by omega) W).mono fun e w' ⟨h1, h2⟩ => ⟨by rw [h1, hU]; show Ending.returned (rowOr 8 (keyOf (keyText K))) = _; rw [keyOf_text K hK8 hK]; rfl, h2⟩
  have c7 : ∀ W, Calls Tryd.prog 23 #[.int .u32 (n : Int)] W (ValPost (.string S) W) := fun W => by rw [hS]; exact (ripText_any n hn W).mono fun e w' ⟨h1, h2⟩ => ⟨h1, by rw [← h2]; exact Turn.refl _ _⟩
  have c8 : ∀ W, Calls Tryd.prog 24 #[.agg (u8row M)] W (ValPost (.string T) W) := fun W => by rw [hT]; exact (rmacText_any M hM6 hM W).mono fun e w' h => h
  have c9 : ∀ W, Calls Tryd.prog 25 #[.agg (u8row K)] W (ValPost (.string U) W) := fun W => by rw [hU]; exact (rkeyText_any K hK8 hK W).mono fun e w' h => h
  clear hS hT hU he hM hK
  obtain ⟨m0, m1, m2, m3, m4, m5, hm⟩ : ∃ m0 m1 m2 m3 m4 m5 : Nat, M = [m0, m1, m2, m3, m4, m5] := list6 M hM6
  obtain ⟨k0, k1, k2, k3, k4, k5, k6, k7, hk⟩ : ∃ k0 k1 k2 k3 k4 k5 k6 k7 : Nat, K = [k0, k1, k2, k3, k4, k5, k6, k7] := list8 K hK8
  have f1 : u8row M = #[.int .u8 (m0 : Int), .int .u8 (m1 : Int), .int .u8 (m2 : Int), .int .u8 (m3 : Int), .int .u8 (m4 : Int), .int .u8 (m5 : Int)] := by rw [hm]; rfl
  have f2 : u8row K = #[.int .u8 (k0 : Int), .int .u8 (k1 : Int), .int .u8 (k2 : Int), .int .u8 (k3 : Int), .int .u8 (k4 : Int), .int .u8 (k5 : Int), .int .u8 (k6 : Int), .int .u8 (k7 : Int)] := by rw [hk]; rfl
  rw [f1] at c2 c5 c8 ⊢
  rw [f2] at c3 c6 c9 ⊢
  have eq6 := eql36 (m0 : Int) (m1 : Int) (m2 : Int) (m3 : Int) (m4 : Int) (m5 : Int)
  have eq8 := eql41 (k0 : Int) (k1 : Int) (k2 : Int) (k3 : Int) (k4 : Int) (k5 : Int) (k6 : Int) (k7 : Int)
  obtain ⟨OM, hOM⟩ : ∃ o : Obj, o = .cells #[.int .u8 (m0 : Int), .int .u8 (m1 : Int), .int .u8 (m2 : Int), .int .u8 (m3 : Int), .int .u8 (m4 : Int), .int .u8 (m5 : Int)] 36 := ⟨_, rfl⟩
  obtain ⟨OK, hOK⟩ : ∃ o : Obj, o = .cells #[.int .u8 (k0 : Int), .int .u8 (k1 : Int), .int .u8 (k2 : Int), .int .u8 (k3 : Int), .int .u8 (k4 : Int), .int .u8 (k5 : Int), .int .u8 (k6 : Int), .int .u8 (k7 : Int)] 41 := ⟨_, rfl⟩
  have HO := Lib.hid (And.intro hOM hOK)
  have HC := Lib.hid (And.intro c1 (And.intro c2 (And.intro c3 (And.intro c4 (And.intro c5 (And.intro c6 (And.intro c7 (And.intro c8 c9))))))))
  clear c1 c2 c3 c4 c5 c6 c7 c8 c9 hOM hOK f1 f2 hm hk
  go_enter Tryd.func6, Tryd.ntmps6
  go_wp2_with fail
  rw [← HO.out.1, ← HO.out.2]
  have b1 : ((w.alloc OM).alloc OK).heap[w.heap.size]? = some OM := heap_alloc2_old w OM OK
  have b2 : ((w.alloc OM).alloc OK).heap[w.heap.size + 1]? = some OK := heap_alloc2_new w OM OK
  have t1 := ((Turn.refl (fun _ => False) w).alloc OM).alloc OK
  refine (HK.out.1 _ (HK.out.2.keep t1)).mono ?_
  rintro e w1 ⟨rfl, t2⟩
  have b3 := (t2.block w.heap.size (block_lt b1) (fun h => h)).trans b1
  have b4 := (t2.block (w.heap.size + 1) (block_lt b2) (fun h => h)).trans b2
  have t3 := t1.trans t2
  clear t1 t2 b1 b2
  generalize hX : w.heap.size = X at *
  have HX := Lib.hid hX
  clear hX
  have B := Lib.hid (And.intro b3 b4)
  go_wp2_with fail
  have cA := regrown_val (HK.out.2.keep t3) (fun W h => HC.out.1 W h)
  have cB := regrown_val (HK.out.2.keep t3) (fun W h => HC.out.2.1 W h)
  have cC := regrown_val (HK.out.2.keep t3) (fun W h => HC.out.2.2.1 W h)
  have CABC := Lib.hid (And.intro cA (And.intro cB cC))
  rw [HO.out.1] at b3
  rw [HO.out.2] at b4
  have kM : ∀ d os i, (Sort.grow (redrawn w1 d) os).cell? ⟨X, i, none⟩ = _ := fun d os i => ((below_regrown w1 d os).cell (p := ⟨X, i, none⟩) (block_lt b3)).trans (cell_of_block b3 i)
  have kK : ∀ d os i, (Sort.grow (redrawn w1 d) os).cell? ⟨X + 1, i, none⟩ = _ := fun d os i => ((below_regrown w1 d os).cell (p := ⟨X + 1, i, none⟩) (block_lt b4)).trans (cell_of_block b4 i)
  have hmix : Tryd.prog.follows .mixedOrders = true := by kernel_rfl
  clear cA cB cC b3 b4
  refine wp_region_quiet_below hmix (by kernel_rfl) ?_
  repeat (quiet_step (first | exact CABC.out.1 _ _ | exact CABC.out.2.1 _ _ | exact CABC.out.2.2 _ _))
  refine wpQuiet_nil ?_
  intro _ hw'
  obtain ⟨⟨dq, osq⟩, hw''⟩ := hw'
  subst hw''
  clear kM kK CABC
  have t4 : Turn (fun _ => False) w1 (Sort.grow (redrawn w1 dq) osq) := turn_of_below (below_regrown w1 dq osq)
  generalize Sort.grow (redrawn w1 dq) osq = w2 at *
  have c1 := (t4.block X (block_lt B.out.1) (fun h => h)).trans B.out.1
  have c2 := (t4.block (X + 1) (block_lt B.out.2) (fun h => h)).trans B.out.2
  have t5 := t3.trans t4
  clear t3 t4
  go_wp2_with fail
  refine (HC.out.2.2.2.1 _ (HK.out.2.keep t5)).mono ?_
  rintro e w3 ⟨rfl, t6⟩
  have c3 := (t6.block X (block_lt c1) (fun h => h)).trans c1
  have c4 := (t6.block (X + 1) (block_lt c2) (fun h => h)).trans c2
  have t7 := t5.trans t6
  clear t5 t6 c1 c2
  have C1 := Lib.hid (And.intro c3 c4)
  clear c3 c4
  go_wp2_with fail
  refine (HC.out.2.2.2.2.1 _ (HK.out.2.keep t7)).mono ?_
  rintro e w4 ⟨rfl, t8⟩
  have c1 := (t8.block X (block_lt C1.out.1) (fun h => h)).trans C1.out.1
  have c2 := (t8.block (X + 1) (block_lt C1.out.2) (fun h => h)).trans C1.out.2
  have t9 := t7.trans t8
  clear t7 t8 C1
  have C2 := Lib.hid (And.intro c1 c2)
  clear c1 c2
  go_wp2_with fail
  rw [← HO.out.1]
  have c1 := block_alloc_old (o := OM) C2.out.1
  have c2 := block_alloc_old (o := OM) C2.out.2
  have c3 := block_alloc_new w4 OM
  have t10 := t9.alloc OM
  clear t9 C2
  refine (HC.out.2.2.2.2.2.1 _).mono ?_
  rintro e w5 ⟨rfl, t11⟩
  have c4 := (t11.block X (block_lt c1) (fun h => h)).trans c1
  have c5 := (t11.block (X + 1) (block_lt c2) (fun h => h)).trans c2
  have c6 := (t11.block w4.heap.size (block_lt c3) (fun h => h)).trans c3
  have t12 := t10.trans t11
  clear t10 t11 c1 c2 c3
  generalize w4.heap.size = Y at *
  have C3 := Lib.hid (And.intro c4 (And.intro c5 c6))
  clear c4 c5 c6
  go_wp2_with fail
  rw [← HO.out.2]
  have c1 := block_alloc_old (o := OK) C3.out.1
  have c2 := block_alloc_old (o := OK) C3.out.2.1
  have c3 := block_alloc_old (o := OK) C3.out.2.2
  have c4 := block_alloc_new w5 OK
  have t13 := t12.alloc OK
  clear t12 C3
  refine (HC.out.2.2.2.2.2.2.1 _).mono ?_
  rintro e w6 ⟨rfl, t14⟩
  have c5 := (t14.block X (block_lt c1) (fun h => h)).trans c1
  have c6 := (t14.block (X + 1) (block_lt c2) (fun h => h)).trans c2
  have c7 := (t14.block Y (block_lt c3) (fun h => h)).trans c3
  have c8 := (t14.block w5.heap.size (block_lt c4) (fun h => h)).trans c4
  have t15 := t13.trans t14
  clear t13 t14 c1 c2 c3 c4
  generalize w5.heap.size = Z at *
  rw [HO.out.1] at c5 c7
  rw [HO.out.2] at c6 c8
  obtain ⟨d1, _⟩ := row_facts c5
  obtain ⟨d2, _⟩ := row_facts c6
  have C4 := Lib.hid (And.intro c5 (And.intro c6 (And.intro c7 c8)))
  clear c5 c6 c7 c8
  go_wp2_with fail
  refine (HC.out.2.2.2.2.2.2.2.1 _).mono ?_
  rintro e w7 ⟨rfl, t16⟩
  clear d1 d2
  have c5 := (t16.block X (block_lt C4.out.1) (fun h => h)).trans C4.out.1
  have c6 := (t16.block (X + 1) (block_lt C4.out.2.1) (fun h => h)).trans C4.out.2.1
  have c7 := (t16.block Y (block_lt C4.out.2.2.1) (fun h => h)).trans C4.out.2.2.1
  have c8 := (t16.block Z (block_lt C4.out.2.2.2) (fun h => h)).trans C4.out.2.2.2
  have t17 := t15.trans t16
  clear t15 t16 C4
  obtain ⟨d2, _⟩ := row_facts c6
  have C5 := Lib.hid (And.intro c5 (And.intro c6 (And.intro c7 c8)))
  clear c5 c6 c7 c8
  go_wp2_with fail
  refine (HC.out.2.2.2.2.2.2.2.2 _).mono ?_
  rintro e w8 ⟨rfl, t18⟩
  clear d2
  have c5 := (t18.block X (block_lt C5.out.1) (fun h => h)).trans C5.out.1
  have c6 := (t18.block (X + 1) (block_lt C5.out.2.1) (fun h => h)).trans C5.out.2.1
  have c7 := (t18.block Y (block_lt C5.out.2.2.1) (fun h => h)).trans C5.out.2.2.1
  have c8 := (t18.block Z (block_lt C5.out.2.2.2) (fun h => h)).trans C5.out.2.2.2
  obtain ⟨d1, _⟩ := row_facts c5
  obtain ⟨d2, _⟩ := row_facts c6
  obtain ⟨d3, _⟩ := row_facts c7
  obtain ⟨d4, _⟩ := row_facts c8
  have t19 := t17.trans t18
  clear c5 c6 c7 c8 t17 t18 C5
  go_wp2_with fail
  go_ret
  exact ⟨rfl, t19⟩
end Go.Proofs.YtbkpbcmjgbdbkaaDoor
