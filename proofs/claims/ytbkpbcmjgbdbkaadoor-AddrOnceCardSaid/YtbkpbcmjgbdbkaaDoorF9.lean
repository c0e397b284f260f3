/- AddrOnce: the walk. Condition: the library's tables (Env). -/
import Derived.Test.YtbkpbcmjgbdbkaaDoorF8
namespace Go.Proofs.YtbkpbcmjgbdbkaaDoor
open Go.RowKit Go.Lib
set_option linter.unusedVariables false
set_option linter.unusedSimpArgs false

def IpSaid (s : ByteArray) (a ae : Int) : Prop := ae = 60 ∨ (ae = 0 ∧ ∀ W, Env W → Calls Tryd.prog 20 #[.int .u32 a] W (ValPost (.string s) W))
def RowSaid (f : FuncId) (s : ByteArray) (m : Array Value) (me : Int) : Prop := me = 60 ∨ (me = 0 ∧ ∀ W, Calls Tryd.prog f #[.agg m] W (ValPost (.string s) W))
theorem ip_said (s : ByteArray) : ∃ a ae : Int, numV (ipOf s.data.toList) = .tuple #[.int .u32 a, .int .i64 ae] ∧ IpSaid s a ae := by
  cases h : ipOf s.data.toList with
  | none => exact ⟨_, _, rfl, Or.inl rfl⟩
  | some n => exact ⟨_, _, rfl, Or.inr ⟨rfl, fun W hW => ipText_val n s h W hW⟩⟩
theorem mac_said (s : ByteArray) : ∃ m0 m1 m2 m3 m4 m5 e : Int, rowOr 6 (macOf s.data.toList) = .tuple #[.agg #[.int .u8 m0, .int .u8 m1, .int .u8 m2, .int .u8 m3, .int .u8 m4, .int .u8 m5], .int .i64 e] ∧
    RowSaid 21 s #[.int .u8 m0, .int .u8 m1, .int .u8 m2, .int .u8 m3, .int .u8 m4, .int .u8 m5] e := by
  cases h : macOf s.data.toList with
  | none => exact ⟨_, _, _, _, _, _, _, rfl, Or.inl rfl⟩
  | some L =>
    obtain ⟨h1, h6, hb⟩ := macOf_read h
    obtain ⟨m0, m1, m2, m3, m4, m5, rfl⟩ := list6 L h6
    exact ⟨_, _, _, _, _, _, _, rfl, Or.inr ⟨rfl, fun W => (pmacText_any _ h6 hb W).mono fun e w' ⟨q1, q2⟩ => ⟨by rw [q1, h1], q2⟩⟩⟩
theorem key_said (s : ByteArray) : ∃ k0 k1 k2 k3 k4 k5 k6 k7 e : Int, rowOr 8 (keyOf s.data.toList) = .tuple #[.agg #[.int .u8 k0, .int .u8 k1, .int .u8 k2, .int .u8 k3, .int .u8 k4, .int .u8 k5, .int .u8 k6, .int .u8 k7], .int .i64 e] ∧
    RowSaid 22 s #[.int .u8 k0, .int .u8 k1, .int .u8 k2, .int .u8 k3, .int .u8 k4, .int .u8 k5, .int .u8 k6, .int .u8 k7] e := by
  cases h : keyOf s.data.toList with
  | none => exact ⟨_, _, _, _, _, _, _, _, _, rfl, Or.inl rfl⟩
  | some L =>
    obtain ⟨h1, h8, hb⟩ := keyOf_read h
    obtain ⟨m0, m1, m2, m3, m4, m5, m6, m7, rfl⟩ := list8 L h8
    exact ⟨_, _, _, _, _, _, _, _, _, rfl, Or.inr ⟨rfl, fun W => (pkeyText_any _ h8 hb W).mono fun e w' ⟨q1, q2⟩ => ⟨by rw [q1, h1], q2⟩⟩⟩

set_option maxRecDepth 100000 in
set_option maxHeartbeats 16000000 in
theorem once_walk (s : ByteArray) (hs : s.size ≤ 9223372036854775807) (w : World) (he : Env w) : Calls Tryd.prog 7 #[.string s] w (BoolPost true w) := by
  have HK := Lib.hid (And.intro (fun W h => known_any W h) he)
  clear he
  by_cases h300 : s.size ≤ 300
  · have c1 : ∀ W, Env W → Calls Tryd.prog 13 #[.string s] W (ValPost (numV (ipOf s.data.toList)) W) := fun W h => ip_val s _ rfl (by omega) W h
    have c2 : ∀ W, Env W → Calls Tryd.prog 15 #[.string s] W (ValPost (rowOr 6 (macOf s.data.toList)) W) := fun W h => mac_val s _ rfl (by omega) W h
    have c3 : ∀ W, Calls Tryd.prog 17 #[.string s] W (ValPost (rowOr 8 (keyOf s.data.toList)) W) := fun W => (pkey_any s (by omega) W).mono fun e w' h => h
    obtain ⟨a, ae, h1, said1⟩ := ip_said s
    obtain ⟨m0, m1, m2, m3, m4, m5, me, h2, said2⟩ := mac_said s
    obtain ⟨k0, k1, k2, k3, k4, k5, k6, k7, ke, h3, said3⟩ := key_said s
    rw [h1] at c1
    rw [h2] at c2
    rw [h3] at c3
    obtain ⟨OM, hOM⟩ : ∃ o : Obj, o = .cells #[.int .u8 m0, .int .u8 m1, .int .u8 m2, .int .u8 m3, .int .u8 m4, .int .u8 m5] 36 := ⟨_, rfl⟩
    obtain ⟨OK, hOK⟩ : ∃ o : Obj, o = .cells #[.int .u8 k0, .int .u8 k1, .int .u8 k2, .int .u8 k3, .int .u8 k4, .int .u8 k5, .int .u8 k6, .int .u8 k7] 41 := ⟨_, rfl⟩
    have HO := Lib.hid (And.intro hOM hOK)
    have HC := Lib.hid (And.intro c1 (And.intro c2 c3))
    clear hOM hOK c1 c2 c3 h1 h2 h3
    rcases said1 with rfl | ⟨rfl, g1⟩
    · rcases said2 with rfl | ⟨rfl, g2⟩
      · rcases said3 with rfl | ⟨rfl, g3⟩
        · go_enter Tryd.func7, Tryd.ntmps7
          go_wp2_with fail
          refine (HK.out.1 _ HK.out.2).mono ?_
          rintro e w1 ⟨rfl, t1⟩
          go_wp2_with fail
          refine (HC.out.1 _ (HK.out.2.keep t1)).mono ?_
          rintro e w2 ⟨rfl, t2⟩
          have t3 := t1.trans t2
          clear t1 t2
          go_wp2_with fail
          refine (HC.out.2.1 _ (HK.out.2.keep t3)).mono ?_
          rintro e w3 ⟨rfl, t4⟩
          have t5 := t3.trans t4
          clear t3 t4
          go_wp2_with fail
          rw [← HO.out.1]
          have b1 := block_alloc_new w3 OM
          have t6 := t5.alloc OM
          clear t5
          refine (HC.out.2.2 _).mono ?_
          rintro e w4 ⟨rfl, t7⟩
          have b2 := (t7.block w3.heap.size (block_lt b1) (fun h => h)).trans b1
          have t8 := t6.trans t7
          clear t6 t7 b1
          generalize w3.heap.size = X at *
          have b3 := block_alloc_old (o := OK) b2
          have b4 := block_alloc_new w4 OK
          have t9 := t8.alloc OK
          clear t8 b2
          rw [HO.out.1] at b3
          rw [HO.out.2] at b3 b4 t9
          have B := Lib.hid (And.intro b3 b4)
          clear b3 b4
          have u1 := B.out.1
          have u2 := B.out.2
          obtain ⟨d1, _⟩ := row_facts u1
          obtain ⟨d2, _⟩ := row_facts u2
          have C := Lib.hid (And.intro u1 u2)
          clear u1 u2
          go_wp2_with fail
          go_ret
          exact ⟨rfl, t9⟩
        · have G3 := Lib.hid g3
          clear g3
          go_enter Tryd.func7, Tryd.ntmps7
          go_wp2_with fail
          refine (HK.out.1 _ HK.out.2).mono ?_
          rintro e w1 ⟨rfl, t1⟩
          go_wp2_with fail
          refine (HC.out.1 _ (HK.out.2.keep t1)).mono ?_
          rintro e w2 ⟨rfl, t2⟩
          have t3 := t1.trans t2
          clear t1 t2
          go_wp2_with fail
          refine (HC.out.2.1 _ (HK.out.2.keep t3)).mono ?_
          rintro e w3 ⟨rfl, t4⟩
          have t5 := t3.trans t4
          clear t3 t4
          go_wp2_with fail
          rw [← HO.out.1]
          have b1 := block_alloc_new w3 OM
          have t6 := t5.alloc OM
          clear t5
          refine (HC.out.2.2 _).mono ?_
          rintro e w4 ⟨rfl, t7⟩
          have b2 := (t7.block w3.heap.size (block_lt b1) (fun h => h)).trans b1
          have t8 := t6.trans t7
          clear t6 t7 b1
          generalize w3.heap.size = X at *
          have b3 := block_alloc_old (o := OK) b2
          have b4 := block_alloc_new w4 OK
          have t9 := t8.alloc OK
          clear t8 b2
          rw [HO.out.1] at b3
          rw [HO.out.2] at b3 b4 t9
          have B := Lib.hid (And.intro b3 b4)
          clear b3 b4
          have u1 := B.out.1
          have u2 := B.out.2
          obtain ⟨d1, _⟩ := row_facts u1
          obtain ⟨d2, _⟩ := row_facts u2
          have C := Lib.hid (And.intro u1 u2)
          clear u1 u2
          go_wp2_with fail
          refine (G3.out _).mono ?_
          rintro e w7 ⟨rfl, t14⟩
          go_wp2_with fail
          go_ret
          exact ⟨rfl, t9.trans t14⟩
      · rcases said3 with rfl | ⟨rfl, g3⟩
        · have G2 := Lib.hid g2
          clear g2
          go_enter Tryd.func7, Tryd.ntmps7
          go_wp2_with fail
          refine (HK.out.1 _ HK.out.2).mono ?_
          rintro e w1 ⟨rfl, t1⟩
          go_wp2_with fail
          refine (HC.out.1 _ (HK.out.2.keep t1)).mono ?_
          rintro e w2 ⟨rfl, t2⟩
          have t3 := t1.trans t2
          clear t1 t2
          go_wp2_with fail
          refine (HC.out.2.1 _ (HK.out.2.keep t3)).mono ?_
          rintro e w3 ⟨rfl, t4⟩
          have t5 := t3.trans t4
          clear t3 t4
          go_wp2_with fail
          rw [← HO.out.1]
          have b1 := block_alloc_new w3 OM
          have t6 := t5.alloc OM
          clear t5
          refine (HC.out.2.2 _).mono ?_
          rintro e w4 ⟨rfl, t7⟩
          have b2 := (t7.block w3.heap.size (block_lt b1) (fun h => h)).trans b1
          have t8 := t6.trans t7
          clear t6 t7 b1
          generalize w3.heap.size = X at *
          have b3 := block_alloc_old (o := OK) b2
          have b4 := block_alloc_new w4 OK
          have t9 := t8.alloc OK
          clear t8 b2
          rw [HO.out.1] at b3
          rw [HO.out.2] at b3 b4 t9
          have B := Lib.hid (And.intro b3 b4)
          clear b3 b4
          have u1 := B.out.1
          have u2 := B.out.2
          obtain ⟨d1, _⟩ := row_facts u1
          obtain ⟨d2, _⟩ := row_facts u2
          have C := Lib.hid (And.intro u1 u2)
          clear u1 u2
          go_wp2_with fail
          refine (G2.out _).mono ?_
          rintro e w6 ⟨rfl, t12⟩
          clear d1 d2
          have u2 := (t12.block w4.heap.size (block_lt C.out.2) (fun h => h)).trans C.out.2
          have t13 := t9.trans t12
          obtain ⟨d2, _⟩ := row_facts u2
          clear u2 t9 t12
          go_wp2_with fail
          go_ret
          exact ⟨rfl, t13⟩
        · have G2 := Lib.hid g2
          have G3 := Lib.hid g3
          clear g2 g3
          go_enter Tryd.func7, Tryd.ntmps7
          go_wp2_with fail
          refine (HK.out.1 _ HK.out.2).mono ?_
          rintro e w1 ⟨rfl, t1⟩
          go_wp2_with fail
          refine (HC.out.1 _ (HK.out.2.keep t1)).mono ?_
          rintro e w2 ⟨rfl, t2⟩
          have t3 := t1.trans t2
          clear t1 t2
          go_wp2_with fail
          refine (HC.out.2.1 _ (HK.out.2.keep t3)).mono ?_
          rintro e w3 ⟨rfl, t4⟩
          have t5 := t3.trans t4
          clear t3 t4
          go_wp2_with fail
          rw [← HO.out.1]
          have b1 := block_alloc_new w3 OM
          have t6 := t5.alloc OM
          clear t5
          refine (HC.out.2.2 _).mono ?_
          rintro e w4 ⟨rfl, t7⟩
          have b2 := (t7.block w3.heap.size (block_lt b1) (fun h => h)).trans b1
          have t8 := t6.trans t7
          clear t6 t7 b1
          generalize w3.heap.size = X at *
          have b3 := block_alloc_old (o := OK) b2
          have b4 := block_alloc_new w4 OK
          have t9 := t8.alloc OK
          clear t8 b2
          rw [HO.out.1] at b3
          rw [HO.out.2] at b3 b4 t9
          have B := Lib.hid (And.intro b3 b4)
          clear b3 b4
          have u1 := B.out.1
          have u2 := B.out.2
          obtain ⟨d1, _⟩ := row_facts u1
          obtain ⟨d2, _⟩ := row_facts u2
          have C := Lib.hid (And.intro u1 u2)
          clear u1 u2
          go_wp2_with fail
          refine (G2.out _).mono ?_
          rintro e w6 ⟨rfl, t12⟩
          clear d1 d2
          have u2 := (t12.block w4.heap.size (block_lt C.out.2) (fun h => h)).trans C.out.2
          have t13 := t9.trans t12
          obtain ⟨d2, _⟩ := row_facts u2
          clear u2 t9 t12
          go_wp2_with fail
          refine (G3.out _).mono ?_
          rintro e w7 ⟨rfl, t14⟩
          go_wp2_with fail
          go_ret
          exact ⟨rfl, t13.trans t14⟩
    · rcases said2 with rfl | ⟨rfl, g2⟩
      · rcases said3 with rfl | ⟨rfl, g3⟩
        · have G1 := Lib.hid g1
          clear g1
          go_enter Tryd.func7, Tryd.ntmps7
          go_wp2_with fail
          refine (HK.out.1 _ HK.out.2).mono ?_
          rintro e w1 ⟨rfl, t1⟩
          go_wp2_with fail
          refine (HC.out.1 _ (HK.out.2.keep t1)).mono ?_
          rintro e w2 ⟨rfl, t2⟩
          have t3 := t1.trans t2
          clear t1 t2
          go_wp2_with fail
          refine (HC.out.2.1 _ (HK.out.2.keep t3)).mono ?_
          rintro e w3 ⟨rfl, t4⟩
          have t5 := t3.trans t4
          clear t3 t4
          go_wp2_with fail
          rw [← HO.out.1]
          have b1 := block_alloc_new w3 OM
          have t6 := t5.alloc OM
          clear t5
          refine (HC.out.2.2 _).mono ?_
          rintro e w4 ⟨rfl, t7⟩
          have b2 := (t7.block w3.heap.size (block_lt b1) (fun h => h)).trans b1
          have t8 := t6.trans t7
          clear t6 t7 b1
          generalize w3.heap.size = X at *
          have b3 := block_alloc_old (o := OK) b2
          have b4 := block_alloc_new w4 OK
          have t9 := t8.alloc OK
          clear t8 b2
          rw [HO.out.1] at b3
          rw [HO.out.2] at b3 b4 t9
          have B := Lib.hid (And.intro b3 b4)
          clear b3 b4
          go_wp2_with fail
          refine (G1.out _ (HK.out.2.keep t9)).mono ?_
          rintro e w5 ⟨rfl, t10⟩
          have u1 := (t10.block X (block_lt B.out.1) (fun h => h)).trans B.out.1
          have u2 := (t10.block w4.heap.size (block_lt B.out.2) (fun h => h)).trans B.out.2
          have t11 := t9.trans t10
          clear t9 t10
          obtain ⟨d1, _⟩ := row_facts u1
          obtain ⟨d2, _⟩ := row_facts u2
          have C := Lib.hid (And.intro u1 u2)
          clear u1 u2
          go_wp2_with fail
          go_ret
          exact ⟨rfl, t11⟩
        · have G1 := Lib.hid g1
          have G3 := Lib.hid g3
          clear g1 g3
          go_enter Tryd.func7, Tryd.ntmps7
          go_wp2_with fail
          refine (HK.out.1 _ HK.out.2).mono ?_
          rintro e w1 ⟨rfl, t1⟩
          go_wp2_with fail
          refine (HC.out.1 _ (HK.out.2.keep t1)).mono ?_
          rintro e w2 ⟨rfl, t2⟩
          have t3 := t1.trans t2
          clear t1 t2
          go_wp2_with fail
          refine (HC.out.2.1 _ (HK.out.2.keep t3)).mono ?_
          rintro e w3 ⟨rfl, t4⟩
          have t5 := t3.trans t4
          clear t3 t4
          go_wp2_with fail
          rw [← HO.out.1]
          have b1 := block_alloc_new w3 OM
          have t6 := t5.alloc OM
          clear t5
          refine (HC.out.2.2 _).mono ?_
          rintro e w4 ⟨rfl, t7⟩
          have b2 := (t7.block w3.heap.size (block_lt b1) (fun h => h)).trans b1
          have t8 := t6.trans t7
          clear t6 t7 b1
          generalize w3.heap.size = X at *
          have b3 := block_alloc_old (o := OK) b2
          have b4 := block_alloc_new w4 OK
          have t9 := t8.alloc OK
          clear t8 b2
          rw [HO.out.1] at b3
          rw [HO.out.2] at b3 b4 t9
          have B := Lib.hid (And.intro b3 b4)
          clear b3 b4
          go_wp2_with fail
          refine (G1.out _ (HK.out.2.keep t9)).mono ?_
          rintro e w5 ⟨rfl, t10⟩
          have u1 := (t10.block X (block_lt B.out.1) (fun h => h)).trans B.out.1
          have u2 := (t10.block w4.heap.size (block_lt B.out.2) (fun h => h)).trans B.out.2
          have t11 := t9.trans t10
          clear t9 t10
          obtain ⟨d1, _⟩ := row_facts u1
          obtain ⟨d2, _⟩ := row_facts u2
          have C := Lib.hid (And.intro u1 u2)
          clear u1 u2
          go_wp2_with fail
          refine (G3.out _).mono ?_
          rintro e w7 ⟨rfl, t14⟩
          go_wp2_with fail
          go_ret
          exact ⟨rfl, t11.trans t14⟩
      · rcases said3 with rfl | ⟨rfl, g3⟩
        · have G1 := Lib.hid g1
          have G2 := Lib.hid g2
          clear g1 g2
          go_enter Tryd.func7, Tryd.ntmps7
          go_wp2_with fail
          refine (HK.out.1 _ HK.out.2).mono ?_
          rintro e w1 ⟨rfl, t1⟩
          go_wp2_with fail
          refine (HC.out.1 _ (HK.out.2.keep t1)).mono ?_
          rintro e w2 ⟨rfl, t2⟩
          have t3 := t1.trans t2
          clear t1 t2
          go_wp2_with fail
          refine (HC.out.2.1 _ (HK.out.2.keep t3)).mono ?_
          rintro e w3 ⟨rfl, t4⟩
          have t5 := t3.trans t4
          clear t3 t4
          go_wp2_with fail
          rw [← HO.out.1]
          have b1 := block_alloc_new w3 OM
          have t6 := t5.alloc OM
          clear t5
          refine (HC.out.2.2 _).mono ?_
          rintro e w4 ⟨rfl, t7⟩
          have b2 := (t7.block w3.heap.size (block_lt b1) (fun h => h)).trans b1
          have t8 := t6.trans t7
          clear t6 t7 b1
          generalize w3.heap.size = X at *
          have b3 := block_alloc_old (o := OK) b2
          have b4 := block_alloc_new w4 OK
          have t9 := t8.alloc OK
          clear t8 b2
          rw [HO.out.1] at b3
          rw [HO.out.2] at b3 b4 t9
          have B := Lib.hid (And.intro b3 b4)
          clear b3 b4
          go_wp2_with fail
          refine (G1.out _ (HK.out.2.keep t9)).mono ?_
          rintro e w5 ⟨rfl, t10⟩
          have u1 := (t10.block X (block_lt B.out.1) (fun h => h)).trans B.out.1
          have u2 := (t10.block w4.heap.size (block_lt B.out.2) (fun h => h)).trans B.out.2
          have t11 := t9.trans t10
          clear t9 t10
          obtain ⟨d1, _⟩ := row_facts u1
          obtain ⟨d2, _⟩ := row_facts u2
          have C := Lib.hid (And.intro u1 u2)
          clear u1 u2
          go_wp2_with fail
          refine (G2.out _).mono ?_
          rintro e w6 ⟨rfl, t12⟩
          clear d1 d2
          have u2 := (t12.block w4.heap.size (block_lt C.out.2) (fun h => h)).trans C.out.2
          have t13 := t11.trans t12
          obtain ⟨d2, _⟩ := row_facts u2
          clear u2 t11 t12
          go_wp2_with fail
          go_ret
          exact ⟨rfl, t13⟩
        · have G1 := Lib.hid g1
          have G2 := Lib.hid g2
          have G3 := Lib.hid g3
          clear g1 g2 g3
          go_enter Tryd.func7, Tryd.ntmps7
          go_wp2_with fail
          refine (HK.out.1 _ HK.out.2).mono ?_
          rintro e w1 ⟨rfl, t1⟩
          go_wp2_with fail
          refine (HC.out.1 _ (HK.out.2.keep t1)).mono ?_
          rintro e w2 ⟨rfl, t2⟩
          have t3 := t1.trans t2
          clear t1 t2
          go_wp2_with fail
          refine (HC.out.2.1 _ (HK.out.2.keep t3)).mono ?_
          rintro e w3 ⟨rfl, t4⟩
          have t5 := t3.trans t4
          clear t3 t4
          go_wp2_with fail
          rw [← HO.out.1]
          have b1 := block_alloc_new w3 OM
          have t6 := t5.alloc OM
          clear t5
          refine (HC.out.2.2 _).mono ?_
          rintro e w4 ⟨rfl, t7⟩
          have b2 := (t7.block w3.heap.size (block_lt b1) (fun h => h)).trans b1
          have t8 := t6.trans t7
          clear t6 t7 b1
          generalize w3.heap.size = X at *
          have b3 := block_alloc_old (o := OK) b2
          have b4 := block_alloc_new w4 OK
          have t9 := t8.alloc OK
          clear t8 b2
          rw [HO.out.1] at b3
          rw [HO.out.2] at b3 b4 t9
          have B := Lib.hid (And.intro b3 b4)
          clear b3 b4
          go_wp2_with fail
          refine (G1.out _ (HK.out.2.keep t9)).mono ?_
          rintro e w5 ⟨rfl, t10⟩
          have u1 := (t10.block X (block_lt B.out.1) (fun h => h)).trans B.out.1
          have u2 := (t10.block w4.heap.size (block_lt B.out.2) (fun h => h)).trans B.out.2
          have t11 := t9.trans t10
          clear t9 t10
          obtain ⟨d1, _⟩ := row_facts u1
          obtain ⟨d2, _⟩ := row_facts u2
          have C := Lib.hid (And.intro u1 u2)
          clear u1 u2
          go_wp2_with fail
          refine (G2.out _).mono ?_
          rintro e w6 ⟨rfl, t12⟩
          clear d1 d2
          have u2 := (t12.block w4.heap.size (block_lt C.out.2) (fun h => h)).trans C.out.2
          have t13 := t11.trans t12
          obtain ⟨d2, _⟩ := row_facts u2
          clear u2 t11 t12
          go_wp2_with fail
          refine (G3.out _).mono ?_
          rintro e w7 ⟨rfl, t14⟩
          go_wp2_with fail
          go_ret
          exact ⟨rfl, t13.trans t14⟩
  · have hgt : (300 : Int) < (s.size : Int) := by omega
    clear h300
    go_enter Tryd.func7, Tryd.ntmps7
    go_wp2_with fail
    refine (HK.out.1 _ HK.out.2).mono ?_
    rintro e w1 ⟨rfl, t1⟩
    go_wp2_with fail
    go_ret
    exact ⟨rfl, t1⟩
end Go.Proofs.YtbkpbcmjgbdbkaaDoor
