/- The chapter's examples (known). Condition: the library's tables (Env). -/
import Derived.Test.YtbkpbcmjgbdbkaaDoorF2
import Derived.Test.YtbkpbcmjgbdbkaaDoorF3
import Derived.Test.YtbkpbcmjgbdbkaaDoorF4
namespace Go.Proofs.YtbkpbcmjgbdbkaaDoor
open Go.RowKit Go.Lib
set_option linter.unusedVariables false
set_option linter.unusedSimpArgs false

theorem Env.keep {w w' : World} (e : Env w) (t : Turn (fun _ => False) w w') : Env w' := e.turn t (fun _ _ h => h)
theorem ip_env (s : ByteArray) (hs : s.size ≤ 1000000) (w : World) (he : Env w) : Calls Tryd.prog 13 #[.string s] w (IpPost s w) := pip_any s hs w (psplit s 46 w he hs)
theorem mac_env (s : ByteArray) (hs : s.size ≤ 1000000) (w : World) (he : Env w) : Calls Tryd.prog 15 #[.string s] w (RowPost 6 (macOf s.data.toList) w) :=
  pmac_any s hs w (fun W t => psplit s 58 W (he.keep t) hs)
def ValPost (v : Value) (w : World) (e : Ending) (w' : World) : Prop := e = .returned v ∧ Turn (fun _ => False) w w'
theorem ip_val (s : ByteArray) (v : Value) (hv : numV (ipOf s.data.toList) = v) (hs : s.size ≤ 1000000) (w : World) (he : Env w) : Calls Tryd.prog 13 #[.string s] w (ValPost v w) :=
  (ip_env s hs w he).mono fun e w' ⟨h1, h2⟩ => ⟨by rw [h1, hv], h2⟩
theorem mac_val (s : ByteArray) (v : Value) (hv : rowOr 6 (macOf s.data.toList) = v) (hs : s.size ≤ 1000000) (w : World) (he : Env w) : Calls Tryd.prog 15 #[.string s] w (ValPost v w) :=
  (mac_env s hs w he).mono fun e w' ⟨h1, h2⟩ => ⟨by rw [h1, hv], h2⟩
theorem name_val (s : ByteArray) (b : Bool) (hv : nameOf s.data.toList = b) (hs : s.size ≤ 1000000) (w : World) (he : Env w) : Calls Tryd.prog 9 #[.string s] w (ValPost (.bool b) w) :=
  (pname_any s hs w he).mono fun e w' ⟨h1, h2⟩ => ⟨by rw [h1, hv], h2⟩
theorem ipText_val (n : Nat) (s : ByteArray) (hv : ipOf s.data.toList = some n) (w : World) (he : Env w) : Calls Tryd.prog 20 #[.int .u32 (n : Int)] w (ValPost (.string s) w) :=
  (pipText_any n (ipOf_lt hv) w he).mono fun e w' ⟨h1, h2⟩ => ⟨by rw [h1, (ipOf_read hv).1], h2⟩
theorem val1 : ipOf (⟨#[49, 48, 46, 48, 46, 48, 46, 50, 53, 53]⟩ : ByteArray).data.toList = some 167772415 := by decide +kernel
theorem val2 : macOf (⟨#[48, 50, 58, 48, 48, 58, 53, 101, 58, 49, 48, 58, 48, 48, 58, 48, 48]⟩ : ByteArray).data.toList = some [2, 0, 94, 16, 0, 0] := by decide +kernel
theorem val3 : ipOf (⟨#[49, 48, 46, 48, 46, 48, 46, 50, 53, 54]⟩ : ByteArray).data.toList = none := by decide +kernel
theorem val4 : nameOf (⟨#[97, 45, 49]⟩ : ByteArray).data.toList = true := by decide +kernel
theorem val5 : nameOf (⟨#[45, 97]⟩ : ByteArray).data.toList = false := by decide +kernel

set_option maxRecDepth 100000 in
set_option maxHeartbeats 4000000 in
theorem known_any (w : World) (he : Env w) : Calls Tryd.prog 8 #[] w (BoolPost true w) := by
  have H1 := Lib.hid (fun W h => ip_val ⟨#[49, 48, 46, 48, 46, 48, 46, 50, 53, 53]⟩ (.tuple #[.int .u32 167772415, .int .i64 0]) (by rw [val1]; rfl) (by decide) W h)
  have H2 := Lib.hid (fun W h => mac_val ⟨#[48, 50, 58, 48, 48, 58, 53, 101, 58, 49, 48, 58, 48, 48, 58, 48, 48]⟩ (.tuple #[.agg #[.int .u8 2, .int .u8 0, .int .u8 94, .int .u8 16, .int .u8 0, .int .u8 0], .int .i64 0]) (by rw [val2]; rfl) (by decide) W h)
  have H3 := Lib.hid (fun W h => ip_val ⟨#[49, 48, 46, 48, 46, 48, 46, 50, 53, 54]⟩ (.tuple #[.int .u32 0, .int .i64 60]) (by rw [val3]; rfl) (by decide) W h)
  have H4 := Lib.hid (fun W h => name_val ⟨#[97, 45, 49]⟩ true val4 (by decide) W h)
  have H5 := Lib.hid (fun W h => name_val ⟨#[45, 97]⟩ false val5 (by decide) W h)
  have h6 : ∀ W, Env W → Calls Tryd.prog 20 #[.int .u32 167772415] W (ValPost (.string ⟨#[49, 48, 46, 48, 46, 48, 46, 50, 53, 53]⟩) W) := fun W h => ipText_val 167772415 ⟨#[49, 48, 46, 48, 46, 48, 46, 50, 53, 53]⟩ val1 W h
  have H6 := Lib.hid h6
  clear h6
  have HE := Lib.hid he
  have heq := eql36 2 0 94 16 0 0
  clear he
  go_enter Tryd.func8, Tryd.ntmps8
  go_wp2_with fail
  refine (H1.out _ HE.out).mono ?_
  rintro e w1 ⟨rfl, t1⟩
  go_wp2_with fail
  refine (H2.out _ (HE.out.keep t1)).mono ?_
  rintro e w2 ⟨rfl, t2⟩
  have t3 := (t1.trans t2).alloc (.cells #[.int .u8 2, .int .u8 0, .int .u8 94, .int .u8 16, .int .u8 0, .int .u8 0] 36)
  go_wp2_with fail
  refine (H3.out _ (HE.out.keep t3)).mono ?_
  rintro e w3 ⟨rfl, t4⟩
  have hb := (t4.block w2.heap.size (by simp) (fun h => h)).trans (block_alloc_new w2 _)
  obtain ⟨hc, _⟩ := row_facts hb
  have t5 := t3.trans t4
  clear t1 t2 t3 t4 hb
  go_wp2_with fail
  refine (H6.out _ (HE.out.keep t5)).mono ?_
  rintro e w4 ⟨rfl, t6⟩
  have t7 := t5.trans t6
  clear t5 t6
  go_wp2_with fail
  refine (H4.out _ (HE.out.keep t7)).mono ?_
  rintro e w5 ⟨rfl, t8⟩
  have t9 := t7.trans t8
  clear t7 t8
  go_wp2_with fail
  refine (H5.out _ (HE.out.keep t9)).mono ?_
  rintro e w6 ⟨rfl, t10⟩
  go_wp2_with fail
  go_ret
  exact ⟨rfl, t9.trans t10⟩
end Go.Proofs.YtbkpbcmjgbdbkaaDoor
