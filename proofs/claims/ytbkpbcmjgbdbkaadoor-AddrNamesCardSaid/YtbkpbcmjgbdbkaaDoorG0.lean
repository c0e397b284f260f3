/- AddrNames: the walk. Condition: the library's tables (Env). -/
import Derived.Test.YtbkpbcmjgbdbkaaDoorF5
import Derived.Laws.Runes
import Derived.Laws.Cover4
namespace Go.Proofs.YtbkpbcmjgbdbkaaDoor
open Go.RowKit Go.Lib
set_option linter.unusedVariables false
set_option linter.unusedSimpArgs false

theorem encode_one (r : Int) : 1 ≤ (Utf8.encode r).size := by
  unfold Utf8.encode
  simp only []
  repeat' split
  all_goals simp [ByteArray.size]
def strSize : Value → Nat
  | .string a => a.size
  | _ => 0

set_option maxRecDepth 100000 in
set_option maxHeartbeats 8000000 in
theorem names_walk (n : Nat) (hn : n < 256) (r : Int) (first : Bool) (w : World) (he : Env w) : Calls Tryd.prog 3 #[.int .u8 (n : Int), .int .i32 r, .bool first] w (BoolPost true w) := by
  have HK := Lib.hid (And.intro (fun W h => known_any W h) he)
  obtain ⟨N, hN⟩ : ∃ N, N = n % 40 := ⟨_, rfl⟩
  have hNn : ((n : Int) % 40) = (N : Int) := by omega
  have hN40 : N < 40 := by omega
  have hcv : ∀ W, (convert 21 9 (.int .i32 r)).run Tryd.prog W = .ok (.string (Utf8.encode r)) W := fun W => run_convert_int_string W 21 9 .i32 r (by kernel_rfl) Tryd.underlying9
  have e1 := encode_one r
  have e2 := encode_size_le r
  generalize Utf8.encode r = E at *
  clear he hN
  cases first
  all_goals
    go_enter Tryd.func3, Tryd.ntmps3
    go_wp2_with fail
    refine (HK.out.1 _ HK.out.2).mono ?_
    rintro e w1 ⟨rfl, t1⟩
    go_wp2_with fail
    go_loop [7] (fun v => ∃ A : ByteArray, v = .string A ∧ A.size ≤ 43) (fun v => 50 - strSize v)
    case atStart => exact ⟨_, rfl, by decide⟩
    case round =>
      obtain ⟨A, rfl, hA⟩ := hrel
      by_cases hlt : A.size < N
      · have hlt2 : (A.size : Int) < (N : Int) := by omega
        have hs3 : ¬ (A.size + E.size > 9223372036854775807) := by omega
        go_wp2_with fail
        all_goals first
          | (exfalso; omega)
          | (go_round
             case rel => exact ⟨_, rfl, by rw [ByteArray.size_append]; omega⟩
             case measure => simp only [strSize, ByteArray.size_append]; omega)
      · have hlt2 : ¬ (A.size : Int) < (N : Int) := by omega
        have c9 : ∀ W, Env W → Calls Tryd.prog 9 #[.string A] W (ValPost (.bool (nameOf A.data.toList)) W) := fun W h => name_val A _ rfl (by omega) W h
        have c10 : ∀ W, Env W → Calls Tryd.prog 10 #[.string A] W (ValPost (.bool (nameOf A.data.toList)) W) := fun W h => (rname_any A (by omega) W h).mono fun e w' h => h
        generalize nameOf A.data.toList = nb at c9 c10
        have HC := Lib.hid (And.intro c9 c10)
        clear c9 c10
        go_wp2_with fail
        refine (HC.out.1 _ (HK.out.2.keep t1)).mono ?_
        rintro e w2 ⟨rfl, t2⟩
        have t3 := t1.trans t2
        clear t2
        go_wp2_with fail
        refine (HC.out.2 _ (HK.out.2.keep t3)).mono ?_
        rintro e w3 ⟨rfl, t4⟩
        go_wp2_with fail
        go_ret
        exact ⟨rfl, t3.trans t4⟩
end Go.Proofs.YtbkpbcmjgbdbkaaDoor
