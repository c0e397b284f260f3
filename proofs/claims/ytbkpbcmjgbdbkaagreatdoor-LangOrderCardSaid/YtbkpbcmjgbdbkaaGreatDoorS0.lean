/- seat.Addr, seat.Name at the few numbers that settings are made of. No condition. -/
import Derived.Test.YtbkpbcmjgbdbkaaGreatDoorMB
namespace Go.Proofs.YtbkpbcmjgbdbkaaGreatDoor
open Go.RowKit
set_option linter.unusedVariables false
set_option linter.unusedSimpArgs false
set_option maxRecDepth 100000

theorem or4 (a b c d : Nat) (ha : a < 256) (hb : b < 256) (hc : c < 256) (hd : d < 256) :
    bits .or .u32 (bits .or .u32 (bits .or .u32 ((a : Int) * 16777216) ((b : Int) * 65536)) ((c : Int) * 256)) (d : Int) = ((a * 16777216 + b * 65536 + c * 256 + d : Nat) : Int) := by
  have e1 : (a : Int) * 16777216 = ((a * 16777216 : Nat) : Int) := by omega
  have e2 : (b : Int) * 65536 = ((b * 65536 : Nat) : Int) := by omega
  have e3 : (c : Int) * 256 = ((c * 256 : Nat) : Int) := by omega
  rw [e1, e2, e3, u32_or_nat _ _ (by omega) (by omega), nat_join 24 (a * 16777216) (b * 65536) (by omega) (by omega),
    u32_or_nat _ _ (by omega) (by omega), nat_join 16 (a * 16777216 + b * 65536) (c * 256) (by omega) (by omega),
    u32_or_nat _ _ (by omega) (by omega), nat_join 8 (a * 16777216 + b * 65536 + c * 256) d (by omega) (by omega)]
theorem saddr_any (a b c d : Nat) (ha : a < 256) (hb : b < 256) (hc : c < 256) (hd : d < 256) (w : World) :
    Calls Tryz.prog 45 #[.int .u8 (a : Int), .int .u8 (b : Int), .int .u8 (c : Int), .int .u8 (d : Int)] w fun e w' => e = .returned (.int .u32 ((a * 16777216 + b * 65536 + c * 256 + d : Nat) : Int)) ∧ w = w' := by
  go_enter Tryz.func45, Tryz.ntmps45
  go_wp2_with fail
  go_ret
  exact ⟨congrArg (fun x => Ending.returned (.int .u32 x)) (or4 a b c d ha hb hc hd), rfl⟩
theorem sname_any (i : Nat) (hi : i < 4) (w : World) : Calls Tryz.prog 72 #[.int .i64 (i : Int)] w fun e w' => e = .returned (.string ⟨[(97 + UInt8.ofNat i)].toArray⟩) ∧ w = w' := by
  rcases i with _ | _ | _ | _ | i
  · go_enter Tryz.func72, Tryz.ntmps72
    go_wp2_with fail
    go_ret
    exact ⟨rfl, rfl⟩
  · go_enter Tryz.func72, Tryz.ntmps72
    go_wp2_with fail
    go_ret
    exact ⟨rfl, rfl⟩
  · go_enter Tryz.func72, Tryz.ntmps72
    go_wp2_with fail
    go_ret
    exact ⟨rfl, rfl⟩
  · go_enter Tryz.func72, Tryz.ntmps72
    go_wp2_with fail
    go_ret
    exact ⟨rfl, rfl⟩
  · omega
end Go.Proofs.YtbkpbcmjgbdbkaaGreatDoor
