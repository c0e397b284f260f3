/- Two settings that read alike, held against one another (given their tenants'). No condition. -/
import Derived.Test.YtbkpbcmjgbdbkaaGreatDoorF4
namespace Go.Proofs.YtbkpbcmjgbdbkaaGreatDoor
open Go.RowKit
set_option linter.unusedVariables false
set_option linter.unusedSimpArgs false
set_option maxRecDepth 100000

set_option maxHeartbeats 4000000 in
theorem cfg_eq (ip dr m0 m1 m2 m3 m4 m5 o0 o1 o2 o3 o4 o5 y0 y1 y2 y3 y4 y5 k0 k1 k2 k3 k4 k5 k6 k7 : Int) (v v' : Value) (w : World) (hT : ∀ W, Turn (fun _ => False) w W → Calls Tryz.prog 30 #[v, v'] W fun e w' => e = .returned (.bool true) ∧ Turn (fun _ => False) W w') :
    Calls Tryz.prog 13 #[.agg #[.int .u32 ip, .int .u8 m0, .int .u8 m1, .int .u8 m2, .int .u8 m3, .int .u8 m4, .int .u8 m5, .int .u8 o0, .int .u8 o1, .int .u8 o2, .int .u8 o3, .int .u8 o4, .int .u8 o5, .int .u8 y0, .int .u8 y1, .int .u8 y2, .int .u8 y3, .int .u8 y4, .int .u8 y5, .int .u8 k0, .int .u8 k1, .int .u8 k2, .int .u8 k3, .int .u8 k4, .int .u8 k5, .int .u8 k6, .int .u8 k7, .int .u32 dr, v], .agg #[.int .u32 ip, .int .u8 m0, .int .u8 m1, .int .u8 m2, .int .u8 m3, .int .u8 m4, .int .u8 m5, .int .u8 o0, .int .u8 o1, .int .u8 o2, .int .u8 o3, .int .u8 o4, .int .u8 o5, .int .u8 y0, .int .u8 y1, .int .u8 y2, .int .u8 y3, .int .u8 y4, .int .u8 y5, .int .u8 k0, .int .u8 k1, .int .u8 k2, .int .u8 k3, .int .u8 k4, .int .u8 k5, .int .u8 k6, .int .u8 k7, .int .u32 dr, v']] w fun e w' => e = .returned (.bool true) ∧ Turn (fun _ => False) w w' := by
  have t0 := ((Turn.refl (fun _ => False) w).alloc (.cells #[.int .u32 ip, .int .u8 m0, .int .u8 m1, .int .u8 m2, .int .u8 m3, .int .u8 m4, .int .u8 m5, .int .u8 o0, .int .u8 o1, .int .u8 o2, .int .u8 o3, .int .u8 o4, .int .u8 o5, .int .u8 y0, .int .u8 y1, .int .u8 y2, .int .u8 y3, .int .u8 y4, .int .u8 y5, .int .u8 k0, .int .u8 k1, .int .u8 k2, .int .u8 k3, .int .u8 k4, .int .u8 k5, .int .u8 k6, .int .u8 k7, .int .u32 dr, v] 29)).alloc (.cells #[.int .u32 ip, .int .u8 m0, .int .u8 m1, .int .u8 m2, .int .u8 m3, .int .u8 m4, .int .u8 m5, .int .u8 o0, .int .u8 o1, .int .u8 o2, .int .u8 o3, .int .u8 o4, .int .u8 o5, .int .u8 y0, .int .u8 y1, .int .u8 y2, .int .u8 y3, .int .u8 y4, .int .u8 y5, .int .u8 k0, .int .u8 k1, .int .u8 k2, .int .u8 k3, .int .u8 k4, .int .u8 k5, .int .u8 k6, .int .u8 k7, .int .u32 dr, v'] 29)
  have e6 := eql36
  have e8 := eql41
  go_enter Tryz.func13, Tryz.ntmps13
  go_wp2_with fail
  refine (hT _ t0).mono ?_
  rintro e w1 ⟨rfl, t1⟩
  have t2 := t0.trans t1
  clear t0 t1 hT
  go_wp2_with fail
  go_ret
  exact ⟨rfl, t2⟩
end Go.Proofs.YtbkpbcmjgbdbkaaGreatDoor
