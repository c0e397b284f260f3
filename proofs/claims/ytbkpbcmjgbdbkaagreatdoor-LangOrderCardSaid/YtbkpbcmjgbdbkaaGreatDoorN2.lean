/- Two tenants that read alike, held against one another. No condition. -/
import Derived.Test.YtbkpbcmjgbdbkaaGreatDoorMD
import Derived.Test.YtbkpbcmjgbdbkaaGreatDoorF4
import Derived.Deep.DeepCutAuto
namespace Go.Proofs.YtbkpbcmjgbdbkaaGreatDoor
open Go.RowKit
set_option linter.unusedVariables false
set_option linter.unusedSimpArgs false
set_option maxRecDepth 100000

theorem NumsIn.turn {w w' : World} {v : Value} {l : List Nat} (h : NumsIn w v l) (t : Turn (fun _ => False) w w') : NumsIn w' v l := by
  obtain ⟨ao, cap, h1, h2, h3⟩ := h
  exact ⟨ao, cap, h1, h2, fun i x hx => by obtain ⟨b, off, e, h4, h5⟩ := h3 i x hx; exact ⟨b, off, e, Nat.lt_of_lt_of_le h4 t.size, (World.cell?_of_block (t.block b h4 (fun h => h))).trans h5⟩⟩
theorem PairsIn.turn {w w' : World} {v : Value} {l : List (Nat × Nat)} (h : PairsIn w v l) (t : Turn (fun _ => False) w w') : PairsIn w' v l := by
  obtain ⟨ao, cap, h1, h2, h3⟩ := h
  exact ⟨ao, cap, h1, h2, fun i x hx => by obtain ⟨b, off, e, h4, h5, h6⟩ := h3 i x hx; exact ⟨b, off, e, Nat.lt_of_lt_of_le h4 t.size, (World.cell?_of_block (t.block b h4 (fun h => h))).trans h5, (World.cell?_of_block (t.block b h4 (fun h => h))).trans h6⟩⟩
set_option maxHeartbeats 4000000 in
theorem ten_eq (s : ByteArray) (vni vt lo hi fi se qu ra bu k0 k1 k2 k3 k4 k5 k6 k7 m0 m1 m2 m3 m4 m5 x0 x1 x2 x3 x4 x5 : Int) (l : List Nat) (st tw : List (Nat × Nat)) (p u q p' u' q' : Value) (w : World)
    (h1 : NumsIn w p l) (h1' : NumsIn w p' l) (h2 : PairsIn w u st) (h2' : PairsIn w u' st) (h3 : PairsIn w q tw) (h3' : PairsIn w q' tw) :
    Calls Tryz.prog 64 #[.agg #[.string s, .int .u32 vni, .int .u8 k0, .int .u8 k1, .int .u8 k2, .int .u8 k3, .int .u8 k4, .int .u8 k5, .int .u8 k6, .int .u8 k7, .int .u32 vt, .int .u8 m0, .int .u8 m1, .int .u8 m2, .int .u8 m3, .int .u8 m4, .int .u8 m5, .int .u8 x0, .int .u8 x1, .int .u8 x2, .int .u8 x3, .int .u8 x4, .int .u8 x5, p, .int .u16 lo, .int .u16 hi, .int .i64 fi, u, q, .int .i64 se, .int .i64 qu, .int .u32 ra, .int .u32 bu], .agg #[.string s, .int .u32 vni, .int .u8 k0, .int .u8 k1, .int .u8 k2, .int .u8 k3, .int .u8 k4, .int .u8 k5, .int .u8 k6, .int .u8 k7, .int .u32 vt, .int .u8 m0, .int .u8 m1, .int .u8 m2, .int .u8 m3, .int .u8 m4, .int .u8 m5, .int .u8 x0, .int .u8 x1, .int .u8 x2, .int .u8 x3, .int .u8 x4, .int .u8 x5, p', .int .u16 lo, .int .u16 hi, .int .i64 fi, u', q', .int .i64 se, .int .i64 qu, .int .u32 ra, .int .u32 bu]] w fun e w' => e = .returned (.bool true) ∧ Turn (fun _ => False) w w' := by
  have t0 := ((Turn.refl (fun _ => False) w).alloc (.cells #[.string s, .int .u32 vni, .int .u8 k0, .int .u8 k1, .int .u8 k2, .int .u8 k3, .int .u8 k4, .int .u8 k5, .int .u8 k6, .int .u8 k7, .int .u32 vt, .int .u8 m0, .int .u8 m1, .int .u8 m2, .int .u8 m3, .int .u8 m4, .int .u8 m5, .int .u8 x0, .int .u8 x1, .int .u8 x2, .int .u8 x3, .int .u8 x4, .int .u8 x5, p, .int .u16 lo, .int .u16 hi, .int .i64 fi, u, q, .int .i64 se, .int .i64 qu, .int .u32 ra, .int .u32 bu] 45)).alloc (.cells #[.string s, .int .u32 vni, .int .u8 k0, .int .u8 k1, .int .u8 k2, .int .u8 k3, .int .u8 k4, .int .u8 k5, .int .u8 k6, .int .u8 k7, .int .u32 vt, .int .u8 m0, .int .u8 m1, .int .u8 m2, .int .u8 m3, .int .u8 m4, .int .u8 m5, .int .u8 x0, .int .u8 x1, .int .u8 x2, .int .u8 x3, .int .u8 x4, .int .u8 x5, p', .int .u16 lo, .int .u16 hi, .int .i64 fi, u', q', .int .i64 se, .int .i64 qu, .int .u32 ra, .int .u32 bu] 45)
  have b1 := block_alloc_old (o := .cells #[.string s, .int .u32 vni, .int .u8 k0, .int .u8 k1, .int .u8 k2, .int .u8 k3, .int .u8 k4, .int .u8 k5, .int .u8 k6, .int .u8 k7, .int .u32 vt, .int .u8 m0, .int .u8 m1, .int .u8 m2, .int .u8 m3, .int .u8 m4, .int .u8 m5, .int .u8 x0, .int .u8 x1, .int .u8 x2, .int .u8 x3, .int .u8 x4, .int .u8 x5, p', .int .u16 lo, .int .u16 hi, .int .i64 fi, u', q', .int .i64 se, .int .i64 qu, .int .u32 ra, .int .u32 bu] 45) (block_alloc_new w (.cells #[.string s, .int .u32 vni, .int .u8 k0, .int .u8 k1, .int .u8 k2, .int .u8 k3, .int .u8 k4, .int .u8 k5, .int .u8 k6, .int .u8 k7, .int .u32 vt, .int .u8 m0, .int .u8 m1, .int .u8 m2, .int .u8 m3, .int .u8 m4, .int .u8 m5, .int .u8 x0, .int .u8 x1, .int .u8 x2, .int .u8 x3, .int .u8 x4, .int .u8 x5, p, .int .u16 lo, .int .u16 hi, .int .i64 fi, u, q, .int .i64 se, .int .i64 qu, .int .u32 ra, .int .u32 bu] 45))
  have b2 := block_alloc_new (w.alloc (.cells #[.string s, .int .u32 vni, .int .u8 k0, .int .u8 k1, .int .u8 k2, .int .u8 k3, .int .u8 k4, .int .u8 k5, .int .u8 k6, .int .u8 k7, .int .u32 vt, .int .u8 m0, .int .u8 m1, .int .u8 m2, .int .u8 m3, .int .u8 m4, .int .u8 m5, .int .u8 x0, .int .u8 x1, .int .u8 x2, .int .u8 x3, .int .u8 x4, .int .u8 x5, p, .int .u16 lo, .int .u16 hi, .int .i64 fi, u, q, .int .i64 se, .int .i64 qu, .int .u32 ra, .int .u32 bu] 45)) (.cells #[.string s, .int .u32 vni, .int .u8 k0, .int .u8 k1, .int .u8 k2, .int .u8 k3, .int .u8 k4, .int .u8 k5, .int .u8 k6, .int .u8 k7, .int .u32 vt, .int .u8 m0, .int .u8 m1, .int .u8 m2, .int .u8 m3, .int .u8 m4, .int .u8 m5, .int .u8 x0, .int .u8 x1, .int .u8 x2, .int .u8 x3, .int .u8 x4, .int .u8 x5, p', .int .u16 lo, .int .u16 hi, .int .i64 fi, u', q', .int .i64 se, .int .i64 qu, .int .u32 ra, .int .u32 bu] 45)
  have e6 := eql36
  have e8 := eql41
  go_enter Tryz.func64, Tryz.ntmps64
  go_wp2_with fail
  refine (nums_eq l p p' _ (h1.turn t0) (h1'.turn t0)).mono ?_
  rintro e w1 ⟨rfl, t1⟩
  have c1 := (t1.block _ (block_lt b1) (fun h => h)).trans b1
  have c2 := (t1.block _ (block_lt b2) (fun h => h)).trans b2
  have hsz : (w.alloc (.cells #[.string s, .int .u32 vni, .int .u8 k0, .int .u8 k1, .int .u8 k2, .int .u8 k3, .int .u8 k4, .int .u8 k5, .int .u8 k6, .int .u8 k7, .int .u32 vt, .int .u8 m0, .int .u8 m1, .int .u8 m2, .int .u8 m3, .int .u8 m4, .int .u8 m5, .int .u8 x0, .int .u8 x1, .int .u8 x2, .int .u8 x3, .int .u8 x4, .int .u8 x5, p, .int .u16 lo, .int .u16 hi, .int .i64 fi, u, q, .int .i64 se, .int .i64 qu, .int .u32 ra, .int .u32 bu] 45)).heap.size = w.heap.size + 1 := by simp
  rw [hsz] at c2
  have kc := cell_of_block c1
  have kd := cell_of_block c2
  have t2 := t0.trans t1
  clear b1 b2 t0 t1
  go_wp2_with fail
  refine (pairs_eq st u u' _ (h2.turn t2) (h2'.turn t2)).mono ?_
  rintro e w2 ⟨rfl, t3⟩
  have c3 := (t3.block _ (block_lt c1) (fun h => h)).trans c1
  have c4 := (t3.block _ (block_lt c2) (fun h => h)).trans c2
  have t4 := t2.trans t3
  clear kc kd c1 c2 t2 t3
  have kc := cell_of_block c3
  have kd := cell_of_block c4
  go_wp2_with fail
  refine (pairs_eq tw q q' _ (h3.turn t4) (h3'.turn t4)).mono ?_
  rintro e w3 ⟨rfl, t5⟩
  have c5 := (t5.block _ (block_lt c3) (fun h => h)).trans c3
  have c6 := (t5.block _ (block_lt c4) (fun h => h)).trans c4
  have t6 := t4.trans t5
  clear kc kd c3 c4 t4 t5
  have kc := cell_of_block c5
  have kd := cell_of_block c6
  go_wp2_with fail
  go_ret
  exact ⟨rfl, t6⟩
end Go.Proofs.YtbkpbcmjgbdbkaaGreatDoor
