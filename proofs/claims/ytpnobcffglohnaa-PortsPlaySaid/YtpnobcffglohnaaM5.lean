/- ports.Ports.Take at a known first point; lychlaw17.known. No condition but the numbers' bounds. -/
import Derived.Test.YtpnobcffglohnaaM4
namespace Go.Proofs.Ytpnobcffglohnaa
open Go.RowKit
set_option linter.unusedVariables false
set_option linter.unusedSimpArgs false

/-- A pool in the world. -/
def PoolIs (w : World) (F : Nat → Prop) (ao : Option Addr) (len : Nat) (P : Nat → Int) : Prop :=
  (∀ i, i < len → ∃ b off, ao = some ⟨b, off, none⟩ ∧ ¬ F b ∧ w.cell? ⟨b, off + i, none⟩ = some (.int .u32 (P i))) ∧ ∀ i, i < len → W32 (P i)

theorem ptake_first (bp : Nat) (F : Nat → Prop) (h : Int → Int → Nat → Bool) (n pr : Int) (ao : Option Addr) (len cap : Nat) (P : Nat → Int) (lo hi want : Nat) (w : World) (p : PortsIs w bp F h n) (h1 : W8 pr)
    (hlo : lo < 65536) (hhi : hi < 65536) (hwant : want < 65536) (hn : 0 ≤ n) (hn' : n < 4611686018427387904) (hlen : len ≤ 4611686018427387904) (hP : PoolIs w F ao len P)
    (i q : Nat) (hi' : i < len) (q0 : tkLo lo want ≤ q) (q1 : q ≤ tkHi hi want) (q2 : q % 2 = tkLo lo want % 2) (q3 : h pr (P i) q = false)
    (q4 : ∀ j r, j < i → tkLo lo want ≤ r → r ≤ tkHi hi want → r % 2 = tkLo lo want % 2 → h pr (P j) r = true) (q5 : ∀ r, tkLo lo want ≤ r → r < q → r % 2 = tkLo lo want % 2 → h pr (P i) r = true) :
    Calls Try.prog 21 #[.pointer (some ⟨bp, 0, none⟩), .int .u8 pr, .slice ao len cap, .int .u16 (lo : Int), .int .u16 (hi : Int), .int .u16 (want : Int)] w
      (Turned w bp F (.tuple #[.agg #[.int .u32 (P i), .int .u16 (q : Int)], .int .i64 0]) (hset h pr (P i) q true) (n + 1)) := by
  refine (ptake_any bp F h n pr ao len cap P lo hi want w p h1 hlo hhi hwant hn hn' hlen hP.1 hP.2).mono ?_
  rintro e w' (⟨i', r, s0, s1, s2, s3, s4, s5, s6, s7⟩ | ⟨s, _⟩)
  · have e1 : i' = i := by
      by_cases c1 : i' < i
      · rw [q4 i' r c1 s1 s2 s3] at s4; cases s4
      · by_cases c2 : i < i'
        · rw [s5 i q c2 q0 q1 q2] at q3; cases q3
        · omega
    subst e1
    have e2 : r = q := by
      by_cases c1 : r < q
      · rw [q5 r s1 c1 s3] at s4; cases s4
      · by_cases c2 : q < r
        · rw [s6 q q0 c2 q2] at q3; cases q3
        · omega
    subst e2
    exact s7
  · rw [s i q hi' q0 q1 q2] at q3; cases q3

theorem ptake_none (bp : Nat) (F : Nat → Prop) (h : Int → Int → Nat → Bool) (n pr : Int) (ao : Option Addr) (len cap : Nat) (P : Nat → Int) (lo hi want : Nat) (w : World) (p : PortsIs w bp F h n) (h1 : W8 pr)
    (hlo : lo < 65536) (hhi : hi < 65536) (hwant : want < 65536) (hn : 0 ≤ n) (hn' : n < 4611686018427387904) (hlen : len ≤ 4611686018427387904) (hP : PoolIs w F ao len P)
    (q4 : ∀ j r, j < len → tkLo lo want ≤ r → r ≤ tkHi hi want → r % 2 = tkLo lo want % 2 → h pr (P j) r = true) :
    Calls Try.prog 21 #[.pointer (some ⟨bp, 0, none⟩), .int .u8 pr, .slice ao len cap, .int .u16 (lo : Int), .int .u16 (hi : Int), .int .u16 (want : Int)] w
      fun e w' => e = .returned (.tuple #[.agg #[.int .u32 0, .int .u16 0], .int .i64 120]) ∧ PortsIs w' bp F h n ∧ Turn F w w' := by
  refine (ptake_any bp F h n pr ao len cap P lo hi want w p h1 hlo hhi hwant hn hn' hlen hP.1 hP.2).mono ?_
  rintro e w' (⟨i', r, s0, s1, s2, s3, s4, s5, s6, s7⟩ | ⟨s, s1, s2, s3⟩)
  · rw [q4 i' r s0 s1 s2 s3] at s4; cases s4
  · exact ⟨s1, s2, s3⟩

theorem nF_next {F F' : Nat → Prop} {w : World} {X : Nat} (h : ¬ F X) (hX : X < w.heap.size) (hF : ∀ k, F' k → F k ∨ w.heap.size ≤ k) : ¬ F' X := fun hf => by
  rcases hF X hf with q | q
  · exact h q
  · omega
theorem PortsIs.nF {w : World} {bp : Nat} {F : Nat → Prop} {h : Int → Int → Nat → Bool} {n : Int} (p : PortsIs w bp F h n) {X : Nat} (hX : w.heap.size ≤ X) : ¬ F X := fun hf => by
  obtain ⟨bm, f, q⟩ := p.ex
  have := q.2.2.2.2.2.2.2 _ hf
  omega
theorem PortsIs.alloc {w : World} {bp : Nat} {F : Nat → Prop} {h : Int → Int → Nat → Bool} {n : Int} (p : PortsIs w bp F h n) (o : Obj) : PortsIs (w.alloc o) bp F h n :=
  p.turn ((Turn.refl (fun _ => False) w).alloc _) (fun _ _ _ h => h)
theorem PoolIs.one {w : World} {bp : Nat} {F : Nat → Prop} {h : Int → Int → Nat → Bool} {n : Int} (p : PortsIs w bp F h n) (x : Int) (hx : W32 x) : PoolIs (w.alloc (.cells #[.int .u32 x] 22)) F (some ⟨w.heap.size, 0, none⟩) 1 (fun _ => x) :=
  ⟨fun i hi => ⟨w.heap.size, 0, rfl, p.nF (Nat.le_refl _), by rw [show i = 0 by omega]; exact cell_of_block (block_alloc_new _ _) 0⟩, fun _ _ => hx⟩
theorem Own.next {F F' : Nat → Prop} {w : World} {B : Nat} (h : ∀ k, F k → B ≤ k) (hB : B ≤ w.heap.size) (hF : ∀ k, F' k → F k ∨ w.heap.size ≤ k) : ∀ k, F' k → B ≤ k := fun k hk => by
  rcases hF k hk with q | q
  · exact h k q
  · omega

theorem w8_17 : W8 17 := by unfold W8; decide
theorem w8_6 : W8 6 := by unfold W8; decide
theorem w32_5 : W32 5 := by unfold W32; decide
theorem w32_7 : W32 7 := by unfold W32; decide

set_option maxRecDepth 100000 in
set_option maxHeartbeats 2000000 in
theorem known17 (w : World) :
    Calls Try.prog 19 #[] w fun e w' => e = .returned (.bool true) ∧ Below w.heap.size w w' := by
  go_enter Try.func19, Try.ntmps19
  go_wp2_with fail
  refine (pnew_any _).mono ?_; rintro e w0 ⟨rfl, p0, t0⟩
  have B0 : Below w.heap.size w w0 := t0.onto (Below.refl _ _) (Nat.le_refl _) (fun _ _ h => h)
  obtain ⟨F0, hF0⟩ : ∃ F0 : Nat → Prop, F0 = fun k => k = w.heap.size ∨ k = w.heap.size + 1 := ⟨_, rfl⟩
  rw [← hF0] at p0
  have o0 : ∀ k, F0 k → w.heap.size ≤ k := fun k hk => by rw [hF0] at hk; omega
  clear hF0
  generalize w.heap.size + 1 = bp at *
  go_wp2_with fail
  refine (ptake_first bp F0 _ 0 17 (some ⟨w0.heap.size, 0, none⟩) 1 1 (fun _ => 5) 1024 65535 4000 _ (p0.alloc _) w8_17 (by decide) (by decide) (by decide) (by decide) (by decide) (by decide) (PoolIs.one p0 5 w32_5)
    0 1024 (by decide) (by decide) (by decide) (by decide) rfl (fun j r hj => by omega) (fun r h1 h2 => by simp [tkLo] at h1; omega)).mono ?_
  rintro e w1 ⟨rfl, F1, p1, t1, n1⟩
  have o1 := Own.next o0 (by have := B0.size; simp; omega) n1
  have B1 : Below w.heap.size w w1 := t1.onto (B0.alloc B0.size _) (Nat.le_refl _) (fun i hi hf => by have := o0 i hf; omega)
  clear t1 n1 p0 B0
  have hX := p1.nF (X := w1.heap.size) (Nat.le_refl _)
  go_wp2_with fail
  have pa := p1.alloc (.cells #[.int .u32 5, .int .u16 1024] 45)
  have hq := PoolIs.one pa 5 w32_5
  have ka : (w1.alloc (.cells #[.int .u32 5, .int .u16 1024] 45)).heap[w1.heap.size]? = some (.cells #[.int .u32 5, .int .u16 1024] 45 (0, 0)) := block_alloc_new _ _
  have ka' := block_alloc_old (o := .cells #[.int .u32 5] 22) ka
  rw [show (w1.alloc (.cells #[.int .u32 5, .int .u16 1024] 45)).heap.size = w1.heap.size + 1 by simp] at hq
  refine (ptake_first bp F1 _ 1 17 (some ⟨w1.heap.size + 1, 0, none⟩) 1 1 (fun _ => 5) 1024 65535 4000 _ (pa.alloc _) w8_17 (by decide) (by decide) (by decide) (by decide) (by decide) (by decide) hq
    0 1026 (by decide) (by decide) (by decide) (by decide) (by decide) (fun j r hj => by omega) (fun r h1 h2 h3 => by
      have h4 : tkLo 1024 4000 = 1024 := rfl
      rw [h4] at h1 h3
      rw [show r = 1024 by omega]; decide)).mono ?_
  rintro e w2 ⟨rfl, F2, p2, t2, n2⟩
  have o2 := Own.next o1 (by have := B1.size; simp; omega) n2
  have B2 : Below w.heap.size w w2 := t2.onto ((B1.alloc B1.size _).alloc (by have := B1.size; simp; omega) _) (Nat.le_refl _) (fun i hi hf => by have := o1 i hf; omega)
  have k2 := (t2.block _ (block_lt ka') hX).trans ka'
  have X2 := nF_next hX (block_lt ka') n2
  generalize w1.heap.size = X at *
  clear t2 n2 p1 B1 o1 pa ka ka' hq hX
  go_wp2_with fail
  refine (ptake_none bp F2 _ 2 17 none 0 0 (fun _ => 0) 1 2 3 _ (p2.alloc _) w8_17 (by decide) (by decide) (by decide) (by decide) (by decide) (by decide) ⟨fun i hi => absurd hi (Nat.not_lt_zero _), fun i hi => absurd hi (Nat.not_lt_zero _)⟩
    (fun j r hj => absurd hj (Nat.not_lt_zero _))).mono ?_
  rintro e w3 ⟨rfl, p3, t3⟩
  have B3 : Below w.heap.size w w3 := t3.onto (B2.alloc B2.size _) (Nat.le_refl _) (fun i hi hf => by have := o2 i hf; omega)
  have k2' := block_alloc_old (o := .cells #[.int .u32 5, .int .u16 1026] 45) k2
  have k3 := (t3.block _ (block_lt k2') X2).trans k2'
  have j3 := (t3.block w2.heap.size (by simp) (p2.nF (Nat.le_refl _))).trans (block_alloc_new w2 (.cells #[.int .u32 5, .int .u16 1026] 45))
  have c0 : w3.cell? ⟨X, 0, none⟩ = some (.int .u32 5) := cell_of_block k3 0
  have c1 : w3.cell? ⟨X, 1, none⟩ = some (.int .u16 1024) := cell_of_block k3 1
  have c2 : w3.cell? ⟨w2.heap.size, 0, none⟩ = some (.int .u32 5) := cell_of_block j3 0
  have c3 : w3.cell? ⟨w2.heap.size, 1, none⟩ = some (.int .u16 1026) := cell_of_block j3 1
  have hz0 := block_lt k3
  have hz1 := block_lt j3
  clear t3 p2 B2 k2 k2' k3 j3 X2
  have p4 := p3.alloc (.cells #[.int .u32 0, .int .u16 0] 45)
  have B4 : Below w.heap.size w (w3.alloc (.cells #[.int .u32 0, .int .u16 0] 45)) := B3.alloc B3.size _
  go_wp2_with fail
  refine (count_any bp _ _ _ _ p4).mono ?_
  rintro e w4 ⟨rfl, rfl⟩
  go_wp2_with fail
  refine (held_any bp _ _ _ 17 5 1024 _ p4 w8_17 w32_5 (by decide)).mono ?_
  rintro e w5 ⟨rfl, t5⟩
  have hh1 : hset (hset (fun x x_1 x_2 => false) 17 5 1024 true) 17 5 1026 true 17 5 1024 = true := by decide
  rw [hh1]
  have p5 := p4.turn t5 (fun _ _ _ h => h)
  have d0 : w5.cell? ⟨X, 0, none⟩ = some (.int .u32 5) := (World.cell?_of_block (t5.block _ (by simp; omega) (fun h => h))).trans ((World.cell?_of_block (w := w3) (Below.heap_alloc _ _ _ hz0)).trans c0)
  have d1 : w5.cell? ⟨X, 1, none⟩ = some (.int .u16 1024) := (World.cell?_of_block (t5.block _ (by simp; omega) (fun h => h))).trans ((World.cell?_of_block (w := w3) (Below.heap_alloc _ _ _ hz0)).trans c1)
  have B5 : Below w.heap.size w w5 := t5.onto B4 (Nat.le_refl _) (fun _ _ h => h)
  clear t5 p4 B4 hh1
  go_wp2_with fail
  refine (held_any bp _ _ _ 6 5 1024 _ p5 w8_6 w32_5 (by decide)).mono ?_
  rintro e w6 ⟨rfl, t6⟩
  have hh1 : hset (hset (fun x x_1 x_2 => false) 17 5 1024 true) 17 5 1026 true 6 5 1024 = false := by decide
  rw [hh1]
  go_wp2_with fail
  go_ret
  exact ⟨rfl, t6.onto B5 (Nat.le_refl _) (fun _ _ h => h)⟩
end Go.Proofs.Ytpnobcffglohnaa
