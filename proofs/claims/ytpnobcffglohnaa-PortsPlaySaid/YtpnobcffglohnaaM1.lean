/- Contracts of ports.Ports' methods. No condition but the numbers' bounds. -/
import Derived.Test.YtpnobcffglohnaaM0
namespace Go.Proofs.Ytpnobcffglohnaa
open Go.RowKit
set_option linter.unusedVariables false
set_option linter.unusedSimpArgs false

/-- Block b: 1024 words whose bits are g. -/
def WordsAt (w : World) (b : Nat) (g : Nat → Bool) : Prop :=
  ∃ C : Array Value, w.heap[b]? = some (.cells C 80 (0, 0)) ∧ C.size = 1024 ∧ ∀ j, j < 1024 → ∃ x : Nat, C[j]? = some (.int .u64 (x : Int)) ∧ x < 18446744073709551616 ∧ ∀ k, k < 64 → x.testBit k = g (64 * j + k)

/-- A Ports in block bp, over the blocks F: which ports are held, and the count. -/
structure PortsIs (w : World) (bp : Nat) (F : Nat → Prop) (h : Int → Int → Nat → Bool) (n : Int) : Prop where
  ex : ∃ bm f, w.heap[bp]? = some (.cells #[.map (some bm), .int .i64 n] 76 (0, 0)) ∧ MapIs w bm f ∧ F bp ∧ F bm ∧
    (∀ pr ip b, f pr ip = some b → F b ∧ WordsAt w b (h pr ip)) ∧
    (∀ pr ip, f pr ip = none → ∀ po, h pr ip po = false) ∧
    (∀ pr ip pr' ip' b, f pr ip = some b → f pr' ip' = some b → pr = pr' ∧ ip = ip') ∧ (∀ k, F k → k < w.heap.size)

theorem WordsAt.turn {w w' : World} {b : Nat} {g : Nat → Bool} {G : Nat → Prop} (h : WordsAt w b g) (t : Turn G w w') (hb : ¬ G b) : WordsAt w' b g := by
  obtain ⟨C, h1, h2⟩ := h
  exact ⟨C, (t.block b (block_lt h1) hb).trans h1, h2⟩
theorem WordsAt.lt {w : World} {b : Nat} {g : Nat → Bool} (h : WordsAt w b g) : b < w.heap.size := by
  obtain ⟨C, h1, h2⟩ := h
  exact block_lt h1

theorem PortsIs.turn {w w' : World} {bp : Nat} {F G : Nat → Prop} {h : Int → Int → Nat → Bool} {n : Int} (p : PortsIs w bp F h n) (t : Turn G w w') (hG : ∀ k, k < w.heap.size → F k → ¬ G k) : PortsIs w' bp F h n := by
  obtain ⟨bm, f, h1, h2, h3, h4, h5, h6, h7, h8⟩ := p.ex
  refine ⟨bm, f, (t.block bp (block_lt h1) (hG _ (block_lt h1) h3)).trans h1, h2.of_block (t.block bm h2.lt (hG _ h2.lt h4)), h3, h4, fun pr ip b hb => ?_, h6, h7, fun k hk => Nat.lt_of_lt_of_le (h8 k hk) t.size⟩
  obtain ⟨q1, q2⟩ := h5 pr ip b hb
  exact ⟨q1, q2.turn t (hG _ q2.lt q1)⟩

/-- The bit of a port in its word. -/
def bitV (po : Nat) : Int := IntKind.u64.wrap (2 ^ (po % 64))
theorem bitV_eq (po : Nat) : bitV po = ((2 ^ (po % 64) : Nat) : Int) := by
  unfold bitV
  have h : 2 ^ (po % 64) < 2 ^ 64 := Nat.pow_lt_pow_right (by decide) (by omega)
  rw [show ((2 : Int) ^ (po % 64)) = ((2 ^ (po % 64) : Nat) : Int) by simp, IntKind.wrap_u64]
  generalize 2 ^ (po % 64) = m at *
  omega
theorem pow64_lt (k : Nat) (h : k < 64) : 2 ^ k < 18446744073709551616 := by
  have h : 2 ^ k < 2 ^ 64 := Nat.pow_lt_pow_right (by decide) h
  omega
theorem word_test (x po : Nat) (hx : x < 18446744073709551616) : (bits .and .u64 (x : Int) (bitV po) != 0) = x.testBit (po % 64) := by
  rw [bitV_eq, u64_and_nat x _ hx (pow64_lt _ (by omega)), nat_bit, Nat.testBit_eq_decide_div_mod_eq]
  have h1 := Nat.two_pow_pos (po % 64)
  generalize 2 ^ (po % 64) = m at *
  rcases Nat.mod_two_eq_zero_or_one (x / m) with h | h <;> rw [h] <;> simp
  omega
theorem word_or (x po : Nat) (hx : x < 18446744073709551616) : ∃ y : Nat, bits .or .u64 (x : Int) (bitV po) = (y : Int) ∧ y < 18446744073709551616 ∧ ∀ k, k < 64 → y.testBit k = (x.testBit k || decide (k = po % 64)) := by
  refine ⟨x ||| 2 ^ (po % 64), ?_, ?_, fun k hk => ?_⟩
  · rw [bitV_eq, u64_or_nat x _ hx (pow64_lt _ (by omega))]
  · have h1 := pow64_lt (po % 64) (by omega)
    exact Nat.or_lt_two_pow (n := 64) (by omega) (by omega)
  · rw [Nat.testBit_or, Nat.testBit_two_pow]
    congr 1
    simp [eq_comm]
theorem word_clear (x po : Nat) (hx : x < 18446744073709551616) : ∃ y : Nat, bits .andNot .u64 (x : Int) (bitV po) = (y : Int) ∧ y < 18446744073709551616 ∧ ∀ k, k < 64 → y.testBit k = (x.testBit k && !decide (k = po % 64)) := by
  have h1 := pow64_lt (po % 64) (by omega)
  refine ⟨x &&& (18446744073709551615 - 2 ^ (po % 64)), ?_, ?_, fun k hk => ?_⟩
  · rw [bitV_eq, u64_andNot_nat x _ hx h1]
  · exact Nat.lt_of_le_of_lt Nat.and_le_left hx
  · rw [Nat.testBit_and]
    congr 1
    rw [show 18446744073709551615 - 2 ^ (po % 64) = 2 ^ 64 - (2 ^ (po % 64) + 1) by omega, Nat.testBit_two_pow_sub_succ (by omega), Nat.testBit_two_pow]
    simp [hk, eq_comm]

set_option maxHeartbeats 1000000 in
theorem at_none (bp bm : Nat) (n pr ip : Int) (po : Nat) (w : World) (c0 : w.cell? ⟨bp, 0, none⟩ = some (.map (some bm))) (hb : bp < w.heap.size)
    (hl : ∀ W, W.heap[bm]? = w.heap[bm]? → (Instr.lookup 74 (.map (some bm)) (KeyV pr ip) false).run Try.prog W = .ok (.pointer none) W) (hbm : bm < w.heap.size) :
    Calls Try.prog 32 #[.pointer (some ⟨bp, 0, none⟩), .int .u8 pr, .agg #[.int .u32 ip, .int .u16 (po : Int)]] w fun e w' => e = .returned (.tuple #[.pointer none, .int .u64 0]) ∧ Turn (fun _ => False) w w' := by
  have hl' : ∀ m, (Instr.lookup 74 (.map (some bm)) (.agg #[.int .u8 pr, .int .u32 ip]) false).run Try.prog ((w.alloc (.cells #[.int .u32 ip, .int .u16 (po : Int)] 45)).drewN m) = .ok (.pointer none) ((w.alloc (.cells #[.int .u32 ip, .int .u16 (po : Int)] 45)).drewN m) :=
    fun m => hl _ (by rw [block_drewN]; exact Below.heap_alloc _ _ _ hbm)
  have c0' : (w.alloc (.cells #[.int .u32 ip, .int .u16 (po : Int)] 45)).cell? ⟨bp, 0, none⟩ = some (.map (some bm)) := by
    rw [← c0]; exact World.cell?_of_block (w := w) (Below.heap_alloc _ _ _ hb)
  clear hl c0
  go_enter Try.func32, Try.ntmps32
  go_wp2
  go_quiet (fail)
  go_wp2
  go_ret2
  exact ⟨rfl, ((Turn.refl _ _).alloc _).drewN _⟩

set_option maxHeartbeats 1000000 in
theorem at_some (bp bm b : Nat) (n pr ip : Int) (po : Nat) (w : World) (c0 : w.cell? ⟨bp, 0, none⟩ = some (.map (some bm))) (hb : bp < w.heap.size) (hpo : po < 65536)
    (hl : ∀ W, W.heap[bm]? = w.heap[bm]? → (Instr.lookup 74 (.map (some bm)) (KeyV pr ip) false).run Try.prog W = .ok (PtrV b) W) (hbm : bm < w.heap.size) :
    Calls Try.prog 32 #[.pointer (some ⟨bp, 0, none⟩), .int .u8 pr, .agg #[.int .u32 ip, .int .u16 (po : Int)]] w fun e w' => e = .returned (.tuple #[.pointer (some ⟨b, po / 64, none⟩), .int .u64 (bitV po)]) ∧ Turn (fun _ => False) w w' := by
  have hl' : ∀ m, (Instr.lookup 74 (.map (some bm)) (.agg #[.int .u8 pr, .int .u32 ip]) false).run Try.prog ((w.alloc (.cells #[.int .u32 ip, .int .u16 (po : Int)] 45)).drewN m) = .ok (.pointer (some ⟨b, 0, none⟩)) ((w.alloc (.cells #[.int .u32 ip, .int .u16 (po : Int)] 45)).drewN m) :=
    fun m => hl _ (by rw [block_drewN]; exact Below.heap_alloc _ _ _ hbm)
  have c0' : (w.alloc (.cells #[.int .u32 ip, .int .u16 (po : Int)] 45)).cell? ⟨bp, 0, none⟩ = some (.map (some bm)) := by
    rw [← c0]; exact World.cell?_of_block (w := w) (Below.heap_alloc _ _ _ hb)
  clear hl c0
  go_enter Try.func32, Try.ntmps32
  go_wp2
  go_quiet (fail)
  go_wp2
  have g1 : (0 : Int) ≤ (po : Int) / 64 := by omega
  have g2 : (po : Int) / 64 < 1024 := by omega
  have g3 : (0 : Int) ≤ (po : Int) % 64 := by omega
  have g4 : (po : Int) % 64 < 64 := by omega
  go_quiet (fail)
  go_wp2
  go_ret2
  exact ⟨rfl, (((Turn.refl _ _).alloc _).drewN _).drewN _⟩

theorem PortsIs.word {w : World} {bp : Nat} {F : Nat → Prop} {h : Int → Int → Nat → Bool} {n : Int} {b : Nat} {g : Nat → Bool} (q : WordsAt w b g) {po : Nat} (hpo : po < 65536) :
    ∃ x : Nat, w.cell? ⟨b, po / 64, none⟩ = some (.int .u64 (x : Int)) ∧ w.frozen? ⟨b, po / 64, none⟩ = false ∧ x < 18446744073709551616 ∧ x.testBit (po % 64) = g po := by
  obtain ⟨C, h1, h2, h3⟩ := q
  obtain ⟨x, hx, hlt, hk⟩ := h3 (po / 64) (by omega)
  refine ⟨x, (cell_of_block h1 _).trans hx, free_of_block h1 _, hlt, ?_⟩
  rw [hk (po % 64) (by omega)]
  congr 1
  omega

set_option maxHeartbeats 1000000 in
theorem held_any (bp : Nat) (F : Nat → Prop) (h : Int → Int → Nat → Bool) (n pr ip : Int) (po : Nat) (w : World) (p : PortsIs w bp F h n) (h1 : W8 pr) (h2 : W32 ip) (hpo : po < 65536) :
    Calls Try.prog 30 #[.pointer (some ⟨bp, 0, none⟩), .int .u8 pr, .agg #[.int .u32 ip, .int .u16 (po : Int)]] w fun e w' => e = .returned (.bool (h pr ip po)) ∧ Turn (fun _ => False) w w' := by
  have t0 : Turn (fun _ => False) w (w.alloc (.cells #[.int .u32 ip, .int .u16 (po : Int)] 45)) := (Turn.refl _ _).alloc _
  have p1 := p.turn t0 (fun _ _ _ h => h)
  obtain ⟨bm, f, q1, q2, q3, q4, q5, q6, q7, q8⟩ := p1.ex
  have hlook := fun (W : World) (hW : W.heap[bm]? = (w.alloc (.cells #[.int .u32 ip, .int .u16 (po : Int)] 45)).heap[bm]?) => (q2.of_block hW).look h1 h2
  cases hf : f pr ip with
  | none =>
    rw [hf] at hlook
    have hh : h pr ip po = false := q6 pr ip hf po
    rw [hh]
    have hl := Lib.hid hlook
    have H1 := Lib.hid (And.intro q1 q2.lt)
    clear hlook q1 q2 q3 q4 q5 q6 q7 hf hh p p1
    go_enter Try.func30, Try.ntmps30
    go_wp2_with fail
    refine (at_none bp bm n pr ip po _ (cell_of_block H1.out.1 0) (block_lt H1.out.1) hl.out H1.out.2).mono ?_
    rintro e w1 ⟨rfl, t1⟩
    go_wp2_with fail
    go_ret
    exact ⟨rfl, t0.trans t1⟩
  | some b =>
    rw [hf] at hlook
    obtain ⟨r1, r2⟩ := q5 pr ip b hf
    have hl := Lib.hid hlook
    have H1 := Lib.hid (And.intro q1 q2.lt)
    have H2 := Lib.hid r2
    clear hlook q1 q2 q3 q4 q5 q6 q7 hf p p1 r2 r1
    go_enter Try.func30, Try.ntmps30
    go_wp2_with fail
    refine (at_some bp bm b n pr ip po _ (cell_of_block H1.out.1 0) (block_lt H1.out.1) hpo hl.out H1.out.2).mono ?_
    rintro e w1 ⟨rfl, t1⟩
    obtain ⟨x, x1, _, x3, x4⟩ := PortsIs.word (w := w1) (bp := bp) (F := F) (h := h) (n := n) (H2.out.turn t1 (fun h => h)) hpo
    have hw := word_test x po x3
    rw [x4] at hw
    clear x4
    go_wp2_with fail
    go_ret
    exact ⟨rfl, t0.trans t1⟩
end Go.Proofs.Ytpnobcffglohnaa
