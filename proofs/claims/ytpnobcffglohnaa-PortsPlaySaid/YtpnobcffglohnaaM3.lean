/- ports.Ports: New, Count, Free. No condition but the numbers' bounds. -/
import Derived.Test.YtpnobcffglohnaaM2
namespace Go.Proofs.Ytpnobcffglohnaa
open Go.RowKit
set_option linter.unusedVariables false
set_option linter.unusedSimpArgs false

theorem two_alloc (w : World) : PortsIs ((w.alloc (.map #[] 0)).alloc (.cells #[.map (some w.heap.size), .int .i64 0] 76)) (w.heap.size + 1) (fun k => k = w.heap.size ∨ k = w.heap.size + 1) (fun _ _ _ => false) 0 := by
  have h := block_alloc_new (w.alloc (.map #[] 0)) (.cells #[.map (some w.heap.size), .int .i64 0] 76)
  have e : (w.alloc (.map #[] 0)).heap.size = w.heap.size + 1 := by simp
  rw [e] at h
  refine ⟨w.heap.size, fun _ _ => none, h, ?_, Or.inr rfl, Or.inl rfl, by simp, by simp, by simp, fun k hk => by simp; omega⟩
  exact (MapIs.made w).of_block (Below.heap_alloc _ _ _ (by rw [e]; omega))

set_option maxHeartbeats 400000 in
theorem pnew_any (w : World) :
    Calls Try.prog 20 #[] w fun e w' => e = .returned (.pointer (some ⟨w.heap.size + 1, 0, none⟩)) ∧ PortsIs w' (w.heap.size + 1) (fun k => k = w.heap.size ∨ k = w.heap.size + 1) (fun _ _ _ => false) 0 ∧ Turn (fun _ => False) w w' := by
  have hmm := @run_makeMap Try.prog
  go_enter Try.func20, Try.ntmps20
  go_wp2
  go_ret
  refine ⟨?_, ?_, ((Turn.refl _ _).alloc _).alloc _⟩
  · simp
  · exact two_alloc w

set_option maxHeartbeats 400000 in
theorem count_any (bp : Nat) (F : Nat → Prop) (h : Int → Int → Nat → Bool) (n : Int) (w : World) (p : PortsIs w bp F h n) :
    Calls Try.prog 29 #[.pointer (some ⟨bp, 0, none⟩)] w fun e w' => e = .returned (.int .i64 n) ∧ w = w' := by
  obtain ⟨bm, f, q, _⟩ := p.ex
  have c1 : w.cell? ⟨bp, 1, none⟩ = some (.int .i64 n) := cell_of_block q 1
  clear q p
  go_enter Try.func29, Try.ntmps29
  go_wp2
  go_ret
  exact ⟨rfl, rfl⟩

set_option maxHeartbeats 1000000 in
theorem free_no (bp : Nat) (F : Nat → Prop) (h : Int → Int → Nat → Bool) (n pr ip : Int) (po : Nat) (w : World) (p : PortsIs w bp F h n) (h1 : W8 pr) (h2 : W32 ip) (hpo : po < 65536) (hh : h pr ip po = false) :
    Calls Try.prog 27 #[.pointer (some ⟨bp, 0, none⟩), .int .u8 pr, .agg #[.int .u32 ip, .int .u16 (po : Int)]] w fun e w' => e = .returned (.int .i64 121) ∧ Turn (fun _ => False) w w' := by
  have t0 : Turn (fun _ => False) w (w.alloc (.cells #[.int .u32 ip, .int .u16 (po : Int)] 45)) := (Turn.refl _ _).alloc _
  have p1 := p.turn t0 (fun _ _ _ h => h)
  have c := held_any bp F h n pr ip po _ p1 h1 h2 hpo
  rw [hh] at c
  have C := Lib.hid c
  clear c hh p p1
  go_enter Try.func27, Try.ntmps27
  go_wp2_with fail
  refine C.out.mono ?_
  rintro e w1 ⟨rfl, t1⟩
  go_wp2_with fail
  go_ret
  exact ⟨rfl, t0.trans t1⟩

set_option maxHeartbeats 2000000 in
theorem free_yes (bp : Nat) (F : Nat → Prop) (h : Int → Int → Nat → Bool) (n pr ip : Int) (po : Nat) (w : World) (p : PortsIs w bp F h n) (h1 : W8 pr) (h2 : W32 ip) (hpo : po < 65536) (hh : h pr ip po = true) (hn : 0 ≤ n) (hn' : n < 4611686018427387904) :
    Calls Try.prog 27 #[.pointer (some ⟨bp, 0, none⟩), .int .u8 pr, .agg #[.int .u32 ip, .int .u16 (po : Int)]] w (Turned w bp F (.int .i64 0) (hset h pr ip po false) (n - 1)) := by
  obtain ⟨bm, f, q⟩ := p.ex
  have q : PortsAt w bp F h n bm f := q
  obtain ⟨b, hf⟩ : ∃ b, f pr ip = some b := by
    cases hf : f pr ip with
    | none => rw [q.2.2.2.2.2.1 pr ip hf po] at hh; cases hh
    | some b => exact ⟨b, rfl⟩
  have t0 : Turn (fun _ => False) w (w.alloc (.cells #[.int .u32 ip, .int .u16 (po : Int)] 45)) := (Turn.refl _ _).alloc _
  have c := held_any bp F h n pr ip po _ (p.turn t0 (fun _ _ _ h => h)) h1 h2 hpo
  rw [hh] at c
  have C := Lib.hid c
  have Q := Lib.hid (And.intro q hf)
  have N := Lib.hid (And.intro h1 (And.intro h2 hpo))
  clear c hh q h1 h2 hf p
  go_enter Try.func27, Try.ntmps27
  go_wp2_with fail
  refine C.out.mono ?_
  rintro e w1 ⟨rfl, t1⟩
  have T := Lib.hid (t0.trans t1)
  have d0 : w1.cell? ⟨w.heap.size, 0, none⟩ = some (.int .u32 ip) := (World.cell?_of_block (t1.block _ (by simp) (fun h => h))).trans (cell_of_block (block_alloc_new _ _) 0)
  have d1 : w1.cell? ⟨w.heap.size, 1, none⟩ = some (.int .u16 (po : Int)) := (World.cell?_of_block (t1.block _ (by simp) (fun h => h))).trans (cell_of_block (block_alloc_new _ _) 1)
  have R1 := Lib.hid (Q.out.1.turn T.out (fun _ _ _ h => h))
  clear t0 t1 C
  have hlook : ∀ V : World, V.heap[bm]? = w1.heap[bm]? → (Instr.lookup 74 (.map (some bm)) (KeyV pr ip) false).run Try.prog V = .ok (PtrV b) V := fun V hV => by
    have := (R1.out.2.1.of_block hV).look N.out.1 N.out.2.1
    rw [Q.out.2] at this
    exact this
  have HL := Lib.hid hlook
  clear hlook
  go_wp2_with fail
  refine (at_some bp bm b n pr ip po _ (cell_of_block R1.out.1 0) (block_lt R1.out.1) hpo HL.out R1.out.2.1.lt).mono ?_
  rintro e w3 ⟨rfl, t3⟩
  have R3 := Lib.hid (R1.out.turn t3 (fun _ _ _ h => h))
  have T3 := Lib.hid t3
  clear HL t3
  obtain ⟨x, x1, x2, x3, x4⟩ := PortsIs.word (w := w3) (bp := bp) (F := F) (h := h) (n := n) (R3.out.2.2.2.2.1 pr ip b Q.out.2).2 hpo
  obtain ⟨y, hy, y1, y2⟩ := word_clear x po x3
  have hne := (R3.out.ne Q.out.2).1
  have n0 : ∀ v, (w3.setCell ⟨b, po / 64, none⟩ v).cell? ⟨bp, 1, none⟩ = some (.int .i64 n) := fun v =>
    (World.cell?_of_block (w := w3) (Below.heap_setCell _ _ _ _ hne)).trans (cell_of_block R3.out.1 1)
  have n1 : w3.frozen? ⟨bp, 1, none⟩ = false := free_of_block R3.out.1 1
  have X := Lib.hid (And.intro x1 (And.intro y1 y2))
  clear y1 y2 x3 x4 d0 d1
  go_wp2_with fail
  go_ret
  have fin := R3.out.bit Q.out.2 hpo false (n - 1) x y X.out.1 X.out.2.1 (fun k hk => by rw [X.out.2.2 k hk]; by_cases e : k = po % 64 <;> simp [e])
  refine ⟨rfl, F, ⟨bm, f, fin⟩, ?_, fun k hk => Or.inl hk⟩
  exact (((T.out.mono (fun _ _ h => h.elim)).trans (T3.out.mono (fun _ _ h => h.elim))).setCell (p := ⟨b, po / 64, none⟩) _ (fun _ => (Q.out.1.2.2.2.2.1 pr ip b Q.out.2).1)).setCell (p := ⟨bp, 1, none⟩) _ (fun _ => Q.out.1.2.2.1)
end Go.Proofs.Ytpnobcffglohnaa
