/- ports.Ports.Hold. No condition but the numbers' bounds. -/
import Derived.Test.YtpnobcffglohnaaM1
namespace Go.Proofs.Ytpnobcffglohnaa
open Go.RowKit
set_option linter.unusedVariables false
set_option linter.unusedSimpArgs false

def hset (h : Int → Int → Nat → Bool) (pr ip : Int) (po : Nat) (v : Bool) : Int → Int → Nat → Bool := fun a b c => if a = pr ∧ b = ip ∧ c = po then v else h a b c

/-- What a call that turns the ports leaves. -/
def Turned (w : World) (bp : Nat) (F : Nat → Prop) (v : Value) (h : Int → Int → Nat → Bool) (n : Int) (e : Ending) (w' : World) : Prop :=
  e = .returned v ∧ ∃ F', PortsIs w' bp F' h n ∧ Turn F w w' ∧ ∀ k, F' k → F k ∨ w.heap.size ≤ k

/-- What PortsIs holds, its map and its blocks named. -/
def PortsAt (w : World) (bp : Nat) (F : Nat → Prop) (h : Int → Int → Nat → Bool) (n : Int) (bm : Nat) (f : Int → Int → Option Nat) : Prop :=
  w.heap[bp]? = some (.cells #[.map (some bm), .int .i64 n] 76 (0, 0)) ∧ MapIs w bm f ∧ F bp ∧ F bm ∧
    (∀ pr ip b, f pr ip = some b → F b ∧ WordsAt w b (h pr ip)) ∧
    (∀ pr ip, f pr ip = none → ∀ po, h pr ip po = false) ∧
    (∀ pr ip pr' ip' b, f pr ip = some b → f pr' ip' = some b → pr = pr' ∧ ip = ip') ∧ (∀ k, F k → k < w.heap.size)

theorem PortsAt.turn {w w' : World} {bp : Nat} {F G : Nat → Prop} {h : Int → Int → Nat → Bool} {n : Int} {bm : Nat} {f : Int → Int → Option Nat} (p : PortsAt w bp F h n bm f) (t : Turn G w w') (hG : ∀ k, k < w.heap.size → F k → ¬ G k) : PortsAt w' bp F h n bm f := by
  obtain ⟨h1, h2, h3, h4, h5, h6, h7, h8⟩ := p
  refine ⟨(t.block bp (block_lt h1) (hG _ (block_lt h1) h3)).trans h1, h2.of_block (t.block bm h2.lt (hG _ h2.lt h4)), h3, h4, fun pr ip b hb => ?_, h6, h7, fun k hk => Nat.lt_of_lt_of_le (h8 k hk) t.size⟩
  obtain ⟨q1, q2⟩ := h5 pr ip b hb
  exact ⟨q1, q2.turn t (hG _ q2.lt q1)⟩

theorem PortsAt.ne {w : World} {bp : Nat} {F : Nat → Prop} {h : Int → Int → Nat → Bool} {n : Int} {bm : Nat} {f : Int → Int → Option Nat} (p : PortsAt w bp F h n bm f) {pr ip : Int} {b : Nat} (hf : f pr ip = some b) : bp ≠ b ∧ bm ≠ b ∧ bm ≠ bp := by
  obtain ⟨h1, h2, h3, h4, h5, h6, h7, h8⟩ := p
  obtain ⟨_, C, hC, hs, _⟩ := h5 pr ip b hf
  obtain ⟨es, c, he, _⟩ := h2.ex
  refine ⟨fun e => ?_, fun e => ?_, fun e => ?_⟩
  · subst e; rw [h1] at hC; cases hC
  · subst e; rw [he] at hC; cases hC
  · subst e; rw [h1] at he; cases he

/-- A bit turned, and the count. -/
theorem PortsAt.bit {w : World} {bp : Nat} {F : Nat → Prop} {h : Int → Int → Nat → Bool} {n : Int} {bm : Nat} {f : Int → Int → Option Nat} (p : PortsAt w bp F h n bm f) {pr ip : Int} {b : Nat} (hf : f pr ip = some b)
    {po : Nat} (hpo : po < 65536) (v : Bool) (n' : Int) (x y : Nat) (hx : w.cell? ⟨b, po / 64, none⟩ = some (.int .u64 (x : Int))) (hy : y < 18446744073709551616) (hb : ∀ k, k < 64 → y.testBit k = if k = po % 64 then v else x.testBit k) :
    PortsAt ((w.setCell ⟨b, po / 64, none⟩ (.int .u64 (y : Int))).setCell ⟨bp, 1, none⟩ (.int .i64 n')) bp F (hset h pr ip po v) n' bm f := by
  obtain ⟨e1, e2, e3⟩ := p.ne hf
  obtain ⟨h1, h2, h3, h4, h5, h6, h7, h8⟩ := p
  have other : ∀ k, k ≠ b → k ≠ bp → ((w.setCell ⟨b, po / 64, none⟩ (.int .u64 (y : Int))).setCell ⟨bp, 1, none⟩ (.int .i64 n')).heap[k]? = w.heap[k]? := fun k k1 k2 =>
    (Below.heap_setCell _ _ _ _ k2).trans (Below.heap_setCell _ _ _ _ k1)
  refine ⟨?_, h2.of_block (other bm e2 e3), h3, h4, fun pr' ip' b' hb' => ?_, fun pr' ip' hn po' => ?_, h7, fun k hk => by simpa [World.setCell] using h8 k hk⟩
  · exact block_setCell ((Below.heap_setCell w ⟨b, po / 64, none⟩ _ bp e1).trans h1) 1 _
  · obtain ⟨q1, q2⟩ := h5 pr' ip' b' hb'
    refine ⟨q1, ?_⟩
    by_cases eb : b' = b
    · subst eb
      obtain ⟨rfl, rfl⟩ := h7 _ _ _ _ _ hb' hf
      obtain ⟨C, hC, hs, hw⟩ := q2
      refine ⟨C.setIfInBounds (po / 64) (.int .u64 (y : Int)), (Below.heap_setCell _ _ _ _ (Ne.symm e1)).trans (block_setCell hC _ _), by simpa using hs, fun j hj => ?_⟩
      by_cases ej : j = po / 64
      · subst ej
        refine ⟨y, by simp [hs, show po / 64 < 1024 by omega], hy, fun k hk => ?_⟩
        obtain ⟨x', hx', hlt, hk'⟩ := hw (po / 64) hj
        rw [cell_of_block hC, hx'] at hx
        have : x' = x := by
          simp only [Option.some.injEq, Value.int.injEq, true_and] at hx
          omega
        subst this
        rw [hb k hk]
        by_cases ek : k = po % 64
        · subst ek
          rw [if_pos rfl]
          unfold hset
          rw [if_pos ⟨rfl, rfl, by omega⟩]
        · rw [if_neg ek, hk' k hk]
          unfold hset
          rw [if_neg (by rintro ⟨_, _, e⟩; omega)]
      · obtain ⟨x', hx', hlt, hk'⟩ := hw j hj
        refine ⟨x', ?_, hlt, fun k hk => ?_⟩
        · rw [Array.getElem?_setIfInBounds, if_neg (by omega)]; exact hx'
        · rw [hk' k hk]
          unfold hset
          rw [if_neg (by rintro ⟨_, _, e⟩; omega)]
    · have e4 : b' ≠ bp := by
        rintro rfl
        obtain ⟨C, hC, hs, _⟩ := q2
        rw [h1] at hC; cases hC
      obtain ⟨C, hC, hs, hw⟩ := q2
      refine ⟨C, (other b' eb e4).trans hC, hs, fun j hj => ?_⟩
      obtain ⟨x', hx', hlt, hk'⟩ := hw j hj
      refine ⟨x', hx', hlt, fun k hk => ?_⟩
      rw [hk' k hk]
      unfold hset
      rw [if_neg]
      rintro ⟨rfl, rfl, _⟩
      rw [hf] at hb'
      exact eb (Option.some.inj hb').symm
  · unfold hset
    rw [if_neg, h6 _ _ hn]
    rintro ⟨rfl, rfl, _⟩
    rw [hf] at hn; cases hn

/-- A new block of nought. -/
theorem PortsAt.added {w : World} {bp : Nat} {F : Nat → Prop} {h : Int → Int → Nat → Bool} {n : Int} {bm : Nat} {f : Int → Int → Option Nat} (p : PortsAt w bp F h n bm f) {pr ip : Int} (hf : f pr ip = none)
    {w' : World} {b : Nat} (hb : w.heap.size ≤ b) (hz : w'.heap[b]? = some (.cells zeros 80 (0, 0))) (hm : MapIs w' bm (fun q i => if q = pr ∧ i = ip then some b else f q i)) (ho : ∀ k, k < w.heap.size → k ≠ bm → w'.heap[k]? = w.heap[k]?) :
    PortsAt w' bp (fun k => F k ∨ k = b) h n bm (fun q i => if q = pr ∧ i = ip then some b else f q i) := by
  obtain ⟨h1, h2, h3, h4, h5, h6, h7, h8⟩ := p
  have e3 : bp ≠ bm := by
    obtain ⟨es, c, he, _⟩ := h2.ex
    intro e; subst e; rw [h1] at he; cases he
  refine ⟨(ho bp (block_lt h1) e3).trans h1, hm, Or.inl h3, Or.inl h4, fun q i b' hb' => ?_, fun q i hn po => ?_, fun q i q' i' b' k1 k2 => ?_, fun k hk => ?_⟩
  · by_cases c : q = pr ∧ i = ip
    · simp only [if_pos c, Option.some.injEq] at hb'
      subst hb'
      obtain ⟨rfl, rfl⟩ := c
      refine ⟨Or.inr rfl, zeros, hz, by simp [zeros], fun j hj => ⟨0, by simp [zeros, hj], by decide, fun k _ => ?_⟩⟩
      rw [h6 _ _ hf]; simp
    · simp only [if_neg c] at hb'
      obtain ⟨q1, q2⟩ := h5 q i b' hb'
      refine ⟨Or.inl q1, ?_⟩
      obtain ⟨C, hC, hs, hw⟩ := q2
      have e : b' ≠ bm := by
        obtain ⟨es, c, he, _⟩ := h2.ex
        intro e; subst e; rw [hC] at he; cases he
      exact ⟨C, (ho b' (block_lt hC) e).trans hC, hs, hw⟩
  · by_cases c : q = pr ∧ i = ip
    · simp [if_pos c] at hn
    · simp only [if_neg c] at hn
      exact h6 q i hn po
  · have old : ∀ q i b'', f q i = some b'' → b'' < w.heap.size := fun q i b'' hh => (h5 q i b'' hh).2.lt
    by_cases c : q = pr ∧ i = ip
    · by_cases c' : q' = pr ∧ i' = ip
      · exact ⟨c.1.trans c'.1.symm, c.2.trans c'.2.symm⟩
      · simp only [if_pos c, if_neg c', Option.some.injEq] at k1 k2
        have := old _ _ _ k2; omega
    · by_cases c' : q' = pr ∧ i' = ip
      · simp only [if_neg c, if_pos c', Option.some.injEq] at k1 k2
        have := old _ _ _ k1; omega
      · simp only [if_neg c, if_neg c'] at k1 k2
        exact h7 _ _ _ _ _ k1 k2
  · have := block_lt hz
    rcases hk with hk | rfl
    · have := h8 k hk; omega
    · exact this

theorem drewN_size (w : World) (n : Nat) : (w.drewN n).heap.size = w.heap.size := by
  induction n with
  | zero => rfl
  | succ n ih => rw [← World.drew_drewN]; exact ih
theorem cell_alloc_drewN {w : World} {a : Addr} {v : Value} (h : w.cell? a = some v) (m : Nat) (o : Obj) : ((w.drewN m).alloc o).cell? a = w.cell? a := by
  refine World.cell?_of_block (w := w) ((Below.heap_alloc _ _ _ ?_).trans (block_drewN _ _ _))
  rw [drewN_size]
  obtain ⟨b, o, s⟩ := a
  exact cell_block_lt h

set_option maxHeartbeats 1000000 in
theorem hold_held (bp : Nat) (F : Nat → Prop) (h : Int → Int → Nat → Bool) (n pr ip : Int) (po : Nat) (w : World) (p : PortsIs w bp F h n) (h1 : W8 pr) (h2 : W32 ip) (hpo : po < 65536) (hh : h pr ip po = true) :
    Calls Try.prog 22 #[.pointer (some ⟨bp, 0, none⟩), .int .u8 pr, .agg #[.int .u32 ip, .int .u16 (po : Int)]] w fun e w' => e = .returned (.int .i64 121) ∧ Turn (fun _ => False) w w' := by
  have t0 : Turn (fun _ => False) w (w.alloc (.cells #[.int .u32 ip, .int .u16 (po : Int)] 45)) := (Turn.refl _ _).alloc _
  have p1 := p.turn t0 (fun _ _ _ h => h)
  have c := held_any bp F h n pr ip po _ p1 h1 h2 hpo
  rw [hh] at c
  have C := Lib.hid c
  clear c hh p p1
  go_enter Try.func22, Try.ntmps22
  go_wp2_with fail
  refine C.out.mono ?_
  rintro e w1 ⟨rfl, t1⟩
  go_wp2_with fail
  go_ret
  exact ⟨rfl, t0.trans t1⟩

theorem setMap_size (w : World) (bm : Nat) (es : Array MapEntry) (c : Nat) : (setMap w bm es c).heap.size = w.heap.size := by simp [setMap, ChangeMaps.setBlock]

/-- What stands behind 'p.held[k] = new': all that the rest wants. -/
theorem PortsAt.behind {w W : World} {bp : Nat} {F : Nat → Prop} {h : Int → Int → Nat → Bool} {n : Int} {bm : Nat} {f : Int → Int → Option Nat} (p : PortsAt w bp F h n bm f) (t : Turn (fun _ => False) w W) {pr ip : Int} (hf : f pr ip = none)
    {es : Array MapEntry} {c m : Nat} (hm : MapIs (setMap ((W.drewN m).alloc (.cells zeros 80)) bm es c) bm (fun q i => if q = pr ∧ i = ip then some W.heap.size else f q i)) :
    ∃ F', PortsAt (setMap ((W.drewN m).alloc (.cells zeros 80)) bm es c) bp F' h n bm (fun q i => if q = pr ∧ i = ip then some W.heap.size else f q i) ∧
      Turn F w (setMap ((W.drewN m).alloc (.cells zeros 80)) bm es c) ∧ (∀ k, F' k → F k ∨ w.heap.size ≤ k) ∧
      ∀ k, k < W.heap.size → k ≠ bm → (setMap ((W.drewN m).alloc (.cells zeros 80)) bm es c).heap[k]? = W.heap[k]? := by
  have pW := p.turn t (fun _ _ _ h => h)
  have hsz : ((W.drewN m).alloc (.cells zeros 80)).heap.size = W.heap.size + 1 := by simp [drewN_size]
  have hbm : bm < W.heap.size := pW.2.1.lt
  have t1 := setMap_turn ((W.drewN m).alloc (.cells zeros 80)) bm es c (by omega)
  have old : ∀ k, k < W.heap.size → k ≠ bm → (setMap ((W.drewN m).alloc (.cells zeros 80)) bm es c).heap[k]? = W.heap[k]? := fun k hk hne =>
    (t1.block k (by omega) hne).trans ((Below.heap_alloc _ _ _ (by rw [drewN_size]; exact hk)).trans (block_drewN _ _ _))
  have hz : (setMap ((W.drewN m).alloc (.cells zeros 80)) bm es c).heap[W.heap.size]? = some (.cells zeros 80 (0, 0)) := by
    refine (t1.block W.heap.size (by omega) (by omega)).trans ?_
    have := block_alloc_new (W.drewN m) (.cells zeros 80)
    rwa [drewN_size] at this
  refine ⟨_, pW.added hf (Nat.le_refl _) hz hm old, ?_, ?_, old⟩
  · have t2 : Turn F w ((W.drewN m).alloc (.cells zeros 80)) := ((t.mono (fun _ _ h => h.elim)).drewN m).alloc _
    exact t2.trans2 t1 (fun i _ e => by subst e; exact p.2.2.2.1)
  · rintro k (hk | rfl)
    · exact Or.inl hk
    · exact Or.inr t.size

set_option maxHeartbeats 2000000 in
theorem hold_new (bp : Nat) (F : Nat → Prop) (h : Int → Int → Nat → Bool) (n pr ip : Int) (po : Nat) (w : World) (h1 : W8 pr) (h2 : W32 ip) (hpo : po < 65536) (hh : h pr ip po = false)
    (bm : Nat) (f : Int → Int → Option Nat) (q : PortsAt w bp F h n bm f) (hf : f pr ip = none) (hn : 0 ≤ n) (hn' : n < 4611686018427387904) :
    Calls Try.prog 22 #[.pointer (some ⟨bp, 0, none⟩), .int .u8 pr, .agg #[.int .u32 ip, .int .u16 (po : Int)]] w (Turned w bp F (.int .i64 0) (hset h pr ip po true) (n + 1)) := by
  have t0 : Turn (fun _ => False) w (w.alloc (.cells #[.int .u32 ip, .int .u16 (po : Int)] 45)) := (Turn.refl _ _).alloc _
  have c := held_any bp F h n pr ip po _ ⟨bm, f, q.turn t0 (fun _ _ _ h => h)⟩ h1 h2 hpo
  rw [hh] at c
  have C := Lib.hid c
  have Q := Lib.hid (And.intro q hf)
  have N := Lib.hid (And.intro h1 (And.intro h2 hpo))
  clear c hh q h1 h2 hf
  go_enter Try.func22, Try.ntmps22
  go_wp2_with fail
  refine C.out.mono ?_
  rintro e w1 ⟨rfl, t1⟩
  have T := Lib.hid (t0.trans t1)
  have b0 : w1.cell? ⟨w.heap.size, 0, none⟩ = some (.int .u32 ip) := (World.cell?_of_block (t1.block _ (by simp) (fun h => h))).trans (cell_of_block (block_alloc_new _ _) 0)
  have b1 : w1.cell? ⟨w.heap.size, 1, none⟩ = some (.int .u16 (po : Int)) := (World.cell?_of_block (t1.block _ (by simp) (fun h => h))).trans (cell_of_block (block_alloc_new _ _) 1)
  have hs : w.heap.size < w1.heap.size := by have := t1.size; simp at this; omega
  clear t0 t1 C
  obtain ⟨W, hW⟩ : ∃ W, W = w1.alloc (.cells #[.int .u8 pr, .int .u32 ip] 78) := ⟨_, rfl⟩
  have T2 : Hid (Turn (fun _ => False) w W) := by rw [hW]; exact Lib.hid (T.out.alloc _)
  have k0 : W.cell? ⟨bp, 0, none⟩ = some (.map (some bm)) := (World.cell?_of_block (T2.out.block _ (block_lt Q.out.1.1) (fun h => h))).trans (cell_of_block Q.out.1.1 0)
  have k1 : W.cell? ⟨w1.heap.size, 0, none⟩ = some (.int .u8 pr) := by rw [hW]; exact cell_of_block (block_alloc_new _ _) 0
  have k2 : W.cell? ⟨w1.heap.size, 1, none⟩ = some (.int .u32 ip) := by rw [hW]; exact cell_of_block (block_alloc_new _ _) 1
  have b0' : W.cell? ⟨w.heap.size, 0, none⟩ = some (.int .u32 ip) := by rw [hW]; exact (World.cell?_of_block (w := w1) (Below.heap_alloc _ _ _ hs)).trans b0
  have b1' : W.cell? ⟨w.heap.size, 1, none⟩ = some (.int .u16 (po : Int)) := by rw [hW]; exact (World.cell?_of_block (w := w1) (Below.heap_alloc _ _ _ hs)).trans b1
  have hs' : w.heap.size < W.heap.size := by rw [hW]; simp; omega
  have hl : ∀ m, (Instr.lookup 74 (.map (some bm)) (.agg #[.int .u8 pr, .int .u32 ip]) false).run Try.prog (W.drewN m) = .ok (.pointer none) (W.drewN m) := fun m => by
    have := (Q.out.1.2.1.of_block (w' := W.drewN m) (by rw [block_drewN]; exact T2.out.block _ Q.out.1.2.1.lt (fun h => h))).look N.out.1 N.out.2.1
    rw [Q.out.2] at this
    exact this
  go_wp2_with fail
  rw [← hW]
  clear hW b0 b1
  go_wp2_with fail
  go_quiet (fail)
  go_wp2_with fail
  have hz := zero80
  obtain ⟨es, c, hput⟩ := (Q.out.1.2.1.of_block (w' := W) (T2.out.block _ Q.out.1.2.1.lt (fun h => h))).put N.out.1 N.out.2.1 Q.out.2 W.heap.size
  have hbm : bm < W.heap.size := Nat.lt_of_lt_of_le Q.out.1.2.1.lt T2.out.size
  have HP := Lib.hid hput
  clear hput hl
  have hu : ∀ m, (Instr.mapUpdate 74 (.map (some bm)) (.agg #[.int .u8 pr, .int .u32 ip]) (.pointer (some ⟨W.heap.size, 0, none⟩))).run Try.prog ((W.drewN m).alloc (.cells zeros 80)) = .ok () (setMap ((W.drewN m).alloc (.cells zeros 80)) bm es c) := fun m =>
    (HP.out _ ((Below.heap_alloc _ _ _ (by rw [drewN_size]; exact hbm)).trans (block_drewN _ _ _))).1
  have a0 : ∀ m, ((W.drewN m).alloc (.cells zeros 80)).cell? ⟨bp, 0, none⟩ = some (.map (some bm)) := fun m => (cell_alloc_drewN k0 m _).trans k0
  have a1 : ∀ m, ((W.drewN m).alloc (.cells zeros 80)).cell? ⟨w1.heap.size, 0, none⟩ = some (.int .u8 pr) := fun m => (cell_alloc_drewN k1 m _).trans k1
  have a2 : ∀ m, ((W.drewN m).alloc (.cells zeros 80)).cell? ⟨w1.heap.size, 1, none⟩ = some (.int .u32 ip) := fun m => (cell_alloc_drewN k2 m _).trans k2
  go_region
  clear hu a0 a1 a2 hz
  obtain ⟨F', r1, r2, r3, r4⟩ := Q.out.1.behind T2.out Q.out.2 (HP.out ((W.drewN (nq + 1)).alloc (.cells zeros 80)) ((Below.heap_alloc _ _ _ (by rw [drewN_size]; exact hbm)).trans (block_drewN _ _ _))).2
  have d0 := (World.cell?_of_block (w' := setMap ((W.drewN (nq + 1)).alloc (.cells zeros 80)) bm es c) (w := W) (a := ⟨w.heap.size, 0, none⟩) (r4 _ hs' (Nat.ne_of_gt Q.out.1.2.1.lt))).trans b0'
  have d1 := (World.cell?_of_block (w' := setMap ((W.drewN (nq + 1)).alloc (.cells zeros 80)) bm es c) (w := W) (a := ⟨w.heap.size, 1, none⟩) (r4 _ hs' (Nat.ne_of_gt Q.out.1.2.1.lt))).trans b1'
  clear HP r4 k0 k1 k2 b0' b1' T T2 hbm
  generalize setMap ((W.drewN (nq + 1)).alloc (.cells zeros 80)) bm es c = Y at *
  generalize W.heap.size = b at *
  have hfb : (fun q i => if q = pr ∧ i = ip then some b else f q i) pr ip = some b := if_pos ⟨rfl, rfl⟩
  have HF := Lib.hid hfb
  clear hfb
  generalize (fun q i => if q = pr ∧ i = ip then some b else f q i) = f' at *
  have R1 := Lib.hid r1
  clear r1
  have hY : Y.heap.size ≤ Y.heap.size := Nat.le_refl _
  have hYF := Lib.hid (And.intro r2 r3)
  clear r2 r3
  have hlook : ∀ V : World, V.heap[bm]? = Y.heap[bm]? → (Instr.lookup 74 (.map (some bm)) (KeyV pr ip) false).run Try.prog V = .ok (PtrV b) V := fun V hV => by
    have := (R1.out.2.1.of_block hV).look N.out.1 N.out.2.1
    rw [HF.out] at this
    exact this
  have HL := Lib.hid hlook
  clear hlook
  go_wp2_with fail
  refine (at_some bp bm b n pr ip po _ (cell_of_block R1.out.1 0) (block_lt R1.out.1) hpo HL.out R1.out.2.1.lt).mono ?_
  rintro e w3 ⟨rfl, t3⟩
  have R3 := Lib.hid (R1.out.turn t3 (fun _ _ _ h => h))
  have T3 := Lib.hid t3
  clear HL t3
  obtain ⟨x, x1, x2, x3, x4⟩ := PortsIs.word (w := w3) (bp := bp) (F := F) (h := h) (n := n) (R3.out.2.2.2.2.1 pr ip b HF.out).2 hpo
  obtain ⟨y, hy, y1, y2⟩ := word_or x po x3
  have hne := (R3.out.ne HF.out).1
  have n0 : ∀ v, (w3.setCell ⟨b, po / 64, none⟩ v).cell? ⟨bp, 1, none⟩ = some (.int .i64 n) := fun v =>
    (World.cell?_of_block (w := w3) (Below.heap_setCell _ _ _ _ hne)).trans (cell_of_block R3.out.1 1)
  have n1 : w3.frozen? ⟨bp, 1, none⟩ = false := free_of_block R3.out.1 1
  have X := Lib.hid (And.intro x1 (And.intro y1 y2))
  clear y1 y2 x3 x4 d0 d1 hY
  go_wp2_with fail
  go_ret
  have fin := R3.out.bit HF.out hpo true (n + 1) x y X.out.1 X.out.2.1 (fun k hk => by rw [X.out.2.2 k hk]; by_cases e : k = po % 64 <;> simp [e])
  refine ⟨rfl, F', ⟨bm, f', fin⟩, ?_, hYF.out.2⟩
  exact ((hYF.out.1.trans (T3.out.mono (fun _ _ h => h.elim))).setCell (p := ⟨b, po / 64, none⟩) _ (fun hb => absurd hs' (Nat.not_lt.2 (Nat.le_of_lt hb)))).setCell (p := ⟨bp, 1, none⟩) _ (fun _ => Q.out.1.2.2.1)

set_option maxHeartbeats 2000000 in
theorem hold_some (bp : Nat) (F : Nat → Prop) (h : Int → Int → Nat → Bool) (n pr ip : Int) (po : Nat) (w : World) (h1 : W8 pr) (h2 : W32 ip) (hpo : po < 65536) (hh : h pr ip po = false)
    (bm b : Nat) (f : Int → Int → Option Nat) (q : PortsAt w bp F h n bm f) (hf : f pr ip = some b) (hn : 0 ≤ n) (hn' : n < 4611686018427387904) :
    Calls Try.prog 22 #[.pointer (some ⟨bp, 0, none⟩), .int .u8 pr, .agg #[.int .u32 ip, .int .u16 (po : Int)]] w (Turned w bp F (.int .i64 0) (hset h pr ip po true) (n + 1)) := by
  have t0 : Turn (fun _ => False) w (w.alloc (.cells #[.int .u32 ip, .int .u16 (po : Int)] 45)) := (Turn.refl _ _).alloc _
  have c := held_any bp F h n pr ip po _ ⟨bm, f, q.turn t0 (fun _ _ _ h => h)⟩ h1 h2 hpo
  rw [hh] at c
  have C := Lib.hid c
  have Q := Lib.hid (And.intro q hf)
  have N := Lib.hid (And.intro h1 (And.intro h2 hpo))
  clear c hh q h1 h2 hf
  go_enter Try.func22, Try.ntmps22
  go_wp2_with fail
  refine C.out.mono ?_
  rintro e w1 ⟨rfl, t1⟩
  have T := Lib.hid (t0.trans t1)
  have b0 : w1.cell? ⟨w.heap.size, 0, none⟩ = some (.int .u32 ip) := (World.cell?_of_block (t1.block _ (by simp) (fun h => h))).trans (cell_of_block (block_alloc_new _ _) 0)
  have b1 : w1.cell? ⟨w.heap.size, 1, none⟩ = some (.int .u16 (po : Int)) := (World.cell?_of_block (t1.block _ (by simp) (fun h => h))).trans (cell_of_block (block_alloc_new _ _) 1)
  have hs : w.heap.size < w1.heap.size := by have := t1.size; simp at this; omega
  clear t0 t1 C
  obtain ⟨W, hW⟩ : ∃ W, W = w1.alloc (.cells #[.int .u8 pr, .int .u32 ip] 78) := ⟨_, rfl⟩
  have T2 : Hid (Turn (fun _ => False) w W) := by rw [hW]; exact Lib.hid (T.out.alloc _)
  have k0 : W.cell? ⟨bp, 0, none⟩ = some (.map (some bm)) := (World.cell?_of_block (T2.out.block _ (block_lt Q.out.1.1) (fun h => h))).trans (cell_of_block Q.out.1.1 0)
  have k1 : W.cell? ⟨w1.heap.size, 0, none⟩ = some (.int .u8 pr) := by rw [hW]; exact cell_of_block (block_alloc_new _ _) 0
  have k2 : W.cell? ⟨w1.heap.size, 1, none⟩ = some (.int .u32 ip) := by rw [hW]; exact cell_of_block (block_alloc_new _ _) 1
  have b0' : W.cell? ⟨w.heap.size, 0, none⟩ = some (.int .u32 ip) := by rw [hW]; exact (World.cell?_of_block (w := w1) (Below.heap_alloc _ _ _ hs)).trans b0
  have b1' : W.cell? ⟨w.heap.size, 1, none⟩ = some (.int .u16 (po : Int)) := by rw [hW]; exact (World.cell?_of_block (w := w1) (Below.heap_alloc _ _ _ hs)).trans b1
  have hl : ∀ m, (Instr.lookup 74 (.map (some bm)) (.agg #[.int .u8 pr, .int .u32 ip]) false).run Try.prog (W.drewN m) = .ok (.pointer (some ⟨b, 0, none⟩)) (W.drewN m) := fun m => by
    have := (Q.out.1.2.1.of_block (w' := W.drewN m) (by rw [block_drewN]; exact T2.out.block _ Q.out.1.2.1.lt (fun h => h))).look N.out.1 N.out.2.1
    rw [Q.out.2] at this
    exact this
  go_wp2_with fail
  rw [← hW]
  clear hW b0 b1
  go_wp2_with fail
  go_quiet (fail)
  have R1 := Lib.hid (Q.out.1.turn (T2.out.drewN nq) (fun _ _ _ h => h))
  have TY := Lib.hid (T2.out.drewN nq)
  have d0 : (W.drewN nq).cell? ⟨w.heap.size, 0, none⟩ = some (.int .u32 ip) := (World.cell?_of_block (w := W) (block_drewN _ _ _)).trans b0'
  have d1 : (W.drewN nq).cell? ⟨w.heap.size, 1, none⟩ = some (.int .u16 (po : Int)) := (World.cell?_of_block (w := W) (block_drewN _ _ _)).trans b1'
  clear k0 k1 k2 b0' b1' T T2 hl
  generalize W.drewN nq = Y at *
  have hlook : ∀ V : World, V.heap[bm]? = Y.heap[bm]? → (Instr.lookup 74 (.map (some bm)) (KeyV pr ip) false).run Try.prog V = .ok (PtrV b) V := fun V hV => by
    have := (R1.out.2.1.of_block hV).look N.out.1 N.out.2.1
    rw [Q.out.2] at this
    exact this
  have HL := Lib.hid hlook
  clear hlook
  go_wp2_with fail
  refine (at_some bp bm b n pr ip po _ (cell_of_block R1.out.1 0) (block_lt R1.out.1) hpo HL.out R1.out.2.1.lt).mono ?_
  rintro e w3 ⟨rfl, t3⟩
  have R3 := Lib.hid (R1.out.turn t3 (fun _ _ _ h => h))
  have T3 := Lib.hid t3
  clear HL t3
  obtain ⟨x, x1, x2, x3, x4⟩ := PortsIs.word (w := w3) (bp := bp) (F := F) (h := h) (n := n) (R3.out.2.2.2.2.1 pr ip b Q.out.2).2 hpo
  obtain ⟨y, hy, y1, y2⟩ := word_or x po x3
  have hne := (R3.out.ne Q.out.2).1
  have n0 : ∀ v, (w3.setCell ⟨b, po / 64, none⟩ v).cell? ⟨bp, 1, none⟩ = some (.int .i64 n) := fun v =>
    (World.cell?_of_block (w := w3) (Below.heap_setCell _ _ _ _ hne)).trans (cell_of_block R3.out.1 1)
  have n1 : w3.frozen? ⟨bp, 1, none⟩ = false := free_of_block R3.out.1 1
  have X := Lib.hid (And.intro x1 (And.intro y1 y2))
  clear y1 y2 x3 x4 d0 d1
  go_wp2_with fail
  go_ret
  have fin := R3.out.bit Q.out.2 hpo true (n + 1) x y X.out.1 X.out.2.1 (fun k hk => by rw [X.out.2.2 k hk]; by_cases e : k = po % 64 <;> simp [e])
  refine ⟨rfl, F, ⟨bm, f, fin⟩, ?_, fun k hk => Or.inl hk⟩
  exact (((TY.out.mono (fun _ _ h => h.elim)).trans (T3.out.mono (fun _ _ h => h.elim))).setCell (p := ⟨b, po / 64, none⟩) _ (fun _ => (Q.out.1.2.2.2.2.1 pr ip b Q.out.2).1)).setCell (p := ⟨bp, 1, none⟩) _ (fun _ => Q.out.1.2.2.1)

/-- Hold, where the point is free. -/
theorem hold_free (bp : Nat) (F : Nat → Prop) (h : Int → Int → Nat → Bool) (n pr ip : Int) (po : Nat) (w : World) (p : PortsIs w bp F h n) (h1 : W8 pr) (h2 : W32 ip) (hpo : po < 65536) (hh : h pr ip po = false) (hn : 0 ≤ n) (hn' : n < 4611686018427387904) :
    Calls Try.prog 22 #[.pointer (some ⟨bp, 0, none⟩), .int .u8 pr, .agg #[.int .u32 ip, .int .u16 (po : Int)]] w (Turned w bp F (.int .i64 0) (hset h pr ip po true) (n + 1)) := by
  obtain ⟨bm, f, q⟩ := p.ex
  cases hf : f pr ip with
  | none => exact hold_new bp F h n pr ip po w h1 h2 hpo hh bm f q hf hn hn'
  | some b => exact hold_some bp F h n pr ip po w h1 h2 hpo hh bm b f q hf hn hn'
end Go.Proofs.Ytpnobcffglohnaa
