/- PortsBack: the walk. No condition. -/
import Derived.Test.YtpnobcffglohnaaM5
import Derived.Maps.AppendAt
namespace Go.Proofs.Ytpnobcffglohnaa
open Go.RowKit
set_option linter.unusedVariables false
set_option linter.unusedSimpArgs false

theorem ownsRow_turn {w w' : World} {base : Nat} {e : TypeId} {size : Nat} {v : Value} {n : Nat} {xs : List Value} {F : Nat → Prop} (h : w.ownsRow base e size v n xs) (t : Turn F w w') (hF : ∀ g, v.ownBlock = some g → ¬ F g) : w'.ownsRow base e size v n xs := by
  obtain ⟨h1, h2 | ⟨g, cap, cur, rfl, h3, h4, h5⟩⟩ := h
  · exact ⟨h1, Or.inl h2⟩
  · exact ⟨h1, Or.inr ⟨g, cap, cur, rfl, h3, (t.block g (block_lt h4) (hF g rfl)).trans h4, h5⟩⟩
theorem turn_of_grown {w w' : World} {row : Option Nat} (h : w.grownBy w' row) : Turn (fun k => row = some k) w w' :=
  ⟨h.os, h.tape, h.output, h.size, fun k hk hne => h.block k hk (fun e => hne e.symm)⟩

/-- Which points are held behind k rounds. -/
def HeldTo (h : Int → Int → Nat → Bool) (a k : Nat) (p1 p2 : Int) : Prop := ∀ pr ip po, h pr ip po = true ↔ (pr = p1 ∨ pr = p2) ∧ ip = 7 ∧ a ≤ po ∧ po < a + 2 * k ∧ po % 2 = a % 2
/-- The points that were given out. -/
def backCells (a k : Nat) : List Value := (List.range k).flatMap fun i => [.int .u32 7, .int .u16 ((a + 2 * i : Nat) : Int)]

theorem backCells_succ (a k : Nat) : backCells a (k + 1) = backCells a k ++ [.int .u32 7, .int .u16 ((a + 2 * k : Nat) : Int)] := by
  simp [backCells, List.range_succ]
theorem backCells_len (a k : Nat) : (backCells a k).length = k * 2 := by
  induction k with
  | zero => rfl
  | succ k ih => rw [backCells_succ]; simp [ih]; omega
theorem backCells_get (a k i : Nat) (hi : i < k) : (backCells a k)[i * 2]? = some (.int .u32 7) ∧ (backCells a k)[i * 2 + 1]? = some (.int .u16 ((a + 2 * i : Nat) : Int)) := by
  induction k with
  | zero => omega
  | succ k ih =>
    rw [backCells_succ]
    by_cases h : i < k
    · obtain ⟨h1, h2⟩ := ih h
      have hl := backCells_len a k
      rw [List.getElem?_append_left (by omega), List.getElem?_append_left (by omega)]
      exact ⟨h1, h2⟩
    · have hk : i = k := by omega
      subst hk
      have hl := backCells_len a i
      rw [List.getElem?_append_right (by omega), List.getElem?_append_right (by omega), hl]
      simp

theorem lo_bounds (want : Nat) : 1 ≤ tkLo 1 want ∧ tkLo 1 want ≤ 1025 ∧ tkLo 1 want + 60 ≤ tkHi 65535 want ∧ tkHi 65535 want ≤ 65535 := by
  unfold tkLo tkHi
  split <;> split <;> omega

theorem heldTo_next {h : Int → Int → Nat → Bool} {a k : Nat} (hh : HeldTo h a k 6 17) : HeldTo (hset (hset h 6 7 (a + 2 * k) true) 17 7 (a + 2 * k) true) a (k + 1) 6 17 := by
  intro pr ip po
  unfold hset
  have := hh pr ip po
  by_cases c1 : pr = 17 ∧ ip = 7 ∧ po = a + 2 * k
  · obtain ⟨rfl, rfl, rfl⟩ := c1
    simp
  · rw [if_neg c1]
    by_cases c2 : pr = 6 ∧ ip = 7 ∧ po = a + 2 * k
    · obtain ⟨rfl, rfl, rfl⟩ := c2
      simp
    · rw [if_neg c2, this]
      constructor
      · rintro ⟨q1, q2, q3, q4, q5⟩; exact ⟨q1, q2, q3, by omega, q5⟩
      · rintro ⟨q1, q2, q3, q4, q5⟩
        refine ⟨q1, q2, q3, ?_, q5⟩
        have : po ≠ a + 2 * k := fun e => by
          rcases q1 with q | q
          · exact c2 ⟨q, q2, e⟩
          · exact c1 ⟨q, q2, e⟩
        omega
theorem heldTo_free {h : Int → Int → Nat → Bool} {a k : Nat} (hh : HeldTo h a k 6 17) (pr : Int) : h pr 7 (a + 2 * k) = false := by
  cases hc : h pr 7 (a + 2 * k) with
  | false => rfl
  | true => have := (hh pr 7 (a + 2 * k)).1 hc; omega

/-- Take out of the pool [7], where what is held of the protocol is known. -/
theorem back_take (bp : Nat) (F : Nat → Prop) (h : Int → Int → Nat → Bool) (n pr : Int) (X want a j : Nat) (ha : a = tkLo 1 want) (w : World) (p : PortsIs w bp F h n) (h1 : W8 pr) (hwant : want < 65536) (hn : 0 ≤ n) (hn' : n < 4611686018427387904)
    (hP : PoolIs w F (some ⟨X, 0, none⟩) 1 (fun _ => 7)) (hj : j ≤ 29) (h0 : h pr 7 (a + 2 * j) = false) (hm : ∀ po, a ≤ po → po < a + 2 * j → po % 2 = a % 2 → h pr 7 po = true) :
    Calls Try.prog 21 #[.pointer (some ⟨bp, 0, none⟩), .int .u8 pr, .slice (some ⟨X, 0, none⟩) 1 1, .int .u16 1, .int .u16 65535, .int .u16 (want : Int)] w
      (Turned w bp F (.tuple #[.agg #[.int .u32 7, .int .u16 ((a + 2 * j : Nat) : Int)], .int .i64 0]) (hset h pr 7 (a + 2 * j) true) (n + 1)) := by
  subst ha
  obtain ⟨l0, l1, l2, l3⟩ := lo_bounds want
  exact ptake_first bp F h n pr (some ⟨X, 0, none⟩) 1 1 (fun _ => 7) 1 65535 want w p h1 (by decide) (by decide) hwant hn hn' (by decide) hP 0 (tkLo 1 want + 2 * j) (by decide) (by omega) (by omega) (by omega) h0
    (fun i r hi => by omega) (fun r q1 q2 q3 => hm r q1 q2 q3)

set_option maxRecDepth 100000 in
set_option maxHeartbeats 2000000 in
theorem back_walk (n k want : Nat) (w : World) (hn : n < 256) (hk : k < 256) (hwant : want < 65536) :
    Calls Try.prog 9 #[.int .u8 (n : Int), .int .u8 (k : Int), .int .u16 (want : Int)] w fun e w' => e = .returned (.bool true) ∧ Below w.heap.size w w' := by
  obtain ⟨l0, l1, l2, l3⟩ := lo_bounds want
  obtain ⟨i0, hi, hz0, hz1, hz2⟩ := info_parts (show (Try.prog.info? 45).map (fun i => (i.zero, i.size, i.bytes)) = some (some (.agg #[.int .u32 0, .int .u16 0]), 2, 8) by kernel_rfl)
  go_enter Try.func9, Try.ntmps9
  go_wp2_with fail
  refine (known17 _).mono ?_; rintro e wk ⟨rfl, tk⟩
  go_wp2_with fail
  refine (pnew_any _).mono ?_; rintro e w0 ⟨rfl, p0, t0⟩
  obtain ⟨F0, hF0⟩ : ∃ F0 : Nat → Prop, F0 = fun k => k = wk.heap.size ∨ k = wk.heap.size + 1 := ⟨_, rfl⟩
  rw [← hF0] at p0
  have o0 : ∀ k, F0 k → w.heap.size ≤ k := fun k hk => by have := tk.size; rw [hF0] at hk; omega
  have B0 : Below w.heap.size w w0 := t0.onto tk (Nat.le_refl _) (fun _ _ h => h)
  clear hF0 t0 tk
  generalize wk.heap.size + 1 = bp at *
  generalize hBe : w.heap.size = B at *
  have HB := Lib.hid hBe
  clear hBe
  go_wp2_with fail
  obtain ⟨a, ha⟩ : ∃ a, a = tkLo 1 want := ⟨_, rfl⟩
  rw [← ha] at l0 l1 l2
  have HA := Lib.hid ha
  clear ha
  go_loopw [8, 9] (fun v i wr => ∃ (k : Nat) (F : Nat → Prop) (h : Int → Int → Nat → Bool), k ≤ n % 20 + 1 ∧ i = .int .i64 k ∧ PortsIs wr bp F h (2 * k) ∧ Hid (∀ x, F x → B ≤ x) ∧ HeldTo h a k 6 17 ∧ wr.ownsRow B 45 2 v k (backCells a k) ∧
      Hid (∀ g, v.ownBlock = some g → ¬ F g) ∧ Below B w wr) (fun _ i _ => n % 20 + 1 - (intOf i).toNat)
  case atStart => exact ⟨0, F0, _, by omega, rfl, p0, o0, fun pr ip po => by simp; omega, World.ownsRow_nil _ _ _ _, fun g hg => by simp [Value.ownBlock] at hg, B0⟩
  case round =>
    clear p0 o0 B0
    obtain ⟨j, F, h, hj, rfl, p, o, hh, hown, hF, hb⟩ := hrel
    by_cases hlt : j < n % 20 + 1
    · have hq := PoolIs.one p 7 w32_7
      have ow := hown.alloc (.cells #[.int .u32 7] 22)
      have hs : B ≤ wr.heap.size := by rw [← HB.out]; exact hb.size
      go_wp2_with fail
      refine (back_take bp F h _ 6 wr.heap.size want a j HA.out _ (p.alloc _) w8_6 hwant (by omega) (by omega) hq (by omega) (heldTo_free hh 6) (fun po q1 q2 q3 => (hh 6 7 po).2 ⟨Or.inl rfl, rfl, q1, q2, q3⟩)).mono ?_
      rintro e w1 ⟨rfl, F1, p1, t1, n1⟩
      have o1 := Own.next o.out (by simp; omega) n1
      have b1 : Below B w w1 := t1.onto (hb.alloc hs _) (by rw [← HB.out]; exact Nat.le_refl _) (fun i hi hf => by have := o.out i hf; omega)
      have s1 : wr.heap.size + 1 ≤ w1.heap.size := by have := t1.size; simpa using this
      have ow1 := ownsRow_turn ow t1 hF.out
      have hF1 : ∀ g, u8.ownBlock = some g → ¬ F1 g := fun g hg => nF_next (hF.out g hg) (by have := (ow.lt g hg).2; exact this) n1
      clear t1 n1 hq ow hown p hF o
      have nx := p1.nF (X := w1.heap.size) (Nat.le_refl _)
      obtain ⟨q, hq⟩ : ∃ q, q = a + 2 * j := ⟨_, rfl⟩
      rw [← hq] at p1 ⊢
      have HQ := Lib.hid hq
      clear hq
      have pa := p1.alloc (.cells #[.int .u32 7, .int .u16 (q : Int)] 45)
      have hq := PoolIs.one pa 7 w32_7
      rw [show (w1.alloc (.cells #[.int .u32 7, .int .u16 (q : Int)] 45)).heap.size = w1.heap.size + 1 by simp] at hq
      have ka : ((w1.alloc (.cells #[.int .u32 7, .int .u16 (q : Int)] 45)).alloc (.cells #[.int .u32 7] 22)).heap[w1.heap.size]? = some (.cells #[.int .u32 7, .int .u16 (q : Int)] 45 (0, 0)) := block_alloc_old (block_alloc_new _ _)
      have ow2 := (ow1.alloc (.cells #[.int .u32 7, .int .u16 (q : Int)] 45)).alloc (.cells #[.int .u32 7] 22)
      go_wp2_with fail
      have c2 := back_take bp F1 _ _ 17 (w1.heap.size + 1) want a j HA.out _ (pa.alloc (.cells #[.int .u32 7] 22)) w8_17 hwant (by omega) (by omega) hq (by omega) (by rw [← HQ.out]; unfold hset; rw [if_neg (by simp)]; rw [HQ.out]; exact heldTo_free hh 17)
        (fun po q1 q2 q3 => by unfold hset; rw [if_neg (by simp)]; exact (hh 17 7 po).2 ⟨Or.inr rfl, rfl, q1, q2, q3⟩)
      rw [← HQ.out] at c2
      refine c2.mono ?_
      clear c2
      rintro e w2 ⟨rfl, F2, p2, t2, n2⟩
      have o2 := Own.next o1 (by simp; omega) n2
      have b2 : Below B w w2 := t2.onto ((b1.alloc (by omega) _).alloc (by simp; omega) _) (by rw [← HB.out]; exact Nat.le_refl _) (fun i hi hf => by have := o1 i hf; omega)
      have s2 : w1.heap.size + 2 ≤ w2.heap.size := by have := t2.size; simpa using this
      have ow3 := ownsRow_turn ow2 t2 hF1
      have hF2 : ∀ g, u8.ownBlock = some g → ¬ F2 g := fun g hg => nF_next (hF1 g hg) (by have := (ow2.lt g hg).2; exact this) n2
      have ka2 := (t2.block _ (block_lt ka) nx).trans ka
      have c0 : w2.cell? ⟨w1.heap.size, 0, none⟩ = some (.int .u32 7) := cell_of_block ka2 0
      have c1 : w2.cell? ⟨w1.heap.size, 1, none⟩ = some (.int .u16 (q : Int)) := cell_of_block ka2 1
      clear t2 n2 hq ow1 ow2 pa ka p1 hF1 o1 ka2
      have hz : w1.heap.size < w2.heap.size := by omega
      have o5 := (ow3.alloc (.cells #[.int .u32 7, .int .u16 (q : Int)] 45)).alloc (.cells #[.int .u32 7, .int .u16 (q : Int)] 45)
      have k5 : ((w2.alloc (.cells #[.int .u32 7, .int .u16 (q : Int)] 45)).alloc (.cells #[.int .u32 7, .int .u16 (q : Int)] 45)).heap[w2.heap.size + 1]? = some (.cells #[.int .u32 7, .int .u16 (q : Int)] 45 (0, 0)) := by
        have := block_alloc_new (w2.alloc (.cells #[.int .u32 7, .int .u16 (q : Int)] 45)) (.cells #[.int .u32 7, .int .u16 (q : Int)] 45)
        simpa using this
      have pp := (p2.alloc (.cells #[.int .u32 7, .int .u16 (q : Int)] 45)).alloc (.cells #[.int .u32 7, .int .u16 (q : Int)] 45)
      have bb := (b2.alloc (by omega) (.cells #[.int .u32 7, .int .u16 (q : Int)] 45)).alloc (by simp; omega) (.cells #[.int .u32 7, .int .u16 (q : Int)] 45)
      have sz5 : ((w2.alloc (.cells #[.int .u32 7, .int .u16 (q : Int)] 45)).alloc (.cells #[.int .u32 7, .int .u16 (q : Int)] 45)).heap.size = w2.heap.size + 2 := by simp
      have S5 := Lib.hid sz5
      clear sz5
      go_wp2_with (at_builtin; refine wpList_append_own_at _ rfl _ _ 70 rfl B 45 i0 (.agg #[.int .u32 0, .int .u16 0]) 2 8 Try.underlying70 hi hz0 hz1 hz2 rfl (by decide) u8 _ _ rfl o5 ⟨w2.heap.size + 1, 0, none⟩ 1 1 [.int .u32 7, .int .u16 (q : Int)] rfl rfl ?c1 ?c2 ?c3 ?c4 ?c5 ?_)
      case c1 =>
        intro i u hu
        have hc := cell_of_block k5 i
        match i with
        | 0 => simp only [List.getElem?_cons_zero] at hu; rw [← hu]; exact hc
        | 1 => simp only [List.getElem?_cons_succ, List.getElem?_cons_zero] at hu; rw [← hu]; exact hc
        | i + 2 => simp at hu
      case c2 => intro u hu; simp at hu; rcases hu with rfl | rfl <;> rfl
      case c3 => unfold maxLen; omega
      case c4 => omega
      case c5 => have := S5.out; omega
      intro v' w' hown' hgrow _ hloc
      have tg := turn_of_grown hgrow
      have p6 := pp.turn tg (fun x _ hx e => hF2 x e hx)
      have b6 : Below B w w' := tg.onto bb (by rw [← HB.out]; exact Nat.le_refl _) (fun x hx e => by have := (ow3.lt x e).1; omega)
      have hF6 : ∀ g, v'.ownBlock = some g → ¬ F2 g := fun g hg hf => by
        rcases hloc with q | q
        · exact hF2 g (q ▸ hg) hf
        · rw [hg] at q
          have e := Option.some.inj q
          exact p2.nF (X := g) (by have := S5.out; omega) hf
      rw [HQ.out, ← backCells_succ] at hown'
      clear tg hgrow hloc pp bb o5 k5 ow3 hF2 p2 b2 c0 c1
      go_wp2_with fail
      go_roundw
      case rel =>
        rw [HQ.out] at p6
        exact ⟨j + 1, F2, _, by omega, by go_num, by rw [show (2 * ((j + 1 : Nat) : Int)) = 2 * (j : Int) + 1 + 1 by omega]; exact p6, o2, heldTo_next hh, hown', hF6, b6⟩
      case measure => simp [intOf]; omega
    · obtain ⟨g, cap, hv, hgb⟩ : ∃ g cap, u8 = .slice (some ⟨g, 0, none⟩) j cap ∧ B ≤ g := by
        rcases hown.2 with ⟨_, h0⟩ | ⟨g, cap, cur, h1, h2, _⟩
        · omega
        · exact ⟨g, cap, h1, h2⟩
      subst hv
      obtain ⟨m, hm⟩ : ∃ m, m = k % j := ⟨_, rfl⟩
      have hmj : m < j := by rw [hm]; exact Nat.mod_lt _ (by omega)
      obtain ⟨g0, g1⟩ := backCells_get a j m hmj
      have c0 := (hown.cellAt (m * 2) (by omega)).trans g0
      obtain ⟨q, hq⟩ : ∃ q, q = a + 2 * m := ⟨_, rfl⟩
      rw [← hq] at g1
      have c1 := (hown.cellAt (m * 2 + 1) (by omega)).trans g1
      have HQ := Lib.hid hq
      have hq1 : q < 65536 := by omega
      clear hq
      have e0 : ((k : Int) % (j : Int)) = (m : Int) := by rw [hm]; simp
      clear hm
      have hs : B ≤ wr.heap.size := by rw [← HB.out]; exact hb.size
      have HW : B ≤ w.heap.size := by rw [HB.out]; exact Nat.le_refl _
      have pa := p.alloc (.cells #[.int .u32 7, .int .u16 (q : Int)] 45)
      have ka : (wr.alloc (.cells #[.int .u32 7, .int .u16 (q : Int)] 45)).heap[wr.heap.size]? = some (.cells #[.int .u32 7, .int .u16 (q : Int)] 45 (0, 0)) := block_alloc_new _ _
      have ba := hb.alloc hs (.cells #[.int .u32 7, .int .u16 (q : Int)] 45)
      have h6 : h 6 7 q = true := (hh 6 7 q).2 ⟨Or.inl rfl, rfl, by have := HQ.out; omega, by have := HQ.out; omega, by have := HQ.out; omega⟩
      have h17 : h 17 7 q = true := (hh 17 7 q).2 ⟨Or.inr rfl, rfl, by have := HQ.out; omega, by have := HQ.out; omega, by have := HQ.out; omega⟩
      have nx := p.nF (X := wr.heap.size) (Nat.le_refl _)
      have hbelow : ∀ po, a ≤ po → po < a + 2 * m → po % 2 = a % 2 → h 6 7 po = true := fun po q1 q2 q3 => (hh 6 7 po).2 ⟨Or.inl rfl, rfl, q1, by omega, q3⟩
      have HH := Lib.hid (And.intro h6 (And.intro h17 hbelow))
      clear hbelow h6 h17 g0 g1 hown hF hb hh
      go_wp2_with fail
      refine (free_yes bp F h _ 6 7 q _ pa w8_6 w32_7 hq1 HH.out.1 (by omega) (by omega)).mono ?_
      rintro e w1 ⟨rfl, F1, p1, t1, n1⟩
      have b1 : Below B w w1 := t1.onto ba HW (fun i hi hf => by have := o.out i hf; omega)
      have o1 := Own.next o.out (by simp; omega) n1
      have k1 := (t1.block _ (block_lt ka) nx).trans ka
      have x1 := nF_next nx (block_lt ka) n1
      have d0 : w1.cell? ⟨wr.heap.size, 0, none⟩ = some (.int .u32 7) := cell_of_block k1 0
      have d1 : w1.cell? ⟨wr.heap.size, 1, none⟩ = some (.int .u16 (q : Int)) := cell_of_block k1 1
      have f6 : hset h 6 7 q false 6 7 q = false := by unfold hset; rw [if_pos ⟨rfl, rfl, rfl⟩]
      have f17 : hset h 6 7 q false 17 7 q = true := by unfold hset; rw [if_neg (by simp)]; exact HH.out.2.1
      clear t1 n1 pa ka ba nx p
      generalize hh1 : hset h 6 7 q false = h1 at *
      have H1 := Lib.hid (And.intro hh1 (And.intro f6 f17))
      clear hh1 f6 f17
      generalize wr.heap.size = X at *
      go_wp2_with fail
      refine (free_no bp F1 h1 _ 6 7 q _ p1 w8_6 w32_7 hq1 H1.out.2.1).mono ?_
      rintro e w2 ⟨rfl, t2⟩
      have p2 := p1.turn t2 (fun _ _ _ h => h)
      have b2 : Below B w w2 := t2.onto b1 HW (fun _ _ h => h)
      have k2 := (t2.block _ (block_lt k1) (fun h => h)).trans k1
      have d0 : w2.cell? ⟨X, 0, none⟩ = some (.int .u32 7) := cell_of_block k2 0
      have d1 : w2.cell? ⟨X, 1, none⟩ = some (.int .u16 (q : Int)) := cell_of_block k2 1
      clear t2 p1 b1 k1
      go_wp2_with fail
      refine (held_any bp F1 h1 _ 6 7 q _ p2 w8_6 w32_7 hq1).mono ?_
      rintro e w3 ⟨rfl, t3⟩
      rw [H1.out.2.1]
      have p3 := p2.turn t3 (fun _ _ _ h => h)
      have b3 : Below B w w3 := t3.onto b2 HW (fun _ _ h => h)
      have k3 := (t3.block _ (block_lt k2) (fun h => h)).trans k2
      have d0 : w3.cell? ⟨X, 0, none⟩ = some (.int .u32 7) := cell_of_block k3 0
      have d1 : w3.cell? ⟨X, 1, none⟩ = some (.int .u16 (q : Int)) := cell_of_block k3 1
      clear t3 p2 b2 k2
      go_wp2_with fail
      refine (held_any bp F1 h1 _ 17 7 q _ p3 w8_17 w32_7 hq1).mono ?_
      rintro e w4 ⟨rfl, t4⟩
      rw [H1.out.2.2]
      have p4 := p3.turn t4 (fun _ _ _ h => h)
      have b4 : Below B w w4 := t4.onto b3 HW (fun _ _ h => h)
      have k4 := (t4.block _ (block_lt k3) (fun h => h)).trans k3
      clear t4 p3 b3 k3
      go_wp2_with fail
      refine (count_any bp F1 h1 _ _ p4).mono ?_
      rintro e w5 ⟨rfl, rfl⟩
      go_wp2_with fail
      have hs4 : B ≤ w4.heap.size := by rw [← HB.out]; exact b4.size
      have c2 := back_take bp F1 h1 _ 6 w4.heap.size want a m HA.out _ (p4.alloc (.cells #[.int .u32 7] 22)) w8_6 hwant (by omega) (by omega) (PoolIs.one p4 7 w32_7) (by omega) (by rw [← HQ.out]; exact H1.out.2.1)
        (fun po q1 q2 q3 => by rw [← H1.out.1]; unfold hset; rw [if_neg (by have := HQ.out; omega)]; exact HH.out.2.2 po q1 q2 q3)
      rw [← HQ.out] at c2
      refine c2.mono ?_
      clear c2
      rintro e w6 ⟨rfl, F6, p6, t6, n6⟩
      have b6 : Below B w w6 := t6.onto (b4.alloc hs4 _) HW (fun i hi hf => by have := o1 i hf; omega)
      have k4' := block_alloc_old (o := .cells #[.int .u32 7] 22) k4
      have k6 := (t6.block _ (block_lt k4') x1).trans k4'
      have d0 : w6.cell? ⟨X, 0, none⟩ = some (.int .u32 7) := cell_of_block k6 0
      have d1 : w6.cell? ⟨X, 1, none⟩ = some (.int .u16 (q : Int)) := cell_of_block k6 1
      have hX6 := block_lt k6
      have hs6 : B ≤ w6.heap.size := by rw [← HB.out]; exact b6.size
      clear t6 n6 p4 b4 k4 k4'
      go_wp2_with fail
      go_ret
      exact ⟨rfl, HB.out ▸ b6.alloc hs6 _⟩

theorem back_all (a0 a1 a2 : Int) (w : World) (w0 : (Lit.int .u8 a0).wf = true) (w1 : (Lit.int .u8 a1).wf = true) (w2 : (Lit.int .u16 a2).wf = true) :
    Calls Try.prog 9 #[.int .u8 a0, .int .u8 a1, .int .u16 a2] w fun e w' => e = .returned (.bool true) ∧ Below w.heap.size w w' := by
  have h0 := wf_u8 w0
  have h1 := wf_u8 w1
  have h2 := wf_u16 w2
  obtain ⟨n, rfl⟩ := Int.eq_ofNat_of_zero_le h0.1
  obtain ⟨k, rfl⟩ := Int.eq_ofNat_of_zero_le h1.1
  obtain ⟨m, rfl⟩ := Int.eq_ofNat_of_zero_le h2.1
  exact back_walk n k m w (by omega) (by omega) (by omega)
end Go.Proofs.Ytpnobcffglohnaa
