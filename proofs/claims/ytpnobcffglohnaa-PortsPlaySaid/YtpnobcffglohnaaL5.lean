/- LimitPlays: the walk. No condition. -/
import Derived.Test.YtpnobcffglohnaaL3
namespace Go.Proofs.Ytpnobcffglohnaa
open Go.RowKit

/-- The cells of a script's acts. -/
structure Acts (w : World) (b off len : Nat) (wh n ra bu : Nat → Int) (sm : Nat → Bool) : Prop where
  lt : b < w.heap.size
  c0 : ∀ i, i < len → w.cell? ⟨b, off + i * 5, none⟩ = some (.int .i64 (wh i))
  c1 : ∀ i, i < len → w.cell? ⟨b, off + i * 5 + 1, none⟩ = some (.int .u32 (n i))
  c2 : ∀ i, i < len → w.cell? ⟨b, off + i * 5 + 2, none⟩ = some (.int .u32 (ra i))
  c3 : ∀ i, i < len → w.cell? ⟨b, off + i * 5 + 3, none⟩ = some (.int .u32 (bu i))
  c4 : ∀ i, i < len → w.cell? ⟨b, off + i * 5 + 4, none⟩ = some (.bool (sm i))
  w1 : ∀ i, i < len → 0 ≤ n i ∧ n i < 4294967296
  w2 : ∀ i, i < len → 0 ≤ ra i ∧ ra i < 4294967296
  w3 : ∀ i, i < len → 0 ≤ bu i ∧ bu i < 4294967296

theorem quiet_same {P : Program} {f : FuncId} {args : Array Value} {w : World} {n : Nat} {v : Value}
    (h : Calls P f args (w.drewN n) fun e w' => e = .returned v ∧ w.drewN n = w') : Calls P f args (w.drewN n) fun e w'' => e = .returned v ∧ ∃ m, w'' = w.drewN m :=
  h.mono fun _ _ ⟨he, hm⟩ => ⟨he, n, hm.symm⟩
theorem Bk.drewN {T : Nat} {w : World} {b : Nat} {r m l : Int} (h : Bk T w b r m l) (n : Nat) : Bk T (w.drewN n) b r m l := (block_drewN w n b).trans h
theorem below_drewN' {B : Nat} {a w : World} (h : Below B a w) (n : Nat) : Below B a (w.drewN n) := by
  induction n with
  | zero => exact h
  | succ n ih => rw [← World.drew_drewN]; exact ih.drew
theorem Bk.cell2 {T : Nat} {w : World} {b : Nat} {r m l : Int} (h : Bk T w b r m l) : w.cell? ⟨b, 2, none⟩ = some (.int .u32 l) := cell_of_block h 2

set_option maxHeartbeats 1000000 in
theorem plays_walk (r m : Int) (b off len cap : Nat) (wh n ra bu : Nat → Int) (sm : Nat → Bool) (w : World) (hr0 : 0 ≤ r) (hr1 : r < 4294967296) (hm0 : 0 ≤ m) (hm1 : m < 4294967296)
    (hA : Acts w b off len wh n ra bu sm) (hlen : len ≤ 100) :
    Calls Try.prog 5 #[.int .u32 r, .int .u32 m, .slice (some ⟨b, off, none⟩) len cap] w fun e w' => e = .returned (.bool true) ∧ Below w.heap.size w w' := by
  have hb := hA.lt
  go_enter Try.func5, Try.ntmps5
  go_wp2_with fail
  refine (known20 _).mono ?_; rintro e w0 ⟨rfl, t0⟩
  go_wp2_with fail
  refine (new_any _ _ _).mono ?_; rintro e w1 ⟨rfl, hw1⟩
  have h1 : Bk 73 w1 w0.heap.size r m m := by rw [hw1]; exact block_alloc_new _ _
  have t1 : Below w.heap.size w w1 := by rw [hw1]; exact t0.alloc t0.size _
  have hB : w.heap.size ≤ w0.heap.size := t0.size
  have hB1 : w0.heap.size < w1.heap.size := by rw [hw1]; simp
  clear hw1 t0
  generalize w0.heap.size = B at *
  have h2 : Bk 37 (w1.alloc (.cells #[.int .u32 r, .int .u32 m, .int .u32 m] 37)) w1.heap.size r m m := block_alloc_new _ _
  have h1' : Bk 73 (w1.alloc (.cells #[.int .u32 r, .int .u32 m, .int .u32 m] 37)) B r m m := block_alloc_old h1
  have t2 : Below w.heap.size w (w1.alloc (.cells #[.int .u32 r, .int .u32 m, .int .u32 m] 37)) := t1.alloc t1.size _
  go_wp2_with fail
  generalize w1.alloc (.cells #[.int .u32 r, .int .u32 m, .int .u32 m] 37) = w2 at *
  have hBD : ¬ B = w1.heap.size := by omega
  have hDB : ¬ w1.heap.size = B := by omega
  have hD : w.heap.size ≤ w1.heap.size := t1.size
  clear h1 t1
  generalize w1.heap.size = D at *
  go_loopw [9] (fun i wr => ∃ (k : Nat) (r' m' l : Int), k ≤ len ∧ i = .int .i64 k ∧ Bk 73 wr B r' m' l ∧ Bk 37 wr D r' m' l ∧ Below w.heap.size w wr ∧
      0 ≤ l ∧ l ≤ m' ∧ 0 ≤ r' ∧ r' < 4294967296 ∧ m' < 4294967296) (fun i _ => len - (intOf i).toNat)
  case atStart => exact ⟨0, r, m, m, Nat.zero_le _, rfl, h1', h2, t2, hm0, Int.le_refl _, hr0, hr1, hm1⟩
  case round =>
    obtain ⟨k, r', m', l, hk, rfl, hbk, hrk, ht, hl0, hl1, hr0', hr1', hm1'⟩ := hrel
    by_cases hlt : k < len
    · have q0 : wr.cell? ⟨b, off + k * 5, none⟩ = some (.int .i64 (wh k)) := (ht.cell hb).trans (hA.c0 k hlt)
      have q1 : wr.cell? ⟨b, off + k * 5 + 1, none⟩ = some (.int .u32 (n k)) := (ht.cell hb).trans (hA.c1 k hlt)
      have q2 : wr.cell? ⟨b, off + k * 5 + 2, none⟩ = some (.int .u32 (ra k)) := (ht.cell hb).trans (hA.c2 k hlt)
      have q3 : wr.cell? ⟨b, off + k * 5 + 3, none⟩ = some (.int .u32 (bu k)) := (ht.cell hb).trans (hA.c3 k hlt)
      have q4 : wr.cell? ⟨b, off + k * 5 + 4, none⟩ = some (.bool (sm k)) := (ht.cell hb).trans (hA.c4 k hlt)
      obtain ⟨v1, v1'⟩ := hA.w1 k hlt
      obtain ⟨v2, v2'⟩ := hA.w2 k hlt
      obtain ⟨v3, v3'⟩ := hA.w3 k hlt
      generalize wh k = x0 at *
      generalize n k = x1 at *
      generalize ra k = x2 at *
      generalize bu k = x3 at *
      generalize sm k = x4 at *
      have hF : ∀ i, i < w.heap.size → ¬ (i = B) := fun i hi e => by omega
      have hG : ∀ i, i < w.heap.size → ¬ (i = D) := fun i hi e => by omega
      go_wp2_with fail
      all_goals first
        | (go_at_call 13
           refine (take_any B r' m' l _ _ (block_alloc_old hbk) (by omega) (by omega)).mono ?_; rintro e w3 ⟨rfl, h3, t3⟩
           have t3' := t3.onto (ht.alloc ht.size _) (Nat.le_refl _) hF
           have k3 := Bk.turn (block_alloc_old hrk) t3 hDB
           clear t3
           go_wp2_with fail
           refine (rtake_any D r' m' l _ _ k3 (by omega) (by omega)).mono ?_; rintro e w4 ⟨rfl, k4, t4⟩
           have t4' := t4.onto t3' (Nat.le_refl _) hG
           have h4 := Bk.turn h3 t4 hBD
           clear t4 t3' h3 k3
           go_wp2_with fail
           obtain ⟨l2, hh⟩ : ∃ l2, Bk 73 w4 B r' m' l2 ∧ Bk 37 w4 D r' m' l2 ∧ 0 ≤ l2 ∧ l2 ≤ m' := ⟨_, h4, k4, by split <;> omega, by split <;> omega⟩
           clear h4 k4
           obtain ⟨h4, k4, b0, b1⟩ := hh
           have c2 := k4.cell2
           go_quiet ((go_at_call 14; exact quiet_same (level_any B _ _ _ _ (h4.drewN _))))
           go_wp2_with fail
           go_roundw
           case rel => exact ⟨k + 1, _, _, _, by omega, by go_num, h4.drewN _, k4.drewN _, below_drewN' t4' _, by omega, by omega, by omega, by omega, by omega⟩
           case measure => simp [intOf]; omega)
        | (go_at_call 12
           refine (tick_any B r' m' l _ (block_alloc_old hbk) hr0' hl0 hl1 hm1').mono ?_; rintro e w3 ⟨rfl, h3, t3⟩
           have t3' := t3.onto (ht.alloc ht.size _) (Nat.le_refl _) hF
           have k3 := Bk.turn (block_alloc_old hrk) t3 hDB
           clear t3
           go_wp2_with fail
           refine (rtick_any D r' m' l _ k3 hr0' hl0 (by omega) hm1' hr1' (by omega)).mono ?_; rintro e w4 ⟨rfl, k4, t4⟩
           have t4' := t4.onto t3' (Nat.le_refl _) hG
           have h4 := Bk.turn h3 t4 hBD
           clear t4 t3' h3 k3
           go_wp2_with fail
           obtain ⟨l2, hl2, b0, b1⟩ : ∃ l2, min (l + r') m' = l2 ∧ 0 ≤ l2 ∧ l2 ≤ m' := ⟨_, rfl, by omega, by omega⟩
           rw [hl2] at h4 k4
           clear hl2
           have c2 := k4.cell2
           go_quiet ((go_at_call 14; exact quiet_same (level_any B _ _ _ _ (h4.drewN _))))
           go_wp2_with fail
           go_roundw
           case rel => exact ⟨k + 1, _, _, _, by omega, by go_num, h4.drewN _, k4.drewN _, below_drewN' t4' _, by omega, by omega, by omega, by omega, by omega⟩
           case measure => simp [intOf]; omega)
        | (go_at_call 17
           refine (set_any B r' m' l _ _ _ (block_alloc_old hbk)).mono ?_; rintro e w3 ⟨rfl, h3, t3⟩
           have t3' := t3.onto (ht.alloc ht.size _) (Nat.le_refl _) hF
           have k3 := Bk.turn (block_alloc_old hrk) t3 hDB
           have e2 : w3.cell? ⟨wr.heap.size, 2, none⟩ = some (.int .u32 x2) :=
             (World.cell?_of_block (t3.block wr.heap.size (by simp) (by have := block_lt hbk; omega))).trans (cell_of_block (block_alloc_new _ _) 2)
           have e3 : w3.cell? ⟨wr.heap.size, 3, none⟩ = some (.int .u32 x3) :=
             (World.cell?_of_block (t3.block wr.heap.size (by simp) (by have := block_lt hbk; omega))).trans (cell_of_block (block_alloc_new _ _) 3)
           clear t3
           go_wp2_with fail
           refine (rset_any D r' m' l _ _ _ k3).mono ?_; rintro e w4 ⟨rfl, k4, t4⟩
           have t4' := t4.onto t3' (Nat.le_refl _) hG
           have h4 := Bk.turn h3 t4 hBD
           clear t4 t3' h3 k3 e2 e3
           go_wp2_with fail
           obtain ⟨l2, hl2, b0, b1⟩ : ∃ l2, min l x3 = l2 ∧ 0 ≤ l2 ∧ l2 ≤ x3 := ⟨_, rfl, by omega, by omega⟩
           rw [hl2] at h4 k4
           clear hl2
           have c2 := k4.cell2
           go_quiet ((go_at_call 14; exact quiet_same (level_any B _ _ _ _ (h4.drewN _))))
           go_wp2_with fail
           go_roundw
           case rel => exact ⟨k + 1, _, _, _, by omega, by go_num, h4.drewN _, k4.drewN _, below_drewN' t4' _, by omega, by omega, by omega, by omega, by omega⟩
           case measure => simp [intOf]; omega)
    · go_wp2_with fail
      go_ret
      exact ⟨rfl, ht⟩
end Go.Proofs.Ytpnobcffglohnaa
