/- lychref17.Ports: Free; lychhelp.Place; lychlaw17.light. No condition but the numbers' bounds. -/
import Derived.Test.YtpnobcffglohnaaR2
namespace Go.Proofs.Ytpnobcffglohnaa
open Go.RowKit
set_option linter.unusedVariables false
set_option linter.unusedSimpArgs false

set_option maxHeartbeats 1000000 in
theorem mfree_none (bm : Nat) (G : Nat → Prop) (L : List Mk) (pr ip : Int) (po : Nat) (w : World) (r : RefIs w bm G L) (hlen : L.length ≤ 1000) (hh : (pr, ip, po) ∉ L) :
    Calls Try.prog 28 #[.pointer (some ⟨bm, 0, none⟩), .int .u8 pr, .agg #[.int .u32 ip, .int .u16 (po : Int)]] w fun e w' => e = .returned (.int .i64 121) ∧ Turn (fun _ => False) w w' := by
  have t0 : Turn (fun _ => False) w (w.alloc (.cells #[.int .u32 ip, .int .u16 (po : Int)] 45)) := (Turn.refl _ _).alloc _
  have c : Calls Try.prog 33 #[.pointer (some ⟨bm, 0, none⟩), .int .u8 pr, .agg #[.int .u32 ip, .int .u16 (po : Int)]] (w.alloc (.cells #[.int .u32 ip, .int .u16 (po : Int)] 45)) (fun e w' => e = .returned (.int .i64 (-1)) ∧ Turn (fun _ => False) (w.alloc (.cells #[.int .u32 ip, .int .u16 (po : Int)] 45)) w') := by
    refine (find_any bm G L pr ip po _ (r.turn t0 (fun _ h => h.elim)) hlen).mono ?_
    rintro e w1 ⟨⟨i, hi, rfl⟩ | ⟨hn, rfl⟩, t1⟩
    · exact absurd (List.mem_of_getElem? hi) hh
    · exact ⟨rfl, t1⟩
  have C := Lib.hid c
  clear c r hh
  go_enter Try.func28, Try.ntmps28
  go_wp2_with fail
  refine C.out.mono ?_
  rintro e w1 ⟨rfl, t1⟩
  go_wp2_with fail
  go_ret
  exact ⟨rfl, t0.trans t1⟩

theorem markCells_take (L : List Mk) (i : Nat) : markCells (L.take i) = (markCells L).take (i * 3) := by
  induction i generalizing L with
  | zero => simp [markCells]
  | succ i ih =>
    cases L with
    | nil => simp [markCells]
    | cons a L =>
      have e : markCells (a :: L) = [.int .u8 a.1, .int .u32 a.2.1, .int .u16 (a.2.2 : Int)] ++ markCells L := rfl
      have e' : markCells ((a :: L).take (i + 1)) = [.int .u8 a.1, .int .u32 a.2.1, .int .u16 (a.2.2 : Int)] ++ markCells (L.take i) := rfl
      rw [e, e', ih, show (i + 1) * 3 = i * 3 + 1 + 1 + 1 by omega]
      rfl
theorem markCells_drop (L : List Mk) (i : Nat) : markCells (L.drop i) = (markCells L).drop (i * 3) := by
  induction i generalizing L with
  | zero => simp
  | succ i ih =>
    cases L with
    | nil => simp [markCells]
    | cons a L =>
      have e : markCells (a :: L) = [.int .u8 a.1, .int .u32 a.2.1, .int .u16 (a.2.2 : Int)] ++ markCells L := rfl
      rw [List.drop_succ_cons, e, ih, show (i + 1) * 3 = i * 3 + 1 + 1 + 1 by omega]
      rfl

/-- The first marks, as a slice. -/
theorem RowR.front {w : World} {G : Nat → Prop} {g n cap : Nat} {L : List Mk} (h : RowR w G (.slice (some ⟨g, 0, none⟩) n cap) n (markCells L)) (hn : n = L.length) (i : Nat) (hi : i < n) :
    RowR w G (.slice (some ⟨g, 0, none⟩) i i) i (markCells (L.take i)) := by
  obtain ⟨h1, ⟨h2, _⟩ | ⟨g', cap', cur, hv, h3, h4, h5, h6, h7, h8⟩⟩ := h
  · cases h2
  · cases hv
    refine ⟨by rw [markCells_len, List.length_take]; omega, Or.inr ⟨g, i, cur, rfl, h3, h4, Nat.le_refl _, by omega, by omega, ?_⟩⟩
    rw [markCells_take, ← h8, List.take_take]
    congr 1; omega

theorem back_cells {w : World} {G : Nat → Prop} {g cap : Nat} {L : List Mk} (h : RowR w G (.slice (some ⟨g, 0, none⟩) L.length cap) L.length (markCells L)) (i : Nat) (hi : i < L.length) (hc : L.length ≤ cap) :
    ∀ (j : Nat) u, (markCells (L.drop (i + 1)))[j]? = some u → w.cell? ((if cap = i + 1 then (⟨g, 0, none⟩ : Addr) else ⟨g, (i + 1) * 3, none⟩).add j) = some u := by
  intro j u hu
  have hj := (List.getElem?_eq_some_iff.1 hu).1
  rw [markCells_len, List.length_drop] at hj
  rw [if_neg (by omega)]
  have e : (⟨g, (i + 1) * 3, none⟩ : Addr).add j = ⟨g, (i + 1) * 3 + j, none⟩ := by unfold Addr.add; split <;> simp_all
  rw [e, h.cells _ (by omega), ← hu, markCells_drop, List.getElem?_drop]
theorem one_cells (L : List Mk) : ∀ u ∈ markCells L, u.oneCell' = true := by
  intro u hu
  unfold markCells at hu
  simp only [List.mem_flatMap] at hu
  obtain ⟨a, _, h⟩ := hu
  simp at h
  rcases h with rfl | rfl | rfl <;> rfl

/-- The reference with other marks: the append's world W1, its slice stored. -/
theorem RefAt.put {w W W1 : World} {bm : Nat} {G : Nat → Prop} {L : List Mk} {v u : Value} (L' : List Mk) {g cap : Nat} (r : RefAt w bm G L v) (t : Turn (fun _ => False) w W) {n' : Nat} (hn : n' = L'.length)
    {xs : List Value} (hx : xs = markCells L') (h1 : RowR W1 (fun k => G k ∨ k = W.heap.size) (.slice (some ⟨g, 0, none⟩) n' cap) n' xs) (t1 : Turn G W W1) (hu : u = .slice (some ⟨g, 0, none⟩) n' cap) :
    ∃ G', RefIs (W1.setCell ⟨bm, 0, none⟩ u) bm G' L' ∧ Turn (fun k => G k ∨ k = bm) w (W1.setCell ⟨bm, 0, none⟩ u) ∧ ∀ k, G' k → G k ∨ w.heap.size ≤ k := by
  subst hu
  subst hn
  subst hx
  have rW := r.turn t (fun _ h => h.elim)
  have hbm := block_lt rW.1
  have e1 : W1.heap[bm]? = some (.cells #[v] 59 (0, 0)) := (t1.block bm hbm rW.2.2.1).trans rW.1
  have hG : bm ≠ W.heap.size := by omega
  refine ⟨fun k => (G k ∨ k = W.heap.size) ∧ k < W1.heap.size, ⟨_, block_setCell e1 0 _, ?_, fun h => ?_, fun k hk => by simpa [World.setCell] using hk.2⟩, ?_, fun k hk => ?_⟩
  · obtain ⟨a1, ⟨a2, _⟩ | ⟨g', cap', cur, a2, a3, a4, a5⟩⟩ := h1
    · cases a2
    · cases a2
      refine ⟨a1, Or.inr ⟨g, cap, cur, rfl, ⟨a3, block_lt a4⟩, (Below.heap_setCell _ _ _ _ ?_).trans a4, a5⟩⟩
      rintro rfl
      rcases a3 with h | h
      · exact rW.2.2.1 h
      · exact hG h
  · rcases h.1 with h | h
    · exact rW.2.2.1 h
    · exact hG h
  · exact ((t.mono (fun _ _ h => h.elim)).trans (t1.mono (fun _ _ h => Or.inl h))).setCell (p := ⟨bm, 0, none⟩) _ (fun _ => Or.inr rfl)
  · rcases hk.1 with h | h
    · exact Or.inl h
    · exact Or.inr (h ▸ t.size)

set_option maxRecDepth 100000 in
set_option maxHeartbeats 2000000 in
theorem mfree_some (bm : Nat) (G : Nat → Prop) (L : List Mk) (pr ip : Int) (po : Nat) (w : World) (r : RefIs w bm G L) (hlen : L.length ≤ 1000) (hh : (pr, ip, po) ∈ L) :
    Calls Try.prog 28 #[.pointer (some ⟨bm, 0, none⟩), .int .u8 pr, .agg #[.int .u32 ip, .int .u16 (po : Int)]] w fun e w' => ∃ i, L[i]? = some (pr, ip, po) ∧ RefTurned w bm G (.int .i64 0) (L.take i ++ L.drop (i + 1)) e w' := by
  obtain ⟨v, r⟩ := r
  obtain ⟨g, cap, rfl, hg⟩ := r.2.1.form (List.length_pos_of_mem hh)
  have t0 : Turn (fun _ => False) w (w.alloc (.cells #[.int .u32 ip, .int .u16 (po : Int)] 45)) := (Turn.refl _ _).alloc _
  have c := find_any bm G L pr ip po _ ⟨_, r.turn t0 (fun _ h => h.elim)⟩ hlen
  have C := Lib.hid c
  have R := Lib.hid r
  have HH := Lib.hid hh
  clear c r hh
  go_enter Try.func28, Try.ntmps28
  go_wp2_with fail
  refine C.out.mono ?_
  rintro e w1 ⟨⟨i, hi, rfl⟩ | ⟨hn, rfl⟩, t1⟩
  case inr => exact absurd HH.out hn
  have r1 := R.out.turn (t0.trans t1) (fun _ h => h.elim)
  have T := Lib.hid (t0.trans t1)
  clear t0 t1 C
  have hil : i < L.length := (List.getElem?_eq_some_iff.1 hi).1
  have HI := Lib.hid hi
  clear hi
  have hcap : L.length ≤ cap ∧ cap ≤ maxLen := by
    obtain ⟨_, ⟨h2, _⟩ | ⟨g', cap', cur, hv, h3, h4, h5, h6, h7, h8⟩⟩ := r1.2.1
    · cases h2
    · cases hv; exact ⟨h5, h6⟩
  have hcl := hcap.1
  clear hcap
  have hs0 : ¬ ((i : Int) < 0) := by omega
  go_wp2_with fail
  have d0 : w1.cell? ⟨bm, 0, none⟩ = some (.slice (some ⟨g, 0, none⟩) L.length cap) := cell_of_block r1.1 0
  have d3 : w1.frozen? ⟨bm, 0, none⟩ = false := free_of_block r1.1 0
  have hbs : bm < w1.heap.size := block_lt r1.1
  have R1 := Lib.hid r1
  clear r1
  have g1 : (0 : Int) ≤ (i : Int) := by omega
  have g2 : (i : Int) ≤ (cap : Int) := by omega
  have g3 : (i : Int) + 1 ≤ (L.length : Int) := by omega
  have g4 : (0 : Int) ≤ (i : Int) + 1 := by omega
  have hwr : IntKind.i64.wrap ((i : Int) + 1) = (i : Int) + 1 := by rw [IntKind.wrap_i64]; omega
  have hnt : ((i : Int) + 1).toNat = i + 1 := by omega
  go_region_law (
    refine step_append_R rfl (.tmp 21) (.tmp 28) rfl (by rfl) (RowR.turn (R1.out.2.1.front rfl i hil) (F := fun _ => False) (by exact (Turn.refl _ _).drew) (fun _ _ h => h)) (by omega)
      (if cap = i + 1 then (⟨g, 0, none⟩ : Addr) else ⟨g, (i + 1) * 3, none⟩) (L.length - (i + 1)) (cap - (i + 1)) (markCells (L.drop (i + 1)))
      (by show Value.slice (if cap = i + 1 then some _ else some _) _ _ = _; split <;> rfl) (by omega) (by rw [markCells_len, List.length_drop]) (fun j u hu => back_cells R1.out.2.1 i hil hcl j u hu) (one_cells _) (fun h => nomatch h) ?_
    intro g' cap' w' hrow hturn
    have hb' := (hturn.block bm hbs R1.out.2.2.1).trans R1.out.1
    have z0 : w'.frozen? ⟨bm, 0, none⟩ = false := free_of_block hb' 0
    have z1 : w'.cell? ⟨bm, 0, none⟩ = some (.slice (some ⟨g, 0, none⟩) L.length cap) := cell_of_block hb' 0
    clear hb')
  all_goals
    have fin := RefAt.put (L.take i ++ L.drop (i + 1)) R.out (T.out.drew) (by simp; omega) (markCells_append _ _).symm hrow hturn rfl
    have FIN := Lib.hid fin
    clear fin hrow hturn z0 z1 d0 d3
    go_wp2_with fail
    all_goals go_ret
    all_goals exact ⟨i, HI.out, rfl, FIN.out⟩


set_option maxHeartbeats 1000000 in
theorem place_fix (k : Int) (n : Nat) (hn : 0 < n) (hn' : n ≤ 1000) (hk : -9223372036854775808 ≤ k ∧ k ≤ 9223372036854775807) :
    ∃ i : Nat, i < n ∧ ∀ w, Calls Try.prog 24 #[.int .i64 k, .int .i64 (n : Int)] w fun e w' => e = .returned (.int .i64 (i : Int)) ∧ w = w' := by
  have hr1 : -(n : Int) < k.tmod n := by
    have := Int.lt_tmod_of_pos k (show (0 : Int) < n by omega); omega
  have hr2 : k.tmod n < (n : Int) := Int.tmod_lt_of_pos k (by omega)
  have hw : IntKind.i64.wrap (k.tmod n) = k.tmod n := by rw [IntKind.wrap_i64]; omega
  have hn0 : ¬ ((n : Int) = 0) := by omega
  obtain ⟨r, hr⟩ : ∃ r, r = k.tmod (n : Int) := ⟨_, rfl⟩
  rw [← hr] at hr1 hr2 hw
  have hr' := hr.symm
  clear hr
  by_cases h0 : r < 0
  · have hw2 : IntKind.i64.wrap (r + (n : Int)) = r + (n : Int) := by rw [IntKind.wrap_i64]; omega
    obtain ⟨i, hi⟩ : ∃ i : Nat, r + (n : Int) = (i : Int) := ⟨(r + (n : Int)).toNat, by omega⟩
    refine ⟨i, by omega, fun w => ?_⟩
    go_enter Try.func24, Try.ntmps24
    go_wp2_with fail
    go_ret
    exact ⟨by rw [← hi]; rfl, rfl⟩
  · obtain ⟨i, hi⟩ : ∃ i : Nat, r = (i : Int) := ⟨r.toNat, by omega⟩
    refine ⟨i, by omega, fun w => ?_⟩
    go_enter Try.func24, Try.ntmps24
    go_wp2_with fail
    go_ret
    exact ⟨by rw [← hi]; rfl, rfl⟩
end Go.Proofs.Ytpnobcffglohnaa
