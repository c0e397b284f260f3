/- lychref17.Ports: Has, Hold. No condition but the numbers' bounds. -/
import Derived.Test.YtpnobcffglohnaaR1
import Derived.Deep.RegionLaw
namespace Go.Proofs.Ytpnobcffglohnaa
open Go.RowKit
set_option linter.unusedVariables false
set_option linter.unusedSimpArgs false

theorem find_any (bm : Nat) (G : Nat → Prop) (L : List Mk) (pr ip : Int) (po : Nat) (w : World) (r : RefIs w bm G L) (hlen : L.length ≤ 1000) :
    Calls Try.prog 33 #[.pointer (some ⟨bm, 0, none⟩), .int .u8 pr, .agg #[.int .u32 ip, .int .u16 (po : Int)]] w (FindPost L (pr, ip, po) w) := by
  obtain ⟨v, r⟩ := r
  by_cases h0 : 0 < L.length
  · obtain ⟨g, cap, rfl, hg⟩ := r.2.1.form h0
    exact find_some bm g cap G L pr ip po w r hlen
  · have hL : L = [] := List.eq_nil_of_length_eq_zero (by omega)
    subst hL
    obtain ⟨h1, ⟨_, ⟨rfl, _⟩ | ⟨g, cap, cur, rfl, _⟩⟩, _⟩ := r
    · exact (find_nil bm 0 none pr ip po w h1).mono fun e w' h => ⟨Or.inr ⟨by simp, h.1⟩, h.2⟩
    · exact (find_nil bm cap _ pr ip po w h1).mono fun e w' h => ⟨Or.inr ⟨by simp, h.1⟩, h.2⟩

set_option maxHeartbeats 1000000 in
theorem has_any (bm : Nat) (G : Nat → Prop) (L : List Mk) (pr ip : Int) (po : Nat) (w : World) (r : RefIs w bm G L) (hlen : L.length ≤ 1000) :
    Calls Try.prog 31 #[.pointer (some ⟨bm, 0, none⟩), .int .u8 pr, .agg #[.int .u32 ip, .int .u16 (po : Int)]] w fun e w' => e = .returned (.bool (decide ((pr, ip, po) ∈ L))) ∧ Turn (fun _ => False) w w' := by
  have t0 : Turn (fun _ => False) w (w.alloc (.cells #[.int .u32 ip, .int .u16 (po : Int)] 45)) := (Turn.refl _ _).alloc _
  have C := Lib.hid (find_any bm G L pr ip po _ (r.turn t0 (fun _ h => h.elim)) hlen)
  clear r
  go_enter Try.func31, Try.ntmps31
  go_wp2_with fail
  refine C.out.mono ?_
  rintro e w1 ⟨⟨i, hi, rfl⟩ | ⟨hn, rfl⟩, t1⟩
  · have hm : decide ((pr, ip, po) ∈ L) = true := decide_eq_true (List.mem_of_getElem? hi)
    have h1 : ((i : Int) ≥ 0) := by omega
    go_wp2_with fail
    go_ret
    exact ⟨by rw [hm]; rfl, t0.trans t1⟩
  · have hm : decide ((pr, ip, po) ∈ L) = false := decide_eq_false hn
    go_wp2_with fail
    go_ret
    exact ⟨by rw [hm]; rfl, t0.trans t1⟩

/-- What a call that turns the reference's ports leaves. -/
def RefTurned (w : World) (bm : Nat) (G : Nat → Prop) (v : Value) (L : List Mk) (e : Ending) (w' : World) : Prop :=
  e = .returned v ∧ ∃ G', RefIs w' bm G' L ∧ Turn (fun k => G k ∨ k = bm) w w' ∧ ∀ k, G' k → G k ∨ w.heap.size ≤ k

set_option maxHeartbeats 1000000 in
theorem mhold_held (bm : Nat) (G : Nat → Prop) (L : List Mk) (pr ip : Int) (po : Nat) (w : World) (r : RefIs w bm G L) (hlen : L.length ≤ 1000) (hh : (pr, ip, po) ∈ L) :
    Calls Try.prog 26 #[.pointer (some ⟨bm, 0, none⟩), .int .u8 pr, .agg #[.int .u32 ip, .int .u16 (po : Int)]] w fun e w' => e = .returned (.int .i64 121) ∧ Turn (fun _ => False) w w' := by
  have t0 : Turn (fun _ => False) w (w.alloc (.cells #[.int .u32 ip, .int .u16 (po : Int)] 45)) := (Turn.refl _ _).alloc _
  have c := has_any bm G L pr ip po _ (r.turn t0 (fun _ h => h.elim)) hlen
  rw [decide_eq_true hh] at c
  have C := Lib.hid c
  clear c r hh
  go_enter Try.func26, Try.ntmps26
  go_wp2_with fail
  refine C.out.mono ?_
  rintro e w1 ⟨rfl, t1⟩
  go_wp2_with fail
  go_ret
  exact ⟨rfl, t0.trans t1⟩

/-- The reference with one mark more: the append's world W1, its slice stored. -/
theorem RefAt.more {w W W1 : World} {bm : Nat} {G : Nat → Prop} {L : List Mk} {v u : Value} (m : Mk) {g cap : Nat} (r : RefAt w bm G L v) (t : Turn (fun _ => False) w W) {n' : Nat} (hn : n' = L.length + 1)
    (h1 : RowR W1 (fun k => G k ∨ k = W.heap.size) (.slice (some ⟨g, 0, none⟩) n' cap) n' (markCells L ++ [.int .u8 m.1, .int .u32 m.2.1, .int .u16 (m.2.2 : Int)])) (t1 : Turn G W W1) (hu : u = .slice (some ⟨g, 0, none⟩) n' cap) :
    ∃ G', RefIs (W1.setCell ⟨bm, 0, none⟩ u) bm G' (L ++ [m]) ∧ Turn (fun k => G k ∨ k = bm) w (W1.setCell ⟨bm, 0, none⟩ u) ∧ ∀ k, G' k → G k ∨ w.heap.size ≤ k := by
  subst hu
  subst hn
  have rW := r.turn t (fun _ h => h.elim)
  have hbm := block_lt rW.1
  have e1 : W1.heap[bm]? = some (.cells #[v] 59 (0, 0)) := (t1.block bm hbm rW.2.2.1).trans rW.1
  have hG : bm ≠ W.heap.size := by omega
  have el : (L ++ [m]).length = L.length + 1 := by simp
  refine ⟨fun k => (G k ∨ k = W.heap.size) ∧ k < W1.heap.size, ⟨.slice (some ⟨g, 0, none⟩) (L.length + 1) cap, block_setCell e1 0 _, ?_, fun h => ?_, fun k hk => by simpa [World.setCell] using hk.2⟩, ?_, fun k hk => ?_⟩
  · rw [el]
    obtain ⟨a1, ⟨a2, _⟩ | ⟨g', cap', cur, a2, a3, a4, a5⟩⟩ := h1
    · cases a2
    · cases a2
      refine ⟨?_, Or.inr ⟨g, cap, cur, rfl, ⟨a3, block_lt a4⟩, (Below.heap_setCell _ _ _ _ ?_).trans a4, ?_⟩⟩
      · rw [markCells_append]; simpa [markCells] using a1
      · rintro rfl
        rcases a3 with h | h
        · exact rW.2.2.1 h
        · exact hG h
      · rw [markCells_append]; simpa [markCells] using a5
  · rcases h.1 with h | h
    · exact rW.2.2.1 h
    · exact hG h
  · exact ((t.mono (fun _ _ h => h.elim)).trans (t1.mono (fun _ _ h => Or.inl h))).setCell (p := ⟨bm, 0, none⟩) _ (fun _ => Or.inr rfl)
  · rcases hk.1 with h | h
    · exact Or.inl h
    · exact Or.inr (h ▸ t.size)

set_option maxRecDepth 100000 in
set_option maxHeartbeats 2000000 in
theorem mhold_free (bm : Nat) (G : Nat → Prop) (L : List Mk) (pr ip : Int) (po : Nat) (w : World) (r : RefIs w bm G L) (hlen : L.length ≤ 1000) (hh : (pr, ip, po) ∉ L) :
    Calls Try.prog 26 #[.pointer (some ⟨bm, 0, none⟩), .int .u8 pr, .agg #[.int .u32 ip, .int .u16 (po : Int)]] w (RefTurned w bm G (.int .i64 0) (L ++ [(pr, ip, po)])) := by
  obtain ⟨v, r⟩ := r
  have t0 : Turn (fun _ => False) w (w.alloc (.cells #[.int .u32 ip, .int .u16 (po : Int)] 45)) := (Turn.refl _ _).alloc _
  have b0 : (w.alloc (.cells #[.int .u32 ip, .int .u16 (po : Int)] 45)).heap[w.heap.size]? = some (.cells #[.int .u32 ip, .int .u16 (po : Int)] 45 (0, 0)) := block_alloc_new _ _
  have c := has_any bm G L pr ip po _ ⟨v, r.turn t0 (fun _ h => h.elim)⟩ hlen
  rw [decide_eq_false hh] at c
  have C := Lib.hid c
  have R := Lib.hid r
  clear c r hh
  go_enter Try.func26, Try.ntmps26
  go_wp2_with fail
  refine C.out.mono ?_
  rintro e w1 ⟨rfl, t1⟩
  have r1 := R.out.turn (t0.trans t1) (fun _ h => h.elim)
  have b1 := (t1.block w.heap.size (block_lt b0) (fun h => h)).trans b0
  have T := Lib.hid (t0.trans t1)
  clear t0 t1 b0 C
  go_wp2_with fail
  have d0 : w1.cell? ⟨bm, 0, none⟩ = some v := cell_of_block r1.1 0
  have d1 : w1.cell? ⟨w.heap.size, 0, none⟩ = some (.int .u32 ip) := cell_of_block b1 0
  have d2 : w1.cell? ⟨w.heap.size, 1, none⟩ = some (.int .u16 (po : Int)) := cell_of_block b1 1
  have d3 : w1.frozen? ⟨bm, 0, none⟩ = false := free_of_block r1.1 0
  have hbs : bm < w1.heap.size := block_lt r1.1
  have R1 := Lib.hid r1
  clear r1 b1
  go_region_law (
    refine step_append_R rfl (.tmp 15) (.tmp 19) rfl (by rfl) (RowR.turn R1.out.2.1 (F := fun _ => False) (by first | exact ((Turn.refl _ _).drew).alloc _ | exact ((Turn.refl _ _).drewN _).alloc _) (fun _ _ h => h)) (by omega) _ 1 1 [.int .u8 pr, .int .u32 ip, .int .u16 (po : Int)] (by rfl) (by decide) rfl
      (by intro j u hu; rcases j with _ | _ | _ | j <;> simp at hu <;> subst hu <;> exact cell_of_block (block_alloc_new _ _) _) (by intro u hu; simp at hu; rcases hu with rfl | rfl | rfl <;> rfl) (fun _ => by decide) ?_
    intro g cap w' hrow hturn
    have hb' := (hturn.block bm (by simp; omega) R1.out.2.2.1).trans ((Below.heap_alloc _ _ _ hbs).trans R1.out.1)
    have z0 : w'.frozen? ⟨bm, 0, none⟩ = false := free_of_block hb' 0
    have z1 : w'.cell? ⟨bm, 0, none⟩ = some v := cell_of_block hb' 0
    clear hb')
  all_goals
    have fin := RefAt.more (pr, ip, po) R.out ((T.out.alloc (.cells #[.int .u8 pr, .int .u32 ip, .int .u16 (po : Int)] 64)).drew) rfl hrow hturn rfl
    have FIN := Lib.hid fin
    clear fin hrow hturn z0 z1 d0 d1 d2 d3
    go_wp2_with fail
    go_ret
    exact ⟨rfl, FIN.out⟩
end Go.Proofs.Ytpnobcffglohnaa
