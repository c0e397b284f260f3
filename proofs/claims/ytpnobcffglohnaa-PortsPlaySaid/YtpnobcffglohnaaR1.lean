/- lychref17.Ports: find, Has. No condition but the numbers' bounds. -/
import Derived.Test.YtpnobcffglohnaaR0
namespace Go.Proofs.Ytpnobcffglohnaa
open Go.RowKit
set_option linter.unusedVariables false
set_option linter.unusedSimpArgs false

abbrev Mk := Int × Int × Nat
def markCells (L : List Mk) : List Value := L.flatMap fun m => [.int .u8 m.1, .int .u32 m.2.1, .int .u16 (m.2.2 : Int)]
theorem markCells_len (L : List Mk) : (markCells L).length = L.length * 3 := by
  induction L with
  | nil => rfl
  | cons a L ih =>
    have : markCells (a :: L) = [.int .u8 a.1, .int .u32 a.2.1, .int .u16 (a.2.2 : Int)] ++ markCells L := rfl
    rw [this]; simp [ih]; omega
theorem markCells_append (L M : List Mk) : markCells (L ++ M) = markCells L ++ markCells M := by simp [markCells]
theorem markCells_get (L : List Mk) (i : Nat) (m : Mk) (h : L[i]? = some m) :
    (markCells L)[i * 3]? = some (.int .u8 m.1) ∧ (markCells L)[i * 3 + 1]? = some (.int .u32 m.2.1) ∧ (markCells L)[i * 3 + 2]? = some (.int .u16 (m.2.2 : Int)) := by
  induction L generalizing i with
  | nil => simp at h
  | cons a L ih =>
    have e : markCells (a :: L) = .int .u8 a.1 :: .int .u32 a.2.1 :: .int .u16 (a.2.2 : Int) :: markCells L := rfl
    rw [e]
    cases i with
    | zero => simp at h; subst h; simp
    | succ i =>
      simp only [List.getElem?_cons_succ] at h
      have := ih i h
      rw [show (i + 1) * 3 = i * 3 + 3 by omega]
      exact this

/-- The reference's Ports in block bm: its marks, its array among the blocks G. -/
def RefAt (w : World) (bm : Nat) (G : Nat → Prop) (L : List Mk) (v : Value) : Prop :=
  w.heap[bm]? = some (.cells #[v] 59 (0, 0)) ∧ RowR w G v L.length (markCells L) ∧ ¬ G bm ∧ ∀ k, G k → k < w.heap.size
def RefIs (w : World) (bm : Nat) (G : Nat → Prop) (L : List Mk) : Prop := ∃ v, RefAt w bm G L v

theorem RefAt.turn {w w' : World} {bm : Nat} {G F : Nat → Prop} {L : List Mk} {v : Value} (r : RefAt w bm G L v) (t : Turn F w w') (hF : ∀ k, F k → ¬ G k ∧ k ≠ bm) : RefAt w' bm G L v :=
  ⟨(t.block _ (block_lt r.1) (fun f => (hF _ f).2 rfl)).trans r.1, r.2.1.turn t (fun g hg f => (hF g f).1 hg), r.2.2.1, fun k hk => Nat.lt_of_lt_of_le (r.2.2.2 k hk) t.size⟩
theorem RefIs.turn {w w' : World} {bm : Nat} {G F : Nat → Prop} {L : List Mk} (r : RefIs w bm G L) (t : Turn F w w') (hF : ∀ k, F k → ¬ G k ∧ k ≠ bm) : RefIs w' bm G L :=
  ⟨r.choose, r.choose_spec.turn t hF⟩

/-- What a slice of marks looks like. -/
theorem RowR.form {w : World} {G : Nat → Prop} {v : Value} {n : Nat} {xs : List Value} (h : RowR w G v n xs) (hn : 0 < n) : ∃ g cap, v = .slice (some ⟨g, 0, none⟩) n cap ∧ G g := by
  obtain ⟨_, ⟨_, h0⟩ | ⟨g, cap, cur, hv, hG, _⟩⟩ := h
  · omega
  · exact ⟨g, cap, hv, hG⟩

def FindPost (L : List Mk) (k : Mk) (w : World) (e : Ending) (w' : World) : Prop :=
  ((∃ i : Nat, L[i]? = some k ∧ e = .returned (.int .i64 (i : Int))) ∨ (k ∉ L ∧ e = .returned (.int .i64 (-1)))) ∧ Turn (fun _ => False) w w'

set_option maxRecDepth 100000 in
set_option maxHeartbeats 1000000 in
theorem find_nil (bm cap : Nat) (ao : Option Addr) (pr ip : Int) (po : Nat) (w : World) (h : w.heap[bm]? = some (.cells #[.slice ao 0 cap] 59 (0, 0))) :
    Calls Try.prog 33 #[.pointer (some ⟨bm, 0, none⟩), .int .u8 pr, .agg #[.int .u32 ip, .int .u16 (po : Int)]] w fun e w' => e = .returned (.int .i64 (-1)) ∧ Turn (fun _ => False) w w' := by
  have c0 : (w.alloc (.cells #[.int .u32 ip, .int .u16 (po : Int)] 45)).cell? ⟨bm, 0, none⟩ = some (.slice ao 0 cap) := cell_of_block (block_alloc_old h) 0
  have H := Lib.hid h
  clear h
  go_enter Try.func33, Try.ntmps33
  go_wp2_with fail
  refine wp_loop_rounds 1 ?_; rw [rounds_succ]
  go_wp2_with fail
  go_ret
  exact ⟨rfl, (Turn.refl _ _).alloc _⟩

set_option maxRecDepth 100000 in
set_option maxHeartbeats 2000000 in
theorem find_some (bm g cap : Nat) (G : Nat → Prop) (L : List Mk) (pr ip : Int) (po : Nat) (w : World) (r : RefAt w bm G L (.slice (some ⟨g, 0, none⟩) L.length cap)) (hlen : L.length ≤ 1000) :
    Calls Try.prog 33 #[.pointer (some ⟨bm, 0, none⟩), .int .u8 pr, .agg #[.int .u32 ip, .int .u16 (po : Int)]] w (FindPost L (pr, ip, po) w) := by
  have t0 : Turn (fun _ => False) w (w.alloc (.cells #[.int .u32 ip, .int .u16 (po : Int)] 45)) := (Turn.refl _ _).alloc _
  have r0 := r.turn t0 (fun _ h => h.elim)
  have b0 : (w.alloc (.cells #[.int .u32 ip, .int .u16 (po : Int)] 45)).heap[w.heap.size]? = some (.cells #[.int .u32 ip, .int .u16 (po : Int)] 45 (0, 0)) := block_alloc_new _ _
  obtain ⟨W, hW⟩ : ∃ W, W = w.alloc (.cells #[.int .u32 ip, .int .u16 (po : Int)] 45) := ⟨_, rfl⟩
  rw [← hW] at t0 r0 b0
  clear r
  go_enter Try.func33, Try.ntmps33
  go_wp2_with fail
  rw [← hW]
  clear hW
  go_loopg [7] L.length (fun gk i wr => ∃ (k : Nat), gk = L.length - k ∧ k ≤ L.length ∧ i = .int .i64 k ∧ (∃ n, wr = W.drewN n) ∧ Hid (∀ j, j < k → L[j]? ≠ some (pr, ip, po)))
  case atStart => exact ⟨0, rfl, Nat.zero_le _, rfl, ⟨0, rfl⟩, fun j hj => by omega⟩
  case round =>
    obtain ⟨k, rfl, hk, rfl, ⟨nd, rfl⟩, hall⟩ := hrel
    have c0 : W.cell? ⟨bm, 0, none⟩ = some (.slice (some ⟨g, 0, none⟩) L.length cap) := cell_of_block r0.1 0
    by_cases hlt : k < L.length
    · obtain ⟨m, hm⟩ : ∃ m, L[k]? = some m := ⟨_, List.getElem?_eq_getElem hlt⟩
      obtain ⟨g0, g1, g2⟩ := markCells_get L k m hm
      have d0 : W.cell? ⟨g, k * 3, none⟩ = some (.int .u8 m.1) := ((r0.2.1.cells _ (by omega)).trans g0)
      have d1 : W.cell? ⟨g, k * 3 + 1, none⟩ = some (.int .u32 m.2.1) := ((r0.2.1.cells _ (by omega)).trans g1)
      have d2 : W.cell? ⟨g, k * 3 + 2, none⟩ = some (.int .u16 (m.2.2 : Int)) := ((r0.2.1.cells _ (by omega)).trans g2)
      have e0 : W.cell? ⟨w.heap.size, 0, none⟩ = some (.int .u32 ip) := (cell_of_block b0 0)
      have e1 : W.cell? ⟨w.heap.size, 1, none⟩ = some (.int .u16 (po : Int)) := (cell_of_block b0 1)
      obtain ⟨mp, mi, mo⟩ := m
      have HM := Lib.hid hm
      clear hm g0 g1 g2
      simp only at d0 d1 d2
      have hk1 : (k : Int) < (L.length : Int) := by omega
      have hk2 : (0 : Int) ≤ (k : Int) := by omega
      by_cases hpr : mp = pr
      · subst hpr
        by_cases hip : mi = ip
        · subst hip
          by_cases hpo : mo = po
          · subst hpo
            go_wp2_with fail
            go_quiet (fail)
            go_wp2_with fail
            go_ret
            exact ⟨Or.inl ⟨k, HM.out, rfl⟩, (t0.drewN _).drewN _⟩
          · have hq : ((mo : Int) == (po : Int)) = false := by rw [beq_eq_false_iff_ne]; omega
            go_wp2_with fail
            go_quiet (fail)
            go_wp2_with fail
            go_roundg (L.length - (k + 1))
            · exact ⟨k + 1, rfl, by omega, rfl, ⟨nd + nq, rfl⟩, fun j hj hl => by
                rcases Nat.lt_succ_iff_lt_or_eq.1 hj with h | h
                · exact hall.out j h hl
                · subst h; rw [HM.out] at hl; simp_all⟩
            · omega
        · have hq : (mi == ip) = false := by rw [beq_eq_false_iff_ne]; exact hip
          go_wp2_with fail
          go_quiet (fail)
          go_wp2_with fail
          go_roundg (L.length - (k + 1))
          · exact ⟨k + 1, rfl, by omega, rfl, ⟨nd + nq, rfl⟩, fun j hj hl => by
              rcases Nat.lt_succ_iff_lt_or_eq.1 hj with h | h
              · exact hall.out j h hl
              · subst h; rw [HM.out] at hl; simp_all⟩
          · omega
      · have hq : (mp == pr) = false := by rw [beq_eq_false_iff_ne]; exact hpr
        go_wp2_with fail
        go_quiet (fail)
        go_wp2_with fail
        go_roundg (L.length - (k + 1))
        · exact ⟨k + 1, rfl, by omega, rfl, ⟨nd + nq, rfl⟩, fun j hj hl => by
            rcases Nat.lt_succ_iff_lt_or_eq.1 hj with h | h
            · exact hall.out j h hl
            · subst h; rw [HM.out] at hl; simp_all⟩
        · omega
    · go_wp2_with fail
      go_ret
      refine ⟨Or.inr ⟨fun hmem => ?_, rfl⟩, t0.drewN _⟩
      obtain ⟨j, hj⟩ := List.getElem?_of_mem hmem
      exact hall.out j (by have := (List.getElem?_eq_some_iff.1 hj).1; omega) hj
end Go.Proofs.Ytpnobcffglohnaa
