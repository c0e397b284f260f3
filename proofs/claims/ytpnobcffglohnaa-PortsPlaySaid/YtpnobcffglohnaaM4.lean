/- ports.Ports.Take. No condition but the numbers' bounds. -/
import Derived.Test.YtpnobcffglohnaaM3
import Derived.Deep.DeepCutAuto
namespace Go.Proofs.Ytpnobcffglohnaa
open Go.RowKit
set_option linter.unusedVariables false
set_option linter.unusedSimpArgs false

/-- A class's first and last port. -/
def tkLo (lo want : Nat) : Nat := (if want < 1024 then lo else max lo 1024) + (if (if want < 1024 then lo else max lo 1024) % 2 = want % 2 then 0 else 1)
def tkHi (hi want : Nat) : Nat := if want < 1024 then min hi 1023 else hi

theorem tdiv_two (a b : Nat) (ha : a ≤ 65536) (hb : b < 65536) : ∃ d : Int, ((b : Int) - (a : Int)).tdiv 2 = d ∧ -65536 ≤ d ∧ d ≤ 65536 ∧ (a ≤ b → d = ((b - a) / 2 : Nat)) ∧ (b < a → d = -((a - b) / 2 : Nat)) := by
  refine ⟨_, rfl, ?_⟩
  by_cases h : a ≤ b
  · rw [Int.tdiv_eq_ediv_of_nonneg (by omega)]
    refine ⟨by omega, by omega, fun _ => by omega, fun hlt => by omega⟩
  · have e : ((b : Int) - (a : Int)) = -((a : Int) - (b : Int)) := by omega
    rw [e, Int.neg_tdiv, Int.tdiv_eq_ediv_of_nonneg (by omega)]
    refine ⟨by omega, by omega, fun hle => by omega, fun _ => by omega⟩

/-- What Take leaves: the first free point of the class's ports of the pool, held; or none. -/
def Took (w : World) (bp : Nat) (F : Nat → Prop) (h : Int → Int → Nat → Bool) (n pr : Int) (len : Nat) (P : Nat → Int) (a b : Nat) (e : Ending) (w' : World) : Prop :=
  (∃ i p, i < len ∧ a ≤ p ∧ p ≤ b ∧ p % 2 = a % 2 ∧ h pr (P i) p = false ∧ (∀ j q, j < i → a ≤ q → q ≤ b → q % 2 = a % 2 → h pr (P j) q = true) ∧ (∀ q, a ≤ q → q < p → q % 2 = a % 2 → h pr (P i) q = true) ∧
    Turned w bp F (.tuple #[.agg #[.int .u32 (P i), .int .u16 (p : Int)], .int .i64 0]) (hset h pr (P i) p true) (n + 1) e w') ∨
  ((∀ j q, j < len → a ≤ q → q ≤ b → q % 2 = a % 2 → h pr (P j) q = true) ∧ e = .returned (.tuple #[.agg #[.int .u32 0, .int .u16 0], .int .i64 120]) ∧ PortsIs w' bp F h n ∧ Turn F w w')

set_option maxRecDepth 100000 in
set_option maxHeartbeats 2000000 in
theorem ptake_any (bp : Nat) (F : Nat → Prop) (h : Int → Int → Nat → Bool) (n pr : Int) (ao : Option Addr) (len cap : Nat) (P : Nat → Int) (lo hi want : Nat) (w : World) (p : PortsIs w bp F h n) (h1 : W8 pr)
    (hlo : lo < 65536) (hhi : hi < 65536) (hwant : want < 65536) (hn : 0 ≤ n) (hn' : n < 4611686018427387904) (hlen : len ≤ 4611686018427387904)
    (hP : ∀ i, i < len → ∃ b off, ao = some ⟨b, off, none⟩ ∧ ¬ F b ∧ w.cell? ⟨b, off + i, none⟩ = some (.int .u32 (P i))) (hW : ∀ i, i < len → W32 (P i)) :
    Calls Try.prog 21 #[.pointer (some ⟨bp, 0, none⟩), .int .u8 pr, .slice ao len cap, .int .u16 (lo : Int), .int .u16 (hi : Int), .int .u16 (want : Int)] w (Took w bp F h n pr len P (tkLo lo want) (tkHi hi want)) := by
  have HP := Lib.hid (And.intro p (And.intro h1 (And.intro hP hW)))
  clear hP hW p h1
  obtain ⟨m, hm⟩ : ∃ m, m = if want < 1024 then lo else max lo 1024 := ⟨_, rfl⟩
  obtain ⟨a, ha⟩ : ∃ a, a = tkLo lo want := ⟨_, rfl⟩
  obtain ⟨b, hb⟩ : ∃ b, b = tkHi hi want := ⟨_, rfl⟩
  have ha2 : a = m + (if m % 2 = want % 2 then 0 else 1) := by rw [ha, hm]; rfl
  have hm1 : m < 65536 := by rw [hm]; split <;> omega
  have hb1 : b < 65536 := by rw [hb]; unfold tkHi; split <;> omega
  have ha1 : a ≤ 65536 := by rw [ha2]; split <;> omega
  rw [← ha, ← hb]
  have HM := Lib.hid (And.intro hm (And.intro ha2 hb))
  clear hm ha ha2 hb
  go_enter Try.func21, Try.ntmps21
  go_upto_region 1 with (fail)
  go_cut [14, 15] (fun s14 s15 w' => s14 = .int .i64 ((max lo 1024 : Nat) : Int) ∧ s15 = .int .i64 (hi : Int) ∧ w' = w.alloc (.cells #[.int .u32 0, .int .u16 0] 45))
  case first =>
    go_wp2_with fail
    all_goals go_meet
    all_goals (refine ⟨?_, rfl, rfl⟩; congr 1; omega)
  case rest =>
    obtain ⟨rfl, rfl, rfl⟩ := hcut
    go_upto_if 27 with (fail)
    go_cut [14, 15] (fun s14 s15 w' => s14 = .int .i64 (m : Int) ∧ s15 = .int .i64 (b : Int) ∧ w' = w.alloc (.cells #[.int .u32 0, .int .u16 0] 45))
    case first =>
      go_wp2_with fail
      all_goals go_meet
      all_goals (obtain ⟨e1, _, e3⟩ := HM.out; unfold tkHi at e3; refine ⟨?_, ?_, rfl⟩ <;> congr 1 <;> (split at e1 <;> split at e3 <;> omega))
    case rest =>
      obtain ⟨rfl, rfl, rfl⟩ := hcut
      go_upto_if 38 with (fail)
      go_cut [14, 15] (fun s14 s15 w' => s14 = .int .i64 (a : Int) ∧ s15 = .int .i64 (b : Int) ∧ w' = w.alloc (.cells #[.int .u32 0, .int .u16 0] 45))
      case first =>
        go_wp2_with fail
        all_goals go_meet
        · have ht : ((m : Int) % 2 != (want : Int) % 2) = true := by assumption
          refine ⟨?_, rfl, rfl⟩
          rw [bne_iff_ne] at ht
          have e2 := HM.out.2.1
          rw [if_neg (by omega)] at e2
          congr 1; omega
        · have ht : ((m : Int) % 2 != (want : Int) % 2) = false := by assumption
          refine ⟨?_, rfl, rfl⟩
          rw [bne_eq_false_iff_eq] at ht
          have e2 := HM.out.2.1
          rw [if_pos (by omega)] at e2
          congr 1; omega
      case rest =>
        obtain ⟨rfl, rfl, rfl⟩ := hcut
        have pR : PortsIs (w.alloc (.cells #[.int .u32 0, .int .u16 0] 45)) bp F h n := HP.out.1.turn ((Turn.refl (fun _ => False) w).alloc _) (fun _ _ _ h => h)
        have tR : Turn F w (w.alloc (.cells #[.int .u32 0, .int .u16 0] 45)) := (Turn.refl _ _).alloc _
        have kR : (w.alloc (.cells #[.int .u32 0, .int .u16 0] 45)).heap[w.heap.size]? = some (.cells #[.int .u32 0, .int .u16 0] 45 (0, 0)) := block_alloc_new _ _
        have hRF : ¬ F w.heap.size := fun hf => by
          obtain ⟨bm, f, q⟩ := HP.out.1.ex
          have := q.2.2.2.2.2.2.2 _ hf
          omega
        generalize hRe : w.heap.size = R at *
        have HR := Lib.hid hRe
        clear hRe
        generalize hW0 : w.alloc (.cells #[.int .u32 0, .int .u16 0] 45) = W0 at *
        clear hW0
        go_wp2_with fail
        go_loopg [43] len (fun g i wr => ∃ k : Nat, g = len - k ∧ k ≤ len ∧ i = .int .i64 k ∧ PortsIs wr bp F h n ∧ Turn F w wr ∧ wr.heap[R]? = some (.cells #[.int .u32 0, .int .u16 0] 45 (0, 0)) ∧
          Hid (∀ j q, j < k → a ≤ q → q ≤ b → q % 2 = a % 2 → h pr (P j) q = true))
        case atStart => exact ⟨0, rfl, Nat.zero_le _, rfl, pR, tR, kR, fun j q hj => absurd hj (Nat.not_lt_zero _)⟩
        case round =>
          clear pR tR kR
          obtain ⟨k, rfl, hk, rfl, pr1, tr1, kr1, hall⟩ := hrel
          by_cases hlt : k < len
          · obtain ⟨pb, po, rfl, hpb, hcell⟩ := HP.out.2.2.1 k hlt
            have hc : wr.cell? ⟨pb, po + k, none⟩ = some (.int .u32 (P k)) := (World.cell?_of_block (tr1.block _ (cell_block_lt hcell) hpb)).trans hcell
            obtain ⟨N, hN⟩ : ∃ N, N = if a ≤ b then (b - a) / 2 + 1 else if a = b + 1 then 1 else 0 := ⟨_, rfl⟩
            have hN1 : N ≤ 65536 := by rw [hN]; split <;> (try split) <;> omega
            have HN := Lib.hid hN
            clear hN
            go_upto_region 9 with (fail)
            go_cut [52, 53] (fun s52 s53 w' => s52 = .int .i64 (N : Int) ∧ s53 = .int .i64 0 ∧ w' = wr)
            case first =>
              obtain ⟨d, hd, d1, d2, d3, d4⟩ := tdiv_two a b ha1 hb1
              have D3 := Lib.hid d3
              have D4 := Lib.hid d4
              clear d3 d4
              go_wp2_with fail
              all_goals go_meet
              all_goals (refine ⟨?_, rfl, rfl⟩; congr 1; have q1 := HN.out; have q2 := D3.out; have q3 := D4.out; clear hd; split at q1 <;> (try split at q1) <;> omega)
            case rest =>
              obtain ⟨rfl, rfl, rfl⟩ := hcut
              clear hcell hc
              have hc' := hall
              clear hall
              go_wp2_with fail
              go_loopg [53] N (fun g s wi => ∃ j : Nat, g = N - j ∧ j ≤ N ∧ s = .int .i64 j ∧ PortsIs wi bp F h n ∧ Turn F w wi ∧ wi.heap[R]? = some (.cells #[.int .u32 0, .int .u16 0] 45 (0, 0)) ∧
                Hid (∀ q, a ≤ q → q < a + 2 * j → q ≤ b → q % 2 = a % 2 → h pr (P k) q = true))
              case atStart => exact ⟨0, rfl, Nat.zero_le _, rfl, pr1, tr1, kr1, fun q h0 h1 => by omega⟩
              case round =>
                obtain ⟨j, rfl, hj, rfl, pr2, tr2, kr2, hsome⟩ := hrel
                by_cases hjl : j < N
                · by_cases hle : a + 2 * j ≤ b
                  · obtain ⟨pp, hpp⟩ : ∃ pp, pp = a + 2 * j := ⟨_, rfl⟩
                    have hw16 : IntKind.u16.wrap ((a : Int) + 2 * (j : Int)) = (pp : Int) := by rw [IntKind.wrap_u16]; omega
                    have hpp1 : pp < 65536 := by omega
                    have HPP := Lib.hid hpp
                    clear hpp
                    have tA : Turn (fun _ => False) wr (wr.alloc (.cells #[.int .u32 (P k), .int .u16 (pp : Int)] 45)) := (Turn.refl _ _).alloc _
                    have pA := pr2.turn tA (fun _ _ _ h => h)
                    have kA : (wr.alloc (.cells #[.int .u32 (P k), .int .u16 (pp : Int)] 45)).heap[R]? = some (.cells #[.int .u32 0, .int .u16 0] 45 (0, 0)) := block_alloc_old kr2
                    have nA : (wr.alloc (.cells #[.int .u32 (P k), .int .u16 (pp : Int)] 45)).heap[wr.heap.size]? = some (.cells #[.int .u32 (P k), .int .u16 (pp : Int)] 45 (0, 0)) := block_alloc_new _ _
                    have hBF : ¬ F wr.heap.size := fun hf => by
                      obtain ⟨bm, f, q⟩ := pr2.ex
                      have := q.2.2.2.2.2.2.2 _ hf
                      omega
                    go_wp2_with fail
                    by_cases hh : h pr (P k) pp = true
                    · refine (hold_held bp F h n pr (P k) pp _ pA HP.out.2.1 (HP.out.2.2.2 k hlt) hpp1 hh).mono ?_
                      rintro e w2 ⟨rfl, t2⟩
                      have p2 := pA.turn t2 (fun _ _ _ h => h)
                      have k2 := (t2.block R (block_lt kA) (fun h => h)).trans kA
                      have T2 : Turn F w w2 := (tr2.trans (tA.mono (fun _ _ h => h.elim))).trans (t2.mono (fun _ _ h => h.elim))
                      clear pA kA nA tA
                      go_wp2_with fail
                      go_roundg (N - (j + 1))
                      case measure => omega
                      case rel => exact ⟨j + 1, rfl, by omega, by go_num, p2, T2, k2, fun q h0 h1 h2 h3 => by
                        have e := HPP.out
                        by_cases h4 : q < a + 2 * j
                        · exact hsome.out q h0 h4 h2 h3
                        · rw [show q = pp by omega]; exact hh⟩
                    · refine (hold_free bp F h n pr (P k) pp _ pA HP.out.2.1 (HP.out.2.2.2 k hlt) hpp1 (by simpa using hh) hn hn').mono ?_
                      rintro e w2 ⟨rfl, F', p2, t2, hF'⟩
                      have k2 := (t2.block R (block_lt kA) hRF).trans kA
                      have n2 := (t2.block _ (block_lt nA) hBF).trans nA
                      have T2 : Turn F w w2 := (tr2.trans (tA.mono (fun _ _ h => h.elim))).trans t2
                      have g0 : w2.cell? ⟨R, 0, none⟩ = some (.int .u32 0) := cell_of_block k2 0
                      have g1 : w2.cell? ⟨R, 1, none⟩ = some (.int .u16 0) := cell_of_block k2 1
                      have g2 : w2.frozen? ⟨R, 0, none⟩ = false := free_of_block k2 0
                      have g3 : w2.frozen? ⟨R, 1, none⟩ = false := free_of_block k2 1
                      have g4 : w2.cell? ⟨wr.heap.size, 0, none⟩ = some (.int .u32 (P k)) := cell_of_block n2 0
                      have g5 : w2.cell? ⟨wr.heap.size, 1, none⟩ = some (.int .u16 (pp : Int)) := cell_of_block n2 1
                      have blk := block_setCell (block_setCell k2 0 (.int .u32 (P k))) 1 (.int .u16 (pp : Int))
                      have trn : Turn (fun i => i = R) w2 ((w2.setCell ⟨R, 0, none⟩ (.int .u32 (P k))).setCell ⟨R, 1, none⟩ (.int .u16 (pp : Int))) := ((Turn.refl (fun i => i = R) w2).setCell (p := ⟨R, 0, none⟩) _ (fun _ => rfl)).setCell (p := ⟨R, 1, none⟩) _ (fun _ => rfl)
                      have hRs : R < (wr.alloc (.cells #[.int .u32 (P k), .int .u16 (pp : Int)] 45)).heap.size := block_lt kA
                      have hF2 : ∀ i, i < w2.heap.size → F' i → ¬ (i = R) := fun i _ hi e => by
                        subst e
                        rcases hF' _ hi with q | q
                        · exact hRF q
                        · omega
                      have p3 := p2.turn trn hF2
                      have T3 : Turn F w ((w2.setCell ⟨R, 0, none⟩ (.int .u32 (P k))).setCell ⟨R, 1, none⟩ (.int .u16 (pp : Int))) := T2.trans2 trn (fun i hi e => by have := HR.out; omega)
                      have X := Lib.hid (And.intro blk (And.intro p3 T3))
                      clear blk trn p3 T3
                      go_wp2_with fail
                      obtain ⟨blk, p3, T3⟩ := X.out
                      have r0 := cell_of_block blk 0
                      have r1 := cell_of_block blk 1
                      refine bodyPost_ret (v := .tuple #[.agg #[.int .u32 (P k), .int .u16 (pp : Int)], .int .i64 0]) (by simp [results, Try.results21, go_sem, r0, r1]) rfl (Or.inl ⟨k, pp, hlt, by have := HPP.out; omega, by have := HPP.out; omega, by have := HPP.out; omega, by simpa using hh, hc'.out, fun q h0 h1 h2 => ?_, rfl, F', p3, T3, fun i hi => ?_⟩)
                      · have := HPP.out
                        exact hsome.out q h0 (by omega) (by omega) h2
                      · rcases hF' i hi with q | q
                        · exact Or.inl q
                        · have := HR.out
                          exact Or.inr (by omega)
                  · go_wp2_with fail
                    go_roundg (N - (j + 1))
                    case measure => omega
                    case rel => exact ⟨j + 1, rfl, by omega, by go_num, pr2.turn ((Turn.refl (fun _ => False) wr).alloc _) (fun _ _ _ h => h), tr2.alloc _, block_alloc_old kr2, fun q h0 h1 h2 h3 => by
                      exact hsome.out q h0 (by omega) h2 h3⟩
                · go_wp2_with fail
                  go_roundg (len - (k + 1))
                  case measure => omega
                  case rel => exact ⟨k + 1, rfl, by omega, by go_num, pr2, tr2, kr2, fun i q h0 h1 h2 h3 => by
                    by_cases h4 : i < k
                    · exact hc'.out i q h4 h1 h2 h3
                    · have e := HN.out
                      rw [show i = k by omega]
                      exact hsome.out q h1 (by split at e <;> (try split at e) <;> omega) h2 h3⟩
          · have e0 : wr.cell? ⟨R, 0, none⟩ = some (.int .u32 0) := cell_of_block kr1 0
            have e1 : wr.cell? ⟨R, 1, none⟩ = some (.int .u16 0) := cell_of_block kr1 1
            have f0 : wr.frozen? ⟨R, 0, none⟩ = false := free_of_block kr1 0
            have f1 : wr.frozen? ⟨R, 1, none⟩ = false := free_of_block kr1 1
            go_wp2_with fail
            have hall' : ∀ j q, j < len → a ≤ q → q ≤ b → q % 2 = a % 2 → h pr (P j) q = true := fun j q hj => hall.out j q (by omega)
            have blk := block_setCell (block_setCell kr1 0 (.int .u32 0)) 1 (.int .u16 0)
            have trn : Turn (fun i => i = R) wr ((wr.setCell ⟨R, 0, none⟩ (.int .u32 0)).setCell ⟨R, 1, none⟩ (.int .u16 0)) := ((Turn.refl (fun i => i = R) wr).setCell (p := ⟨R, 0, none⟩) _ (fun _ => rfl)).setCell (p := ⟨R, 1, none⟩) _ (fun _ => rfl)
            have pf := pr1.turn trn (fun i _ hi e => hRF (e ▸ hi))
            have r0 := cell_of_block blk 0
            have r1 := cell_of_block blk 1
            have T3 : Turn F w ((wr.setCell ⟨R, 0, none⟩ (.int .u32 0)).setCell ⟨R, 1, none⟩ (.int .u16 0)) := tr1.trans2 trn (fun i hi e => by have := HR.out; omega)
            exact bodyPost_ret (v := .tuple #[.agg #[.int .u32 0, .int .u16 0], .int .i64 120]) (by simp [results, Try.results21, go_sem, r0, r1]) rfl (Or.inr ⟨hall', rfl, pf, T3⟩)
end Go.Proofs.Ytpnobcffglohnaa
