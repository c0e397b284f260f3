/- lychref17.Ports.Take. No condition but the numbers' bounds. -/
import Derived.Test.YtpnobcffglohnaaR3
namespace Go.Proofs.Ytpnobcffglohnaa
open Go.RowKit
set_option linter.unusedVariables false
set_option linter.unusedSimpArgs false

/-- What the reference's Take leaves. -/
def MTook (w : World) (bm : Nat) (G : Nat → Prop) (L : List Mk) (pr : Int) (len : Nat) (P : Nat → Int) (a b : Nat) (e : Ending) (w' : World) : Prop :=
  (∃ i p, i < len ∧ a ≤ p ∧ p ≤ b ∧ p % 2 = a % 2 ∧ (pr, P i, p) ∉ L ∧ (∀ j q, j < i → a ≤ q → q ≤ b → q % 2 = a % 2 → (pr, P j, q) ∈ L) ∧ (∀ q, a ≤ q → q < p → q % 2 = a % 2 → (pr, P i, q) ∈ L) ∧
    RefTurned w bm G (.tuple #[.agg #[.int .u32 (P i), .int .u16 (p : Int)], .int .i64 0]) (L ++ [(pr, P i, p)]) e w') ∨
  ((∀ j q, j < len → a ≤ q → q ≤ b → q % 2 = a % 2 → (pr, P j, q) ∈ L) ∧ e = .returned (.tuple #[.agg #[.int .u32 0, .int .u16 0], .int .i64 120]) ∧ RefIs w' bm G L ∧ Turn (fun _ => False) w w')

set_option maxRecDepth 100000 in
set_option maxHeartbeats 4000000 in
theorem mtake_any (bm : Nat) (G : Nat → Prop) (L : List Mk) (pr : Int) (ao : Option Addr) (len cap : Nat) (P : Nat → Int) (lo hi want : Nat) (w : World) (r : RefIs w bm G L) (hL : L.length ≤ 1000)
    (hlo : lo < 65536) (hhi : hi < 65536) (hwant : want < 65536) (hlen : len ≤ 4611686018427387904)
    (hP : ∀ i, i < len → ∃ b off, ao = some ⟨b, off, none⟩ ∧ w.cell? ⟨b, off + i, none⟩ = some (.int .u32 (P i))) :
    Calls Try.prog 25 #[.pointer (some ⟨bm, 0, none⟩), .int .u8 pr, .slice ao len cap, .int .u16 (lo : Int), .int .u16 (hi : Int), .int .u16 (want : Int)] w (MTook w bm G L pr len P (tkLo lo want) (tkHi hi want)) := by
  have HP := Lib.hid (And.intro r hP)
  clear hP r
  obtain ⟨m, hm⟩ : ∃ m, m = if want < 1024 then lo else max lo 1024 := ⟨_, rfl⟩
  obtain ⟨a, ha⟩ : ∃ a, a = tkLo lo want := ⟨_, rfl⟩
  obtain ⟨b, hb⟩ : ∃ b, b = tkHi hi want := ⟨_, rfl⟩
  have ha2 : a = m + (if m % 2 = want % 2 then 0 else 1) := by rw [ha, hm]; rfl
  have hm1 : m < 65536 := by rw [hm]; split <;> omega
  have hb1 : b < 65536 := by rw [hb]; unfold tkHi; split <;> omega
  have ha1 : a ≤ 65536 := by rw [ha2]; split <;> omega
  rw [← ha, ← hb]
  have HM := Lib.hid (And.intro hm (And.intro ha2 hb))
  clear hm ha ha2 hb
  go_enter Try.func25, Try.ntmps25
  go_upto_if 24 with (fail)
  go_cut [14, 15] (fun s14 s15 w' => s14 = .int .i64 (m : Int) ∧ s15 = .int .i64 (b : Int) ∧ w' = w.alloc (.cells #[.int .u32 0, .int .u16 0] 45))
  case first =>
    go_wp2_with fail
    all_goals go_meet
    all_goals (obtain ⟨e1, _, e3⟩ := HM.out; unfold tkHi at e3; refine ⟨?_, ?_, rfl⟩ <;> congr 1 <;> (split at e1 <;> split at e3 <;> omega))
  case rest =>
    obtain ⟨rfl, rfl, rfl⟩ := hcut
    go_upto_if 34 with (fail)
    go_cut [14, 15] (fun s14 s15 w' => s14 = .int .i64 (a : Int) ∧ s15 = .int .i64 (b : Int) ∧ w' = w.alloc (.cells #[.int .u32 0, .int .u16 0] 45))
    case first =>
      go_wp2_with fail
      all_goals go_meet
      · have ht : ((m : Int) % 2 != (want : Int) % 2) = true := by assumption
        refine ⟨?_, rfl, rfl⟩
        rw [bne_iff_ne] at ht
        have e2 := HM.out.2.1
        rw [if_neg (by omega)] at e2
        congr 1; omega
      · have ht : ((m : Int) % 2 != (want : Int) % 2) = false := by assumption
        refine ⟨?_, rfl, rfl⟩
        rw [bne_eq_false_iff_eq] at ht
        have e2 := HM.out.2.1
        rw [if_pos (by omega)] at e2
        congr 1; omega
    case rest =>
      obtain ⟨rfl, rfl, rfl⟩ := hcut
      have tR : Turn (fun _ => False) w (w.alloc (.cells #[.int .u32 0, .int .u16 0] 45)) := (Turn.refl _ _).alloc _
      have pR : RefIs (w.alloc (.cells #[.int .u32 0, .int .u16 0] 45)) bm G L := HP.out.1.turn tR (fun _ h => h.elim)
      have kR : (w.alloc (.cells #[.int .u32 0, .int .u16 0] 45)).heap[w.heap.size]? = some (.cells #[.int .u32 0, .int .u16 0] 45 (0, 0)) := block_alloc_new _ _
      have hRF : ¬ (G w.heap.size ∨ w.heap.size = bm) := fun hf => by
        obtain ⟨v, q⟩ := HP.out.1
        rcases hf with h | h
        · have := q.2.2.2 _ h; omega
        · have := block_lt q.1; omega
      generalize hRe : w.heap.size = R at *
      have HR := Lib.hid hRe
      clear hRe
      generalize hW0 : w.alloc (.cells #[.int .u32 0, .int .u16 0] 45) = W0 at *
      clear hW0
      go_wp2_with fail
      go_loopg [16] len (fun g i wr => ∃ k : Nat, g = len - k ∧ k ≤ len ∧ i = .int .i64 k ∧ RefIs wr bm G L ∧ Turn (fun _ => False) w wr ∧ wr.heap[R]? = some (.cells #[.int .u32 0, .int .u16 0] 45 (0, 0)) ∧
        Hid (∀ j q, j < k → a ≤ q → q ≤ b → q % 2 = a % 2 → (pr, P j, q) ∈ L))
      case atStart => exact ⟨0, rfl, Nat.zero_le _, rfl, pR, tR, kR, fun j q hj => absurd hj (Nat.not_lt_zero _)⟩
      case round =>
        clear pR tR kR
        obtain ⟨k, rfl, hk, rfl, pr1, tr1, kr1, hall⟩ := hrel
        by_cases hlt : k < len
        · obtain ⟨pb, po, rfl, hcell⟩ := HP.out.2 k hlt
          have hc' := hall
          have PB := Lib.hid hcell
          clear hall hcell
          go_wp2_with fail
          go_loopg [17] (b + 2 - a) (fun g s wi => ∃ j : Nat, g = b + 2 - (a + 2 * j) ∧ (a + 2 * j ≤ b + 2 ∨ j = 0) ∧ s = .int .i64 ((a + 2 * j : Nat) : Int) ∧ RefIs wi bm G L ∧ Turn (fun _ => False) w wi ∧ wi.heap[R]? = some (.cells #[.int .u32 0, .int .u16 0] 45 (0, 0)) ∧
            Hid (∀ q, a ≤ q → q < a + 2 * j → q ≤ b → q % 2 = a % 2 → (pr, P k, q) ∈ L))
          case atStart => exact ⟨0, rfl, Or.inr rfl, rfl, pr1, tr1, kr1, fun q h0 h1 => by omega⟩
          case round =>
            obtain ⟨j, rfl, hj, rfl, pr2, tr2, kr2, hsome⟩ := hrel
            have hpb : a + 2 * j ≤ 65540 := by omega
            obtain ⟨pp, hpp⟩ : ∃ pp, pp = a + 2 * j := ⟨_, rfl⟩
            rw [← hpp] at hj hpb ⊢
            have HPP := Lib.hid hpp
            clear hpp
            by_cases hle : pp ≤ b
            · have hw16 : IntKind.u16.wrap (pp : Int) = (pp : Int) := by rw [IntKind.wrap_u16]; omega
              have hpp1 : pp < 65536 := by omega
              have hc : wr.cell? ⟨pb, po + k, none⟩ = some (.int .u32 (P k)) := (World.cell?_of_block (tr2.block _ (cell_block_lt PB.out) (fun h => h))).trans PB.out
              have tA : Turn (fun _ => False) wr (wr.alloc (.cells #[.int .u32 (P k), .int .u16 (pp : Int)] 45)) := (Turn.refl _ _).alloc _
              have pA := pr2.turn tA (fun _ h => h.elim)
              have kA : (wr.alloc (.cells #[.int .u32 (P k), .int .u16 (pp : Int)] 45)).heap[R]? = some (.cells #[.int .u32 0, .int .u16 0] 45 (0, 0)) := block_alloc_old kr2
              have nA : (wr.alloc (.cells #[.int .u32 (P k), .int .u16 (pp : Int)] 45)).heap[wr.heap.size]? = some (.cells #[.int .u32 (P k), .int .u16 (pp : Int)] 45 (0, 0)) := block_alloc_new _ _
              go_wp2_with fail
              refine (has_any bm G L pr (P k) pp _ pA hL).mono ?_
              rintro e w2 ⟨rfl, t2⟩
              by_cases hh : (pr, P k, pp) ∈ L
              · rw [decide_eq_true hh]
                have p2 := pA.turn t2 (fun _ h => h.elim)
                have k2 := (t2.block R (block_lt kA) (fun h => h)).trans kA
                have T2 : Turn (fun _ => False) w w2 := (tr2.trans tA).trans t2
                clear pA kA nA tA
                go_wp2_with fail
                go_roundg (b + 2 - (pp + 2))
                case measure => have := HPP.out; omega
                case rel => exact ⟨j + 1, by have := HPP.out; omega, by have := HPP.out; omega, by have := HPP.out; congr 1; omega, p2, T2, k2, fun q h0 h1 h2 h3 => by
                  have e := HPP.out
                  by_cases h4 : q < a + 2 * j
                  · exact hsome.out q h0 h4 h2 h3
                  · rw [show q = pp by omega]; exact hh⟩
              · rw [decide_eq_false hh]
                obtain ⟨v, rA⟩ := pA
                have r2 := rA.turn t2 (fun _ h => h.elim)
                have k2 := (t2.block R (block_lt kA) (fun h => h)).trans kA
                have n2 := (t2.block wr.heap.size (block_lt nA) (fun h => h)).trans nA
                have hne : wr.heap.size ≠ bm ∧ wr.heap.size ≠ R ∧ ¬ G wr.heap.size := by
                  obtain ⟨v', q⟩ := pr2
                  refine ⟨fun e => ?_, fun e => ?_, fun h => ?_⟩
                  · have := block_lt q.1; omega
                  · have := block_lt kr2; omega
                  · have := q.2.2.2 _ h; omega
                have T2 : Turn (fun _ => False) w w2 := (tr2.trans tA).trans t2
                have Z := Lib.hid (And.intro T2 (And.intro k2 (And.intro n2 (And.intro hne hh))))
                clear pr2 rA kA nA tA t2 tr2 kr2 T2 hne hh
                have d0 : w2.cell? ⟨bm, 0, none⟩ = some v := cell_of_block r2.1 0
                have d1 : w2.cell? ⟨wr.heap.size, 0, none⟩ = some (.int .u32 (P k)) := cell_of_block n2 0
                have d2 : w2.cell? ⟨wr.heap.size, 1, none⟩ = some (.int .u16 (pp : Int)) := cell_of_block n2 1
                have d3 : w2.frozen? ⟨bm, 0, none⟩ = false := free_of_block r2.1 0
                have hbs : bm < w2.heap.size := block_lt r2.1
                have R1 := Lib.hid r2
                clear r2 k2 n2
                go_wp2_with fail
                go_region_law (
                  refine step_append_R rfl (.tmp 65) (.tmp 69) rfl (by rfl) (RowR.turn R1.out.2.1 (F := fun _ => False) (by exact ((Turn.refl _ _).alloc _).drew) (fun _ _ h => h)) (by omega) _ 1 1 [.int .u8 pr, .int .u32 (P k), .int .u16 (pp : Int)] (by rfl) (by decide) rfl
                    (by intro j u hu; rcases j with _ | _ | _ | j <;> simp at hu <;> subst hu <;> exact cell_of_block (block_alloc_new _ _) _) (by intro u hu; simp at hu; rcases hu with rfl | rfl | rfl <;> rfl) (fun _ => by decide) ?_
                  intro g cap w' hrow hturn
                  have hb' := (hturn.block bm (by simp; omega) R1.out.2.2.1).trans ((Below.heap_alloc _ _ _ hbs).trans R1.out.1)
                  have z0 : w'.frozen? ⟨bm, 0, none⟩ = false := free_of_block hb' 0
                  have z1 : w'.cell? ⟨bm, 0, none⟩ = some v := cell_of_block hb' 0
                  clear hb')
                all_goals
                  have fin := RefAt.more (pr, P k, pp) R1.out (((Turn.refl (fun _ => False) w2).alloc (.cells #[.int .u8 pr, .int .u32 (P k), .int .u16 (pp : Int)] 64)).drew) rfl hrow hturn rfl
                  generalize (w'.setCell ⟨bm, 0, none⟩ _) = Y at *
                  clear hrow hturn z0 z1 d0 d1 d2 d3
                  obtain ⟨G', f1, f2, f3⟩ := fin
                  have kY := (f2.block R (block_lt Z.out.2.1) hRF).trans Z.out.2.1
                  have nY := (f2.block wr.heap.size (block_lt Z.out.2.2.1) (fun h => h.elim Z.out.2.2.2.1.2.2 Z.out.2.2.2.1.1)).trans Z.out.2.2.1
                  have g0 : Y.cell? ⟨R, 0, none⟩ = some (.int .u32 0) := cell_of_block kY 0
                  have g1 : Y.cell? ⟨R, 1, none⟩ = some (.int .u16 0) := cell_of_block kY 1
                  have g2 : Y.frozen? ⟨R, 0, none⟩ = false := free_of_block kY 0
                  have g3 : Y.frozen? ⟨R, 1, none⟩ = false := free_of_block kY 1
                  have g4 : Y.cell? ⟨wr.heap.size, 0, none⟩ = some (.int .u32 (P k)) := cell_of_block nY 0
                  have g5 : Y.cell? ⟨wr.heap.size, 1, none⟩ = some (.int .u16 (pp : Int)) := cell_of_block nY 1
                  have blk := block_setCell (block_setCell kY 0 (.int .u32 (P k))) 1 (.int .u16 (pp : Int))
                  have trn : Turn (fun i => i = R) Y ((Y.setCell ⟨R, 0, none⟩ (.int .u32 (P k))).setCell ⟨R, 1, none⟩ (.int .u16 (pp : Int))) := ((Turn.refl (fun i => i = R) Y).setCell (p := ⟨R, 0, none⟩) _ (fun _ => rfl)).setCell (p := ⟨R, 1, none⟩) _ (fun _ => rfl)
                  have hR2 : R < w2.heap.size := block_lt Z.out.2.1
                  have p3 := f1.turn trn (fun i e => by
                    subst e
                    exact ⟨fun h => by rcases f3 _ h with q | q; exact hRF (Or.inl q); omega, fun h => hRF (Or.inr h)⟩)
                  have T3 : Turn (fun k => G k ∨ k = bm) w ((Y.setCell ⟨R, 0, none⟩ (.int .u32 (P k))).setCell ⟨R, 1, none⟩ (.int .u16 (pp : Int))) := ((Z.out.1.mono (fun _ _ h => h.elim)).trans f2).trans2 trn (fun i hi e => by have := HR.out; omega)
                  have F3 : ∀ k, G' k → G k ∨ w.heap.size ≤ k := fun k hk => by
                    rcases f3 k hk with q | q
                    · exact Or.inl q
                    · have := Z.out.1.size; exact Or.inr (by omega)
                  have X := Lib.hid (And.intro blk (And.intro p3 (And.intro T3 F3)))
                  clear blk trn p3 T3 F3 f1 f2 f3 kY nY
                  go_wp2_with fail
                  obtain ⟨blk, p3, T3, F3⟩ := X.out
                  have r0 := cell_of_block blk 0
                  have r1 := cell_of_block blk 1
                  refine bodyPost_ret (v := .tuple #[.agg #[.int .u32 (P k), .int .u16 (pp : Int)], .int .i64 0]) (by simp [results, Try.results25, go_sem, r0, r1]) rfl (Or.inl ⟨k, pp, hlt, by have := HPP.out; omega, hle, by have := HPP.out; omega, Z.out.2.2.2.2, hc'.out, fun q h0 h1 h2 => ?_, rfl, G', p3, T3, F3⟩)
                  have := HPP.out
                  exact hsome.out q h0 (by omega) (by omega) h2
            · go_wp2_with fail
              go_roundg (len - (k + 1))
              case measure => omega
              case rel => exact ⟨k + 1, rfl, by omega, by go_num, pr2, tr2, kr2, fun i q h0 h1 h2 h3 => by
                by_cases h4 : i < k
                · exact hc'.out i q h4 h1 h2 h3
                · have e := HPP.out
                  rw [show i = k by omega]
                  exact hsome.out q h1 (by omega) h2 h3⟩
        · have e0 : wr.cell? ⟨R, 0, none⟩ = some (.int .u32 0) := cell_of_block kr1 0
          have e1 : wr.cell? ⟨R, 1, none⟩ = some (.int .u16 0) := cell_of_block kr1 1
          have f0 : wr.frozen? ⟨R, 0, none⟩ = false := free_of_block kr1 0
          have f1 : wr.frozen? ⟨R, 1, none⟩ = false := free_of_block kr1 1
          go_wp2_with fail
          have hall' : ∀ j q, j < len → a ≤ q → q ≤ b → q % 2 = a % 2 → (pr, P j, q) ∈ L := fun j q hj => hall.out j q (by omega)
          have blk := block_setCell (block_setCell kr1 0 (.int .u32 0)) 1 (.int .u16 0)
          have trn : Turn (fun i => i = R) wr ((wr.setCell ⟨R, 0, none⟩ (.int .u32 0)).setCell ⟨R, 1, none⟩ (.int .u16 0)) := ((Turn.refl (fun i => i = R) wr).setCell (p := ⟨R, 0, none⟩) _ (fun _ => rfl)).setCell (p := ⟨R, 1, none⟩) _ (fun _ => rfl)
          have pf := pr1.turn trn (fun i e => by subst e; exact ⟨fun h => hRF (Or.inl h), fun h => hRF (Or.inr h)⟩)
          have r0 := cell_of_block blk 0
          have r1 := cell_of_block blk 1
          have T3 : Turn (fun _ => False) w ((wr.setCell ⟨R, 0, none⟩ (.int .u32 0)).setCell ⟨R, 1, none⟩ (.int .u16 0)) := tr1.trans2 trn (fun i hi e => by have := HR.out; omega)
          exact bodyPost_ret (v := .tuple #[.agg #[.int .u32 0, .int .u16 0], .int .i64 120]) (by simp [results, Try.results25, go_sem, r0, r1]) rfl (Or.inr ⟨hall', rfl, pf, T3⟩)
end Go.Proofs.Ytpnobcffglohnaa
