/- PortsFill: the walk. No condition. -/
import Derived.Test.YtpnobcffglohnaaM7
import Derived.Maps.AppendAt
namespace Go.Proofs.Ytpnobcffglohnaa
open Go.RowKit
set_option linter.unusedVariables false
set_option linter.unusedSimpArgs false

theorem turn_of_grown2 {w w' : World} {row : Option Nat} (h : w.grownBy w' row) : Turn (fun k => row = some k) w w' :=
  ⟨h.os, h.tape, h.output, h.size, fun k hk hne => h.block k hk (fun e => hne e.symm)⟩
def Cand (lo hi want r : Nat) : Prop := lo ≤ r ∧ r ≤ hi ∧ r % 2 = want % 2 ∧ (r < 1024 ↔ want < 1024)
theorem cand_iff (lo hi want r : Nat) : (tkLo lo want ≤ r ∧ r ≤ tkHi hi want ∧ r % 2 = tkLo lo want % 2) ↔ Cand lo hi want r := by
  unfold tkLo tkHi Cand
  split <;> (split <;> omega)
/-- What is held when point (i, k) is next. -/
def HeldF (h : Int → Int → Nat → Bool) (P : Nat → Int) (lo hi want N i k : Nat) : Prop := ∀ j po, j < N → (h 6 (P j) po = true ↔ Cand lo hi want po ∧ (j < i ∨ (j = i ∧ po < k)))

theorem HeldF.skip {h : Int → Int → Nat → Bool} {P : Nat → Int} {lo hi want N i k : Nat} (q : HeldF h P lo hi want N i k) (hk : ¬ Cand lo hi want k) : HeldF h P lo hi want N i (k + 1) := by
  intro j po hj
  rw [q j po hj]
  constructor
  · rintro ⟨h1, h2⟩; exact ⟨h1, by omega⟩
  · rintro ⟨h1, h2⟩
    have : po ≠ k := fun e => hk (e ▸ h1)
    exact ⟨h1, by omega⟩
theorem HeldF.next {h : Int → Int → Nat → Bool} {P : Nat → Int} {lo hi want N i k : Nat} (q : HeldF h P lo hi want N i k) (hP : ∀ a b, P a = P b → a = b) (hk : Cand lo hi want k) : HeldF (hset h 6 (P i) k true) P lo hi want N i (k + 1) := by
  intro j po hj
  unfold hset
  by_cases c : (6 : Int) = 6 ∧ P j = P i ∧ po = k
  · rw [if_pos c]
    obtain ⟨_, c1, rfl⟩ := c
    have := hP _ _ c1
    subst this
    exact ⟨fun _ => ⟨hk, Or.inr ⟨rfl, by omega⟩⟩, fun _ => rfl⟩
  · rw [if_neg c, q j po hj]
    constructor
    · rintro ⟨h1, h2⟩; exact ⟨h1, by omega⟩
    · rintro ⟨h1, h2⟩
      refine ⟨h1, ?_⟩
      by_cases e : j = i
      · subst e
        have : po ≠ k := fun e => c ⟨rfl, rfl, e⟩
        omega
      · omega
theorem HeldF.row {h : Int → Int → Nat → Bool} {P : Nat → Int} {lo hi want N i k : Nat} (q : HeldF h P lo hi want N i k) (hk : hi < k) : HeldF h P lo hi want N (i + 1) lo := by
  intro j po hj
  rw [q j po hj]
  constructor
  · rintro ⟨h1, h2⟩; exact ⟨h1, by omega⟩
  · rintro ⟨h1, h2⟩
    refine ⟨h1, ?_⟩
    have := h1.1
    have := h1.2.1
    omega

def poolCells (P : Nat → Int) (k : Nat) : List Value := (List.range k).map fun j => .int .u32 (P j)
theorem poolCells_succ (P : Nat → Int) (k : Nat) : poolCells P (k + 1) = poolCells P k ++ [.int .u32 (P k)] := by simp [poolCells, List.range_succ]

set_option maxRecDepth 100000 in
set_option maxHeartbeats 2000000 in
theorem fill_walk (n lo size want : Nat) (w : World) (hn : n < 256) (hlo : lo < 65536) (hsize : size < 65536) (hwant : want < 65536) :
    Calls Try.prog 6 #[.int .u8 (n : Int), .int .u16 (lo : Int), .int .u16 (size : Int), .int .u16 (want : Int)] w fun e w' => e = .returned (.bool true) ∧ Below w.heap.size w w' := by
  obtain ⟨i0, hi, hz0, hz1, hz2⟩ := info_parts (show (Try.prog.info? 22).map (fun i => (i.zero, i.size, i.bytes)) = some (some (.int .u32 0), 1, 4) by kernel_rfl)
  obtain ⟨L, hL⟩ : ∃ L, L = lo % 1100 := ⟨_, rfl⟩
  obtain ⟨S, hS⟩ : ∃ S, S = size % 60 := ⟨_, rfl⟩
  obtain ⟨N, hN⟩ : ∃ N, N = n % 4 := ⟨_, rfl⟩
  obtain ⟨M, hM⟩ : ∃ M, M = L + S := ⟨_, rfl⟩
  obtain ⟨P, hP⟩ : ∃ P : Nat → Int, P = fun (i : Nat) => 9 - (i : Int) := ⟨_, rfl⟩
  have hPi : ∀ a b, P a = P b → a = b := fun a b e => by rw [hP] at e; simp at e; omega
  have hPw : ∀ i, i < 4 → W32 (P i) := fun i hi => by
    rw [hP]; unfold W32
    match i, hi with
    | 0, _ => decide
    | 1, _ => decide
    | 2, _ => decide
    | 3, _ => decide
  have hPr : ∀ i : Nat, i < 4 → (9 - (i : Int)) = P i := fun i _ => by rw [hP]
  have hL1 : L < 1100 := by omega
  have hS1 : S < 60 := by omega
  have hN1 : N < 4 := by omega
  have hM1 : M < 1160 := by omega
  have eL : ((lo : Int) % 1100) = (L : Int) := by omega
  have eS : ((size : Int) % 60) = (S : Int) := by omega
  have eN : ((n : Int) % 4) = (N : Int) := by omega
  have eM : ((L : Int) + (S : Int)) = (M : Int) := by omega
  have HPP := Lib.hid (And.intro hPi (And.intro hPw hPr))
  have HM := Lib.hid hM
  clear hL hS hN hP hPi hPw hPr hM
  go_enter Try.func6, Try.ntmps6
  go_wp2_with fail
  refine (known17 _).mono ?_; rintro e wk ⟨rfl, tk⟩
  generalize hBe : w.heap.size = B at *
  have HB : B ≤ w.heap.size := by rw [hBe]; exact Nat.le_refl _
  have HBE := Lib.hid hBe
  clear hBe
  go_wp2_with fail
  rw [eL, eS]
  try rw [eM]
  clear eL eS
  go_loopg [10, 11] N (fun g v i wr => ∃ k : Nat, g = N - k ∧ k ≤ N ∧ i = .int .i64 k ∧ wr.ownsRow B 22 1 v k (poolCells P k) ∧ Below B w wr)
  case atStart => exact ⟨0, rfl, Nat.zero_le _, rfl, World.ownsRow_nil _ _ _ _, tk⟩
  case round =>
    clear tk
    obtain ⟨k, rfl, hk, rfl, hown, hb⟩ := hrel
    by_cases hlt : k < N
    · have ep := HPP.out.2.2 k (by omega)
      have o5 := hown.alloc (.cells #[.int .u32 (P k)] 22)
      have hs : B ≤ wr.heap.size := by have := hb.size; have := HBE.out; omega
      have b5 := hb.alloc hs (.cells #[.int .u32 (P k)] 22)
      have hp1 : 0 ≤ P k := by rw [← ep]; omega
      have hp2 : P k < 10 := by rw [← ep]; omega
      go_wp2_with (at_builtin; refine wpList_append_own_at _ rfl _ _ 23 rfl B 22 i0 (.int .u32 0) 1 4 Try.underlying23 hi hz0 hz1 hz2 rfl (by decide) u10 _ _ rfl o5 ⟨wr.heap.size, 0, none⟩ 1 1 [.int .u32 (P k)] rfl rfl ?c1 ?c2 ?c3 ?c4 ?c5 ?_)
      case c1 =>
        intro i u hu
        match i with
        | 0 => simp only [List.getElem?_cons_zero] at hu; rw [← hu]; exact cell_of_block (block_alloc_new _ _) 0
        | i + 1 => simp at hu
      case c2 => intro u hu; simp at hu; rw [hu]; rfl
      case c3 => unfold maxLen; omega
      case c4 => omega
      case c5 => simp; omega
      intro v' w' hown' hgrow _ _
      have tg := turn_of_grown2 hgrow
      have b6 : Below B w w' := tg.onto b5 HB (fun x hx e => by have := (hown.lt x e).1; omega)
      rw [← poolCells_succ] at hown'
      clear tg hgrow b5 o5
      go_wp2_with fail
      go_roundg (N - (k + 1))
      case measure => omega
      case rel => exact ⟨k + 1, rfl, by omega, by go_num, hown', b6⟩
    · have hkN : k = N := by omega
      subst hkN
      obtain ⟨ao, cap, rfl, hpool⟩ : ∃ ao cap, u10 = .slice ao k cap ∧ ∀ i, i < k → ∃ g, ao = some ⟨g, 0, none⟩ ∧ g < wr.heap.size ∧ wr.cell? ⟨g, i, none⟩ = some (.int .u32 (P i)) := by
        rcases hown.2 with ⟨h1, h2⟩ | ⟨g, cap, cur, h1, _, h3, _⟩
        · exact ⟨none, 0, by rw [h1, h2], fun i hi => by omega⟩
        · refine ⟨_, cap, h1, fun i hi => ⟨g, rfl, block_lt h3, ?_⟩⟩
          have := hown
          rw [h1] at this
          rw [this.cellAt i (by omega)]
          simp [poolCells, hi]
      have HPO := Lib.hid hpool
      clear hpool hown
      go_wp2_with fail
      refine (pnew_any _).mono ?_; rintro e w0 ⟨rfl, p0, t0⟩
      obtain ⟨F0, hF0⟩ : ∃ F0 : Nat → Prop, F0 = fun k => k = wr.heap.size ∨ k = wr.heap.size + 1 := ⟨_, rfl⟩
      rw [← hF0] at p0
      have hs : B ≤ wr.heap.size := by have := hb.size; have := HBE.out; omega
      have o0 : ∀ k, F0 k → wr.heap.size ≤ k := fun k hk => by rw [hF0] at hk; omega
      have b0 : Below B w w0 := t0.onto hb HB (fun _ _ h => h)
      have hpool : ∀ F : Nat → Prop, (∀ x, F x → wr.heap.size ≤ x) → ∀ W, Turn (fun x => wr.heap.size ≤ x) wr W → PoolIs W F ao k P := fun F hF W hW => ⟨fun i hi => by
        obtain ⟨g, rfl, hg, hc⟩ := HPO.out i hi
        exact ⟨g, 0, rfl, fun hf => by have := hF g hf; omega, by rw [Nat.zero_add]; exact (World.cell?_of_block (hW.block g hg (by omega))).trans hc⟩, fun i hi => HPP.out.2.1 i (by omega)⟩
      have HPL := Lib.hid hpool
      clear hpool hF0
      have T0 : Turn (fun x => wr.heap.size ≤ x) wr w0 := t0.mono (fun _ _ h => h.elim)
      generalize wr.heap.size + 1 = bp at *
      clear t0
      go_wp2_with fail
      have hu0 : HeldF (fun _ _ _ => false) P L M want k 0 L := fun j po _ => ⟨fun e => by simp at e, fun ⟨h1, h2⟩ => by have := h1.1; omega⟩
      generalize hZe : wr.heap.size = Z at *
      have HZ := Lib.hid hZe
      clear hZe
      obtain ⟨wz, hwz⟩ : ∃ wz : World, wz = wr := ⟨_, rfl⟩
      rw [← hwz] at HPO HPL T0 hb HZ
      clear hwz
      go_loopg [13] k (fun g i wi => ∃ (c cnt : Nat) (F : Nat → Prop) (h : Int → Int → Nat → Bool), g = k - c ∧ c ≤ k ∧ i = .int .i64 c ∧ cnt ≤ 61 * c ∧ PortsIs wi bp F h cnt ∧ Hid (∀ x, F x → Z ≤ x) ∧
        Turn (fun x => Z ≤ x) wz wi ∧ HeldF h P L M want k c L)
      case atStart => exact ⟨0, 0, F0, _, rfl, Nat.zero_le _, rfl, Nat.le_refl _, p0, o0, T0, hu0⟩
      case round =>
        clear p0 o0 T0 b0 hu0
        obtain ⟨i, cnt, F, h, rfl, hi0, rfl, hcnt, p1, o1, t1, hu1⟩ := hrel
        by_cases hik : i < k
        · go_wp2_with fail
          have hM0 := HM.out
          go_loopg [14] (M + 1 - L) (fun g s wj => ∃ (c cnt : Nat) (F : Nat → Prop) (h : Int → Int → Nat → Bool), g = M + 1 - c ∧ L ≤ c ∧ c ≤ M + 1 ∧ s = .int .i64 c ∧ cnt ≤ 61 * i + (c - L) ∧ PortsIs wj bp F h cnt ∧ Hid (∀ x, F x → Z ≤ x) ∧
            Turn (fun x => Z ≤ x) wz wj ∧ HeldF h P L M want k i c)
          case atStart => exact ⟨L, cnt, F, h, by omega, Nat.le_refl _, by omega, rfl, by omega, p1, o1, t1, hu1⟩
          case round =>
            clear hM0 p1 o1 t1 hu1 hcnt
            obtain ⟨c, cnt, F, h, rfl, hc0, hc1, rfl, hcnt, p1, o1, t1, hu1⟩ := hrel
            by_cases hcM : c ≤ M
            · by_cases hpar : c % 2 = want % 2
              · have hp2 : ((c : Int) % 2 != (want : Int) % 2) = false := by rw [bne_eq_false_iff_eq]; omega
                by_cases hcls : (c < 1024 ↔ want < 1024)
                · have hcand : Cand L M want c := ⟨hc0, hcM, hpar, hcls⟩
                  have hpool := HPL.out F o1.out wr t1
                  have hboth : (decide ((c : Int) < 1024) = true ∧ decide ((want : Int) < 1024) = true) ∨ (decide ((c : Int) < 1024) = false ∧ decide ((want : Int) < 1024) = false) := by
                    simp only [decide_eq_true_eq, decide_eq_false_iff_not]; omega
                  have HC := Lib.hid hcand
                  have HPL1 := Lib.hid hpool
                  clear hcand hpool hcls hpar
                  rcases hboth with ⟨h3, h4⟩ | ⟨h3, h4⟩
                  all_goals
                    obtain ⟨q0, q1, q2⟩ := (cand_iff L M want c).2 HC.out
                    have hfree : h 6 (P i) c = false := by
                      cases hh : h 6 (P i) c with
                      | false => rfl
                      | true => have := (hu1 i c hik).1 hh; omega
                    have hdone : ∀ j r, j < i → tkLo L want ≤ r → r ≤ tkHi M want → r % 2 = tkLo L want % 2 → h 6 (P j) r = true := fun j r hj r0 r1 r2 =>
                      (hu1 j r (by omega)).2 ⟨(cand_iff L M want r).1 ⟨r0, r1, r2⟩, Or.inl hj⟩
                    have hdone2 : ∀ r, tkLo L want ≤ r → r < c → r % 2 = tkLo L want % 2 → h 6 (P i) r = true := fun r r0 r1 r2 =>
                      (hu1 i r hik).2 ⟨(cand_iff L M want r).1 ⟨r0, by omega, r2⟩, Or.inr ⟨rfl, r1⟩⟩
                    have HT := ptake_first bp F h cnt 6 ao k cap P L M want wr p1 w8_6 (by omega) (by omega) hwant (by omega) (by omega) (by omega) HPL1.out i c hik q0 q1 q2 hfree hdone hdone2
                    have HT' := Lib.hid HT
                    clear q0 q1 q2 hfree hdone hdone2 HT
                    go_wp2_with fail
                    refine HT'.out.mono ?_
                    rintro e w2 ⟨rfl, F2, p2, t2, n2⟩
                    have hZw : Z ≤ wr.heap.size := by have := t1.size; have := HZ.out; omega
                    have o2 := Own.next o1.out hZw n2
                    have t3 : Turn (fun x => Z ≤ x) wz w2 := t1.trans (t2.mono (fun x _ hx => o1.out x hx))
                    have t4 := t3.alloc (.cells #[.int .u32 (P i), .int .u16 (c : Int)] 45)
                    obtain ⟨g, rfl, hg, hcell⟩ := HPO.out i hik
                    have hc : (w2.alloc (.cells #[.int .u32 (P i), .int .u16 (c : Int)] 45)).cell? ⟨g, i, none⟩ = some (.int .u32 (P i)) :=
                      (World.cell?_of_block (t4.block g (by have := HZ.out; omega) (by omega))).trans hcell
                    have p3 := p2.alloc (.cells #[.int .u32 (P i), .int .u16 (c : Int)] 45)
                    have hu2 := hu1.next HPP.out.1 HC.out
                    clear t2 n2 hcell t3 p2 HT'
                    go_wp2_with fail
                    go_quiet (fail)
                    go_wp2_with fail
                    go_roundg (M + 1 - (c + 1))
                    case measure => omega
                    case rel => exact ⟨c + 1, cnt + 1, F2, _, rfl, by omega, by omega, by go_num, by omega, by rw [show (((cnt + 1 : Nat)) : Int) = (cnt : Int) + 1 by omega]; exact p3.turn ((Turn.refl (fun _ => False) _).drewN _) (fun _ _ _ h => h), o2, t4.drewN _, hu2⟩
                · have hboth : (decide ((c : Int) < 1024) = true ∧ decide ((want : Int) < 1024) = false) ∨ (decide ((c : Int) < 1024) = false ∧ decide ((want : Int) < 1024) = true) := by
                    simp only [decide_eq_true_eq, decide_eq_false_iff_not]; omega
                  rcases hboth with ⟨h3, h4⟩ | ⟨h3, h4⟩
                  all_goals
                    go_wp2_with fail
                    go_roundg (M + 1 - (c + 1))
                    case measure => omega
                    case rel => exact ⟨c + 1, cnt, F, h, rfl, by omega, by omega, by go_num, by omega, p1, o1, t1, hu1.skip (fun q => hcls q.2.2.2)⟩
              · have hp2 : ((c : Int) % 2 != (want : Int) % 2) = true := by rw [bne_iff_ne]; omega
                go_wp2_with fail
                go_roundg (M + 1 - (c + 1))
                case measure => omega
                case rel => exact ⟨c + 1, cnt, F, h, rfl, by omega, by omega, by go_num, by omega, p1, o1, t1, hu1.skip (fun q => hpar q.2.2.1)⟩
            · go_wp2_with fail
              go_roundg (k - (i + 1))
              case measure => omega
              case rel => exact ⟨i + 1, cnt, F, h, rfl, by omega, by go_num, by have := HM.out; omega, p1, o1, t1, hu1.row (by omega)⟩
        · have hall : ∀ j r, j < k → tkLo L want ≤ r → r ≤ tkHi M want → r % 2 = tkLo L want % 2 → h 6 (P j) r = true := fun j r hj r0 r1 r2 =>
            (hu1 j r hj).2 ⟨(cand_iff L M want r).1 ⟨r0, r1, r2⟩, Or.inl (by omega)⟩
          have HT := ptake_none bp F h cnt 6 ao k cap P L M want wr p1 w8_6 (by omega) (by omega) hwant (by omega) (by omega) (by omega) (HPL.out F o1.out wr t1) hall
          have HT' := Lib.hid HT
          clear HT hall
          go_wp2_with fail
          refine HT'.out.mono ?_
          rintro e w2 ⟨rfl, p2, t2⟩
          have t3 : Turn (fun x => Z ≤ x) wz w2 := t1.trans (t2.mono (fun x _ hx => o1.out x hx))
          have b3 : Below B w (w2.alloc (.cells #[.int .u32 0, .int .u16 0] 45)) := (t3.alloc _).onto hb HB (fun i hi e => by have := HZ.out; omega)
          go_wp2_with fail
          go_ret
          exact ⟨rfl, HBE.out ▸ b3⟩

theorem fill_all (a0 a1 a2 a3 : Int) (w : World) (w0 : (Lit.int .u8 a0).wf = true) (w1 : (Lit.int .u16 a1).wf = true) (w2 : (Lit.int .u16 a2).wf = true) (w3 : (Lit.int .u16 a3).wf = true) :
    Calls Try.prog 6 #[.int .u8 a0, .int .u16 a1, .int .u16 a2, .int .u16 a3] w fun e w' => e = .returned (.bool true) ∧ Below w.heap.size w w' := by
  have h0 := wf_u8 w0
  have h1 := wf_u16 w1
  have h2 := wf_u16 w2
  have h3 := wf_u16 w3
  obtain ⟨m0, rfl⟩ := Int.eq_ofNat_of_zero_le h0.1
  obtain ⟨m1, rfl⟩ := Int.eq_ofNat_of_zero_le h1.1
  obtain ⟨m2, rfl⟩ := Int.eq_ofNat_of_zero_le h2.1
  obtain ⟨m3, rfl⟩ := Int.eq_ofNat_of_zero_le h3.1
  exact fill_walk m0 m1 m2 m3 w (by omega) (by omega) (by omega) (by omega)
end Go.Proofs.Ytpnobcffglohnaa
