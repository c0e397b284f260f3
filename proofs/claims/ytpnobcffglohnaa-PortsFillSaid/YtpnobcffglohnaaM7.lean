/- PortsHolds: the walk. No condition. -/
import Derived.Test.YtpnobcffglohnaaM5
namespace Go.Proofs.Ytpnobcffglohnaa
open Go.RowKit
set_option linter.unusedVariables false
set_option linter.unusedSimpArgs false

def falses : Array Value := Array.replicate 100 (.bool false)
theorem zero51 (w : World) : (zeroValue 51).run Try.prog w = .ok (.agg falses) w := by kernel_rfl

/-- The array of what is held, beside the ports. -/
def Marks (C : Array Value) (h : Int → Int → Nat → Bool) : Prop := C.size = 100 ∧ ∀ j, j < 100 → C[j]? = some (.bool (h 17 5 (1020 + j)))

theorem Marks.start : Marks falses (fun _ _ _ => false) := ⟨by simp [falses], fun j hj => by simp [falses, hj]⟩
theorem Marks.put {C : Array Value} {h : Int → Int → Nat → Bool} (m : Marks C h) (k po : Nat) (hk : k < 100) (hpo : po = 1020 + k) : Marks (C.setIfInBounds k (.bool true)) (hset h 17 5 po true) := by
  refine ⟨by simpa using m.1, fun j hj => ?_⟩
  rw [Array.getElem?_setIfInBounds]
  unfold hset
  by_cases e : k = j
  · subst e
    rw [if_pos rfl, if_pos (by rw [m.1]; exact hk), if_pos ⟨rfl, rfl, hpo.symm⟩]
  · rw [if_neg e, if_neg (by rintro ⟨_, _, q⟩; omega)]
    exact m.2 j hj
theorem Marks.same {C : Array Value} {h : Int → Int → Nat → Bool} (m : Marks C h) (k po : Nat) (hk : k < 100) (hpo : po = 1020 + k) (hh : h 17 5 po = true) : Marks (C.setIfInBounds k (.bool true)) h := by
  refine ⟨by simpa using m.1, fun j hj => ?_⟩
  rw [Array.getElem?_setIfInBounds]
  by_cases e : k = j
  · subst e
    rw [if_pos rfl, if_pos (by rw [m.1]; exact hk), ← hpo, hh]
  · rw [if_neg e]
    exact m.2 j hj

theorem tk_facts (L want : Nat) (hL : 1024 ≤ L) : tkLo L want % 2 = want % 2 ∧ L ≤ tkLo L want ∧ tkLo L want ≤ L + 1 ∧ ∀ r, L ≤ r → r % 2 = want % 2 → tkLo L want ≤ r := by
  unfold tkLo
  have e : (if want < 1024 then L else max L 1024) = L := by split <;> omega
  rw [e]
  split
  · refine ⟨by omega, by omega, by omega, fun r h1 h2 => by omega⟩
  · refine ⟨by omega, by omega, by omega, fun r h1 h2 => by omega⟩

set_option maxRecDepth 100000 in
set_option maxHeartbeats 2000000 in
theorem holds_walk (ao : Option Addr) (len cap : Nat) (P : Nat → Nat) (lo size want : Nat) (w : World) (hlo : lo < 65536) (hsize : size < 65536) (hwant : want < 65536) (hlen : len ≤ 30)
    (hP : ∀ i, i < len → ∃ b off, ao = some ⟨b, off, none⟩ ∧ b < w.heap.size ∧ w.cell? ⟨b, off + i, none⟩ = some (.int .u16 (P i : Int))) :
    Calls Try.prog 7 #[.slice ao len cap, .int .u16 (lo : Int), .int .u16 (size : Int), .int .u16 (want : Int)] w fun e w' => e = .returned (.bool true) ∧ Below w.heap.size w w' := by
  have HP := Lib.hid hP
  clear hP
  have hz51 := zero51
  obtain ⟨L, hL⟩ : ∃ L, L = 1024 + lo % 20 := ⟨_, rfl⟩
  obtain ⟨S, hS⟩ : ∃ S, S = size % 30 := ⟨_, rfl⟩
  have hL0 : 1024 ≤ L := by omega
  have hL1 : L < 1044 := by omega
  have hS1 : S < 30 := by omega
  have eL : (1024 + (lo : Int) % 20) = (L : Int) := by omega
  have eS : ((size : Int) % 30) = (S : Int) := by omega
  clear hL hS
  go_enter Try.func7, Try.ntmps7
  go_wp2_with fail
  refine (known17 _).mono ?_; rintro e wk ⟨rfl, tk⟩
  go_wp2_with fail
  refine (pnew_any _).mono ?_; rintro e w0 ⟨rfl, p0, t0⟩
  obtain ⟨F0, hF0⟩ : ∃ F0 : Nat → Prop, F0 = fun k => k = wk.heap.size ∨ k = wk.heap.size + 1 := ⟨_, rfl⟩
  rw [← hF0] at p0
  have o0 : ∀ k, F0 k → w.heap.size ≤ k := fun k hk => by have := tk.size; rw [hF0] at hk; omega
  have B0 : Below w.heap.size w w0 := t0.onto tk (Nat.le_refl _) (fun _ _ h => h)
  clear hF0 t0 tk
  generalize wk.heap.size + 1 = bp at *
  have k0 : (w0.alloc (.cells falses 51)).heap[w0.heap.size]? = some (.cells falses 51 (0, 0)) := block_alloc_new _ _
  have p1 := p0.alloc (.cells falses 51)
  have B1 := B0.alloc B0.size (.cells falses 51)
  have x0 := p0.nF (X := w0.heap.size) (Nat.le_refl _)
  have HX : w.heap.size ≤ w0.heap.size := B0.size
  generalize hBe : w.heap.size = B at *
  have HB : B ≤ w.heap.size := by rw [hBe]; exact Nat.le_refl _
  have HBE := Lib.hid hBe
  clear hBe B0 p0
  go_wp2_with fail
  generalize w0.alloc (.cells falses 51) = w1 at *
  generalize w0.heap.size = X at *
  clear hz51
  rw [eS]
  clear eL eS
  go_loopg [11] len (fun g i wr => ∃ (k cnt : Nat) (F : Nat → Prop) (h : Int → Int → Nat → Bool) (C : Array Value), g = len - k ∧ k ≤ len ∧ i = .int .i64 k ∧ cnt ≤ k ∧ PortsIs wr bp F h cnt ∧ Hid (∀ x, F x → B ≤ x) ∧ ¬ F X ∧
      wr.heap[X]? = some (.cells C 51 (0, 0)) ∧ Marks C h ∧ Below B w wr)
  case atStart => exact ⟨0, 0, F0, _, _, rfl, Nat.zero_le _, rfl, Nat.le_refl _, p1, o0, x0, k0, Marks.start, B1⟩
  case round =>
    clear p1 o0 x0 k0 B1
    obtain ⟨k, cnt, F, h, C, rfl, hk, rfl, hcnt, p, o, x, kx, mk, hb⟩ := hrel
    by_cases hlt : k < len
    · obtain ⟨pb, off, rfl, hpb, hcell⟩ := HP.out k hlt
      have hc : wr.cell? ⟨pb, off + k, none⟩ = some (.int .u16 (P k : Int)) := (hb.cell (p := ⟨pb, off + k, none⟩) hpb).trans hcell
      obtain ⟨kk, hkk⟩ : ∃ kk, kk = P k % 100 := ⟨_, rfl⟩
      obtain ⟨po, hpo⟩ : ∃ po, po = 1020 + kk := ⟨_, rfl⟩
      have e1 : ((P k : Int) % 100) = (kk : Int) := by omega
      have e2 : (1020 + (kk : Int)) = (po : Int) := by omega
      have hkk1 : kk < 100 := by omega
      have hpo1 : po < 65536 := by omega
      have HPO := Lib.hid hpo
      clear hkk hpo
      go_wp2_with fail
      by_cases hh : h 17 5 po = true
      · refine (hold_held bp F h _ 17 5 po _ p w8_17 w32_5 hpo1 hh).mono ?_
        rintro e w2 ⟨rfl, t2⟩
        have p2 := p.turn t2 (fun _ _ _ h => h)
        have kx2 := (t2.block _ (block_lt kx) (fun h => h)).trans kx
        have b2 := t2.onto hb HB (fun _ _ h => h)
        have cx : w2.cell? ⟨X, kk, none⟩ = some (.bool true) := by
          rw [cell_of_block kx2, mk.2 kk hkk1, ← HPO.out, hh]
        have fx : w2.frozen? ⟨X, kk, none⟩ = false := free_of_block kx2 _
        have kx3 := block_setCell kx2 kk (.bool true)
        have t3 : Turn (fun i => i = X) w2 (w2.setCell ⟨X, kk, none⟩ (.bool true)) := (Turn.refl (fun i => i = X) w2).setCell (p := ⟨X, kk, none⟩) _ (fun _ => rfl)
        have p3 := p2.turn t3 (fun i _ hi e => x (e ▸ hi))
        have b3 := t3.onto b2 HB (fun i hi e => by omega)
        have mk3 := mk.same kk po hkk1 HPO.out hh
        clear t2 p2 kx2 b2 t3 p kx hb mk
        go_wp2_with fail
        go_roundg (len - (k + 1))
        case rel => exact ⟨k + 1, cnt, F, h, _, rfl, by omega, by go_num, by omega, p3, o, x, kx3, mk3, b3⟩
        case measure => omega
      · refine (hold_free bp F h _ 17 5 po _ p w8_17 w32_5 hpo1 (by simpa using hh) (by omega) (by omega)).mono ?_
        rintro e w2 ⟨rfl, F2, p2, t2, n2⟩
        have kx2 := (t2.block _ (block_lt kx) x).trans kx
        have x2 := nF_next x (block_lt kx) n2
        have o2 := Own.next o.out (by rw [← HBE.out]; exact hb.size) n2
        have b2 := t2.onto hb HB (fun i hi hf => by have := o.out i hf; omega)
        have cx : w2.cell? ⟨X, kk, none⟩ = some (.bool false) := by
          rw [cell_of_block kx2, mk.2 kk hkk1, ← HPO.out]; simpa using hh
        have fx : w2.frozen? ⟨X, kk, none⟩ = false := free_of_block kx2 _
        have kx3 := block_setCell kx2 kk (.bool true)
        have t3 : Turn (fun i => i = X) w2 (w2.setCell ⟨X, kk, none⟩ (.bool true)) := (Turn.refl (fun i => i = X) w2).setCell (p := ⟨X, kk, none⟩) _ (fun _ => rfl)
        have p3 := p2.turn t3 (fun i _ hi e => x2 (e ▸ hi))
        have b3 := t3.onto b2 HB (fun i hi e => by omega)
        have mk3 := mk.put kk po hkk1 HPO.out
        clear t2 p2 kx2 b2 t3 p kx hb mk n2
        go_wp2_with fail
        go_roundg (len - (k + 1))
        case rel => exact ⟨k + 1, cnt + 1, F2, _, _, rfl, by omega, by go_num, by omega, p3, o2, x2, kx3, mk3, b3⟩
        case measure => omega
    · have hks : L + S < 65536 := by omega
      go_wp2_with fail
      have hcnt2 : cnt ≤ 30 := by omega
      clear hk hlt hcnt
      go_loopg [14, 15] (S + 2) (fun g s14 s15 wi => wi = wr ∧ ∃ c : Nat, g = L + S + 2 - c ∧ L ≤ c ∧ c ≤ L + S + 1 ∧ s15 = .int .i64 c ∧
        ((s14 = .int .i64 (-1) ∧ Hid (1024 ≤ want → ∀ r, L ≤ r → r < c → r % 2 = want % 2 → h 17 5 r = true)) ∨
         (∃ f : Nat, s14 = .int .i64 f ∧ c = f + 1 ∧ L ≤ f ∧ f ≤ L + S ∧ 1024 ≤ want ∧ Hid (f % 2 = want % 2 ∧ h 17 5 f = false ∧ ∀ r, L ≤ r → r < f → r % 2 = want % 2 → h 17 5 r = true))))
      case atStart => exact ⟨rfl, L, by omega, Nat.le_refl _, by omega, rfl, Or.inl ⟨rfl, fun _ r h1 h2 => by omega⟩⟩
      case round =>
        obtain ⟨rfl, c, rfl, hc0, hc1, rfl, hor⟩ := hrel
        rcases hor with ⟨rfl, hall⟩ | ⟨f, rfl, rfl, hf0, hf1, hf2, hfirst⟩
        · by_cases hcl : c ≤ L + S
          · have cx : wr.cell? ⟨X, c - 1020, none⟩ = some (.bool (h 17 5 c)) := by
              rw [cell_of_block kx, mk.2 (c - 1020) (by omega), show 1020 + (c - 1020) = c by omega]
            by_cases hpar : c % 2 = want % 2
            · have hp2 : ((c : Int) % 2 == (want : Int) % 2) = true := by rw [beq_iff_eq]; omega
              by_cases hw : 1024 ≤ want
              · cases hh : h 17 5 c with
                | true =>
                  rw [hh] at cx
                  go_wp2_with fail
                  go_roundg (L + S + 2 - (c + 1))
                  case measure => omega
                  case rel => exact ⟨rfl, c + 1, rfl, by omega, by omega, by go_num, Or.inl ⟨rfl, fun q r h1 h2 h3 => by
                    by_cases e : r = c
                    · rw [e]; exact hh
                    · exact hall.out q r h1 (by omega) h3⟩⟩
                | false =>
                  rw [hh] at cx
                  go_wp2_with fail
                  go_roundg (L + S + 2 - (c + 1))
                  case measure => omega
                  case rel => exact ⟨rfl, c + 1, rfl, by omega, by omega, by go_num, Or.inr ⟨c, rfl, rfl, by omega, by omega, hw, hpar, hh, fun r h1 h2 h3 => hall.out hw r h1 (by omega) h3⟩⟩
              · go_wp2_with fail
                go_roundg (L + S + 2 - (c + 1))
                case measure => omega
                case rel => exact ⟨rfl, c + 1, rfl, by omega, by omega, by go_num, Or.inl ⟨rfl, fun q r h1 h2 h3 => absurd q hw⟩⟩
            · have hp2 : ((c : Int) % 2 == (want : Int) % 2) = false := by rw [beq_eq_false_iff_ne]; omega
              go_wp2_with fail
              go_roundg (L + S + 2 - (c + 1))
              case measure => omega
              case rel => exact ⟨rfl, c + 1, rfl, by omega, by omega, by go_num, Or.inl ⟨rfl, fun q r h1 h2 h3 => by
                by_cases e : r = c
                · subst e; exact absurd h3 hpar
                · exact hall.out q r h1 (by omega) h3⟩⟩
          · have hq := PoolIs.one p 5 w32_5
            have p2 := p.alloc (.cells #[.int .u32 5] 22)
            have b2 := hb.alloc (by have := hb.size; have := HBE.out; omega) (.cells #[.int .u32 5] 22)
            go_wp2_with fail
            rw [show ((L : Int) + (S : Int)) = ((L + S : Nat) : Int) by simp]
            refine (ptake_none bp F h _ 17 (some ⟨wr.heap.size, 0, none⟩) 1 1 (fun _ => 5) L (L + S) want _ p2 w8_17 (by omega) (by omega) hwant (by omega) (by omega) (by decide) hq (fun j r _ r1 r2 r3 => ?_)).mono ?_
            · obtain ⟨f1, f2, f3, f4⟩ := tk_facts L want hL0
              by_cases hw : 1024 ≤ want
              · have e : tkHi (L + S) want = L + S := by unfold tkHi; rw [if_neg (by omega)]
                exact hall.out hw r (by omega) (by omega) (by omega)
              · have e : tkHi (L + S) want ≤ 1023 := by unfold tkHi; rw [if_pos (by omega)]; omega
                omega
            · rintro e w2 ⟨rfl, p3, t3⟩
              have b3 := t3.onto b2 HB (fun i hi hf => by have := o.out i hf; omega)
              go_wp2_with fail
              go_ret
              exact ⟨rfl, HBE.out ▸ b3.alloc (by have := b3.size; have := HBE.out; omega) _⟩
        · have hq := PoolIs.one p 5 w32_5
          have p2 := p.alloc (.cells #[.int .u32 5] 22)
          have b2 := hb.alloc (by have := hb.size; have := HBE.out; omega) (.cells #[.int .u32 5] 22)
          by_cases hcl2 : f + 1 ≤ L + S
          all_goals
            go_wp2_with fail
            rw [show ((L : Int) + (S : Int)) = ((L + S : Nat) : Int) by simp]
            obtain ⟨f1, f2, f3, f4⟩ := tk_facts L want hL0
            have e : tkHi (L + S) want = L + S := by unfold tkHi; rw [if_neg (by omega)]
            refine (ptake_first bp F h _ 17 (some ⟨wr.heap.size, 0, none⟩) 1 1 (fun _ => 5) L (L + S) want _ p2 w8_17 (by omega) (by omega) hwant (by omega) (by omega) (by decide) hq 0 f (by decide) (f4 f hf0 hfirst.out.1) (by omega) (by have := hfirst.out.1; omega) hfirst.out.2.1
              (fun i r hi => by omega) (fun r q1 q2 q3 => hfirst.out.2.2 r (by omega) q2 (by omega))).mono ?_
            rintro e w2 ⟨rfl, F2, p3, t3, n3⟩
            have b3 := t3.onto b2 HB (fun i hi hf => by have := o.out i hf; omega)
            clear f1 f2 f3 f4 e
            have hf3 : f < 65536 := by omega
            go_wp2_with fail
            go_ret
            exact ⟨rfl, HBE.out ▸ b3.alloc (by have := b3.size; have := HBE.out; omega) _⟩

theorem holds_long (ao : Option Addr) (len cap : Nat) (lo size want : Int) (hlen : 30 < len) (hl : len ≤ maxLen) (w : World) :
    Calls Try.prog 7 #[.slice ao len cap, .int .u16 lo, .int .u16 size, .int .u16 want] w fun e w' => e = .returned (.bool true) ∧ Below w.heap.size w w' := by
  unfold maxLen at hl
  go_enter Try.func7, Try.ntmps7
  go_wp2_with fail
  refine (known17 _).mono ?_; rintro e w0 ⟨rfl, t0⟩
  go_wp2_with fail
  go_ret
  exact ⟨rfl, t0⟩

theorem holds_all (a0 : Option Addr) (len0 cap0 : Nat) (z0 : List Int) (a1 a2 a3 : Int) (w : World) (w0 : IsRow .u16 w a0 len0 cap0 z0) (w1 : (Lit.int .u16 a1).wf = true) (w2 : (Lit.int .u16 a2).wf = true) (w3 : (Lit.int .u16 a3).wf = true) :
    Calls Try.prog 7 #[.slice a0 len0 cap0, .int .u16 a1, .int .u16 a2, .int .u16 a3] w fun e w' => e = .returned (.bool true) ∧ Below w.heap.size w w' := by
  by_cases h : 30 < len0
  · exact holds_long a0 len0 cap0 a1 a2 a3 h w0.len_le w
  · have h1 := wf_u16 w1
    have h2 := wf_u16 w2
    have h3 := wf_u16 w3
    obtain ⟨m1, rfl⟩ := Int.eq_ofNat_of_zero_le h1.1
    obtain ⟨m2, rfl⟩ := Int.eq_ofNat_of_zero_le h2.1
    obtain ⟨m3, rfl⟩ := Int.eq_ofNat_of_zero_le h3.1
    refine holds_walk a0 len0 cap0 (fun i => (z0.getD i 0).toNat) m1 m2 m3 w (by omega) (by omega) (by omega) (by omega) (fun i hi => ?_)
    have hz := wf_u16 (w0.wf (by decide) i)
    obtain ⟨⟨b, off, spot⟩, rfl⟩ : ∃ x, a0 = some x := by
      rcases w0 with ⟨_, h1, _⟩ | ⟨x, h1, _⟩
      · omega
      · exact ⟨x, h1⟩
    obtain ⟨rfl, hb, hc⟩ := w0.cells (by omega)
    refine ⟨b, off, rfl, hb, ?_⟩
    rw [hc i hi]
    congr 2
    omega
end Go.Proofs.Ytpnobcffglohnaa
