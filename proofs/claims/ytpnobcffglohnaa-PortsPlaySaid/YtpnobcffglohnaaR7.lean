/- PortsPlay: the walk. No condition. -/
import Derived.Test.YtpnobcffglohnaaR6
import Derived.Deep.RegionHeld3
import Derived.Deep.CutBlock
namespace Go.Proofs.Ytpnobcffglohnaa
open Go.RowKit
set_option linter.unusedVariables false
set_option linter.unusedSimpArgs false

theorem both_start {w w1 : World} {bp : Nat} {F : Nat → Prop} (p : PortsIs w1 bp F (fun _ _ _ => false) 0) (hF : ∀ k, F k → w.heap.size ≤ k) (hs : w.heap.size ≤ w1.heap.size) :
    Both w.heap.size (w1.alloc (.cells #[.slice none 0 0] 59)) bp w1.heap.size F (fun _ => False) [] := by
  have hp : hOf [] = fun _ _ _ => false := by funext a b c; simp [hOf]
  refine ⟨?_, ⟨.slice none 0 0, block_alloc_new _ _, ⟨rfl, Or.inl ⟨rfl, rfl⟩⟩, fun h => h, fun k h => h.elim⟩, List.nodup_nil, fun m hm => by simp at hm, fun k hk => ⟨fun h => h, fun e => ?_⟩, fun k hk => ?_⟩
  · rw [hp]; exact p.alloc _
  · subst e; exact p.nF (Nat.le_refl _) hk
  · rcases hk with h | h | rfl
    · exact hF k h
    · exact h.elim
    · exact hs

/-- The act and its point, where the program's and the reference's ports are alike. -/
def Seated (B : Nat) (w : World) (X bp bm : Nat) (F G : Nat → Prop) (L : List Mk) (x : Act1) (w' : World) : Prop :=
  ∃ pr ip po, Good (pr, ip, po) ∧ w'.heap[X]? = some (.cells #[.int .i64 x.wh, .int .u8 pr, .slice x.pa x.pl x.pc, .int .u16 (x.lo : Int), .int .u16 (x.hi : Int), .int .u16 (x.wa : Int), .int .u32 x.ip, .int .u16 (x.po : Int), .int .i64 x.k] 61 (0, 0)) ∧
    w'.heap[X + 1]? = some (.cells #[.int .u32 ip, .int .u16 (po : Int)] 45 (0, 0)) ∧ Both B w' bp bm F G L ∧ Below B w w'

/-- Behind the act: the act's blocks, both ports alike. -/
def Behind (B : Nat) (w : World) (X bp bm k : Nat) (cx cy : Array Value) (w' : World) : Prop :=
  ∃ F G L, L.length ≤ k ∧ w'.heap[X]? = some (.cells cx 61 (0, 0)) ∧ w'.heap[X + 1]? = some (.cells cy 45 (0, 0)) ∧ Both B w' bp bm F G L ∧ Below B w w'
theorem Behind.alloc {B : Nat} {w : World} {X bp bm k : Nat} {cx cy : Array Value} {w' : World} (h : Behind B w X bp bm k cx cy w') (hB : B ≤ w'.heap.size) (o : Obj) : Behind B w X bp bm k cx cy (w'.alloc o) := by
  obtain ⟨F, G, L, h1, h2, h3, h4, h5⟩ := h
  exact ⟨F, G, L, h1, block_alloc_old h2, block_alloc_old h3, h4.alloc _, h5.alloc hB _⟩
theorem Half.alloc {w w1 : World} {bp : Nat} {F F' : Nat → Prop} {L' : List Mk} (h : Half w w1 bp F F' L') (o : Obj) : Half w (w1.alloc o) bp F F' L' := ⟨h.1.alloc o, h.2.1.alloc _, h.2.2⟩
theorem behind_mk {B : Nat} {w W W' : World} {X bp bm k : Nat} {cx cy : Array Value} {F G F' G' : Nat → Prop} {L L' : List Mk} (hb : Both B W bp bm F G L) (b : Both B W' bp bm F' G' L') (t : Turn (fun k => F k ∨ G k ∨ k = bm) W W') (hl : L'.length ≤ k)
    (hx : W.heap[X]? = some (.cells cx 61 (0, 0))) (hy : W.heap[X + 1]? = some (.cells cy 45 (0, 0))) (hX : ¬ F X ∧ ¬ G X ∧ X ≠ bm) (hY : ¬ F (X + 1) ∧ ¬ G (X + 1) ∧ X + 1 ≠ bm) (hW : Below B w W) (hB : B ≤ w.heap.size) : Behind B w X bp bm k cx cy W' :=
  ⟨F', G', L', hl, (t.block X (block_lt hx) (fun h => h.elim hX.1 (fun h => h.elim hX.2.1 hX.2.2))).trans hx, (t.block (X + 1) (block_lt hy) (fun h => h.elim hY.1 (fun h => h.elim hY.2.1 hY.2.2))).trans hy, b,
    t.onto hW hB (fun i hi h => by have := hb.lo i h; omega)⟩

theorem seat_y {W : World} {X m : Nat} {cx : Array Value} {tx : TypeId} {a b : Value} (hx : W.heap[X]? = some (.cells cx tx (0, 0))) (hy : W.heap[X + 1]? = some (.cells #[a, b] 45 (0, 0))) (u v : Value) :
    (((W.drewN m).setCell ⟨X + 1, 0, none⟩ u).setCell ⟨X + 1, 1, none⟩ v).heap[X]? = some (.cells cx tx (0, 0)) ∧
    (((W.drewN m).setCell ⟨X + 1, 0, none⟩ u).setCell ⟨X + 1, 1, none⟩ v).heap[X + 1]? = some (.cells #[u, v] 45 (0, 0)) ∧
    Turn (fun i => i = X + 1) W (((W.drewN m).setCell ⟨X + 1, 0, none⟩ u).setCell ⟨X + 1, 1, none⟩ v) := by
  refine ⟨?_, ?_, ?_⟩
  · exact (Below.heap_setCell _ _ _ _ (by simp)).trans ((Below.heap_setCell _ _ _ _ (by simp)).trans ((block_drewN _ _ _).trans hx))
  · exact block_setCell (block_setCell ((block_drewN W m (X + 1)).trans hy) 0 u) 1 v
  · exact (((Turn.refl (fun i => i = X + 1) W).drewN m).setCell (p := ⟨X + 1, 0, none⟩) _ (fun _ => rfl)).setCell (p := ⟨X + 1, 1, none⟩) _ (fun _ => rfl)
theorem seat_x {W : World} {X : Nat} {a0 a1 a2 a3 a4 a5 a6 a7 a8 : Value} {y : Obj} (hx : W.heap[X]? = some (.cells #[a0, a1, a2, a3, a4, a5, a6, a7, a8] 61 (0, 0))) (hy : W.heap[X + 1]? = some y) (u : Value) :
    (W.setCell ⟨X, 1, none⟩ u).heap[X]? = some (.cells #[a0, u, a2, a3, a4, a5, a6, a7, a8] 61 (0, 0)) ∧ (W.setCell ⟨X, 1, none⟩ u).heap[X + 1]? = some y ∧ Turn (fun i => i = X) W (W.setCell ⟨X, 1, none⟩ u) := by
  refine ⟨?_, ?_, ?_⟩
  · exact block_setCell hx 1 u
  · exact (Below.heap_setCell _ _ _ _ (by simp)).trans hy
  · exact (Turn.refl (fun i => i = X) W).setCell (p := ⟨X, 1, none⟩) _ (fun _ => rfl)

set_option maxRecDepth 100000 in
set_option maxHeartbeats 4000000 in
theorem plays17_walk (b off len cap : Nat) (f : Nat → Act1) (w : World) (hA : Acts61 w b off len f) (hlen : len ≤ maxLen) :
    Calls Try.prog 8 #[.slice (some ⟨b, off, none⟩) len cap] w fun e w' => e = .returned (.bool true) ∧ Below w.heap.size w w' := by
  have HA := Lib.hid hA
  clear hA
  have HL := Lib.hid hlen
  clear hlen
  go_enter Try.func8, Try.ntmps8
  go_wp2_with fail
  refine (known17 _).mono ?_; rintro e w0 ⟨rfl, t0⟩
  have hA0 : Acts61 w0 b off len f := ⟨Nat.lt_of_lt_of_le HA.out.lt t0.size, fun i hi j v hv => (t0.cell HA.out.lt).trans (HA.out.at' i hi j v hv), fun i hi => by
    obtain ⟨h1, h2, h3, h4, h5, h6, h7, h8, h9⟩ := HA.out.ok i hi
    refine ⟨h1, h2, h3, h4, h5, h6, h7, fun j hj => ?_, h9⟩
    obtain ⟨b', o', q1, q2, q3, q4⟩ := h8 j hj
    exact ⟨b', o', q1, Nat.lt_of_lt_of_le q2 t0.size, (t0.cell q2).trans q3, q4⟩⟩
  have c := light_any b off len cap f w0 hA0 HL.out
  have C := Lib.hid c
  clear c hA0
  go_wp2_with fail
  refine C.out.mono ?_; rintro e w1 ⟨lb, hlb, rfl, rfl⟩
  clear C
  cases lb with
  | false =>
    clear hlb
    go_wp2_with fail
    go_ret
    exact ⟨rfl, t0⟩
  | true =>
    have hlb' := hlb rfl
    have hl6 : len ≤ 60 := hlb'.1
    have HPL := Lib.hid hlb'.2
    clear hlb hlb'
    go_wp2_with fail
    refine (pnew_any _).mono ?_; rintro e w2 ⟨rfl, p2, t2⟩
    have B2 : Below w.heap.size w w2 := t2.onto t0 (Nat.le_refl _) (fun _ _ h => h)
    have S0 := t0.size
    have bs := both_start (w := w) p2 (fun k hk => by omega) B2.size
    have B3 : Below w.heap.size w (w2.alloc (.cells #[.slice none 0 0] 59)) := B2.alloc B2.size _
    clear p2 t2 t0
    generalize (fun k => k = w1.heap.size ∨ k = w1.heap.size + 1) = F0 at *
    generalize w1.heap.size + 1 = bp at *
    go_wp2_with fail
    generalize w2.alloc (.cells #[.slice none 0 0] 59) = w3 at *
    clear B2 S0
    generalize w2.heap.size = bm at *
    go_loopw [5] (fun i wr => ∃ (k : Nat) (F G : Nat → Prop) (L : List Mk), k ≤ len ∧ i = .int .i64 k ∧ Both w.heap.size wr bp bm F G L ∧ L.length ≤ k ∧ Below w.heap.size w wr) (fun i _ => len - (intOf i).toNat)
    case atStart => exact ⟨0, F0, _, [], Nat.zero_le _, rfl, bs, Nat.le_refl _, B3⟩
    case round =>
      clear bs B3
      obtain ⟨k, F, G, L, hk, rfl, hB, hLk, hW⟩ := hrel
      by_cases hlt : k < len
      · have c0 := (hW.cell HA.out.lt).trans (HA.out.at' k hlt 0 _ rfl)
        have c1 := (hW.cell HA.out.lt).trans (HA.out.at' k hlt 1 _ rfl)
        have c2 := (hW.cell HA.out.lt).trans (HA.out.at' k hlt 2 _ rfl)
        have c3 := (hW.cell HA.out.lt).trans (HA.out.at' k hlt 3 _ rfl)
        have c4 := (hW.cell HA.out.lt).trans (HA.out.at' k hlt 4 _ rfl)
        have c5 := (hW.cell HA.out.lt).trans (HA.out.at' k hlt 5 _ rfl)
        have c6 := (hW.cell HA.out.lt).trans (HA.out.at' k hlt 6 _ rfl)
        have c7 := (hW.cell HA.out.lt).trans (HA.out.at' k hlt 7 _ rfl)
        have c8 := (hW.cell HA.out.lt).trans (HA.out.at' k hlt 8 _ rfl)
        have ok := HA.out.ok k hlt
        have hpl := HPL.out k hlt
        generalize f k = x at *
        obtain ⟨wh, pr, pa, pl, pc, lo, hi, wa, ip, po, kk, P⟩ := x
        have hkk : -9223372036854775808 ≤ kk ∧ kk ≤ 9223372036854775807 := ok.k
        simp only [Nat.add_zero] at c0 c1 c2 c3 c4 c5 c6 c7 c8 hpl
        have OK := Lib.hid (And.intro ok hpl)
        clear ok hpl
        have bx : ((wr.alloc (.cells #[.int .i64 wh, .int .u8 pr, .slice pa pl pc, .int .u16 (lo : Int), .int .u16 (hi : Int), .int .u16 (wa : Int), .int .u32 ip, .int .u16 (po : Int), .int .i64 kk] 61)).alloc (.cells #[.int .u32 ip, .int .u16 (po : Int)] 45)).heap[wr.heap.size]? = some (.cells #[.int .i64 wh, .int .u8 pr, .slice pa pl pc, .int .u16 (lo : Int), .int .u16 (hi : Int), .int .u16 (wa : Int), .int .u32 ip, .int .u16 (po : Int), .int .i64 kk] 61 (0, 0)) := block_alloc_old (block_alloc_new _ _)
        have by' : ((wr.alloc (.cells #[.int .i64 wh, .int .u8 pr, .slice pa pl pc, .int .u16 (lo : Int), .int .u16 (hi : Int), .int .u16 (wa : Int), .int .u32 ip, .int .u16 (po : Int), .int .i64 kk] 61)).alloc (.cells #[.int .u32 ip, .int .u16 (po : Int)] 45)).heap[wr.heap.size + 1]? = some (.cells #[.int .u32 ip, .int .u16 (po : Int)] 45 (0, 0)) := by
          have := block_alloc_new (wr.alloc (.cells #[.int .i64 wh, .int .u8 pr, .slice pa pl pc, .int .u16 (lo : Int), .int .u16 (hi : Int), .int .u16 (wa : Int), .int .u32 ip, .int .u16 (po : Int), .int .i64 kk] 61)) (.cells #[.int .u32 ip, .int .u16 (po : Int)] 45)
          simpa using this
        obtain ⟨W1, hW1⟩ : ∃ W1, W1 = (wr.alloc (.cells #[.int .i64 wh, .int .u8 pr, .slice pa pl pc, .int .u16 (lo : Int), .int .u16 (hi : Int), .int .u16 (wa : Int), .int .u32 ip, .int .u16 (po : Int), .int .i64 kk] 61)).alloc (.cells #[.int .u32 ip, .int .u16 (po : Int)] 45) := ⟨_, rfl⟩
        have T1 : Turn (fun _ => False) wr W1 := by rw [hW1]; exact ((Turn.refl _ _).alloc _).alloc _
        rw [← hW1] at bx by'
        have hX := hB.fresh (Nat.le_refl wr.heap.size)
        have hY : ¬ F (wr.heap.size + 1) ∧ ¬ G (wr.heap.size + 1) ∧ wr.heap.size + 1 ≠ bm := hB.fresh (Nat.le_succ wr.heap.size)
        have hB1 := hB.turn T1 (fun _ h => h.elim)
        have hW1' : Below w.heap.size w W1 := T1.onto hW (Nat.le_refl _) (fun _ _ h => h)
        have hsz := hW.size
        go_upto_region 11 with (fail)
        rw [← hW1]
        clear hW1 T1 hW hB c0 c1 c2 c3 c4 c5 c6 c7 c8
        generalize hXe : wr.heap.size = X at *
        clear hXe
        obtain ⟨v, hv⟩ := hB1.r
        have m0 : W1.cell? ⟨bm, 0, none⟩ = some v := cell_of_block hv.1 0
        have x8 : W1.cell? ⟨X, 8, none⟩ = some (.int .i64 kk) := cell_of_block bx 8
        go_cut [44] (fun s44 w' => ∃ t : Bool, s44 = .bool t ∧ (t = true → 0 < L.length) ∧ W1 = w')
        case first =>
          obtain ⟨_, ⟨rfl, h0⟩ | ⟨g, cap', cur, rfl, _⟩⟩ := hv.2.1
          · go_wp2_with fail
            all_goals go_meet
            all_goals exact ⟨false, rfl, by simp, rfl⟩
          · by_cases h0 : 0 < L.length
            · go_wp2_with fail
              all_goals go_meet
              all_goals exact ⟨_, rfl, fun _ => h0, rfl⟩
            · go_wp2_with fail
              all_goals go_meet
              all_goals exact ⟨false, rfl, by simp, rfl⟩
        case rest =>
          obtain ⟨t, rfl, ht, rfl⟩ := hcut
          go_upto_if 44 with (fail)
          go_cut [] (fun w' => ∃ W2, W2 = w' ∧ Seated w.heap.size w X bp bm F G L ⟨wh, pr, pa, pl, pc, lo, hi, wa, ip, po, kk, P⟩ W2)
          case first =>
            cases t with
            | false =>
              go_wp2_with fail
              go_meet
              exact ⟨_, rfl, pr, ip, po, ⟨OK.out.1.pr, OK.out.1.ip, OK.out.1.po⟩, bx, by', hB1, hW1'⟩
            | true =>
              have h0 := ht rfl
              obtain ⟨g, cap', rfl, hg⟩ := hv.2.1.form h0
              obtain ⟨i, hi, hpl⟩ := place_fix kk L.length h0 (by omega) hkk
              obtain ⟨⟨mp, mi, mo⟩, hm⟩ : ∃ m, L[i]? = some m := ⟨_, List.getElem?_eq_getElem hi⟩
              have hgm := hB1.ok _ (List.mem_of_getElem? hm)
              obtain ⟨g0, g1, g2⟩ := markCells_get L i _ hm
              have d0 : W1.cell? ⟨g, i * 3, none⟩ = some (.int .u8 mp) := (hv.2.1.cells _ (by omega)).trans g0
              have d1 : W1.cell? ⟨g, i * 3 + 1, none⟩ = some (.int .u32 mi) := (hv.2.1.cells _ (by omega)).trans g1
              have d2 : W1.cell? ⟨g, i * 3 + 2, none⟩ = some (.int .u16 (mo : Int)) := (hv.2.1.cells _ (by omega)).trans g2
              have HM := Lib.hid (And.intro hm (And.intro hgm hv))
              clear hm hgm g0 g1 g2 hv ht
              have ne1 : ¬ g = X := fun e => hX.2.1 (e ▸ hg)
              have ne2 : ¬ g = X + 1 := fun e => hY.2.1 (e ▸ hg)
              have ne3 : ¬ bm = X := fun e => hX.2.2 e.symm
              have ne4 : ¬ bm = X + 1 := fun e => hY.2.2 e.symm
              have x0 : W1.cell? ⟨X, 0, none⟩ = some (.int .i64 wh) := cell_of_block bx 0
              have x1 : W1.cell? ⟨X, 1, none⟩ = some (.int .u8 pr) := cell_of_block bx 1
              have y0 : W1.cell? ⟨X + 1, 0, none⟩ = some (.int .u32 ip) := cell_of_block by' 0
              have y1 : W1.cell? ⟨X + 1, 1, none⟩ = some (.int .u16 (po : Int)) := cell_of_block by' 1
              have fx1 : W1.frozen? ⟨X, 1, none⟩ = false := free_of_block bx 1
              have fy0 : W1.frozen? ⟨X + 1, 0, none⟩ = false := free_of_block by' 0
              have fy1 : W1.frozen? ⟨X + 1, 1, none⟩ = false := free_of_block by' 1
              have hi1 : (0 : Int) ≤ (i : Int) := by omega
              have hi2 : (i : Int) < (L.length : Int) := by omega
              go_wp2_with fail
              go_quiet ((go_at_call 24; exact quiet_same (hpl _)))
              go_wp2_with fail
              · go_meet
                obtain ⟨q1, q2, q3⟩ := seat_y (m := nq) bx by' (.int .u32 mi) (.int .u16 (mo : Int))
                obtain ⟨r1, r2, r3⟩ := seat_x q1 q2 (.int .u8 mp)
                exact ⟨_, rfl, mp, mi, mo, HM.out.2.1, r1, r2, (hB1.turn q3 (fun _ e => e ▸ hY)).turn r3 (fun _ e => e ▸ hX), r3.onto (q3.onto hW1' (Nat.le_refl _) (fun i hi e => by omega)) (Nat.le_refl _) (fun i hi e => by omega)⟩
              · go_meet
                obtain ⟨q1, q2, q3⟩ := seat_y (m := nq) bx by' (.int .u32 mi) (.int .u16 (mo : Int))
                exact ⟨_, rfl, pr, mi, mo, ⟨OK.out.1.pr, HM.out.2.1.2.1, HM.out.2.1.2.2⟩, q1, q2, hB1.turn q3 (fun _ e => e ▸ hY), q3.onto hW1' (Nat.le_refl _) (fun i hi e => by omega)⟩
          case rest =>
            obtain ⟨W2, hW2e, pr', ip', po', hgood, bx', by2, hB2, hW2⟩ := hcut
            subst hW2e
            clear bx by' hB1 hW1' hv m0 x8 ht
            have hg8 : W8 pr' := hgood.1
            have x0 : W2.cell? ⟨X, 0, none⟩ = some (.int .i64 wh) := cell_of_block bx' 0
            have x1 : W2.cell? ⟨X, 1, none⟩ = some (.int .u8 pr') := cell_of_block bx' 1
            have x2 : W2.cell? ⟨X, 2, none⟩ = some (.slice pa pl pc) := cell_of_block bx' 2
            have x3 : W2.cell? ⟨X, 3, none⟩ = some (.int .u16 (lo : Int)) := cell_of_block bx' 3
            have x4 : W2.cell? ⟨X, 4, none⟩ = some (.int .u16 (hi : Int)) := cell_of_block bx' 4
            have x5 : W2.cell? ⟨X, 5, none⟩ = some (.int .u16 (wa : Int)) := cell_of_block bx' 5
            have y0 : W2.cell? ⟨X + 1, 0, none⟩ = some (.int .u32 ip') := cell_of_block by2 0
            have y1 : W2.cell? ⟨X + 1, 1, none⟩ = some (.int .u16 (po' : Int)) := cell_of_block by2 1
            go_upto_block 2 with (fail)
            go_cut [] (fun w' => ∃ W3, W3 = w' ∧ Behind w.heap.size w X bp bm (k + 1) #[.int .i64 wh, .int .u8 pr', .slice pa pl pc, .int .u16 (lo : Int), .int .u16 (hi : Int), .int .u16 (wa : Int), .int .u32 ip, .int .u16 (po : Int), .int .i64 kk] #[.int .u32 ip', .int .u16 (po' : Int)] W3)
            case first =>
              have OKP := OK.out.1.pool
              have hlo := OK.out.1.lo
              have hhi := OK.out.1.hi
              have hwa := OK.out.1.wa
              have hpl := OK.out.2
              have OK3 := Lib.hid OKP
              clear OKP
              by_cases h3 : wh = 3
              · subst h3
                obtain ⟨c, hc⟩ : ∃ c : Int, holdV L (pr', ip', po') = .int .i64 c := ⟨_, rfl⟩
                have H1 : ∀ W, PortsIs W bp F (hOf L) L.length → Calls Try.prog 22 #[.pointer (some ⟨bp, 0, none⟩), .int .u8 pr', .agg #[.int .u32 ip', .int .u16 (po' : Int)]] W (HoldPost W bp F (.int .i64 c) (holdL L (pr', ip', po'))) := by
                  rw [← hc]; exact fun W p => phold_both bp F L pr' ip' po' W p hgood (by omega)
                have H2 : ∀ W, RefIs W bm G L → Calls Try.prog 26 #[.pointer (some ⟨bm, 0, none⟩), .int .u8 pr', .agg #[.int .u32 ip', .int .u16 (po' : Int)]] W (HoldPost2 W bm G (.int .i64 c) (holdL L (pr', ip', po'))) := by
                  rw [← hc]; exact fun W p => mhold_both bm G L pr' ip' po' W p (by omega)
                have hl2 : (holdL L (pr', ip', po')).length ≤ k + 1 := by have := len_hold L (pr', ip', po'); omega
                have nd2 := nodup_hold (m := (pr', ip', po')) hB2.nd
                have ok2 := good_hold (m := (pr', ip', po')) hB2.ok hgood
                generalize holdL L (pr', ip', po') = L2 at *
                have H3 := Lib.hid (And.intro H1 (And.intro H2 (And.intro nd2 ok2)))
                clear H1 H2 hc nd2 ok2
                go_wp2_with fail
                go_region_held3 (fun w' => w'.cell? ⟨X, 1, none⟩ = some (.int .u8 pr') ∧ w'.cell? ⟨X + 1, 0, none⟩ = some (.int .u32 ip') ∧ w'.cell? ⟨X + 1, 1, none⟩ = some (.int .u16 (po' : Int))) (go_keep)
                  (first
                   | (go_at_call 22
                      refine (H3.out.1 _ (hB2.p.turn (G := fun _ => False) (by first | exact (Turn.refl _ _).drew | exact (Turn.refl _ _).drewN _ | exact Turn.refl _ _) (fun _ _ _ h => h))).mono ?_
                      rintro e w3 ⟨rfl, F', hh⟩
                      have hh : Half W2 w3 bp F F' L2 := ⟨hh.1, ((Turn.refl _ _).drew).trans hh.2.1, hh.2.2⟩
                      have z1 := (World.cell?_of_block (hh.2.1.block X (block_lt bx') hX.1)).trans x1
                      have z2 := (World.cell?_of_block (hh.2.1.block (X + 1) (block_lt by2) hY.1)).trans y0
                      have z3 := (World.cell?_of_block (hh.2.1.block (X + 1) (block_lt by2) hY.1)).trans y1)
                   | (go_at_call 26
                      refine (H3.out.2.1 _ (hB2.ref hh)).mono ?_
                      rintro e w4 ⟨rfl, G', kk2⟩
                      have st := hB2.step hW2.size hh kk2 H3.out.2.2.1 H3.out.2.2.2
                      have fin := behind_mk hB2 st.1 st.2 hl2 bx' by2 hX hY hW2 (Nat.le_refl _)
                      have z1 := cell_of_block fin.choose_spec.choose_spec.choose_spec.2.1 1
                      have z2 := cell_of_block fin.choose_spec.choose_spec.choose_spec.2.2.1 0
                      have z3 := cell_of_block fin.choose_spec.choose_spec.choose_spec.2.2.1 1))
                all_goals go_wp2_with fail
                all_goals go_meet
                all_goals exact ⟨_, rfl, fin⟩
              · by_cases h012 : wh = 0 ∨ wh = 1 ∨ wh = 2
                · rcases h012 with rfl | rfl | rfl
                  all_goals
                    go_wp2_with fail
                    have hPool : PoolIs W2 F pa pl P := ⟨fun i hi => by
                      obtain ⟨b', o', q1, q2, q3, q4⟩ := OK3.out i hi
                      exact ⟨b', o', q1, fun hf => by have := hB2.lo b' (Or.inl hf); omega, (hW2.cell q2).trans q3⟩, fun i hi => by
                      obtain ⟨b', o', q1, q2, q3, q4⟩ := OK3.out i hi
                      exact q4⟩
                    refine (ptake_both bp F L pr' pa pl pc P lo hi wa W2 hB2.p hg8 hlo hhi hwa (by omega) (by omega) hPool).mono ?_
                    rintro e w3 ⟨o, ho, rfl, F', hh⟩
                    have tl := take_len L pr' o
                    obtain ⟨nd2, ok2⟩ := take_good ho hPool.2 hg8 (by unfold tkHi; split <;> omega) hB2.nd hB2.ok
                    have hXs : X < w3.heap.size := Nat.lt_of_lt_of_le (block_lt bx') hh.2.1.size
                    have z1 : ∀ o, (w3.alloc o).cell? ⟨X, 1, none⟩ = some (.int .u8 pr') := fun o => (World.cell?_of_block (w := w3) (Below.heap_alloc _ _ _ hXs)).trans ((World.cell?_of_block (hh.2.1.block X (block_lt bx') hX.1)).trans x1)
                    have z2 : ∀ o, (w3.alloc o).cell? ⟨X, 2, none⟩ = some (.slice pa pl pc) := fun o => (World.cell?_of_block (w := w3) (Below.heap_alloc _ _ _ hXs)).trans ((World.cell?_of_block (hh.2.1.block X (block_lt bx') hX.1)).trans x2)
                    have z3 : ∀ o, (w3.alloc o).cell? ⟨X, 3, none⟩ = some (.int .u16 (lo : Int)) := fun o => (World.cell?_of_block (w := w3) (Below.heap_alloc _ _ _ hXs)).trans ((World.cell?_of_block (hh.2.1.block X (block_lt bx') hX.1)).trans x3)
                    have z4 : ∀ o, (w3.alloc o).cell? ⟨X, 4, none⟩ = some (.int .u16 (hi : Int)) := fun o => (World.cell?_of_block (w := w3) (Below.heap_alloc _ _ _ hXs)).trans ((World.cell?_of_block (hh.2.1.block X (block_lt bx') hX.1)).trans x4)
                    have z5 : ∀ o, (w3.alloc o).cell? ⟨X, 5, none⟩ = some (.int .u16 (wa : Int)) := fun o => (World.cell?_of_block (w := w3) (Below.heap_alloc _ _ _ hXs)).trans ((World.cell?_of_block (hh.2.1.block X (block_lt bx') hX.1)).trans x5)
                    have hP3 : ∀ i, i < pl → ∃ b off, pa = some ⟨b, off, none⟩ ∧ b < w3.heap.size ∧ w3.cell? ⟨b, off + i, none⟩ = some (.int .u32 (P i)) := fun i hi => by
                      obtain ⟨b', o', q1, q2, q3⟩ := hPool.1 i hi
                      have hlt' : b' < W2.heap.size := cell_block_lt q3
                      exact ⟨b', o', q1, Nat.lt_of_lt_of_le hlt' hh.2.1.size, (World.cell?_of_block (hh.2.1.block b' hlt' q2)).trans q3⟩
                    have hfr : w3.heap.size ≠ bm ∧ ¬ G w3.heap.size := by
                      have := hB2.fresh (X := w3.heap.size) hh.2.1.size
                      exact ⟨this.2.2, this.2.1⟩
                    have HH := Lib.hid (And.intro hh (And.intro ho (And.intro hP3 (And.intro nd2 (And.intro ok2 (And.intro tl hfr))))))
                    clear hh ho hP3 nd2 ok2 tl hfr hPool
                    obtain ⟨q1, q2, q3, hq⟩ : ∃ (q1 : Int) (q2 : Nat) (q3 : Int), takeV o = .tuple #[.agg #[.int .u32 q1, .int .u16 (q2 : Int)], .int .i64 q3] := by
                      rcases o with _ | ⟨a, b⟩
                      · exact ⟨0, 0, 120, rfl⟩
                      · exact ⟨a, b, 0, rfl⟩
                    simp only [hq]
                    have HQ := Lib.hid hq
                    clear hq
                    go_wp2_with fail
                    have rR : ∀ o, RefIs (w3.alloc o) bm G L := fun o => (hB2.ref HH.out.1).turn ((Turn.refl (fun _ => False) w3).alloc _) (fun _ h => h.elim)
                    refine (mtake_both bm G L pr' pa pl pc P lo hi wa _ (rR _) (by omega) hlo hhi hwa (by omega) (fun i hi => by
                      obtain ⟨b', o', q1, q2, q3⟩ := HH.out.2.2.1 i hi
                      exact ⟨b', o', q1, (World.cell?_of_block (w := w3) (Below.heap_alloc _ _ _ q2)).trans q3⟩) _ HH.out.2.1).mono ?_
                    rintro e w4 ⟨rfl, G', kk2⟩
                    have st := hB2.step hW2.size (HH.out.1.alloc _) kk2 HH.out.2.2.2.1 HH.out.2.2.2.2.1
                    have fin := behind_mk (k := k + 1) hB2 st.1 st.2 (by have := HH.out.2.2.2.2.2.1; omega) bx' by2 hX hY hW2 (Nat.le_refl _)
                    have bz := (kk2.2.1.block w3.heap.size (by simp) (fun h => h.elim HH.out.2.2.2.2.2.2.2 HH.out.2.2.2.2.2.2.1)).trans (block_alloc_new _ _)
                    have hbz : w3.heap.size < w4.heap.size := block_lt bz
                    have v0 : ∀ o, (w4.alloc o).cell? ⟨w3.heap.size, 0, none⟩ = some (.int .u32 q1) := fun o => (World.cell?_of_block (w := w4) (Below.heap_alloc _ _ _ hbz)).trans (cell_of_block bz 0)
                    have v1 : ∀ o, (w4.alloc o).cell? ⟨w3.heap.size, 1, none⟩ = some (.int .u16 (q2 : Int)) := fun o => (World.cell?_of_block (w := w4) (Below.heap_alloc _ _ _ hbz)).trans (cell_of_block bz 1)
                    have hsz4 : w.heap.size ≤ w4.heap.size := fin.choose_spec.choose_spec.choose_spec.2.2.2.2.size
                    have FIN := Lib.hid (And.intro fin hsz4)
                    clear fin st kk2 rR hsz4 bz hbz hXs z1 z2 z3 z4 z5
                    simp only [HQ.out]
                    go_wp2_with fail
                    go_meet
                    exact ⟨_, rfl, FIN.out.1.alloc FIN.out.2 _⟩
                · obtain ⟨n0, n1, n2⟩ : wh ≠ 0 ∧ wh ≠ 1 ∧ wh ≠ 2 := ⟨fun e => h012 (Or.inl e), fun e => h012 (Or.inr (Or.inl e)), fun e => h012 (Or.inr (Or.inr e))⟩
                  clear h012
                  obtain ⟨c, hc⟩ : ∃ c : Int, freeV L (pr', ip', po') = .int .i64 c := ⟨_, rfl⟩
                  have H1 : ∀ W, PortsIs W bp F (hOf L) L.length → Calls Try.prog 27 #[.pointer (some ⟨bp, 0, none⟩), .int .u8 pr', .agg #[.int .u32 ip', .int .u16 (po' : Int)]] W (HoldPost W bp F (.int .i64 c) (freeL L (pr', ip', po'))) := by
                    rw [← hc]; exact fun W p => pfree_both bp F L pr' ip' po' W p hB2.nd hgood (by omega)
                  have H2 : ∀ W, RefIs W bm G L → Calls Try.prog 28 #[.pointer (some ⟨bm, 0, none⟩), .int .u8 pr', .agg #[.int .u32 ip', .int .u16 (po' : Int)]] W (HoldPost2 W bm G (.int .i64 c) (freeL L (pr', ip', po'))) := by
                    rw [← hc]; exact fun W p => mfree_both bm G L pr' ip' po' W p hB2.nd (by omega)
                  have hl2 : (freeL L (pr', ip', po')).length ≤ k + 1 := by have := len_free L (pr', ip', po'); omega
                  have nd2 := nodup_free (m := (pr', ip', po')) hB2.nd
                  have ok2 := good_free (m := (pr', ip', po')) hB2.ok
                  generalize freeL L (pr', ip', po') = L2 at *
                  have H3 := Lib.hid (And.intro H1 (And.intro H2 (And.intro nd2 ok2)))
                  clear H1 H2 hc nd2 ok2
                  go_wp2_with fail
                  go_region_held3 (fun w' => w'.cell? ⟨X, 1, none⟩ = some (.int .u8 pr') ∧ w'.cell? ⟨X + 1, 0, none⟩ = some (.int .u32 ip') ∧ w'.cell? ⟨X + 1, 1, none⟩ = some (.int .u16 (po' : Int))) (go_keep)
                    (first
                     | (go_at_call 27
                        refine (H3.out.1 _ (hB2.p.turn (G := fun _ => False) (by first | exact (Turn.refl _ _).drew | exact (Turn.refl _ _).drewN _ | exact Turn.refl _ _) (fun _ _ _ h => h))).mono ?_
                        rintro e w3 ⟨rfl, F', hh⟩
                        have hh : Half W2 w3 bp F F' L2 := ⟨hh.1, ((Turn.refl _ _).drew).trans hh.2.1, hh.2.2⟩
                        have z1 := (World.cell?_of_block (hh.2.1.block X (block_lt bx') hX.1)).trans x1
                        have z2 := (World.cell?_of_block (hh.2.1.block (X + 1) (block_lt by2) hY.1)).trans y0
                        have z3 := (World.cell?_of_block (hh.2.1.block (X + 1) (block_lt by2) hY.1)).trans y1)
                     | (go_at_call 28
                        refine (H3.out.2.1 _ (hB2.ref hh)).mono ?_
                        rintro e w4 ⟨rfl, G', kk2⟩
                        have st := hB2.step hW2.size hh kk2 H3.out.2.2.1 H3.out.2.2.2
                        have fin := behind_mk hB2 st.1 st.2 hl2 bx' by2 hX hY hW2 (Nat.le_refl _)
                        have z1 := cell_of_block fin.choose_spec.choose_spec.choose_spec.2.1 1
                        have z2 := cell_of_block fin.choose_spec.choose_spec.choose_spec.2.2.1 0
                        have z3 := cell_of_block fin.choose_spec.choose_spec.choose_spec.2.2.1 1))
                  all_goals go_wp2_with fail
                  all_goals go_meet
                  all_goals exact ⟨_, rfl, fin⟩
            case rest =>
              obtain ⟨W3, hW3e, F3, G3, L3, hL3, bx3, by3, hB3, hW3⟩ := hcut
              subst hW3e
              clear bx' by2 hB2 hW2 x0 x1 x2 x3 x4 x5 y0 y1
              obtain ⟨v3, hv3⟩ := hB3.r
              have hlen : ∃ ao cap, v3 = .slice ao L3.length cap := by
                obtain ⟨_, ⟨h, h0⟩ | ⟨g, cap', cur, h, _⟩⟩ := hv3.2.1
                · exact ⟨_, _, by rw [h0]; exact h⟩
                · exact ⟨_, _, h⟩
              obtain ⟨ao3, cap3, rfl⟩ := hlen
              have m3 : W3.cell? ⟨bm, 0, none⟩ = some (.slice ao3 L3.length cap3) := cell_of_block hv3.1 0
              have hbm3 := block_lt hv3.1
              have x1 : W3.cell? ⟨X, 1, none⟩ = some (.int .u8 pr') := cell_of_block bx3 1
              have y0 : W3.cell? ⟨X + 1, 0, none⟩ = some (.int .u32 ip') := cell_of_block by3 0
              have y1 : W3.cell? ⟨X + 1, 1, none⟩ = some (.int .u16 (po' : Int)) := cell_of_block by3 1
              obtain ⟨t, ht⟩ : ∃ t, t = decide ((pr', ip', po') ∈ L3) := ⟨_, rfl⟩
              have H1 : ∀ W, PortsIs W bp F3 (hOf L3) L3.length → Calls Try.prog 30 #[.pointer (some ⟨bp, 0, none⟩), .int .u8 pr', .agg #[.int .u32 ip', .int .u16 (po' : Int)]] W fun e w' => e = .returned (.bool t) ∧ Turn (fun _ => False) W w' := by
                rw [ht]; exact fun W p => held_any bp F3 (hOf L3) L3.length pr' ip' po' W p hgood.1 hgood.2.1 hgood.2.2
              have H2 : ∀ W, RefIs W bm G3 L3 → Calls Try.prog 31 #[.pointer (some ⟨bm, 0, none⟩), .int .u8 pr', .agg #[.int .u32 ip', .int .u16 (po' : Int)]] W fun e w' => e = .returned (.bool t) ∧ Turn (fun _ => False) W w' := by
                rw [ht]; exact fun W p => has_any bm G3 L3 pr' ip' po' W p (by omega)
              clear ht
              have H3 := Lib.hid (And.intro H1 (And.intro H2 (And.intro hv3 bx3)))
              clear H1 H2 hv3
              go_wp2_with fail
              go_region_held3 (fun w' => w'.cell? ⟨X, 1, none⟩ = some (.int .u8 pr') ∧ w'.cell? ⟨X + 1, 0, none⟩ = some (.int .u32 ip') ∧ w'.cell? ⟨X + 1, 1, none⟩ = some (.int .u16 (po' : Int)) ∧ w'.cell? ⟨bm, 0, none⟩ = some (.slice ao3 L3.length cap3)) (go_keep)
                (first
                 | (go_at_call 29
                    refine (count_any bp F3 (hOf L3) L3.length _ (hB3.p.turn (G := fun _ => False) (by first | exact (Turn.refl _ _).drew | exact (Turn.refl _ _).drewN _ | exact Turn.refl _ _) (fun _ _ _ h => h))).mono ?_
                    rintro e w5 ⟨rfl, rfl⟩)
                 | (go_at_call 30
                    refine (H3.out.1 _ (hB3.p.turn (G := fun _ => False) (by first | exact (Turn.refl _ _).drew | exact (Turn.refl _ _).drewN _ | exact Turn.refl _ _) (fun _ _ _ h => h))).mono ?_
                    rintro e w6 ⟨rfl, t6⟩
                    have t6 : Turn (fun _ => False) W3 w6 := ((Turn.refl _ _).drew).trans t6
                    have z1 := (World.cell?_of_block (t6.block X (block_lt bx3) (fun h => h))).trans x1
                    have z2 := (World.cell?_of_block (t6.block (X + 1) (block_lt by3) (fun h => h))).trans y0
                    have z3 := (World.cell?_of_block (t6.block (X + 1) (block_lt by3) (fun h => h))).trans y1
                    have z4 := (World.cell?_of_block (t6.block bm hbm3 (fun h => h))).trans m3)
                 | (go_at_call 31
                    refine (H3.out.2.1 _ (hB3.r.turn t6 (fun _ h => h.elim))).mono ?_
                    rintro e w7 ⟨rfl, t7⟩
                    have t7 := t6.trans t7
                    have z1 := (World.cell?_of_block (t7.block X (block_lt bx3) (fun h => h))).trans x1
                    have z2 := (World.cell?_of_block (t7.block (X + 1) (block_lt by3) (fun h => h))).trans y0
                    have z3 := (World.cell?_of_block (t7.block (X + 1) (block_lt by3) (fun h => h))).trans y1
                    have z4 := (World.cell?_of_block (t7.block bm hbm3 (fun h => h))).trans m3))
              all_goals
                have hB7 := hB3.turn t7 (fun _ h => h.elim)
                have hW7 := t7.onto hW3 (Nat.le_refl _) (fun _ _ h => h)
                clear z1 z2 z3 z4 m3 x1 y0 y1 bx3 by3 hB3 hW3 t6 t7
                go_wp2_with fail
                go_roundw
                case rel => exact ⟨k + 1, F3, G3, L3, by omega, by go_num, hB7, hL3, hW7⟩
                case measure => simp [intOf]; omega
      · go_wp2_with fail
        go_ret
        exact ⟨rfl, hW⟩
end Go.Proofs.Ytpnobcffglohnaa
