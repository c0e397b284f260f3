/- seat.Tenant: the walk. No condition. seat.Tenant: the walk. No condition. seat.Config: the walk. Condition: the kinds can be read. -/
import Derived.Test.YtbkpbcmjgbdbkaaGreatDoorP3
import Derived.Test.YtbkpbcmjgbdbkaaGreatDoorS0
import Derived.Deep.CutBlock
import Derived.Great.BuildSlice
import Derived.Laws.BitsAllLaws
import Derived.Deep.RegionLaw
import Derived.Test.YtbkpbcmjgbdbkaaGreatDoorN6
import Derived.Test.YtbkpbcmjgbdbkaaGreatDoorU2
/-! W0 -/
namespace Go.Proofs.YtbkpbcmjgbdbkaaGreatDoor
open Go.RowKit Go.Lib
set_option linter.unusedVariables false
set_option linter.unusedSimpArgs false
set_option maxRecDepth 100000
set_option pp.maxSteps 2500

def quad (a b c d : Nat) : Nat := a * 16777216 + b * 65536 + c * 256 + d
/-- A tenant that the settings of the statements hold. -/
def seatTen (i kind : Nat) : Ten where
  name := ⟨[(97 + UInt8.ofNat i)].toArray⟩
  vni := 100 + i
  key := [i + 1, 0, 0, 0, 0, 0, 0, 0]
  vtep := quad 10 9 0 (i + 1)
  vmac := [2, 9, i, 0, 0, 0]
  host := [2, 7, i, 0, 0, 0]
  pool := if kind / 4 % 2 = 1 then [quad 5 5 i 1, quad 5 5 i 2] else [quad 5 5 i 1]
  lo := if kind / 64 % 2 = 1 then 1020 else 1024
  hi := if kind / 64 % 2 = 1 then 1030 else 1024 + kind / 8 % 8
  filter := ((kind % 3 : Nat) : Int)
  statics := if kind / 128 % 2 = 1 then [(quad 10 0 0 9, quad 5 6 i 9)] else []
  twices := if kind / 256 % 2 = 1 then [(quad 192 168 0 5, quad 8 8 8 8), (quad 192 168 0 6, quad 5 5 i 1)] else []
  sess := ((kind / 512 % 8 + 1 : Nat) : Int)
  queue := ((kind / 4096 % 4 + 1 : Nat) : Int)
  rate := kind / 16384 % 4
  burst := kind / 8192 % 8 + 3
def setStat (t : Ten) (x : List (Nat × Nat)) : Ten := { t with statics := x }
def setTwic (t : Ten) (x : List (Nat × Nat)) : Ten := { t with twices := x }
/-- How the world stands in the midst of making a tenant. -/
structure BoxAt (w : World) (r T : Nat) (t : Ten) (p s q : Value) (W : World) : Prop where
  res : W.heap[r]? = some (.cells (tenZero ⟨#[]⟩) 45 (0, 0))
  cel : W.heap[T]? = some (.cells (tenRow t p s q) 45 (0, 0))
  own : TenOwn W (T + 1) (t, p, s, q)
  turn : Turn (fun _ => False) w W
  wr : w.heap.size ≤ r
  rT : r < T
theorem pairCells_len2 (l : List (Nat × Nat)) : (pairCells l).length = l.length * 2 := by
  induction l with
  | nil => rfl
  | cons x l ih =>
    have hc : pairCells (x :: l) = .int .u32 (x.1 : Int) :: .int .u32 (x.2 : Int) :: pairCells l := rfl
    rw [hc, List.length_cons, List.length_cons, List.length_cons, ih]
    omega
section
variable {w W W' : World} {r T : Nat} {t t' : Ten} {p s q p' s' q' : Value}
theorem BoxAt.quiet (h : BoxAt w r T t p s q W) (tn : Turn (fun _ => False) W W') : BoxAt w r T t p s q W' :=
  ⟨(tn.block r (block_lt h.res) (fun h => h)).trans h.res, (tn.block T (block_lt h.cel) (fun h => h)).trans h.cel, h.own.turn tn (fun _ _ h => h), h.turn.trans tn, h.wr, h.rT⟩
theorem BoxAt.store (h : BoxAt w r T t p s q W) (tn : Turn (fun k => T < k) W W') (ho : TenOwn W' (T + 1) (t', p', s', q')) (j : Nat) (u : Value) (hrow : (tenRow t' p' s' q').toList = (tenRow t p s q).toList.set j u) : BoxAt w r T t' p' s' q' (W'.setCell ⟨T, j, none⟩ u) := by
  have h1 := h.rT
  have h2 := h.wr
  have cel : W'.heap[T]? = some (.cells (tenRow t p s q) 45 (0, 0)) := (tn.block T (block_lt h.cel) (by omega)).trans h.cel
  have res : W'.heap[r]? = some (.cells (tenZero ⟨#[]⟩) 45 (0, 0)) := (tn.block r (block_lt h.res) (by omega)).trans h.res
  have t2 : Turn (fun k => k = T) W' (W'.setCell ⟨T, j, none⟩ u) := (Turn.refl (fun k => k = T) W').setCell (p := ⟨T, j, none⟩) _ (fun _ => rfl)
  refine ⟨(t2.block r (block_lt res) (by omega)).trans res, ?_, ho.turn t2 (fun k hk e => by have := (ho.tag hk).1; omega), (h.turn.trans2 tn (fun k hk e => by omega)).trans2 t2 (fun k hk e => by omega), h.wr, h.rT⟩
  have e : tenRow t' p' s' q' = (tenRow t p s q).setIfInBounds j u := by
    apply Array.ext'
    rw [hrow]
    simp
  rw [e]
  exact block_setCell cel j u
theorem BoxAt.put (h : BoxAt w r T t p s q W) (t' : Ten) (j : Nat) (u : Value) (hrow : (tenRow t' p s q).toList = (tenRow t p s q).toList.set j u) (h2 : t'.pool = t.pool) (h3 : t'.statics = t.statics) (h4 : t'.twices = t.twices) (hw : WfTen t') : BoxAt w r T t' p s q (W.setCell ⟨T, j, none⟩ u) :=
  h.store (t' := t') (p' := p) (s' := s) (q' := q) (Turn.refl _ _) ⟨by show W.ownsRow _ _ _ _ t'.pool.length (numCells t'.pool); rw [h2]; exact h.own.pool, by show W.ownsRow _ _ _ _ t'.statics.length (pairCells t'.statics); rw [h3]; exact h.own.stat, by show W.ownsRow _ _ _ _ t'.twices.length (pairCells t'.twices); rw [h4]; exact h.own.twic, h.own.apart, hw⟩ j u hrow
theorem BoxAt.cell (h : BoxAt w r T t p s q W) {j : Nat} {u : Value} (hj : (tenRow t p s q).toList[j]? = some u) : W.cell? ⟨T, j, none⟩ = some u ∧ W.frozen? ⟨T, j, none⟩ = false :=
  ⟨(cell_of_block h.cel j).trans (by rw [← Array.getElem?_toList]; exact hj), free_of_block h.cel j⟩
theorem BoxAt.cell23 (h : BoxAt w r T t p s q W) (o : Obj) : (W.alloc o).cell? ⟨T, 23, none⟩ = some p ∧ (W.alloc o).frozen? ⟨T, 23, none⟩ = false := by
  have kb := block_alloc_old (o := o) h.cel
  have hg := (ten_get _ h.own.wf p s q).1
  exact ⟨(cell_of_block kb 23).trans (by rw [← Array.getElem?_toList]; exact hg), free_of_block kb 23⟩
theorem BoxAt.pool (h : BoxAt w r T t p s q W) (l : List Nat) (hown : W'.ownsRow (T + 1) 23 1 p' l.length (numCells l)) (tn : Turn (fun k => p.ownBlock = some k) W W') : BoxAt w r T { t with pool := l } p' s q (W'.setCell ⟨T, 23, none⟩ p') :=
  h.store (t' := { t with pool := l }) (p' := p') (s' := s) (q' := q) (tn.mono (fun k _ e => (h.own.tag (Or.inl e)).1)) ⟨hown, ownsRow_turn h.own.stat tn (fun g hg e => own_apart h.own.pool h.own.stat (by decide) e hg), ownsRow_turn h.own.twic tn (fun g hg e => own_apart h.own.pool h.own.twic (by decide) e hg), h.own.apart, ⟨h.own.wf.key, h.own.wf.vmac, h.own.wf.host⟩⟩ 23 p' (ten_set_pool t h.own.wf p s q p' l)
theorem BoxAt.stat (h : BoxAt w r T t p s q W) (l : List (Nat × Nat)) (cs : Array Value) (hcs : cs.toList = pairCells l) (hl : l.length ≤ 1000) : BoxAt w r T (setStat t l) p (.slice (some ⟨W.heap.size, 0, none⟩) l.length l.length) q ((W.alloc (.cells cs 97)).setCell ⟨T, 27, none⟩ (.slice (some ⟨W.heap.size, 0, none⟩) l.length l.length)) := by
  have tn := (Turn.refl (fun _ => False) W).alloc (.cells cs 97)
  have hT := block_lt h.cel
  have hc2 : cs.size = l.length * 2 := by
    have h1 : cs.toList.length = cs.size := rfl
    rw [← h1, hcs, pairCells_len2]
  refine h.store (t' := { t with statics := l }) (p' := p) (s' := .slice (some ⟨W.heap.size, 0, none⟩) l.length l.length) (q' := q) (tn.mono (fun k _ e => e.elim)) ⟨ownsRow_turn h.own.pool tn (fun _ _ h => h), ?_, ownsRow_turn h.own.twic tn (fun _ _ h => h), ?_, ⟨h.own.wf.key, h.own.wf.vmac, h.own.wf.host⟩⟩ 27 _ (ten_set_stat t h.own.wf p s q _ l)
  · have := World.ownsRow_lit (base := T + 1) (e := 97) (size := 2) W cs l.length (by omega) (by unfold maxLen; omega) hc2
    rwa [hcs] at this
  · intro k h1 h2
    have h1 : some W.heap.size = some k := h1
    injection h1 with h1
    have := (h.own.twic.lt k h2).2
    omega
theorem BoxAt.twic (h : BoxAt w r T t p s q W) (l : List (Nat × Nat)) (cs : Array Value) (hcs : cs.toList = pairCells l) (hl : l.length ≤ 1000) : BoxAt w r T (setTwic t l) p s (.slice (some ⟨W.heap.size, 0, none⟩) l.length l.length) ((W.alloc (.cells cs 97)).setCell ⟨T, 28, none⟩ (.slice (some ⟨W.heap.size, 0, none⟩) l.length l.length)) := by
  have tn := (Turn.refl (fun _ => False) W).alloc (.cells cs 97)
  have hT := block_lt h.cel
  have hc2 : cs.size = l.length * 2 := by
    have h1 : cs.toList.length = cs.size := rfl
    rw [← h1, hcs, pairCells_len2]
  refine h.store (t' := { t with twices := l }) (p' := p) (s' := s) (q' := .slice (some ⟨W.heap.size, 0, none⟩) l.length l.length) (tn.mono (fun k _ e => e.elim)) ⟨ownsRow_turn h.own.pool tn (fun _ _ h => h), ownsRow_turn h.own.stat tn (fun _ _ h => h), ?_, ?_, ⟨h.own.wf.key, h.own.wf.vmac, h.own.wf.host⟩⟩ 28 _ (ten_set_twic t h.own.wf p s q _ l)
  · have := World.ownsRow_lit (base := T + 1) (e := 97) (size := 2) W cs l.length (by omega) (by unfold maxLen; omega) hc2
    rwa [hcs] at this
  · intro k h1 h2
    have h2 : some W.heap.size = some k := h2
    injection h2 with h2
    have := (h.own.stat.lt k h1).2
    omega
end
def setLo (t : Ten) (x : Nat) : Ten := { t with lo := x }
def setHi (t : Ten) (x : Nat) : Ten := { t with hi := x }
def setSess (t : Ten) (x : Int) : Ten := { t with sess := x }
def setQueue (t : Ten) (x : Int) : Ten := { t with queue := x }
def setRate (t : Ten) (x : Nat) : Ten := { t with rate := x }
def setBurst (t : Ten) (x : Nat) : Ten := { t with burst := x }
section
variable {w W W' : World} {r T : Nat} {t : Ten} {p s q : Value}
theorem BoxAt.lo (h : BoxAt w r T t p s q W) (x : Nat) (y : Int) (hy : y = (x : Int)) : BoxAt w r T (setLo t x) p s q (W.setCell ⟨T, 24, none⟩ (.int .u16 y)) := by
  subst hy
  exact h.put { t with lo := x } 24 _ ((ten_set_num t h.own.wf p s q).1 x) rfl rfl rfl ⟨h.own.wf.key, h.own.wf.vmac, h.own.wf.host⟩
theorem BoxAt.hi (h : BoxAt w r T t p s q W) (x : Nat) (y : Int) (hy : y = (x : Int)) : BoxAt w r T (setHi t x) p s q (W.setCell ⟨T, 25, none⟩ (.int .u16 y)) := by
  subst hy
  exact h.put { t with hi := x } 25 _ ((ten_set_num t h.own.wf p s q).2.1 x) rfl rfl rfl ⟨h.own.wf.key, h.own.wf.vmac, h.own.wf.host⟩
theorem BoxAt.sess (h : BoxAt w r T t p s q W) (y : Int) : BoxAt w r T (setSess t y) p s q (W.setCell ⟨T, 29, none⟩ (.int .i64 y)) :=
  h.put { t with sess := y } 29 _ ((ten_set_num t h.own.wf p s q).2.2.2.1 y) rfl rfl rfl ⟨h.own.wf.key, h.own.wf.vmac, h.own.wf.host⟩
theorem BoxAt.queue (h : BoxAt w r T t p s q W) (y : Int) : BoxAt w r T (setQueue t y) p s q (W.setCell ⟨T, 30, none⟩ (.int .i64 y)) :=
  h.put { t with queue := y } 30 _ ((ten_set_num t h.own.wf p s q).2.2.2.2.1 y) rfl rfl rfl ⟨h.own.wf.key, h.own.wf.vmac, h.own.wf.host⟩
theorem BoxAt.rate (h : BoxAt w r T t p s q W) (x : Nat) (y : Int) (hy : y = (x : Int)) : BoxAt w r T (setRate t x) p s q (W.setCell ⟨T, 31, none⟩ (.int .u32 y)) := by
  subst hy
  exact h.put { t with rate := x } 31 _ ((ten_set_num t h.own.wf p s q).2.2.2.2.2.1 x) rfl rfl rfl ⟨h.own.wf.key, h.own.wf.vmac, h.own.wf.host⟩
theorem BoxAt.burst (h : BoxAt w r T t p s q W) (x : Nat) (y : Int) (hy : y = (x : Int)) : BoxAt w r T (setBurst t x) p s q (W.setCell ⟨T, 32, none⟩ (.int .u32 y)) := by
  subst hy
  exact h.put { t with burst := x } 32 _ ((ten_set_num t h.own.wf p s q).2.2.2.2.2.2 x) rfl rfl rfl ⟨h.own.wf.key, h.own.wf.vmac, h.own.wf.host⟩
theorem BoxAt.cells (h : BoxAt w r T t p s q W) : W.cell? ⟨T, 24, none⟩ = some (.int .u16 (t.lo : Int)) ∧ W.cell? ⟨T, 25, none⟩ = some (.int .u16 (t.hi : Int)) ∧ W.cell? ⟨T, 27, none⟩ = some s ∧ W.cell? ⟨T, 28, none⟩ = some q ∧ W.cell? ⟨T, 29, none⟩ = some (.int .i64 t.sess) ∧ W.cell? ⟨T, 30, none⟩ = some (.int .i64 t.queue) ∧ W.cell? ⟨T, 31, none⟩ = some (.int .u32 (t.rate : Int)) ∧ W.cell? ⟨T, 32, none⟩ = some (.int .u32 (t.burst : Int)) := by
  obtain ⟨h0, h1, h2, h3, h4, h5, h6, h7, h8, h9⟩ := ten_get t h.own.wf p s q
  exact ⟨(h.cell h1).1, (h.cell h2).1, (h.cell h4).1, (h.cell h5).1, (h.cell h6).1, (h.cell h7).1, (h.cell h8).1, (h.cell h9).1⟩
theorem BoxAt.free (h : BoxAt w r T t p s q W) (j : Nat) : W.frozen? ⟨T, j, none⟩ = false := free_of_block h.cel j
theorem BoxAt.cellsO (h : BoxAt w r T t p s q W) (o : Obj) : (W.alloc o).cell? ⟨T, 27, none⟩ = some s ∧ (W.alloc o).cell? ⟨T, 28, none⟩ = some q := by
  obtain ⟨h0, h1, h2, h3, h4, h5, h6, h7, h8, h9⟩ := ten_get t h.own.wf p s q
  have kb := block_alloc_old (o := o) h.cel
  exact ⟨(cell_of_block kb 27).trans (by rw [← Array.getElem?_toList]; exact h4), (cell_of_block kb 28).trans (by rw [← Array.getElem?_toList]; exact h5)⟩
theorem BoxAt.freeO (h : BoxAt w r T t p s q W) (o : Obj) (j : Nat) : (W.alloc o).frozen? ⟨T, j, none⟩ = false := free_of_block (block_alloc_old (o := o) h.cel) j
end
theorem and_bit (x k : Nat) : x &&& 2 ^ k = if x / 2 ^ k % 2 = 1 then 2 ^ k else 0 := by
  apply Nat.eq_of_testBit_eq
  intro i
  rw [Nat.testBit_and, Nat.testBit_two_pow]
  by_cases h : k = i
  · subst h
    rw [Nat.testBit_eq_decide_div_mod_eq]
    split
    · rename_i h1; simp [h1, Nat.testBit_two_pow]
    · rename_i h1; simp [h1]
  · split
    · simp [h, Nat.testBit_two_pow]
    · simp [h]
theorem bit_in (x k : Nat) (hx : x < 65536) (hk : k < 16) (h : x / 2 ^ k % 2 = 1) : bits .and .u16 (x : Int) ((2 ^ k : Nat) : Int) = ((2 ^ k : Nat) : Int) := by
  rw [u16_and_nat x _ hx (Nat.pow_lt_pow_right (by omega) hk), and_bit, if_pos h]
theorem bit_out (x k : Nat) (hx : x < 65536) (hk : k < 16) (h : ¬ x / 2 ^ k % 2 = 1) : bits .and .u16 (x : Int) ((2 ^ k : Nat) : Int) = 0 := by
  rw [u16_and_nat x _ hx (Nat.pow_lt_pow_right (by omega) hk), and_bit, if_neg h]
  rfl
theorem low_bits (x k : Nat) (hx : x < 65536) (hk : k < 16) : bits .and .u16 (x : Int) ((2 ^ k - 1 : Nat) : Int) = ((x % 2 ^ k : Nat) : Int) := by
  rw [u16_and_nat x _ hx (by have : 2 ^ k < 2 ^ 16 := Nat.pow_lt_pow_right (by omega) hk; omega), Nat.and_two_pow_sub_one_eq_mod]
/-- The tenant as it is first laid. -/
def seatTen0 (i kind : Nat) : Ten := ⟨⟨[(97 + UInt8.ofNat i)].toArray⟩, 100 + i, [i + 1, 0, 0, 0, 0, 0, 0, 0], quad 10 9 0 (i + 1), [2, 9, i, 0, 0, 0], [2, 7, i, 0, 0, 0], [], 0, 0, ((kind % 3 : Nat) : Int), [], [], 0, 0, 0, 0⟩
theorem seatTen0_wf (i kind : Nat) : WfTen (seatTen0 i kind) := ⟨rfl, rfl, rfl⟩
theorem built45 (nm : ByteArray) (v i k x : Int) : Tryz.prog.built 45 [(0, .string nm), (1, .int .u32 v), (2, .agg #[.int .u8 (i + 1), .int .u8 0, .int .u8 0, .int .u8 0, .int .u8 0, .int .u8 0, .int .u8 0, .int .u8 0]), (3, .int .u32 x), (4, .agg #[.int .u8 2, .int .u8 9, .int .u8 i, .int .u8 0, .int .u8 0, .int .u8 0]), (5, .agg #[.int .u8 2, .int .u8 7, .int .u8 i, .int .u8 0, .int .u8 0, .int .u8 0]), (9, .int .i64 k)] =
    some #[.string nm, .int .u32 v, .int .u8 (i + 1), .int .u8 0, .int .u8 0, .int .u8 0, .int .u8 0, .int .u8 0, .int .u8 0, .int .u8 0, .int .u32 x, .int .u8 2, .int .u8 9, .int .u8 i, .int .u8 0, .int .u8 0, .int .u8 0, .int .u8 2, .int .u8 7, .int .u8 i, .int .u8 0, .int .u8 0, .int .u8 0, .slice none 0 0, .int .u16 0, .int .u16 0, .int .i64 k, .slice none 0 0, .slice none 0 0, .int .i64 0, .int .i64 0, .int .u32 0, .int .u32 0] := by kernel_rfl
theorem seatRow0 (i kind : Nat) : tenRow (seatTen0 i kind) (.slice none 0 0) (.slice none 0 0) (.slice none 0 0) = #[.string ⟨[(97 + UInt8.ofNat i)].toArray⟩, .int .u32 (100 + (i : Int)), .int .u8 ((i : Int) + 1), .int .u8 0, .int .u8 0, .int .u8 0, .int .u8 0, .int .u8 0, .int .u8 0, .int .u8 0, .int .u32 ((quad 10 9 0 (i + 1) : Nat) : Int), .int .u8 2, .int .u8 9, .int .u8 (i : Int), .int .u8 0, .int .u8 0, .int .u8 0, .int .u8 2, .int .u8 7, .int .u8 (i : Int), .int .u8 0, .int .u8 0, .int .u8 0, .slice none 0 0, .int .u16 0, .int .u16 0, .int .i64 ((kind : Int) % 3), .slice none 0 0, .slice none 0 0, .int .i64 0, .int .i64 0, .int .u32 0, .int .u32 0] := by kernel_rfl
end Go.Proofs.YtbkpbcmjgbdbkaaGreatDoor

/-! W1 -/
namespace Go.Proofs.YtbkpbcmjgbdbkaaGreatDoor
open Go.RowKit Go.Lib
set_option linter.unusedVariables false
set_option linter.unusedSimpArgs false
set_option maxRecDepth 100000
set_option pp.maxSteps 2500

theorem TenOwn.bare (W : World) (lo : Nat) {t : Ten} (hw : WfTen t) (h1 : t.pool = []) (h2 : t.statics = []) (h3 : t.twices = []) : TenOwn W lo (t, .slice none 0 0, .slice none 0 0, .slice none 0 0) :=
  ⟨by show W.ownsRow lo 23 1 _ t.pool.length (numCells t.pool); rw [h1]; exact World.ownsRow_nil _ _ _ _, by show W.ownsRow lo 97 2 _ t.statics.length (pairCells t.statics); rw [h2]; exact World.ownsRow_nil _ _ _ _, by show W.ownsRow lo 97 2 _ t.twices.length (pairCells t.twices); rw [h3]; exact World.ownsRow_nil _ _ _ _, fun k hk => by simp [Value.ownBlock] at hk, hw⟩
theorem seat_first (i kind : Nat) (w : World) : ∃ W3, (storeCells ⟨w.heap.size + 1, 0, none⟩ (tenRow (seatTen0 i kind) (.slice none 0 0) (.slice none 0 0) (.slice none 0 0)).toList 0).run Tryz.prog ((w.alloc (.cells (tenZero ⟨#[]⟩) 45)).alloc (.cells (tenZero ⟨#[]⟩) 45)) = .ok () W3 ∧
    BoxAt w w.heap.size (w.heap.size + 1) (seatTen0 i kind) (.slice none 0 0) (.slice none 0 0) (.slice none 0 0) W3 := by
  have t1 := (Turn.refl (fun _ => False) w).alloc (.cells (tenZero ⟨#[]⟩) 45)
  have r1 := block_alloc_new w (.cells (tenZero ⟨#[]⟩) 45)
  have s1 : (w.alloc (.cells (tenZero ⟨#[]⟩) 45)).heap.size = w.heap.size + 1 := by simp
  generalize w.alloc (.cells (tenZero ⟨#[]⟩) 45) = w1 at *
  have t2 := (Turn.refl (fun _ => False) w1).alloc (.cells (tenZero ⟨#[]⟩) 45)
  have r2 := block_alloc_new w1 (.cells (tenZero ⟨#[]⟩) 45)
  have r3 := block_alloc_old (o := .cells (tenZero ⟨#[]⟩) 45) r1
  rw [s1] at r2
  generalize w1.alloc (.cells (tenZero ⟨#[]⟩) 45) = w2 at *
  have hs := tenRow_size (seatTen0_wf i kind) (.slice none 0 0) (.slice none 0 0) (.slice none 0 0)
  obtain ⟨h1, h2, h3⟩ := store_whole r2 (cs := tenRow (seatTen0 i kind) (.slice none 0 0) (.slice none 0 0) (.slice none 0 0)) (by rw [hs]; rfl) (ten_one _ _ _ _ rfl rfl rfl)
  refine ⟨_, h1, (h3.block _ (block_lt r3) (by omega)).trans r3, h2, TenOwn.bare _ _ (seatTen0_wf i kind) rfl rfl rfl, (t1.trans t2).trans2 h3 (fun k hk e => by omega), Nat.le_refl _, by omega⟩
def sT1 (i kind : Nat) : Ten := { seatTen0 i kind with pool := (seatTen i kind).pool }
def sT2 (i kind : Nat) : Ten := { sT1 i kind with lo := (seatTen i kind).lo, hi := (seatTen i kind).hi }
def sT3 (i kind : Nat) : Ten := { sT2 i kind with statics := (seatTen i kind).statics }
def sT4 (i kind : Nat) : Ten := { sT3 i kind with twices := (seatTen i kind).twices }
theorem sT1_a {i kind : Nat} (h : kind / 4 % 2 = 1) : sT1 i kind = { seatTen0 i kind with pool := [quad 5 5 i 1] ++ [quad 5 5 i 2] } := by
  unfold sT1 seatTen
  rw [if_pos h]
  rfl
theorem sT1_b {i kind : Nat} (h : ¬ kind / 4 % 2 = 1) : sT1 i kind = { seatTen0 i kind with pool := [quad 5 5 i 1] } := by
  unfold sT1 seatTen
  rw [if_neg h]
theorem sT2_a {i kind : Nat} (h : kind / 64 % 2 = 1) (a b : Nat) : sT2 i kind = setHi (setLo (setHi (setLo (sT1 i kind) a) b) 1020) 1030 := by
  unfold sT2 seatTen
  rw [if_pos h, if_pos h]
  rfl
theorem sT2_b {i kind : Nat} (h : ¬ kind / 64 % 2 = 1) : sT2 i kind = setHi (setLo (sT1 i kind) 1024) (1024 + kind / 8 % 8) := by
  unfold sT2 seatTen
  rw [if_neg h, if_neg h]
  rfl
theorem sT3_a {i kind : Nat} (h : kind / 128 % 2 = 1) : sT3 i kind = setStat (sT2 i kind) [(quad 10 0 0 9, quad 5 6 i 9)] := by
  unfold sT3 seatTen
  rw [if_pos h]
  rfl
theorem sT3_b {i kind : Nat} (h : ¬ kind / 128 % 2 = 1) : sT3 i kind = sT2 i kind := by
  unfold sT3 seatTen
  rw [if_neg h]
  rfl
theorem sT4_a {i kind : Nat} (h : kind / 256 % 2 = 1) : sT4 i kind = setTwic (sT3 i kind) [(quad 192 168 0 5, quad 8 8 8 8), (quad 192 168 0 6, quad 5 5 i 1)] := by
  unfold sT4 seatTen
  rw [if_pos h]
  rfl
theorem sT4_b {i kind : Nat} (h : ¬ kind / 256 % 2 = 1) : sT4 i kind = sT3 i kind := by
  unfold sT4 seatTen
  rw [if_neg h]
  rfl
theorem seatTen_sT4 (i kind : Nat) : seatTen i kind = setBurst (setRate (setQueue (setSess (sT4 i kind) ((kind / 512 % 8 + 1 : Nat) : Int)) ((kind / 4096 % 4 + 1 : Nat) : Int)) (kind / 16384 % 4)) (kind / 8192 % 8 + 3) := rfl
theorem low_i64 (x k : Nat) (hx : x < 65536) (hk : k < 16) : bits .and .i64 (x : Int) ((2 ^ k - 1 : Nat) : Int) = ((x % 2 ^ k : Nat) : Int) := by
  have hk2 : 2 ^ k < 2 ^ 16 := Nat.pow_lt_pow_right (by omega) hk
  have hlt : x % 2 ^ k < 2 ^ k := Nat.mod_lt _ (Nat.pow_pos (by omega))
  have e1 : (BitVec.ofInt 64 (x : Int)).toNat = x := by rw [BitVec.ofInt_natCast, BitVec.toNat_ofNat]; exact Nat.mod_eq_of_lt (by omega)
  have e2 : (BitVec.ofInt 64 ((2 ^ k - 1 : Nat) : Int)).toNat = 2 ^ k - 1 := by rw [BitVec.ofInt_natCast, BitVec.toNat_ofNat]; exact Nat.mod_eq_of_lt (by omega)
  show IntKind.i64.wrap ((BitVec.ofInt 64 (x : Int) &&& BitVec.ofInt 64 ((2 ^ k - 1 : Nat) : Int)).toNat : Int) = _
  rw [BitVec.toNat_and, e1, e2, Nat.and_two_pow_sub_one_eq_mod, IntKind.wrap_i64]
  omega
theorem ownsRow_low {W : World} {lo lo' e size n : Nat} {v : Value} {xs : List Value} (h : W.ownsRow lo e size v n xs) (hl : lo' ≤ lo) : W.ownsRow lo' e size v n xs :=
  ⟨h.1, h.2.imp id (fun ⟨g, cap, cur, hv, h1, h2, h3, h4, h5, h6⟩ => ⟨g, cap, cur, hv, Nat.le_trans hl h1, h2, h3, h4, h5, h6⟩)⟩
theorem ownsRow_one {W : World} {lo e size n : Nat} {v : Value} {xs : List Value} (h : W.ownsRow lo e size v n xs) : v.oneCell' = true := by
  rcases h.2 with ⟨hv, _⟩ | ⟨g, cap, cur, hv, _⟩ <;> rw [hv] <;> rfl
theorem TenOwn.low {W : World} {lo lo' : Nat} {x : TenM} (h : TenOwn W lo x) (hl : lo' ≤ lo) : TenOwn W lo' x :=
  ⟨ownsRow_low h.pool hl, ownsRow_low h.stat hl, ownsRow_low h.twic hl, h.apart, h.wf⟩
/-- The row handed back. -/
theorem BoxAt.last {w W : World} {r T : Nat} {t : Ten} {p s q : Value} (h : BoxAt w r T t p s q W) : (tenRow t p s q).size = 33 ∧ (Instr.loadAt 45 (.pointer (some ⟨T, 0, none⟩))).run Tryz.prog W = .ok (.agg (tenRow t p s q)) W ∧
    ∃ W2, (storeCells ⟨r, 0, none⟩ (tenRow t p s q).toList 0).run Tryz.prog W = .ok () W2 ∧ W2.heap[r]? = some (.cells (tenRow t p s q) 45 (0, 0)) ∧ TenOwn W2 w.heap.size (t, p, s, q) ∧ Turn (fun _ => False) w W2 := by
  have hs := tenRow_size h.own.wf p s q
  have h1 := h.rT
  have h2 := h.wr
  obtain ⟨a1, a2, a3⟩ := store_whole h.res (cs := tenRow t p s q) (by rw [hs]; rfl) (ten_one _ _ _ _ (ownsRow_one h.own.pool) (ownsRow_one h.own.stat) (ownsRow_one h.own.twic))
  refine ⟨hs, run_loadAt_at hs (fun j u hj => ?_), _, a1, a2, (h.own.turn a3 (fun k hk e => by have := (h.own.tag hk).1; omega)).low (by omega), h.turn.trans2 a3 (fun k hk e => by omega)⟩
  have := (h.cell hj).1
  rwa [← Nat.zero_add j] at this
theorem low_u32 (x k : Nat) (hx : x < 65536) (hk : k < 16) : bits .and .u32 (x : Int) ((2 ^ k - 1 : Nat) : Int) = ((x % 2 ^ k : Nat) : Int) := by
  rw [u32_and_nat x _ (by omega) (by have : 2 ^ k < 2 ^ 16 := Nat.pow_lt_pow_right (by omega) hk; omega), Nat.and_two_pow_sub_one_eq_mod]
theorem free_alloc {W : World} {T : Nat} {cs : Array Value} (h : W.heap[T]? = some (.cells cs 45 (0, 0))) (j : Nat) : ∀ o, (W.alloc o).frozen? ⟨T, j, none⟩ = false := fun o => free_of_block (block_alloc_old h) j
set_option maxHeartbeats 6000000 in
theorem stenant_any (i kind : Nat) (hi : i < 4) (hk : kind < 65536) (w : World) :
    Calls Tryz.prog 46 #[.int .i64 (i : Int), .int .u16 (kind : Int)] w fun e w' => ∃ p s q, e = .returned (.agg (tenRow (seatTen i kind) p s q)) ∧ TenOwn w' w.heap.size (seatTen i kind, p, s, q) ∧ Turn (fun _ => False) w w' := by
  have wi : IntKind.u8.wrap (i : Int) = (i : Int) := by unfold IntKind.wrap; simp [IntKind.bits, IntKind.signed]; omega
  have wi2 : IntKind.u32.wrap (i : Int) = (i : Int) := by unfold IntKind.wrap; simp [IntKind.bits, IntKind.signed]; omega
  have wi3 : IntKind.u32.wrap (100 + (i : Int)) = 100 + (i : Int) := by unfold IntKind.wrap; simp [IntKind.bits, IntKind.signed]; omega
  have wi4 : IntKind.u8.wrap ((i : Int) + 1) = (i : Int) + 1 := by unfold IntKind.wrap; simp [IntKind.bits, IntKind.signed]; omega
  have h1 : ∀ V, Calls Tryz.prog 45 #[.int .u8 10, .int .u8 9, .int .u8 0, .int .u8 ((i : Int) + 1)] V fun e w' => e = .returned (.int .u32 ((quad 10 9 0 (i + 1) : Nat) : Int)) ∧ V = w' := fun V => saddr_any 10 9 0 (i + 1) (by omega) (by omega) (by omega) (by omega) V
  have H1 := Lib.hid h1
  clear h1
  obtain ⟨W3, hst, hbox⟩ := seat_first i kind w
  have HB := Lib.hid hbox
  have hrow := seatRow0 i kind
  have hsz := tenRow_size (seatTen0_wf i kind) (.slice none 0 0) (.slice none 0 0) (.slice none 0 0)
  generalize hR : tenRow (seatTen0 i kind) (.slice none 0 0) (.slice none 0 0) (.slice none 0 0) = R at *
  have HR := Lib.hid (And.intro hR hrow)
  have hi45 : (Tryz.prog.info? 45).map (·.size) = some R.size := by rw [hsz]; kernel_rfl
  have hbt := (built45 ⟨[(97 + UInt8.ofNat i)].toArray⟩ (100 + (i : Int)) (i : Int) ((kind : Int) % 3) ((quad 10 9 0 (i + 1) : Nat) : Int)).trans (congrArg some hrow.symm)
  clear hR hrow hbox
  go_enter Tryz.func46, Tryz.ntmps46
  go_upto_region 3 with (first | (go_at_call 72; refine (sname_any i hi _).mono ?_; rintro e w1 ⟨rfl, rfl⟩) | (go_at_call 45; refine (H1.out _).mono ?_; rintro e w1 ⟨rfl, rfl⟩) | (refine wpList_buildTo rfl 45 _ rfl (some 27) rfl R (Eq.trans (by kernel_rfl) hbt) ?_) | (refine wpList_store_put rfl 45 _ _ rfl (w.heap.size + 1) 0 R rfl rfl hi45 W3 hst ?_))
  clear hst hsz HR hi45 hbt
  generalize w.heap.size + 1 = T at *
  generalize hr : w.heap.size = r at *
  have Hr := Lib.hid hr
  clear hr
  have h2 : ∀ V, Calls Tryz.prog 45 #[.int .u8 5, .int .u8 5, .int .u8 (i : Int), .int .u8 1] V fun e w' => e = .returned (.int .u32 ((quad 5 5 i 1 : Nat) : Int)) ∧ V = w' := fun V => saddr_any 5 5 i 1 (by omega) (by omega) (by omega) (by omega) V
  have H2 := Lib.hid h2
  clear h2
  obtain ⟨kc, kf⟩ := HB.out.cell23 (.cells #[.int .u32 ((quad 5 5 i 1 : Nat) : Int)] 23)
  go_upto_region 4 with (first | (go_at_call 45; refine (H2.out _).mono ?_; rintro e w1 ⟨rfl, rfl⟩))
  have hb1 := HB.out.pool (p' := .slice (some ⟨W3.heap.size, 0, none⟩) 1 1) [quad 5 5 i 1] (World.ownsRow_lit (base := T + 1) (e := 23) (size := 1) W3 #[.int .u32 ((quad 5 5 i 1 : Nat) : Int)] 1 (by have := block_lt HB.out.cel; omega) (by decide) rfl) ((Turn.refl _ W3).alloc _)
  generalize (W3.alloc (Obj.cells #[Value.int IntKind.u32 ((quad 5 5 i 1 : Nat) : Int)] 23)).setCell { block := T, off := 23 } (Value.slice (some { block := W3.heap.size, off := 0 }) 1 1) = W4 at *
  generalize Value.slice (some { block := W3.heap.size, off := 0 }) 1 1 = p1 at *
  have HB1 := Lib.hid hb1
  clear hb1 kc kf HB H1 H2
  try dsimp only [Act.put]
  go_upto_if 34 with (fail)
  go_cut [] (fun w' => ∃ p W5, W5 = w' ∧ Hid (BoxAt w r T (sT1 i kind) p (.slice none 0 0) (.slice none 0 0) W5))
  case first => as_aux_lemma =>
    by_cases hb : kind / 4 % 2 = 1
    · have e4 : bits .and .u16 (kind : Int) 4 = 4 := bit_in kind 2 hk (by omega) hb
      have hp := Lib.hid (sT1_a (i := i) hb)
      have h3 : ∀ V, Calls Tryz.prog 45 #[.int .u8 5, .int .u8 5, .int .u8 (i : Int), .int .u8 2] V fun e w' => e = .returned (.int .u32 ((quad 5 5 i 2 : Nat) : Int)) ∧ V = w' := fun V => saddr_any 5 5 i 2 (by omega) (by omega) (by omega) (by omega) V
      have H3 := Lib.hid h3
      clear h3
      obtain ⟨i0, hi0, hz0, hz1, hz2⟩ := info_parts info23
      have hb2 := HB1.out.quiet (Turn.refl _ W4).drew
      obtain ⟨c1, f1⟩ := hb2.cell (ten_get _ hb2.own.wf p1 (.slice none 0 0) (.slice none 0 0)).1
      have c1 : W4.cell? ⟨T, 23, none⟩ = some p1 := c1
      have f1 : W4.frozen? ⟨T, 23, none⟩ = false := f1
      have c2 := alloc_cell c1
      have HB2 := Lib.hid hb2
      clear hb2
      go_upto_region 5 with (fail)
      go_region_law
          (first
            | (go_simp; go_at_call 45; refine (H3.out _).mono ?_; rintro e w1 ⟨rfl, rfl⟩)
            | (refine step_append_lies _ (by rfl) _ _ _ (by rfl) (T + 1) 23 i0 (.int .u32 0) 1 4 Tryz.underlying41 hi0 hz0 hz1 hz2 rfl (by decide) p1 1 _ (by rfl) (HB2.out.own.pool.alloc _) ⟨W4.drew.heap.size, 0, none⟩ 1 1 [.int .u32 ((quad 5 5 i 2 : Nat) : Int)] (by rfl) (by rfl) (World.news_of_block (block_alloc_new _ _)) (by intro u hu; simp at hu; subst hu; rfl) (by omega) (by unfold maxLen; omega) (by omega) (by have := block_lt HB1.out.cel; simp; omega) (W4.drew.heap.size + 1) (by simp) ?_
               intro g' cap' w' hown' hgrow hwhere hlt'
               have hb3 := HB2.out.quiet ((Turn.refl (fun _ => False) W4.drew).alloc (.cells #[.int .u32 ((quad 5 5 i 2 : Nat) : Int)] 23))
               have hb' := ((turn_of_grown hgrow).block T (block_lt hb3.cel) (fun e => by have := (hb3.own.tag (Or.inl e)).1; omega)).trans hb3.cel
               have hf' : w'.frozen? ⟨T, 23, none⟩ = false := free_of_block hb' _
               have hc' : w'.cell? ⟨T, 23, none⟩ = some p1 := (cell_of_block hb' 23).trans (by rw [← Array.getElem?_toList]; exact (ten_get _ HB2.out.own.wf p1 (.slice none 0 0) (.slice none 0 0)).1)
               have hfin := hb3.pool (p' := .slice (some ⟨g', 0, none⟩) 2 cap') ([quad 5 5 i 1] ++ [quad 5 5 i 2]) hown' (turn_of_grown hgrow)
               have HF := Lib.hid hfin
               clear hfin hb3 hb' hgrow hown' hwhere hlt'))
      all_goals
        try go_wp2_with fail
        go_meet
        exact ⟨_, _, rfl, Lib.hid (by rw [hp.out]; exact HF.out)⟩
    · have e4 : bits .and .u16 (kind : Int) 4 = 0 := bit_out kind 2 hk (by omega) hb
      have hp := Lib.hid (sT1_b (i := i) hb)
      go_wp2_with fail
      go_meet
      exact ⟨_, _, rfl, Lib.hid (by rw [hp.out]; exact HB1.out)⟩
  case rest => as_aux_lemma =>
  obtain ⟨p, W5, hw5, HB2⟩ := hcut
  subst hw5
  clear HB1
  clear wi wi2 wi3 wi4
  obtain ⟨k24, k25, _⟩ := HB2.out.cells
  have f24 := HB2.out.free 24
  have f25 := HB2.out.free 25
  have e8 : bits .and .u16 ((kind : Int) / 8) 7 = (kind : Int) / 8 % 8 := low_bits (kind / 8) 3 (by omega) (by omega)
  have e9 : IntKind.u16.wrap (1024 + (kind : Int) / 8 % 8) = 1024 + (kind : Int) / 8 % 8 := by unfold IntKind.wrap; simp [IntKind.bits, IntKind.signed]; omega
  go_upto_region 7 with (fail)
  clear e8 e9 k24 k25 f24 f25
  have hb6 := (HB2.out.lo 1024 1024 rfl).hi (1024 + kind / 8 % 8) (1024 + (kind : Int) / 8 % 8) (by omega)
  generalize (W5.setCell { block := T, off := 24 } (Value.int IntKind.u16 1024)).setCell { block := T, off := 25 } (Value.int IntKind.u16 (1024 + (kind : Int) / 8 % 8)) = W6 at *
  have HB6 := Lib.hid hb6
  clear hb6 HB2
  go_upto_if 50 with (fail)
  go_cut [] (fun w' => ∃ W5, W5 = w' ∧ Hid (BoxAt w r T (sT2 i kind) p (.slice none 0 0) (.slice none 0 0) W5))
  case first => as_aux_lemma =>
    by_cases hb : kind / 64 % 2 = 1
    · have e4 : bits .and .u16 (kind : Int) 64 = 64 := bit_in kind 6 hk (by omega) hb
      have hp := Lib.hid (sT2_a (i := i) hb 1024 (1024 + kind / 8 % 8))
      obtain ⟨k24, k25, _⟩ := HB6.out.cells
      have f24 := HB6.out.free 24
      have f25 := HB6.out.free 25
      go_wp2_with fail
      go_meet
      refine ⟨_, rfl, Lib.hid ?_⟩
      rw [hp.out]
      exact (HB6.out.lo 1020 1020 rfl).hi 1030 1030 rfl
    · have e4 : bits .and .u16 (kind : Int) 64 = 0 := bit_out kind 6 hk (by omega) hb
      have hp := Lib.hid (sT2_b (i := i) hb)
      go_wp2_with fail
      go_meet
      exact ⟨_, rfl, Lib.hid (by rw [hp.out]; exact HB6.out)⟩
  case rest =>
  clear HB6 W6
  obtain ⟨W6, hw6, HB6⟩ := hcut
  subst hw6
  have h4 : ∀ V, Calls Tryz.prog 45 #[.int .u8 10, .int .u8 0, .int .u8 0, .int .u8 9] V fun e w' => e = .returned (.int .u32 ((quad 10 0 0 9 : Nat) : Int)) ∧ V = w' := fun V => saddr_any 10 0 0 9 (by omega) (by omega) (by omega) (by omega) V
  have h5 : ∀ V, Calls Tryz.prog 45 #[.int .u8 5, .int .u8 6, .int .u8 (i : Int), .int .u8 9] V fun e w' => e = .returned (.int .u32 ((quad 5 6 i 9 : Nat) : Int)) ∧ V = w' := fun V => saddr_any 5 6 i 9 (by omega) (by omega) (by omega) (by omega) V
  have H4 := Lib.hid h4
  have H5 := Lib.hid h5
  clear h4 h5
  go_upto_if 55 with (fail)
  go_cut [] (fun w' => ∃ s W5, W5 = w' ∧ Hid (BoxAt w r T (sT3 i kind) p s (.slice none 0 0) W5))
  case first => as_aux_lemma =>
    by_cases hb : kind / 128 % 2 = 1
    · have e4 : bits .and .u16 (kind : Int) 128 = 128 := bit_in kind 7 hk (by omega) hb
      have hp := Lib.hid (sT3_a (i := i) hb)
      have k27 := fun o => (HB6.out.cellsO o).1
      have f27 := fun o => HB6.out.freeO o 27
      go_wp2_with fail
      refine (H4.out _).mono ?_
      rintro e w1 ⟨rfl, rfl⟩
      go_wp2_with fail
      refine (H5.out _).mono ?_
      rintro e w1 ⟨rfl, rfl⟩
      go_wp2_with fail
      go_meet
      refine ⟨.slice (some ⟨W6.heap.size, 0, none⟩) 1 1, _, rfl, Lib.hid ?_⟩
      rw [hp.out]
      exact HB6.out.stat [(quad 10 0 0 9, quad 5 6 i 9)] _ rfl (by simp)
    · have e4 : bits .and .u16 (kind : Int) 128 = 0 := bit_out kind 7 hk (by omega) hb
      have hp := Lib.hid (sT3_b (i := i) hb)
      go_wp2_with fail
      go_meet
      exact ⟨_, _, rfl, Lib.hid (by rw [hp.out]; exact HB6.out)⟩
  case rest =>
  clear HB6 W6 H4 H5
  obtain ⟨s, W6, hw6, HB6⟩ := hcut
  subst hw6
  have h1 : ∀ V, Calls Tryz.prog 45 #[.int .u8 192, .int .u8 168, .int .u8 0, .int .u8 5] V fun e w' => e = .returned (.int .u32 ((quad 192 168 0 5 : Nat) : Int)) ∧ V = w' := fun V => saddr_any 192 168 0 5 (by omega) (by omega) (by omega) (by omega) V
  have h2 : ∀ V, Calls Tryz.prog 45 #[.int .u8 8, .int .u8 8, .int .u8 8, .int .u8 8] V fun e w' => e = .returned (.int .u32 ((quad 8 8 8 8 : Nat) : Int)) ∧ V = w' := fun V => saddr_any 8 8 8 8 (by omega) (by omega) (by omega) (by omega) V
  have h3 : ∀ V, Calls Tryz.prog 45 #[.int .u8 192, .int .u8 168, .int .u8 0, .int .u8 6] V fun e w' => e = .returned (.int .u32 ((quad 192 168 0 6 : Nat) : Int)) ∧ V = w' := fun V => saddr_any 192 168 0 6 (by omega) (by omega) (by omega) (by omega) V
  have h4 : ∀ V, Calls Tryz.prog 45 #[.int .u8 5, .int .u8 5, .int .u8 (i : Int), .int .u8 1] V fun e w' => e = .returned (.int .u32 ((quad 5 5 i 1 : Nat) : Int)) ∧ V = w' := fun V => saddr_any 5 5 i 1 (by omega) (by omega) (by omega) (by omega) V
  have HC := Lib.hid (And.intro h1 (And.intro h2 (And.intro h3 h4)))
  clear h1 h2 h3 h4
  go_upto_if 64 with (fail)
  go_cut [] (fun w' => ∃ q W5, W5 = w' ∧ Hid (BoxAt w r T (sT4 i kind) p s q W5))
  case first => as_aux_lemma =>
    by_cases hb : kind / 256 % 2 = 1
    · have e4 : bits .and .u16 (kind : Int) 256 = 256 := bit_in kind 8 hk (by omega) hb
      have hp := Lib.hid (sT4_a (i := i) hb)
      have k28 := fun o => (HB6.out.cellsO o).2
      have f28 := fun o => HB6.out.freeO o 28
      go_wp2_with fail
      refine (HC.out.1 _).mono ?_
      rintro e w1 ⟨rfl, rfl⟩
      go_wp2_with fail
      refine (HC.out.2.1 _).mono ?_
      rintro e w1 ⟨rfl, rfl⟩
      go_wp2_with fail
      refine (HC.out.2.2.1 _).mono ?_
      rintro e w1 ⟨rfl, rfl⟩
      go_wp2_with fail
      refine (HC.out.2.2.2 _).mono ?_
      rintro e w1 ⟨rfl, rfl⟩
      go_wp2_with fail
      go_meet
      refine ⟨.slice (some ⟨W6.heap.size, 0, none⟩) 2 2, _, rfl, Lib.hid ?_⟩
      rw [hp.out]
      exact HB6.out.twic [(quad 192 168 0 5, quad 8 8 8 8), (quad 192 168 0 6, quad 5 5 i 1)] _ rfl (by simp)
    · have e4 : bits .and .u16 (kind : Int) 256 = 0 := bit_out kind 8 hk (by omega) hb
      have hp := Lib.hid (sT4_b (i := i) hb)
      go_wp2_with fail
      go_meet
      exact ⟨_, _, rfl, Lib.hid (by rw [hp.out]; exact HB6.out)⟩
  case rest =>
  clear HB6 W6 HC
  obtain ⟨q, W6, hw6, HB6⟩ := hcut
  subst hw6
  obtain ⟨k24, k25, k27, k28, k29, k30, k31, k32⟩ := HB6.out.cells
  clear k24 k25 k27 k28
  have f29 := HB6.out.free 29
  have f30 := HB6.out.free 30
  have f31 := HB6.out.free 31
  have f32 := HB6.out.free 32
  have b1 : bits .and .i64 ((kind : Int) / 512) 7 = (kind : Int) / 512 % 8 := low_i64 (kind / 512) 3 (by omega) (by omega)
  have b2 : bits .and .i64 ((kind : Int) / 4096) 3 = (kind : Int) / 4096 % 4 := low_i64 (kind / 4096) 2 (by omega) (by omega)
  have b3 : bits .and .u32 ((kind : Int) / 16384) 3 = (kind : Int) / 16384 % 4 := low_u32 (kind / 16384) 2 (by omega) (by omega)
  have b4 : bits .and .u32 ((kind : Int) / 8192) 7 = (kind : Int) / 8192 % 8 := low_u32 (kind / 8192) 3 (by omega) (by omega)
  go_upto_region 17 with (fail)
  clear b1 b2 b3 b4 f29 f30 f31 f32 k29 k30 k31 k32
  have hb7 := (((HB6.out.sess (1 + (kind : Int) / 512 % 8)).queue (1 + (kind : Int) / 4096 % 4)).rate (kind / 16384 % 4) ((kind : Int) / 16384 % 4) (by omega)).burst (kind / 8192 % 8 + 3) (3 + (kind : Int) / 8192 % 8) (by omega)
  have hT : setBurst (setRate (setQueue (setSess (sT4 i kind) (1 + (kind : Int) / 512 % 8)) (1 + (kind : Int) / 4096 % 4)) (kind / 16384 % 4)) (kind / 8192 % 8 + 3) = seatTen i kind := by
    rw [seatTen_sT4, show ((kind / 512 % 8 + 1 : Nat) : Int) = 1 + (kind : Int) / 512 % 8 by omega, show ((kind / 4096 % 4 + 1 : Nat) : Int) = 1 + (kind : Int) / 4096 % 4 by omega]
  rw [hT] at hb7
  clear hT
  generalize (((W6.setCell { block := T, off := 29 } (Value.int IntKind.i64 (1 + (kind : Int) / 512 % 8))).setCell { block := T, off := 30 } (Value.int IntKind.i64 (1 + (kind : Int) / 4096 % 4))).setCell { block := T, off := 31 } (Value.int IntKind.u32 ((kind : Int) / 16384 % 4))).setCell { block := T, off := 32 } (Value.int IntKind.u32 (3 + (kind : Int) / 8192 % 8)) = W7 at *
  obtain ⟨z1, kA, W8, st, kR, ho, tn⟩ := hb7.last
  have HF := Lib.hid (And.intro kR (And.intro ho tn))
  clear kR ho tn hb7 HB6
  generalize hrow : tenRow (seatTen i kind) p s q = row at *
  have HROW := Lib.hid hrow
  clear hrow
  have hi45 : (Tryz.prog.info? 45).map (·.size) = some row.size := by rw [z1]; kernel_rfl
  clear z1
  go_wp2_with (first | (refine wpList_load_run rfl 45 _ rfl (.agg row) kA ?_) | (refine wpList_store_put rfl 45 _ _ rfl r 0 row rfl rfl hi45 _ st ?_))
  exact bodyPost_ret (results_row Tryz.results46 _ _ r _ rfl HF.out.1 _ Tryz.underlying45 rfl hi45) rfl ⟨p, s, q, by rw [HROW.out], HF.out.2.1, HF.out.2.2⟩
end Go.Proofs.YtbkpbcmjgbdbkaaGreatDoor

/-! W2 -/
namespace Go.Proofs.YtbkpbcmjgbdbkaaGreatDoor
open Go.RowKit Go.Lib
set_option linter.unusedVariables false
set_option linter.unusedSimpArgs false
set_option maxRecDepth 100000
set_option pp.maxSteps 2500

def HwsIn (w : World) (v : Value) (l : List Nat) : Prop :=
  ∃ ao cap, v = .slice ao l.length cap ∧ l.length ≤ 1000000000 ∧ (∀ x ∈ l, x < 65536) ∧ ∀ (i x : Nat), l[i]? = some x → ∃ b off, ao = some ⟨b, off, none⟩ ∧ b < w.heap.size ∧ w.cell? ⟨b, off + i, none⟩ = some (.int .u16 (x : Int))
theorem HwsIn.turn {w w' : World} {v : Value} {l : List Nat} (h : HwsIn w v l) (t : Turn (fun _ => False) w w') : HwsIn w' v l := by
  obtain ⟨ao, cap, h1, h2, h3, h4⟩ := h
  refine ⟨ao, cap, h1, h2, h3, fun i x hx => ?_⟩
  obtain ⟨b, off, q1, q2, q3⟩ := h4 i x hx
  exact ⟨b, off, q1, Nat.lt_of_lt_of_le q2 t.size, (cell_turn0 t q2 (fun h => h)).trans q3⟩
/-- The settings of the statements, without their tenants. -/
def seatHead (d : Nat) : Cfg := ⟨quad 10 9 0 200, [2, 1, 0, 0, 0, 0], [2, 2, 0, 0, 0, 0], [2, 3, 0, 0, 0, 0], [200, 0, 0, 0, 0, 0, 0, 0], d % 8, []⟩
def seatTens : Nat → List Nat → List Ten
  | _, [] => []
  | i, k :: l => seatTen i k :: seatTens (i + 1) l
def seatCfg (ks : List Nat) (d : Nat) : Cfg := { seatHead d with tens := seatTens 0 (ks.take 4) }
theorem seatTens_snoc (l : List Nat) (k : Nat) : ∀ i, seatTens i (l ++ [k]) = seatTens i l ++ [seatTen (i + l.length) k] := by
  induction l with
  | nil => intro i; rfl
  | cons x l ih =>
    intro i
    show seatTen i x :: seatTens (i + 1) (l ++ [k]) = _
    rw [ih, show i + 1 + l.length = i + (l.length + 1) by omega]
    rfl
theorem seatHead_wf (d : Nat) (l : List Ten) : WfCfg { seatHead d with tens := l } := ⟨rfl, rfl, rfl, rfl⟩
/-- A tenant with its lists laid behind the others. -/
theorem TensAt.snocOwn {W W1 W' : World} {lo : Nat} {tv tv' : Value} {l : List TenM} {x : TenM} (h : TensAt W lo tv l) (t1 : Turn (fun _ => False) W W1) (hx : TenOwn W1 W.heap.size x) (hlo : lo ≤ W.heap.size)
    (hown : W'.ownsRow lo 45 33 tv' (l.length + 1) (tensCells l ++ (tmRow x).toList)) (tn : Turn (fun k => tv.ownBlock = some k) W1 W') :
    TensAt W' lo tv' (l ++ [x]) := by
  have hp := h.turn t1 (fun _ _ h => h) (fun _ _ _ _ h => h)
  have hlt : ∀ k, tv.ownBlock = some k → k < W.heap.size := fun k hk => by
    obtain ⟨cs, hc⟩ := own_cells h.row hk
    exact block_lt hc
  refine ⟨?_, fun y hy => ?_, ?_⟩
  · rw [List.length_append, tensCells_snoc]; exact hown
  · rcases List.mem_append.1 hy with hy | hy
    · refine (hp.each y hy).turn tn (fun k hk e => ?_)
      obtain ⟨cs, hc⟩ := own_cells hp.row e
      exact (hp.each y hy).not hc (by decide) (by decide) hk
    · rw [List.mem_singleton.1 hy]
      exact (hx.turn tn (fun k hk e => by have := (hx.tag hk).1; have := hlt k e; omega)).low hlo
  · refine List.pairwise_append.2 ⟨h.apart, by simp, fun y hy z hz k h1 h2 => ?_⟩
    rw [List.mem_singleton.1 hz] at h2
    have := ((h.each y hy).tag h1).2.1
    have := (hx.tag h2).1
    omega
theorem built29 (x d : Int) : Tryz.prog.built 29 [(0, .int .u32 x), (1, .agg #[.int .u8 2, .int .u8 1, .int .u8 0, .int .u8 0, .int .u8 0, .int .u8 0]), (2, .agg #[.int .u8 2, .int .u8 2, .int .u8 0, .int .u8 0, .int .u8 0, .int .u8 0]), (3, .agg #[.int .u8 2, .int .u8 3, .int .u8 0, .int .u8 0, .int .u8 0, .int .u8 0]), (4, .agg #[.int .u8 200, .int .u8 0, .int .u8 0, .int .u8 0, .int .u8 0, .int .u8 0, .int .u8 0, .int .u8 0]), (5, .int .u32 d)] =
    some #[.int .u32 x, .int .u8 2, .int .u8 1, .int .u8 0, .int .u8 0, .int .u8 0, .int .u8 0, .int .u8 2, .int .u8 2, .int .u8 0, .int .u8 0, .int .u8 0, .int .u8 0, .int .u8 2, .int .u8 3, .int .u8 0, .int .u8 0, .int .u8 0, .int .u8 0, .int .u8 200, .int .u8 0, .int .u8 0, .int .u8 0, .int .u8 0, .int .u8 0, .int .u8 0, .int .u8 0, .int .u32 d, .slice none 0 0] := by kernel_rfl
theorem seatRowC (d : Nat) : cfgRow (seatHead d) (.slice none 0 0) = #[.int .u32 ((quad 10 9 0 200 : Nat) : Int), .int .u8 2, .int .u8 1, .int .u8 0, .int .u8 0, .int .u8 0, .int .u8 0, .int .u8 2, .int .u8 2, .int .u8 0, .int .u8 0, .int .u8 0, .int .u8 0, .int .u8 2, .int .u8 3, .int .u8 0, .int .u8 0, .int .u8 0, .int .u8 0, .int .u8 200, .int .u8 0, .int .u8 0, .int .u8 0, .int .u8 0, .int .u8 0, .int .u8 0, .int .u8 0, .int .u32 ((d : Int) % 8), .slice none 0 0] := by kernel_rfl
/-- The world in the midst of making settings: k tenants are laid. -/
structure SeAt (w : World) (r C : Nat) (ks : List Nat) (d k : Nat) (tv : Value) (l : List TenM) (W : World) : Prop where
  res : W.heap[r]? = some (.cells (cfgZero 0) 29 (0, 0))
  cel : W.heap[C]? = some (.cells (cfgRow { seatHead d with tens := seatTens 0 (ks.take k) } tv) 29 (0, 0))
  tens : TensAt W (C + 1) tv l
  eqt : l.map (·.1) = seatTens 0 (ks.take k)
  len : l.length = k
  turn : Turn (fun _ => False) w W
  wr : w.heap.size ≤ r
  rC : r < C
theorem SeAt.quiet {w W W' : World} {r C d k : Nat} {ks : List Nat} {tv : Value} {l : List TenM} (h : SeAt w r C ks d k tv l W) (t : Turn (fun _ => False) W W') : SeAt w r C ks d k tv l W' :=
  ⟨(t.block r (block_lt h.res) (fun h => h)).trans h.res, (t.block C (block_lt h.cel) (fun h => h)).trans h.cel, h.tens.turn t (fun _ _ h => h) (fun _ _ _ _ h => h), h.eqt, h.len, h.turn.trans t, h.wr, h.rC⟩
theorem SeAt.cell {w W : World} {r C d k : Nat} {ks : List Nat} {tv : Value} {l : List TenM} (h : SeAt w r C ks d k tv l W) : W.cell? ⟨C, 28, none⟩ = some tv := (cell_of_block h.cel 28).trans (cfgRow_get (seatHead_wf d _) tv)
theorem SeAt.add {w W W1 W' : World} {r C d k x : Nat} {ks : List Nat} {tv tv' p s q : Value} {l : List TenM} (h : SeAt w r C ks d k tv l W) (hx : ks[k]? = some x) (t1 : Turn (fun _ => False) W W1) (ho : TenOwn W1 W.heap.size (seatTen k x, p, s, q))
    (hown : W'.ownsRow (C + 1) 45 33 tv' (k + 1) (tensCells l ++ (tenRow (seatTen k x) p s q).toList)) (tn : Turn (fun k => tv.ownBlock = some k) W1 W') :
    W'.cell? ⟨C, 28, none⟩ = some tv ∧ W'.frozen? ⟨C, 28, none⟩ = false ∧ SeAt w r C ks d (k + 1) tv' (l ++ [(seatTen k x, p, s, q)]) (W'.setCell ⟨C, 28, none⟩ tv') := by
  have hC := block_lt h.cel
  have h1 := h.rC
  have h2 := h.wr
  have hlt : ∀ g, tv.ownBlock = some g → C < g := fun g hg => by have := own1_low h.tens.row hg; omega
  have cel : W'.heap[C]? = some (.cells (cfgRow { seatHead d with tens := seatTens 0 (ks.take k) } tv) 29 (0, 0)) := (tn.block C (Nat.lt_of_lt_of_le hC t1.size) (fun e => by have := hlt C e; omega)).trans ((t1.block C hC (fun h => h)).trans h.cel)
  have res : W'.heap[r]? = some (.cells (cfgZero 0) 29 (0, 0)) := (tn.block r (Nat.lt_of_lt_of_le (by omega) t1.size) (fun e => by have := hlt r e; omega)).trans ((t1.block r (by omega) (fun h => h)).trans h.res)
  have t2 : Turn (fun k => k = C) W' (W'.setCell ⟨C, 28, none⟩ tv') := (Turn.refl (fun k => k = C) W').setCell (p := ⟨C, 28, none⟩) _ (fun _ => rfl)
  have ht := (h.tens.snocOwn t1 ho (by omega) (tv' := tv') (by rw [h.len]; exact hown) tn).low t2 (fun k e => by omega)
  have hk : seatTens 0 (ks.take (k + 1)) = seatTens 0 (ks.take k) ++ [seatTen k x] := by
    have hkl : k < ks.length := (List.getElem?_eq_some_iff.1 hx).1
    rw [List.take_add_one, hx]
    show seatTens 0 (ks.take k ++ [x]) = _
    rw [seatTens_snoc, List.length_take, Nat.zero_add, Nat.min_eq_left (by omega)]
  refine ⟨(cell_of_block cel 28).trans (cfgRow_get (seatHead_wf d _) tv), free_of_block cel 28, (t2.block r (block_lt res) (by omega)).trans res, ?_, ht, ?_, by rw [List.length_append, h.len]; rfl, ((h.turn.trans t1).trans2 tn (fun k hk e => by have := hlt k e; omega)).trans2 t2 (fun k hk e => by omega), h.wr, h.rC⟩
  · have := block_setCell cel 28 tv'
    rwa [cfgRow_set (seatHead_wf d _) tv tv' (seatTens 0 (ks.take (k + 1)))] at this
  · rw [List.map_append, h.eqt, hk]; rfl
theorem se_first (d : Nat) (ks : List Nat) (w : World) : ∃ W3, (storeCells ⟨w.heap.size + 1, 0, none⟩ (cfgRow (seatHead d) (.slice none 0 0)).toList 0).run Tryz.prog ((w.alloc (.cells (cfgZero 0) 29)).alloc (.cells (cfgZero 0) 29)) = .ok () W3 ∧
    SeAt w w.heap.size (w.heap.size + 1) ks d 0 (.slice none 0 0) [] W3 := by
  have t1 := (Turn.refl (fun _ => False) w).alloc (.cells (cfgZero 0) 29)
  have r1 := block_alloc_new w (.cells (cfgZero 0) 29)
  have s1 : (w.alloc (.cells (cfgZero 0) 29)).heap.size = w.heap.size + 1 := by simp
  generalize w.alloc (.cells (cfgZero 0) 29) = w1 at *
  have t2 := (Turn.refl (fun _ => False) w1).alloc (.cells (cfgZero 0) 29)
  have r2 := block_alloc_new w1 (.cells (cfgZero 0) 29)
  have r3 := block_alloc_old (o := .cells (cfgZero 0) 29) r1
  rw [s1] at r2
  generalize w1.alloc (.cells (cfgZero 0) 29) = w2 at *
  have hs := cfgRow_size (seatHead_wf d []) (.slice none 0 0)
  obtain ⟨h1, h2, h3⟩ := store_whole r2 (cs := cfgRow (seatHead d) (.slice none 0 0)) (by rw [show seatHead d = { seatHead d with tens := [] } from rfl, hs]; rfl) (cfgRow_one _ rfl)
  exact ⟨_, h1, (h3.block _ (block_lt r3) (by omega)).trans r3, h2, TensAt.nil _ _, rfl, rfl, (t1.trans t2).trans2 h3 (fun k hk e => by omega), Nat.le_refl _, by omega⟩
theorem agg29 (W : World) : (isAgg 29).run Tryz.prog W = .ok true W := by kernel_rfl
theorem size29 (W : World) : (sizeOf 29).run Tryz.prog W = .ok 29 W := by kernel_rfl
theorem SeAt.last {w W : World} {r C d k : Nat} {ks : List Nat} {tv : Value} {l : List TenM} (h : SeAt w r C ks d k tv l W) (hk : ks.take k = ks.take 4) : (cfgRow (seatCfg ks d) tv).size = 29 ∧ (Instr.loadAt 29 (.pointer (some ⟨C, 0, none⟩))).run Tryz.prog W = .ok (.agg (cfgRow (seatCfg ks d) tv)) W ∧
    ∃ W2, (storeCells ⟨r, 0, none⟩ (cfgRow (seatCfg ks d) tv).toList 0).run Tryz.prog W = .ok () W2 ∧ W2.heap[r]? = some (.cells (cfgRow (seatCfg ks d) tv) 29 (0, 0)) ∧ TensAt W2 w.heap.size tv l ∧ l.map (·.1) = (seatCfg ks d).tens ∧ Turn (fun _ => False) w W2 := by
  have e : ({ seatHead d with tens := seatTens 0 (ks.take k) } : Cfg) = seatCfg ks d := by rw [hk]; rfl
  have cel := h.cel
  rw [e] at cel
  have hs : (cfgRow (seatCfg ks d) tv).size = 29 := cfgRow_size (seatHead_wf d _) tv
  have h1 := h.rC
  have h2 := h.wr
  obtain ⟨a1, a2, a3⟩ := store_whole h.res (cs := cfgRow (seatCfg ks d) tv) (by rw [hs]; rfl) (cfgRow_one _ (ownsRow_one h.tens.row))
  refine ⟨hs, loadAt_agg hs (agg29 W) (size29 W) (fun j u hj => ?_), _, a1, a2, (h.tens.low a3 (fun k e => by omega)).mono (by omega), by rw [h.eqt, hk]; rfl, h.turn.trans2 a3 (fun k hk e => by omega)⟩
  rw [Nat.zero_add]
  exact (cell_of_block cel j).trans (by rw [← Array.getElem?_toList]; exact hj)
def SeatPost (ks : List Nat) (d : Nat) (w : World) (e : Ending) (w' : World) : Prop :=
  ∃ tv l, e = .returned (.agg (cfgRow (seatCfg ks d) tv)) ∧ TensAt w' w.heap.size tv l ∧ l.map (·.1) = (seatCfg ks d).tens ∧ Turn (fun _ => False) w w'
set_option maxHeartbeats 6000000 in
theorem sconfig_any (ks : List Nat) (d : Nat) (hd : d < 256) (kv : Value) (w : World) (hk : HwsIn w kv ks) : Calls Tryz.prog 17 #[kv, .int .u8 (d : Int)] w (SeatPost ks d w) := by
  obtain ⟨ao, cap, rfl, hl, hb, hrd⟩ := hk
  have h1 : ∀ V, Calls Tryz.prog 45 #[.int .u8 10, .int .u8 9, .int .u8 0, .int .u8 200] V fun e w' => e = .returned (.int .u32 ((quad 10 9 0 200 : Nat) : Int)) ∧ V = w' := fun V => saddr_any 10 9 0 200 (by omega) (by omega) (by omega) (by omega) V
  have H1 := Lib.hid h1
  clear h1
  obtain ⟨W3, hst, hse⟩ := se_first d ks w
  have HS := Lib.hid hse
  have hrow := seatRowC d
  have hsz : (cfgRow (seatHead d) (.slice none 0 0)).size = 29 := cfgRow_size (seatHead_wf d []) (.slice none 0 0)
  generalize cfgRow (seatHead d) (.slice none 0 0) = R at *
  have hi29 : (Tryz.prog.info? 29).map (·.size) = some R.size := by rw [hsz]; kernel_rfl
  have hbt := (built29 ((quad 10 9 0 200 : Nat) : Int) ((d : Int) % 8)).trans (congrArg some hrow.symm)
  have HRD := Lib.hid (And.intro hb hrd)
  clear hrow hse hb hrd
  go_enter Tryz.func17, Tryz.ntmps17
  go_upto_region 2 with (first | (go_at_call 45; refine (H1.out _).mono ?_; rintro e w1 ⟨rfl, rfl⟩) | (refine wpList_buildTo rfl 29 _ rfl (some 15) rfl R (Eq.trans (by kernel_rfl) hbt) ?_) | (refine wpList_store_put rfl 29 _ _ rfl (w.heap.size + 1) 0 R rfl rfl hi29 W3 hst ?_))
  clear hst hsz hi29 hbt
  have hrC : Hid (w.heap.size + 1 = w.heap.size + 1) := Lib.hid rfl
  generalize hC : w.heap.size + 1 = C at *
  generalize hr : w.heap.size = r at *
  have HrC := Lib.hid (And.intro hC hr)
  clear hC hr hrC
  go_wp2_with fail
  go_loopg [6] (4 - 0) (fun g i wr => ∃ k : Nat, g = 4 - k ∧ i = .int .i64 (k : Int) ∧ k ≤ 4 ∧ k ≤ ks.length ∧ Hid (∃ tv l, SeAt w r C ks d k tv l wr))
  case atStart => exact ⟨0, rfl, rfl, by omega, by omega, Lib.hid ⟨_, _, HS.out⟩⟩
  case round =>
    obtain ⟨k, rfl, rfl, hk4, hkl, HR⟩ := hrel
    obtain ⟨tv, l, hA⟩ := HR.out
    clear HR
    have i1 : (0 : Int) ≤ (k : Int) := by omega
    by_cases hlt : k < ks.length
    · have i2 : (k : Int) < (ks.length : Int) := by omega
      by_cases hlt4 : k < 4
      · have i3 : (k : Int) < 4 := by omega
        obtain ⟨x, hx⟩ : ∃ x, ks[k]? = some x := ⟨_, List.getElem?_eq_getElem hlt⟩
        obtain ⟨b, off, rfl, hbs, hbc⟩ := HRD.out.2 k x hx
        have hx16 := HRD.out.1 x (List.mem_of_getElem? hx)
        have hB := hA.quiet (Turn.refl _ wr).drew
        have hkc : wr.cell? ⟨b, off + k, none⟩ = some (.int .u16 (x : Int)) := (cell_turn0 hA.turn (by rw [HrC.out.2]; exact hbs) (fun h => h)).trans hbc
        have hkd : wr.drew.cell? ⟨b, off + k, none⟩ = some (.int .u16 (x : Int)) := hkc
        have hcC : wr.drew.cell? ⟨C, 28, none⟩ = some tv := hB.cell
        have hcall := stenant_any k x hlt4 hx16 wr.drew
        obtain ⟨i0, hi0, hz0, hz1, hz2⟩ := info_parts tenInfo
        have hlen := hA.len
        have hcl : C < wr.heap.size := block_lt hA.cel
        obtain ⟨row, hrow⟩ : ∃ row, row = fun p s q => tenRow (seatTen k x) p s q := ⟨_, rfl⟩
        have HX := Lib.hid (And.intro hx (And.intro hB hrow))
        clear hx hA hB hrow
        go_upto_region 5 with (fail)
        have hcall2 : Calls Tryz.prog 46 #[.int .i64 (k : Int), .int .u16 (x : Int)] wr.drew (fun e w7 => ∃ row, e = .returned (.agg row) ∧ w7.cell? ⟨C, 28, none⟩ = some tv ∧ w7.cell? ⟨b, off + k, none⟩ = some (.int .u16 (x : Int)) ∧ row.size = 33 ∧
            Hid (Turn (fun _ => False) wr.drew w7 ∧ ∃ p s q, row = tenRow (seatTen k x) p s q ∧ TenOwn w7 wr.drew.heap.size (seatTen k x, p, s, q))) := by
          refine hcall.mono ?_
          rintro e w7 ⟨p, s, q, he, ho, tn⟩
          exact ⟨_, he, (HX.out.2.1.quiet tn).cell, (cell_turn0 tn (Nat.lt_of_lt_of_le (by rw [HrC.out.2]; exact hbs) HX.out.2.1.turn.size) (fun h => h)).trans hkd, tenRow_size ho.wf p s q, Lib.hid ⟨tn, p, s, q, rfl, ho⟩⟩
        clear hcall
        go_region_law
          (first
            | (go_simp; go_at_call 46; refine hcall2.mono ?_; rintro e w7 ⟨row, rfl, hc, hkc7, hrs, HW⟩; have hc2 := alloc_cell hc; have hbs := fold_ten row hrs; obtain ⟨tn7, p, s, q, hrow7, ho7⟩ := HW.out; have HW7 := Lib.hid (And.intro tn7 (And.intro hrow7 ho7)); clear HW tn7 hrow7 ho7)
            | (refine step_append_lies _ (by rfl) _ _ _ (by rfl) (C + 1) 45 i0 (.agg (tenZero ⟨#[]⟩)) 33 160 Tryz.underlying27 hi0 hz0 hz1 hz2 rfl (by decide) tv k _ (by rfl) (by have hq := ((HX.out.2.1.quiet HW7.out.1).tens.row.alloc (.cells row 45)); rw [hlen] at hq; exact hq) ⟨w7.heap.size, 0, none⟩ 1 1 row.toList (by rfl) (by rw [Array.length_toList]; exact hrs) (World.news_of_block (cs := row) (t := 45) (fr := (0, 0)) (heap_alloc_new w7 _)) (by rw [HW7.out.2.1]; exact ten_one _ _ _ _ (ownsRow_one HW7.out.2.2.pool) (ownsRow_one HW7.out.2.2.stat) (ownsRow_one HW7.out.2.2.twic)) (by omega) (by unfold maxLen; omega) (by omega) (by have := HW7.out.1.size; simp at this; simp; omega) (w7.heap.size + 1) (by simp) ?_
               intro g' cap' w' hown' hgrow hwhere hlt'
               obtain ⟨hc8, hf8, hA8⟩ := HX.out.2.1.add (tv' := .slice (some ⟨g', 0, none⟩) (k + 1) cap') HX.out.1 (HW7.out.1.trans ((Turn.refl (fun _ => False) w7).alloc (.cells row 45))) (HW7.out.2.2.turn ((Turn.refl (fun _ => False) w7).alloc (.cells row 45)) (fun _ _ h => h)) (by rw [← HW7.out.2.1]; exact hown') (turn_of_grown hgrow)
               have HA8 := Lib.hid hA8
               clear hA8 hown' hgrow hwhere hlt'))
        all_goals
          go_wp2_with fail
          go_roundg (4 - (k + 1))
          case measure => omega
          case rel => exact ⟨k + 1, rfl, by go_num, by omega, by omega, Lib.hid ⟨_, _, HA8.out⟩⟩
      · have i3 : ¬ (k : Int) < 4 := by omega
        obtain ⟨z1, kA, W8, st, kR, ht, em, tn⟩ := hA.last (by rw [show k = 4 by omega])
        have HF := Lib.hid (And.intro kR (And.intro ht (And.intro em tn)))
        clear kR ht em tn hA
        generalize hrow : cfgRow (seatCfg ks d) tv = row at *
        have HROW := Lib.hid hrow
        clear hrow
        have hi29 : (Tryz.prog.info? 29).map (·.size) = some row.size := by rw [z1]; kernel_rfl
        clear z1
        go_wp2_with (first | (refine wpList_load_run rfl 29 _ rfl (.agg row) kA ?_) | (refine wpList_store_put rfl 29 _ _ rfl r 0 row rfl rfl hi29 _ st ?_))
        exact bodyPost_ret (results_row Tryz.results17 _ _ r _ rfl HF.out.1 _ Tryz.underlying29 rfl hi29) rfl ⟨tv, l, by rw [HROW.out], HF.out.2.1, HF.out.2.2.1, HF.out.2.2.2⟩
    · have i2 : ¬ (k : Int) < (ks.length : Int) := by omega
      obtain ⟨z1, kA, W8, st, kR, ht, em, tn⟩ := hA.last (by rw [List.take_of_length_le (by omega), List.take_of_length_le (by omega)])
      have HF := Lib.hid (And.intro kR (And.intro ht (And.intro em tn)))
      clear kR ht em tn hA
      generalize hrow : cfgRow (seatCfg ks d) tv = row at *
      have HROW := Lib.hid hrow
      clear hrow
      have hi29 : (Tryz.prog.info? 29).map (·.size) = some row.size := by rw [z1]; kernel_rfl
      clear z1
      go_wp2_with (first | (refine wpList_load_run rfl 29 _ rfl (.agg row) kA ?_) | (refine wpList_store_put rfl 29 _ _ rfl r 0 row rfl rfl hi29 _ st ?_))
      exact bodyPost_ret (results_row Tryz.results17 _ _ r _ rfl HF.out.1 _ Tryz.underlying29 rfl hi29) rfl ⟨tv, l, by rw [HROW.out], HF.out.2.1, HF.out.2.2.1, HF.out.2.2.2⟩
end Go.Proofs.YtbkpbcmjgbdbkaaGreatDoor
