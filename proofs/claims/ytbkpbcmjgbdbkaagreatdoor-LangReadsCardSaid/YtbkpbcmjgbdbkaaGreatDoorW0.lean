/- seat.Tenant: the walk. No condition. -/
import Derived.Test.YtbkpbcmjgbdbkaaGreatDoorP3
import Derived.Test.YtbkpbcmjgbdbkaaGreatDoorS0
import Derived.Deep.CutBlock
import Derived.Great.BuildSlice
import Derived.Laws.BitsAllLaws
namespace Go.Proofs.YtbkpbcmjgbdbkaaGreatDoor
open Go.RowKit Go.Lib
set_option linter.unusedVariables false
set_option linter.unusedSimpArgs false
set_option maxRecDepth 100000
set_option pp.maxSteps 2500

def quad (a b c d : Nat) : Nat := a * 16777216 + b * 65536 + c * 256 + d
/-- A tenant that the settings of the statements hold. -/
def seatTen (i kind : Nat) : Ten where
  name := ⟨[(97 + UInt8.ofNat i)].toArray⟩
  vni := 100 + i
  key := [i + 1, 0, 0, 0, 0, 0, 0, 0]
  vtep := quad 10 9 0 (i + 1)
  vmac := [2, 9, i, 0, 0, 0]
  host := [2, 7, i, 0, 0, 0]
  pool := if kind / 4 % 2 = 1 then [quad 5 5 i 1, quad 5 5 i 2] else [quad 5 5 i 1]
  lo := if kind / 64 % 2 = 1 then 1020 else 1024
  hi := if kind / 64 % 2 = 1 then 1030 else 1024 + kind / 8 % 8
  filter := ((kind % 3 : Nat) : Int)
  statics := if kind / 128 % 2 = 1 then [(quad 10 0 0 9, quad 5 6 i 9)] else []
  twices := if kind / 256 % 2 = 1 then [(quad 192 168 0 5, quad 8 8 8 8), (quad 192 168 0 6, quad 5 5 i 1)] else []
  sess := ((kind / 512 % 8 + 1 : Nat) : Int)
  queue := ((kind / 4096 % 4 + 1 : Nat) : Int)
  rate := kind / 16384 % 4
  burst := kind / 8192 % 8 + 3
def setStat (t : Ten) (x : List (Nat × Nat)) : Ten := { t with statics := x }
def setTwic (t : Ten) (x : List (Nat × Nat)) : Ten := { t with twices := x }
/-- How the world stands in the midst of making a tenant. -/
structure BoxAt (w : World) (r T : Nat) (t : Ten) (p s q : Value) (W : World) : Prop where
  res : W.heap[r]? = some (.cells (tenZero ⟨#[]⟩) 45 (0, 0))
  cel : W.heap[T]? = some (.cells (tenRow t p s q) 45 (0, 0))
  own : TenOwn W (T + 1) (t, p, s, q)
  turn : Turn (fun _ => False) w W
  wr : w.heap.size ≤ r
  rT : r < T
theorem pairCells_len2 (l : List (Nat × Nat)) : (pairCells l).length = l.length * 2 := by
  induction l with
  | nil => rfl
  | cons x l ih =>
    have hc : pairCells (x :: l) = .int .u32 (x.1 : Int) :: .int .u32 (x.2 : Int) :: pairCells l := rfl
    rw [hc, List.length_cons, List.length_cons, List.length_cons, ih]
    omega
section
variable {w W W' : World} {r T : Nat} {t t' : Ten} {p s q p' s' q' : Value}
theorem BoxAt.quiet (h : BoxAt w r T t p s q W) (tn : Turn (fun _ => False) W W') : BoxAt w r T t p s q W' :=
  ⟨(tn.block r (block_lt h.res) (fun h => h)).trans h.res, (tn.block T (block_lt h.cel) (fun h => h)).trans h.cel, h.own.turn tn (fun _ _ h => h), h.turn.trans tn, h.wr, h.rT⟩
theorem BoxAt.store (h : BoxAt w r T t p s q W) (tn : Turn (fun k => T < k) W W') (ho : TenOwn W' (T + 1) (t', p', s', q')) (j : Nat) (u : Value) (hrow : (tenRow t' p' s' q').toList = (tenRow t p s q).toList.set j u) : BoxAt w r T t' p' s' q' (W'.setCell ⟨T, j, none⟩ u) := by
  have h1 := h.rT
  have h2 := h.wr
  have cel : W'.heap[T]? = some (.cells (tenRow t p s q) 45 (0, 0)) := (tn.block T (block_lt h.cel) (by omega)).trans h.cel
  have res : W'.heap[r]? = some (.cells (tenZero ⟨#[]⟩) 45 (0, 0)) := (tn.block r (block_lt h.res) (by omega)).trans h.res
  have t2 : Turn (fun k => k = T) W' (W'.setCell ⟨T, j, none⟩ u) := (Turn.refl (fun k => k = T) W').setCell (p := ⟨T, j, none⟩) _ (fun _ => rfl)
  refine ⟨(t2.block r (block_lt res) (by omega)).trans res, ?_, ho.turn t2 (fun k hk e => by have := (ho.tag hk).1; omega), (h.turn.trans2 tn (fun k hk e => by omega)).trans2 t2 (fun k hk e => by omega), h.wr, h.rT⟩
  have e : tenRow t' p' s' q' = (tenRow t p s q).setIfInBounds j u := by
    apply Array.ext'
    rw [hrow]
    simp
  rw [e]
  exact block_setCell cel j u
theorem BoxAt.put (h : BoxAt w r T t p s q W) (t' : Ten) (j : Nat) (u : Value) (hrow : (tenRow t' p s q).toList = (tenRow t p s q).toList.set j u) (h2 : t'.pool = t.pool) (h3 : t'.statics = t.statics) (h4 : t'.twices = t.twices) (hw : WfTen t') : BoxAt w r T t' p s q (W.setCell ⟨T, j, none⟩ u) :=
  h.store (t' := t') (p' := p) (s' := s) (q' := q) (Turn.refl _ _) ⟨by show W.ownsRow _ _ _ _ t'.pool.length (numCells t'.pool); rw [h2]; exact h.own.pool, by show W.ownsRow _ _ _ _ t'.statics.length (pairCells t'.statics); rw [h3]; exact h.own.stat, by show W.ownsRow _ _ _ _ t'.twices.length (pairCells t'.twices); rw [h4]; exact h.own.twic, h.own.apart, hw⟩ j u hrow
theorem BoxAt.cell (h : BoxAt w r T t p s q W) {j : Nat} {u : Value} (hj : (tenRow t p s q).toList[j]? = some u) : W.cell? ⟨T, j, none⟩ = some u ∧ W.frozen? ⟨T, j, none⟩ = false :=
  ⟨(cell_of_block h.cel j).trans (by rw [← Array.getElem?_toList]; exact hj), free_of_block h.cel j⟩
theorem BoxAt.cell23 (h : BoxAt w r T t p s q W) (o : Obj) : (W.alloc o).cell? ⟨T, 23, none⟩ = some p ∧ (W.alloc o).frozen? ⟨T, 23, none⟩ = false := by
  have kb := block_alloc_old (o := o) h.cel
  have hg := (ten_get _ h.own.wf p s q).1
  exact ⟨(cell_of_block kb 23).trans (by rw [← Array.getElem?_toList]; exact hg), free_of_block kb 23⟩
theorem BoxAt.pool (h : BoxAt w r T t p s q W) (l : List Nat) (hown : W'.ownsRow (T + 1) 23 1 p' l.length (numCells l)) (tn : Turn (fun k => p.ownBlock = some k) W W') : BoxAt w r T { t with pool := l } p' s q (W'.setCell ⟨T, 23, none⟩ p') :=
  h.store (t' := { t with pool := l }) (p' := p') (s' := s) (q' := q) (tn.mono (fun k _ e => (h.own.tag (Or.inl e)).1)) ⟨hown, ownsRow_turn h.own.stat tn (fun g hg e => own_apart h.own.pool h.own.stat (by decide) e hg), ownsRow_turn h.own.twic tn (fun g hg e => own_apart h.own.pool h.own.twic (by decide) e hg), h.own.apart, ⟨h.own.wf.key, h.own.wf.vmac, h.own.wf.host⟩⟩ 23 p' (ten_set_pool t h.own.wf p s q p' l)
theorem BoxAt.stat (h : BoxAt w r T t p s q W) (l : List (Nat × Nat)) (cs : Array Value) (hcs : cs.toList = pairCells l) (hl : l.length ≤ 1000) : BoxAt w r T (setStat t l) p (.slice (some ⟨W.heap.size, 0, none⟩) l.length l.length) q ((W.alloc (.cells cs 97)).setCell ⟨T, 27, none⟩ (.slice (some ⟨W.heap.size, 0, none⟩) l.length l.length)) := by
  have tn := (Turn.refl (fun _ => False) W).alloc (.cells cs 97)
  have hT := block_lt h.cel
  have hc2 : cs.size = l.length * 2 := by
    have h1 : cs.toList.length = cs.size := rfl
    rw [← h1, hcs, pairCells_len2]
  refine h.store (t' := { t with statics := l }) (p' := p) (s' := .slice (some ⟨W.heap.size, 0, none⟩) l.length l.length) (q' := q) (tn.mono (fun k _ e => e.elim)) ⟨ownsRow_turn h.own.pool tn (fun _ _ h => h), ?_, ownsRow_turn h.own.twic tn (fun _ _ h => h), ?_, ⟨h.own.wf.key, h.own.wf.vmac, h.own.wf.host⟩⟩ 27 _ (ten_set_stat t h.own.wf p s q _ l)
  · have := World.ownsRow_lit (base := T + 1) (e := 97) (size := 2) W cs l.length (by omega) (by unfold maxLen; omega) hc2
    rwa [hcs] at this
  · intro k h1 h2
    have h1 : some W.heap.size = some k := h1
    injection h1 with h1
    have := (h.own.twic.lt k h2).2
    omega
theorem BoxAt.twic (h : BoxAt w r T t p s q W) (l : List (Nat × Nat)) (cs : Array Value) (hcs : cs.toList = pairCells l) (hl : l.length ≤ 1000) : BoxAt w r T (setTwic t l) p s (.slice (some ⟨W.heap.size, 0, none⟩) l.length l.length) ((W.alloc (.cells cs 97)).setCell ⟨T, 28, none⟩ (.slice (some ⟨W.heap.size, 0, none⟩) l.length l.length)) := by
  have tn := (Turn.refl (fun _ => False) W).alloc (.cells cs 97)
  have hT := block_lt h.cel
  have hc2 : cs.size = l.length * 2 := by
    have h1 : cs.toList.length = cs.size := rfl
    rw [← h1, hcs, pairCells_len2]
  refine h.store (t' := { t with twices := l }) (p' := p) (s' := s) (q' := .slice (some ⟨W.heap.size, 0, none⟩) l.length l.length) (tn.mono (fun k _ e => e.elim)) ⟨ownsRow_turn h.own.pool tn (fun _ _ h => h), ownsRow_turn h.own.stat tn (fun _ _ h => h), ?_, ?_, ⟨h.own.wf.key, h.own.wf.vmac, h.own.wf.host⟩⟩ 28 _ (ten_set_twic t h.own.wf p s q _ l)
  · have := World.ownsRow_lit (base := T + 1) (e := 97) (size := 2) W cs l.length (by omega) (by unfold maxLen; omega) hc2
    rwa [hcs] at this
  · intro k h1 h2
    have h2 : some W.heap.size = some k := h2
    injection h2 with h2
    have := (h.own.stat.lt k h1).2
    omega
end
def setLo (t : Ten) (x : Nat) : Ten := { t with lo := x }
def setHi (t : Ten) (x : Nat) : Ten := { t with hi := x }
def setSess (t : Ten) (x : Int) : Ten := { t with sess := x }
def setQueue (t : Ten) (x : Int) : Ten := { t with queue := x }
def setRate (t : Ten) (x : Nat) : Ten := { t with rate := x }
def setBurst (t : Ten) (x : Nat) : Ten := { t with burst := x }
section
variable {w W W' : World} {r T : Nat} {t : Ten} {p s q : Value}
theorem BoxAt.lo (h : BoxAt w r T t p s q W) (x : Nat) (y : Int) (hy : y = (x : Int)) : BoxAt w r T (setLo t x) p s q (W.setCell ⟨T, 24, none⟩ (.int .u16 y)) := by
  subst hy
  exact h.put { t with lo := x } 24 _ ((ten_set_num t h.own.wf p s q).1 x) rfl rfl rfl ⟨h.own.wf.key, h.own.wf.vmac, h.own.wf.host⟩
theorem BoxAt.hi (h : BoxAt w r T t p s q W) (x : Nat) (y : Int) (hy : y = (x : Int)) : BoxAt w r T (setHi t x) p s q (W.setCell ⟨T, 25, none⟩ (.int .u16 y)) := by
  subst hy
  exact h.put { t with hi := x } 25 _ ((ten_set_num t h.own.wf p s q).2.1 x) rfl rfl rfl ⟨h.own.wf.key, h.own.wf.vmac, h.own.wf.host⟩
theorem BoxAt.sess (h : BoxAt w r T t p s q W) (y : Int) : BoxAt w r T (setSess t y) p s q (W.setCell ⟨T, 29, none⟩ (.int .i64 y)) :=
  h.put { t with sess := y } 29 _ ((ten_set_num t h.own.wf p s q).2.2.2.1 y) rfl rfl rfl ⟨h.own.wf.key, h.own.wf.vmac, h.own.wf.host⟩
theorem BoxAt.queue (h : BoxAt w r T t p s q W) (y : Int) : BoxAt w r T (setQueue t y) p s q (W.setCell ⟨T, 30, none⟩ (.int .i64 y)) :=
  h.put { t with queue := y } 30 _ ((ten_set_num t h.own.wf p s q).2.2.2.2.1 y) rfl rfl rfl ⟨h.own.wf.key, h.own.wf.vmac, h.own.wf.host⟩
theorem BoxAt.rate (h : BoxAt w r T t p s q W) (x : Nat) (y : Int) (hy : y = (x : Int)) : BoxAt w r T (setRate t x) p s q (W.setCell ⟨T, 31, none⟩ (.int .u32 y)) := by
  subst hy
  exact h.put { t with rate := x } 31 _ ((ten_set_num t h.own.wf p s q).2.2.2.2.2.1 x) rfl rfl rfl ⟨h.own.wf.key, h.own.wf.vmac, h.own.wf.host⟩
theorem BoxAt.burst (h : BoxAt w r T t p s q W) (x : Nat) (y : Int) (hy : y = (x : Int)) : BoxAt w r T (setBurst t x) p s q (W.setCell ⟨T, 32, none⟩ (.int .u32 y)) := by
  subst hy
  exact h.put { t with burst := x } 32 _ ((ten_set_num t h.own.wf p s q).2.2.2.2.2.2 x) rfl rfl rfl ⟨h.own.wf.key, h.own.wf.vmac, h.own.wf.host⟩
theorem BoxAt.cells (h : BoxAt w r T t p s q W) : W.cell? ⟨T, 24, none⟩ = some (.int .u16 (t.lo : Int)) ∧ W.cell? ⟨T, 25, none⟩ = some (.int .u16 (t.hi : Int)) ∧ W.cell? ⟨T, 27, none⟩ = some s ∧ W.cell? ⟨T, 28, none⟩ = some q ∧ W.cell? ⟨T, 29, none⟩ = some (.int .i64 t.sess) ∧ W.cell? ⟨T, 30, none⟩ = some (.int .i64 t.queue) ∧ W.cell? ⟨T, 31, none⟩ = some (.int .u32 (t.rate : Int)) ∧ W.cell? ⟨T, 32, none⟩ = some (.int .u32 (t.burst : Int)) := by
  obtain ⟨h0, h1, h2, h3, h4, h5, h6, h7, h8, h9⟩ := ten_get t h.own.wf p s q
  exact ⟨(h.cell h1).1, (h.cell h2).1, (h.cell h4).1, (h.cell h5).1, (h.cell h6).1, (h.cell h7).1, (h.cell h8).1, (h.cell h9).1⟩
theorem BoxAt.free (h : BoxAt w r T t p s q W) (j : Nat) : W.frozen? ⟨T, j, none⟩ = false := free_of_block h.cel j
theorem BoxAt.cellsO (h : BoxAt w r T t p s q W) (o : Obj) : (W.alloc o).cell? ⟨T, 27, none⟩ = some s ∧ (W.alloc o).cell? ⟨T, 28, none⟩ = some q := by
  obtain ⟨h0, h1, h2, h3, h4, h5, h6, h7, h8, h9⟩ := ten_get t h.own.wf p s q
  have kb := block_alloc_old (o := o) h.cel
  exact ⟨(cell_of_block kb 27).trans (by rw [← Array.getElem?_toList]; exact h4), (cell_of_block kb 28).trans (by rw [← Array.getElem?_toList]; exact h5)⟩
theorem BoxAt.freeO (h : BoxAt w r T t p s q W) (o : Obj) (j : Nat) : (W.alloc o).frozen? ⟨T, j, none⟩ = false := free_of_block (block_alloc_old (o := o) h.cel) j
end
theorem and_bit (x k : Nat) : x &&& 2 ^ k = if x / 2 ^ k % 2 = 1 then 2 ^ k else 0 := by
  apply Nat.eq_of_testBit_eq
  intro i
  rw [Nat.testBit_and, Nat.testBit_two_pow]
  by_cases h : k = i
  · subst h
    rw [Nat.testBit_eq_decide_div_mod_eq]
    split
    · rename_i h1; simp [h1, Nat.testBit_two_pow]
    · rename_i h1; simp [h1]
  · split
    · simp [h, Nat.testBit_two_pow]
    · simp [h]
theorem bit_in (x k : Nat) (hx : x < 65536) (hk : k < 16) (h : x / 2 ^ k % 2 = 1) : bits .and .u16 (x : Int) ((2 ^ k : Nat) : Int) = ((2 ^ k : Nat) : Int) := by
  rw [u16_and_nat x _ hx (Nat.pow_lt_pow_right (by omega) hk), and_bit, if_pos h]
theorem bit_out (x k : Nat) (hx : x < 65536) (hk : k < 16) (h : ¬ x / 2 ^ k % 2 = 1) : bits .and .u16 (x : Int) ((2 ^ k : Nat) : Int) = 0 := by
  rw [u16_and_nat x _ hx (Nat.pow_lt_pow_right (by omega) hk), and_bit, if_neg h]
  rfl
theorem low_bits (x k : Nat) (hx : x < 65536) (hk : k < 16) : bits .and .u16 (x : Int) ((2 ^ k - 1 : Nat) : Int) = ((x % 2 ^ k : Nat) : Int) := by
  rw [u16_and_nat x _ hx (by have : 2 ^ k < 2 ^ 16 := Nat.pow_lt_pow_right (by omega) hk; omega), Nat.and_two_pow_sub_one_eq_mod]
/-- The tenant as it is first laid. -/
def seatTen0 (i kind : Nat) : Ten := ⟨⟨[(97 + UInt8.ofNat i)].toArray⟩, 100 + i, [i + 1, 0, 0, 0, 0, 0, 0, 0], quad 10 9 0 (i + 1), [2, 9, i, 0, 0, 0], [2, 7, i, 0, 0, 0], [], 0, 0, ((kind % 3 : Nat) : Int), [], [], 0, 0, 0, 0⟩
theorem seatTen0_wf (i kind : Nat) : WfTen (seatTen0 i kind) := ⟨rfl, rfl, rfl⟩
theorem built45 (nm : ByteArray) (v i k x : Int) : Tryz.prog.built 45 [(0, .string nm), (1, .int .u32 v), (2, .agg #[.int .u8 (i + 1), .int .u8 0, .int .u8 0, .int .u8 0, .int .u8 0, .int .u8 0, .int .u8 0, .int .u8 0]), (3, .int .u32 x), (4, .agg #[.int .u8 2, .int .u8 9, .int .u8 i, .int .u8 0, .int .u8 0, .int .u8 0]), (5, .agg #[.int .u8 2, .int .u8 7, .int .u8 i, .int .u8 0, .int .u8 0, .int .u8 0]), (9, .int .i64 k)] =
    some #[.string nm, .int .u32 v, .int .u8 (i + 1), .int .u8 0, .int .u8 0, .int .u8 0, .int .u8 0, .int .u8 0, .int .u8 0, .int .u8 0, .int .u32 x, .int .u8 2, .int .u8 9, .int .u8 i, .int .u8 0, .int .u8 0, .int .u8 0, .int .u8 2, .int .u8 7, .int .u8 i, .int .u8 0, .int .u8 0, .int .u8 0, .slice none 0 0, .int .u16 0, .int .u16 0, .int .i64 k, .slice none 0 0, .slice none 0 0, .int .i64 0, .int .i64 0, .int .u32 0, .int .u32 0] := by kernel_rfl
theorem seatRow0 (i kind : Nat) : tenRow (seatTen0 i kind) (.slice none 0 0) (.slice none 0 0) (.slice none 0 0) = #[.string ⟨[(97 + UInt8.ofNat i)].toArray⟩, .int .u32 (100 + (i : Int)), .int .u8 ((i : Int) + 1), .int .u8 0, .int .u8 0, .int .u8 0, .int .u8 0, .int .u8 0, .int .u8 0, .int .u8 0, .int .u32 ((quad 10 9 0 (i + 1) : Nat) : Int), .int .u8 2, .int .u8 9, .int .u8 (i : Int), .int .u8 0, .int .u8 0, .int .u8 0, .int .u8 2, .int .u8 7, .int .u8 (i : Int), .int .u8 0, .int .u8 0, .int .u8 0, .slice none 0 0, .int .u16 0, .int .u16 0, .int .i64 ((kind : Int) % 3), .slice none 0 0, .slice none 0 0, .int .i64 0, .int .i64 0, .int .u32 0, .int .u32 0] := by kernel_rfl
end Go.Proofs.YtbkpbcmjgbdbkaaGreatDoor
