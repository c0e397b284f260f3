/- addr.digits: bytes of two digits each, read into a row of bytes. No condition but the text's length. -/
import Derived.Test.YtbkpbcmjgbdbkaaDoorE1
namespace Go.Proofs.YtbkpbcmjgbdbkaaDoor
open Go.RowKit Go.Lib
set_option linter.unusedVariables false
set_option linter.unusedSimpArgs false

/-! ### a string's iterator in any world -/
def itSet (w : World) (k : Nat) (s : ByteArray) (p : Nat) : World := { w with heap := w.heap.setIfInBounds k (.stringIter s p) }
theorem itSet_other {w : World} {k j : Nat} {s : ByteArray} {p : Nat} (h : j ≠ k) : (itSet w k s p).heap[j]? = w.heap[j]? := by
  unfold itSet
  show (w.heap.setIfInBounds k _)[j]? = _
  rw [Array.getElem?_setIfInBounds, if_neg (fun e => h e.symm)]
theorem itSet_same {w : World} {k : Nat} {s : ByteArray} {p : Nat} (h : k < w.heap.size) : (itSet w k s p).heap[k]? = some (.stringIter s p) := by
  unfold itSet
  show (w.heap.setIfInBounds k _)[k]? = _
  rw [Array.getElem?_setIfInBounds, if_pos rfl, if_pos h]
theorem itSet_size (w : World) (k : Nat) (s : ByteArray) (p : Nat) : (itSet w k s p).heap.size = w.heap.size := by
  unfold itSet; simp
theorem Turn.itSet {F : Nat → Prop} {a b : World} (h : Turn F a b) {k : Nat} (hk : k < a.heap.size → F k) (s : ByteArray) (p : Nat) : Turn F a (itSet b k s p) :=
  ⟨h.os, h.tape, h.output, by rw [itSet_size]; exact h.size, fun i hi hF => by
    rw [itSet_other (fun e => hF (by subst e; exact hk hi))]; exact h.block i hi hF⟩
theorem cell_itSet {w : World} {k : Nat} {s : ByteArray} {p : Nat} {a : Addr} (h : a.block ≠ k) : (itSet w k s p).cell? a = w.cell? a := World.cell?_of_block (itSet_other h)
theorem frozen_of_block {w w' : World} {a : Addr} (h : w'.heap[a.block]? = w.heap[a.block]?) : w'.frozen? a = w.frozen? a := by
  simp [World.frozen?, h]
theorem frozen_itSet {w : World} {k : Nat} {s : ByteArray} {p : Nat} {a : Addr} (h : a.block ≠ k) : (itSet w k s p).frozen? a = w.frozen? a := frozen_of_block (itSet_other h)
theorem run_next_at {P : Program} {w : World} {k : Nat} {s : ByteArray} {pos : Nat} (hw : w.heap[k]? = some (.stringIter s pos)) (ty : TypeId) (h : pos < s.size) :
    (Instr.next (.pointer (some ⟨k, 0, none⟩)) true ty).run P w = .ok (.tuple #[.bool true, .int .i64 pos, .int .i32 (Utf8.decode s pos).1]) (itSet w k s (pos + (Utf8.decode s pos).2)) := by
  simp only [Instr.next, getObj, setObj, Sem.run_bind, Sem.run, hw, Result.andThen, h, if_true]
  simp [goInt, itSet]
theorem run_next_at_end {P : Program} {w : World} {k : Nat} {s : ByteArray} {pos : Nat} (hw : w.heap[k]? = some (.stringIter s pos)) (ty : TypeId) (h : ¬ pos < s.size) :
    (Instr.next (.pointer (some ⟨k, 0, none⟩)) true ty).run P w = .ok (.tuple #[.bool false]) w := by
  simp [Instr.next, getObj, Sem.run, hw, h]

/-! ### the row of bytes under way -/
def hx (c : UInt8) : Nat := (hexOf c).getD 0
def cellAt (l : List UInt8) (k j : Nat) : Nat := if 2 * j + 1 < k then 16 * hx (l.getD (2 * j) 0) + hx (l.getD (2 * j + 1) 0) else if 2 * j < k then hx (l.getD (2 * j) 0) else 0
theorem hx_lt (c : UInt8) : hx c < 16 := by
  unfold hx
  cases h : hexOf c with
  | none => simp
  | some d => have := hexOf_read h; simp; omega
theorem cellAt_lt (l : List UInt8) (k : Nat) : cellAt l k (k / 2) < 16 := by
  unfold cellAt
  rw [if_neg (by omega)]
  split
  · exact hx_lt _
  · omega
theorem cellAt_step (l : List UInt8) (k : Nat) : cellAt l (k + 1) (k / 2) = 16 * cellAt l k (k / 2) + hx (l.getD k 0) := by
  unfold cellAt
  by_cases h : 2 * (k / 2) + 1 < k + 1
  · rw [if_pos h, if_neg (by omega), if_pos (by omega), show 2 * (k / 2) + 1 = k by omega]
  · rw [if_neg h, if_pos (by omega), if_neg (by omega), if_neg (by omega), show 2 * (k / 2) = k by omega]; omega
theorem cellAt_other {l : List UInt8} {k j : Nat} (h : j ≠ k / 2) : cellAt l (k + 1) j = cellAt l k j := by
  unfold cellAt
  by_cases h1 : 2 * j + 1 < k
  · rw [if_pos h1, if_pos (by omega)]
  · rw [if_neg h1, if_neg (by omega)]
    by_cases h2 : 2 * j < k
    · omega
    · rw [if_neg h2, if_neg (by omega)]
def u8row (m : List Nat) : Array Value := (m.map fun (b : Nat) => Value.int .u8 (b : Int)).toArray
def nums (m : List Nat) (o n : Nat) (l : List UInt8) (k : Nat) : List Nat := (List.range m.length).map fun i => if o ≤ i ∧ i < o + n then cellAt l k (i - o) else m.getD i 0
theorem nums_len (m : List Nat) (o n : Nat) (l : List UInt8) (k : Nat) : (nums m o n l k).length = m.length := by simp [nums]
theorem nums_get {m : List Nat} {o n : Nat} {l : List UInt8} {k i : Nat} (h : i < m.length) : (nums m o n l k)[i]? = some (if o ≤ i ∧ i < o + n then cellAt l k (i - o) else m.getD i 0) := by
  simp [nums, h]
theorem nums_zero {m : List Nat} {o n : Nat} {l : List UInt8} (hz : ∀ i, o ≤ i → i < o + n → m.getD i 0 = 0) : nums m o n l 0 = m := by
  apply List.ext_getElem?
  intro i
  by_cases hi : i < m.length
  · rw [nums_get hi]
    by_cases hc : o ≤ i ∧ i < o + n
    · rw [if_pos hc]
      have := hz i hc.1 hc.2
      have e : m.getD i 0 = m[i] := by simp [List.getD, hi]
      rw [List.getElem?_eq_getElem hi, ← e, this]
      simp [cellAt]
    · rw [if_neg hc, List.getElem?_eq_getElem hi]
      simp [List.getD, hi]
  · rw [List.getElem?_eq_none (by rw [nums_len]; omega), List.getElem?_eq_none (by omega)]
theorem u8row_set {m : List Nat} {o n : Nat} {l : List UInt8} {k : Nat} (hon : o + n ≤ m.length) (hk : k / 2 < n) :
    (u8row (nums m o n l k)).setIfInBounds (o + k / 2) (.int .u8 ((cellAt l (k + 1) (k / 2) : Nat) : Int)) = u8row (nums m o n l (k + 1)) := by
  apply Array.ext'
  apply List.ext_getElem?
  intro i
  rw [Array.toList_setIfInBounds]
  unfold u8row
  simp only [List.getElem?_set, List.length_map, List.getElem?_map, nums_len]
  by_cases hi : i < m.length
  · rw [nums_get hi, nums_get hi]
    by_cases he : o + k / 2 = i
    · subst he
      rw [if_pos rfl, if_pos hi, if_pos ⟨by omega, by omega⟩, show o + k / 2 - o = k / 2 by omega]; rfl
    · rw [if_neg he]
      by_cases hc : o ≤ i ∧ i < o + n
      · rw [if_pos hc, if_pos hc, cellAt_other (by omega)]
      · rw [if_neg hc, if_neg hc]
  · have e1 : (nums m o n l k)[i]? = none := List.getElem?_eq_none (by rw [nums_len]; omega)
    have e2 : (nums m o n l (k + 1))[i]? = none := List.getElem?_eq_none (by rw [nums_len]; omega)
    rw [e1, e2, if_neg (by omega)]
theorem u8row_cell {m : List Nat} {o n : Nat} {l : List UInt8} {k : Nat} (hon : o + n ≤ m.length) (hk : k / 2 < n) :
    (u8row (nums m o n l k))[o + k / 2]? = some (.int .u8 ((cellAt l k (k / 2) : Nat) : Int)) := by
  unfold u8row
  rw [List.getElem?_toArray, List.getElem?_map, nums_get (by omega), if_pos ⟨by omega, by omega⟩, show o + k / 2 - o = k / 2 by omega]; rfl
/-- The list L laid into m from place o on. -/
def put (m : List Nat) (o : Nat) (L : List Nat) : List Nat := (List.range m.length).map fun i => if o ≤ i ∧ i < o + L.length then L.getD (i - o) 0 else m.getD i 0
theorem pairs_cells : ∀ (l : List UInt8) {L : List Nat}, pairsOf l = some L → ∀ j, j < L.length → L.getD j 0 = 16 * hx (l.getD (2 * j) 0) + hx (l.getD (2 * j + 1) 0)
  | [], L, h, j, hj => by simp only [pairsOf, Option.some.injEq] at h; subst h; simp at hj
  | [_], L, h, _, _ => by simp [pairsOf] at h
  | a :: b :: r, L, h, j, hj => by
    rw [pairsOf] at h
    split at h
    · rename_i x y l' h1 h2 h3
      simp only [Option.some.injEq] at h
      subst h
      cases j with
      | zero => simp [hx, h1, h2]
      | succ j =>
        have := pairs_cells r h3 j (by simpa using hj)
        simp only [List.getD_cons_succ, show 2 * (j + 1) = 2 * j + 1 + 1 by omega]
        exact this
    · cases h
theorem nums_end {m : List Nat} {o n : Nat} {l : List UInt8} {L : List Nat} (h : pairsOf l = some L) (hl : l.length = 2 * n) : nums m o n l (2 * n) = put m o L := by
  have hL := (pairsOf_read _ h).2.2
  unfold nums put
  apply List.map_congr_left
  intro i hi
  rw [show o + n = o + L.length by omega]
  by_cases hc : o ≤ i ∧ i < o + L.length
  · rw [if_pos hc, if_pos hc, pairs_cells l h _ (by omega)]
    unfold cellAt
    rw [if_pos (by omega)]
  · rw [if_neg hc, if_neg hc]
theorem pairs_hex : ∀ (l : List UInt8) {L : List Nat}, pairsOf l = some L → ∀ (k : Nat) (c : UInt8), l[k]? = some c → (hexOf c).isSome = true
  | [], L, h, k, c, hk => by simp at hk
  | [_], L, h, _, _, _ => by simp [pairsOf] at h
  | a :: b :: r, L, h, k, c, hk => by
    rw [pairsOf] at h
    split at h
    · rename_i x y l' h1 h2 h3
      match k, hk with
      | 0, hk => simp at hk; subst hk; simp [h1]
      | 1, hk => simp at hk; subst hk; simp [h2]
      | k + 2, hk => exact pairs_hex r h3 k c (by simpa using hk)
    · cases h
theorem pairs_all : ∀ (l : List UInt8) (n : Nat), l.length = 2 * n → (∀ (k : Nat) (c : UInt8), l[k]? = some c → (hexOf c).isSome = true) → ∃ L, pairsOf l = some L
  | [], _, _, _ => ⟨[], rfl⟩
  | [_], n, h, _ => by simp at h; omega
  | a :: b :: r, n, h, hh => by
    obtain ⟨x, hx⟩ := Option.isSome_iff_exists.1 (hh 0 a rfl)
    obtain ⟨y, hy⟩ := Option.isSome_iff_exists.1 (hh 1 b rfl)
    obtain ⟨L, hL⟩ := pairs_all r (n - 1) (by simp at h; omega) (fun k c hk => hh (k + 2) c (by simpa using hk))
    exact ⟨_, by rw [pairsOf, hx, hy, hL]⟩

def DigitsPost (l : List UInt8) (b o n : Nat) (m : List Nat) (T : TypeId) (w : World) (e : Ending) (w' : World) : Prop :=
  Turn (fun k => k = b) w w' ∧ ((e = .returned (.int .i64 60) ∧ (l.length = 2 * n → pairsOf l = none)) ∨
    (e = .returned (.int .i64 0) ∧ ∃ L, l.length = 2 * n ∧ pairsOf l = some L ∧ w'.heap[b]? = some (.cells (u8row (put m o L)) T (0, 0))))

theorem digits_keep {w W1 : World} {b B o j v d x : Nat} {T : TypeId} {s : ByteArray} {p : Nat} {r r' : Array Value} (hbn : b ≠ B) (h1 : W1.heap[b]? = some (.cells r T (0, 0))) (h2 : W1.heap[B]? = some (.stringIter s p))
    (h3 : Turn (fun k => k = b) w W1) (h4 : r.setIfInBounds (o + j) (.int .u8 (x : Int)) = r') (h5 : x = 16 * v + d) :
    (W1.setCell ⟨b, o + j, none⟩ (.int .u8 ((16 * v + d : Nat) : Int))).heap[b]? = some (.cells r' T (0, 0)) ∧
    (W1.setCell ⟨b, o + j, none⟩ (.int .u8 ((16 * v + d : Nat) : Int))).heap[B]? = some (.stringIter s p) ∧
    Turn (fun k => k = b) w (W1.setCell ⟨b, o + j, none⟩ (.int .u8 ((16 * v + d : Nat) : Int))) := by
  subst h5
  exact ⟨by rw [block_setCell h1, h4], (Below.heap_setCell _ _ _ _ (fun e => hbn e.symm)).trans h2, h3.setCell _ (fun _ => rfl)⟩

set_option maxRecDepth 100000 in
set_option maxHeartbeats 4000000 in
theorem digits_any (s : ByteArray) (hs : s.size ≤ 1000000) (b o n c : Nat) (m : List Nat) (T : TypeId) (w : World) (hb : w.heap[b]? = some (.cells (u8row m) T (0, 0))) (hon : o + n ≤ m.length) (hn : n ≤ 1000000)
    (hz : ∀ i, o ≤ i → i < o + n → m.getD i 0 = 0) (hnc : n ≤ c) :
    Calls Tryd.prog 30 #[.string s, .slice (some ⟨b, o, none⟩) n c] w (DigitsPost s.data.toList b o n m T w) := by
  have hlen := bytes_len s
  have hbs := block_lt hb
  by_cases h2 : s.size = 2 * n
  · have h2b : ((s.size : Int) != 2 * (n : Int)) = false := by rw [bne_eq_false_iff_eq]; omega
    have H0 := Lib.hid (And.intro hb (And.intro hz (And.intro h2 hlen)))
    have hbn : b ≠ w.heap.size := by omega
    clear hb hz h2 hlen
    go_enter Tryd.func30, Tryd.ntmps30
    go_wp2_with fail
    clear h2b
    have hst : nums m o n s.data.toList 0 = m := nums_zero H0.out.2.1
    have HST := Lib.hid hst
    clear hst
    have hw0 : (w.iter s 0).heap[b]? = some (.cells (u8row (nums m o n s.data.toList 0)) T (0, 0)) := by rw [HST.out]; exact block_alloc_old H0.out.1
    have hw1 := World.iter_heap w s 0
    have hw2 : Turn (fun k => k = b) w (w.iter s 0) := (Turn.refl _ _).iter s 0
    obtain ⟨B, hB⟩ : ∃ B, B = w.heap.size := ⟨_, rfl⟩
    rw [← hB] at hw1 hbn
    rw [← hB]
    have HB := Lib.hid hB
    clear hB
    go_loopg [] (s.size + 1) (fun g wr => ∃ k : Nat, g = s.size + 1 - k ∧ k ≤ s.size ∧ wr.heap[B]? = some (.stringIter s k) ∧ wr.heap[b]? = some (.cells (u8row (nums m o n s.data.toList k)) T (0, 0)) ∧ Turn (fun k => k = b) w wr ∧
      Hid (∀ (j : Nat) (c : UInt8), j < k → s.data.toList[j]? = some c → (hexOf c).isSome = true))
    case atStart => exact ⟨0, rfl, Nat.zero_le _, hw1, hw0, hw2, fun j c hj => by omega⟩
    case round =>
      clear hw0 hw1 hw2
      obtain ⟨k, rfl, hk, hit, hrow, ht, hall⟩ := hrel
      by_cases hlt : k < s.size
      · obtain ⟨ch, hc1, hc2⟩ := bytes_get s k hlt
        obtain ⟨j, hj⟩ : ∃ j, j = k / 2 := ⟨_, rfl⟩
        have hjn : j < n := by have := H0.out.2.2.1; omega
        have hdiv : ((k : Int) / 2) = (j : Int) := by omega
        have hjn2 : (j : Int) < (n : Int) := by omega
        have hj0 : (0 : Int) ≤ (j : Int) := by omega
        have hv := cellAt_lt s.data.toList k
        have hcel := u8row_cell (l := s.data.toList) (k := k) hon (by omega : k / 2 < n)
        have hset := u8row_set (l := s.data.toList) (k := k) hon (by omega : k / 2 < n)
        rw [← hj] at hv hcel hset
        have hgd : s.data.toList.getD k 0 = ch := by rw [List.getD_eq_getElem?_getD, hc1]; rfl
        have hstep := cellAt_step s.data.toList k
        rw [← hj, hgd] at hstep
        obtain ⟨v, hvv⟩ : ∃ v, v = cellAt s.data.toList k j := ⟨_, rfl⟩
        rw [← hvv] at hv hcel hstep
        have hcx := ch.toNat_lt
        have HH := Lib.hid (And.intro hrow (And.intro hit (And.intro hset (And.intro hstep hc1))))
        cases hxd : hexOf ch with
        | none =>
          have hno : pairsOf s.data.toList = none := by
            cases hp : pairsOf s.data.toList with
            | none => rfl
            | some L => have := pairs_hex _ hp k ch hc1; rw [hxd] at this; cases this
          have h1 : ¬ (48 ≤ ch.toNat ∧ ch.toNat ≤ 57) ∧ ¬ (97 ≤ ch.toNat ∧ ch.toNat ≤ 102) := by
            unfold hexOf at hxd
            split at hxd
            · cases hxd
            · split at hxd
              · cases hxd
              · exact ⟨by assumption, by assumption⟩
          have HNO := Lib.hid hno
          by_cases ha : ch.toNat < 128
          · have hdec := decode_ascii s k hlt (by rw [hc2]; exact ha)
            rw [hc2] at hdec
            have hnx : ∀ ty, (Instr.next (.pointer (some ⟨B, 0, none⟩)) true ty).run Tryd.prog wr = _ := fun ty => run_next_at hit ty hlt
            rw [hdec] at hnx
            have t2 := ht.itSet (k := B) (fun h => by have := HB.out; omega) s (k + 1)
            clear hdec hno hxd hc1 hc2 hgd hstep hset hcel hrow hit hvv hj hdiv
            go_wp2_with fail
            all_goals first
              | (exfalso; omega)
              | (go_ret; exact ⟨t2, Or.inl ⟨rfl, fun _ => HNO.out⟩⟩)
          · have hdec := decode_high s k hlt (by rw [hc2]; omega)
            have hle := decode_le s k
            have hnx : ∀ ty, (Instr.next (.pointer (some ⟨B, 0, none⟩)) true ty).run Tryd.prog wr = _ := fun ty => run_next_at hit ty hlt
            generalize Utf8.decode s k = dd at *
            obtain ⟨x, y⟩ := dd
            have hdec1 : 128 ≤ x := hdec.1
            have hle1 : x ≤ 2147483647 := hle
            have t2 := ht.itSet (k := B) (fun h => by have := HB.out; omega) s (k + y)
            clear hdec hle hno hxd hc1 hc2 hgd hstep hset hcel hrow hit hvv hj hdiv
            go_wp2_with fail
            all_goals first
              | (exfalso; omega)
              | (go_ret; exact ⟨t2, Or.inl ⟨rfl, fun _ => HNO.out⟩⟩)
        | some d =>
          have hd := hexOf_read hxd
          have hall2 : ∀ (i : Nat) (c : UInt8), i < k + 1 → s.data.toList[i]? = some c → (hexOf c).isSome = true := fun i c hi hc => by
            by_cases e : i = k
            · subst e; rw [hc1] at hc; injection hc with hc; subst hc; rw [hxd]; rfl
            · exact hall.out i c (by omega) hc
          have hx1 : hx ch = d := by unfold hx; rw [hxd]; rfl
          have hcase : (48 ≤ ch.toNat ∧ ch.toNat ≤ 57 ∧ d = ch.toNat - 48) ∨ (97 ≤ ch.toNat ∧ ch.toNat ≤ 102 ∧ d = ch.toNat - 87) := by
            unfold hexOf at hxd
            split at hxd
            · injection hxd with hxd; omega
            · split at hxd
              · injection hxd with hxd; omega
              · cases hxd
          have ha : ch.toNat < 128 := by omega
          have hdec := decode_ascii s k hlt (by rw [hc2]; exact ha)
          rw [hc2] at hdec
          have hnx : ∀ ty, (Instr.next (.pointer (some ⟨B, 0, none⟩)) true ty).run Tryd.prog wr = _ := fun ty => run_next_at hit ty hlt
          rw [hdec] at hnx
          have t2 := ht.itSet (k := B) (fun h => by have := HB.out; omega) s (k + 1)
          have hrow2 : (itSet wr B s (k + 1)).heap[b]? = some (.cells (u8row (nums m o n s.data.toList k)) T (0, 0)) := (itSet_other hbn).trans hrow
          have hit2 := itSet_same (s := s) (p := k + 1) (block_lt hit)
          have hcell : (itSet wr B s (k + 1)).cell? ⟨b, o + j, none⟩ = some (.int .u8 (v : Int)) := (cell_of_block hrow2 _).trans hcel
          have hfree : (itSet wr B s (k + 1)).frozen? ⟨b, o + j, none⟩ = false := free_of_block hrow2 _
          have H2 := Lib.hid (And.intro hrow2 (And.intro hit2 (And.intro t2 (And.intro hall2 hx1))))
          have hd16 := hd.2
          clear hall2 hx1 hd hxd hdec hc1 hc2 hgd hstep hset hcel hrow hit hvv hj hrow2 hit2 t2
          generalize itSet wr B s (k + 1) = W1 at *
          rcases hcase with ⟨c1, c2, c3⟩ | ⟨c1, c2, c3⟩
          all_goals
            have HD := Lib.hid c3
            clear c3
            go_wp2_with fail
          · have e : bits .or .u8 ((v : Int) * 16) ((ch.toNat : Int) - 48) = ((16 * v + d : Nat) : Int) := by
              rw [show ((ch.toNat : Int) - 48) = (d : Int) by have := HD.out; omega]; exact or_nib hv hd16
            rw [e]
            obtain ⟨r1, r2, r3⟩ := digits_keep (W1 := W1) (v := v) (d := d) hbn H2.out.1 H2.out.2.1 H2.out.2.2.1 HH.out.2.2.1 (by rw [HH.out.2.2.2.1, H2.out.2.2.2.2])
            clear e
            go_roundg (s.size + 1 - (k + 1))
            case measure => omega
            case rel => exact ⟨k + 1, rfl, by omega, r2, r1, r3, H2.out.2.2.2.1⟩
          · have e : bits .or .u8 ((v : Int) * 16) ((ch.toNat : Int) - 97 + 10) = ((16 * v + d : Nat) : Int) := by
              rw [show ((ch.toNat : Int) - 97 + 10) = (d : Int) by have := HD.out; omega]; exact or_nib hv hd16
            rw [e]
            obtain ⟨r1, r2, r3⟩ := digits_keep (W1 := W1) (v := v) (d := d) hbn H2.out.1 H2.out.2.1 H2.out.2.2.1 HH.out.2.2.1 (by rw [HH.out.2.2.2.1, H2.out.2.2.2.2])
            clear e
            go_roundg (s.size + 1 - (k + 1))
            case measure => omega
            case rel => exact ⟨k + 1, rfl, by omega, r2, r1, r3, H2.out.2.2.2.1⟩
      · have hnx : ∀ ty, (Instr.next (.pointer (some ⟨B, 0, none⟩)) true ty).run Tryd.prog wr = _ := fun ty => run_next_at_end hit ty hlt
        have hke : k = 2 * n := by have := H0.out.2.2.1; omega
        subst hke
        have HR := Lib.hid (And.intro hit hrow)
        clear hit hrow
        go_wp2_with fail
        go_ret
        obtain ⟨L, hL⟩ := pairs_all s.data.toList n (by have := H0.out.2.2; omega) (fun j c hj => hall.out j c (by have := (List.getElem?_eq_some_iff.1 hj).1; have := H0.out.2.2; omega) hj)
        have hl : s.data.toList.length = 2 * n := by have := H0.out.2.2; omega
        exact ⟨ht, Or.inr ⟨rfl, L, hl, hL, by rw [← nums_end hL hl]; exact HR.out.2⟩⟩
  · have h2b : ((s.size : Int) != 2 * (n : Int)) = true := by rw [bne_iff_ne]; omega
    have H0 := Lib.hid (And.intro h2 hlen)
    clear hb hz h2 hlen
    go_enter Tryd.func30, Tryd.ntmps30
    go_wp2_with fail
    go_ret
    exact ⟨Turn.refl _ _, Or.inl ⟨rfl, fun h => absurd h (by have := H0.out; omega)⟩⟩
end Go.Proofs.YtbkpbcmjgbdbkaaDoor
