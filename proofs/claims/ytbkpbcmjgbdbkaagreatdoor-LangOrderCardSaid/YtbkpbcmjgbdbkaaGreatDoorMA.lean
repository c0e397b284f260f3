/- The frame 'Turn' (which blocks a call may have turned) and small facts on worlds. No condition. Numbers' texts: the reference's Num. No condition but the numbers' bounds. addr.Num. No condition but the numbers' bounds. The reference's Dec. No condition but the number's bound. strings.Split at a sign of one byte: a plain function of the bytes. No program in sight. The reference's parts: the plain law of its rounds. No program in sight. The reference's parts: the walk. No condition but the text's length. Addresses' texts: the plain laws. No program in sight. Names: the plain laws. No program in sight. -/
import Derived.Test.YtbkpbcmjgbdbkaaGreatDoorRows
import Derived.WalkKit
import Derived.WalkSpells
import Derived.WalkLawsBesides
import Derived.ProofKit
import Derived.BigRegion
import Derived.BigQuiet
import Derived.Deep.QuietTactic
import Derived.Deep.LoopGhost
import Derived.Lib.Hide
import Derived.Laws.Strings
import Derived.Laws.RangeAny
import Derived.LoopTactic
import Derived.Lib.Split
import Derived.Lib.SplitLaws
import Derived.Lib.CountLaws
import Derived.Maps.AppendAt
import Derived.Deep.AppendLies
import Derived.Lib.ValidLaws
import Derived.Lib.ItoaNum
/-! D0 -/
namespace Go.Proofs.YtbkpbcmjgbdbkaaGreatDoor
open Go.RowKit

/-- All but the blocks of F (and new ones) stand as they stood. -/
structure Turn (F : Nat → Prop) (w w' : World) : Prop where
  os : w'.os = w.os
  tape : w'.tape = w.tape
  output : w'.output = w.output
  size : w.heap.size ≤ w'.heap.size
  block : ∀ k, k < w.heap.size → ¬ F k → w'.heap[k]? = w.heap[k]?

theorem Turn.refl (F : Nat → Prop) (w : World) : Turn F w w := ⟨rfl, rfl, rfl, Nat.le_refl _, fun _ _ _ => rfl⟩
theorem Turn.trans {F : Nat → Prop} {a b c : World} (h : Turn F a b) (k : Turn F b c) : Turn F a c :=
  ⟨k.os.trans h.os, k.tape.trans h.tape, k.output.trans h.output, Nat.le_trans h.size k.size,
    fun i hi hF => (k.block i (Nat.lt_of_lt_of_le hi h.size) hF).trans (h.block i hi hF)⟩
/-- the second call's blocks: of F, or new since a. -/
theorem Turn.trans2 {F G : Nat → Prop} {a b c : World} (h : Turn F a b) (k : Turn G b c) (hG : ∀ i, i < a.heap.size → G i → F i) : Turn F a c :=
  ⟨k.os.trans h.os, k.tape.trans h.tape, k.output.trans h.output, Nat.le_trans h.size k.size,
    fun i hi hF => (k.block i (Nat.lt_of_lt_of_le hi h.size) (fun g => hF (hG i hi g))).trans (h.block i hi hF)⟩
theorem Turn.mono {F G : Nat → Prop} {a b : World} (h : Turn F a b) (hG : ∀ i, i < a.heap.size → F i → G i) : Turn G a b :=
  ⟨h.os, h.tape, h.output, h.size, fun i hi hF => h.block i hi (fun g => hF (hG i hi g))⟩
theorem Turn.below {F : Nat → Prop} {a b : World} {B : Nat} (h : Turn F a b) (hB : B ≤ a.heap.size) (hF : ∀ i, i < B → ¬ F i) : Below B a b :=
  ⟨h.os, h.tape, h.output, h.size, fun i hi => h.block i (Nat.lt_of_lt_of_le hi hB) (hF i hi)⟩
theorem Turn.onto {F : Nat → Prop} {a b c : World} {B : Nat} (t : Turn F b c) (h : Below B a b) (hB : B ≤ a.heap.size) (hF : ∀ i, i < B → ¬ F i) : Below B a c :=
  h.trans (t.below (Nat.le_trans hB h.size) hF)
theorem Turn.drew {F : Nat → Prop} {a b : World} (h : Turn F a b) : Turn F a b.drew := ⟨h.os, h.tape, h.output, h.size, h.block⟩
theorem Turn.drewN {F : Nat → Prop} {a b : World} (h : Turn F a b) (n : Nat) : Turn F a (b.drewN n) := by
  induction n with
  | zero => exact h
  | succ n ih => rw [← World.drew_drewN]; exact ih.drew
theorem Turn.alloc {F : Nat → Prop} {a b : World} (h : Turn F a b) (o : Obj) : Turn F a (b.alloc o) :=
  h.trans2 (G := fun _ => False) ⟨rfl, rfl, rfl, by simp, fun k hk _ => Below.heap_alloc _ _ _ hk⟩ (fun _ _ h => h.elim)
theorem Turn.setCell {F : Nat → Prop} {a b : World} (h : Turn F a b) {p : Addr} (u : Value) (hp : p.block < a.heap.size → F p.block) : Turn F a (b.setCell p u) :=
  h.trans2 (G := fun k => k = p.block) ⟨rfl, rfl, rfl, by simp [World.setCell], fun k _ hk => Below.heap_setCell _ _ _ _ hk⟩
    (fun i hi e => by subst e; exact hp hi)

/-- A block of cells that is known whole. -/
theorem cell_of_block {w : World} {b : Nat} {cs : Array Value} {T : Nat} {fz : Nat × Nat} (h : w.heap[b]? = some (.cells cs T fz)) (i : Nat) : w.cell? ⟨b, i, none⟩ = cs[i]? := by
  simp [World.cell?, h]
theorem free_of_block {w : World} {b : Nat} {cs : Array Value} {T : Nat} (h : w.heap[b]? = some (.cells cs T (0, 0))) (i : Nat) : w.frozen? ⟨b, i, none⟩ = false := by
  simp [World.frozen?, h]
theorem block_setCell {w : World} {b : Nat} {cs : Array Value} {T : Nat} {fz : Nat × Nat} (h : w.heap[b]? = some (.cells cs T fz)) (i : Nat) (v : Value) :
    (w.setCell ⟨b, i, none⟩ v).heap[b]? = some (.cells (cs.setIfInBounds i v) T fz) := by
  simp [World.setCell, Array.getElem?_modify, h]
theorem block_lt {w : World} {b : Nat} {o : Obj} (h : w.heap[b]? = some o) : b < w.heap.size := (Array.getElem?_eq_some_iff.1 h).1
theorem block_drewN (w : World) (n b : Nat) : (w.drewN n).heap[b]? = w.heap[b]? := by
  induction n with
  | zero => rfl
  | succ n ih => rw [← World.drew_drewN]; exact ih
theorem block_alloc_new (w : World) (o : Obj) : (w.alloc o).heap[w.heap.size]? = some o := (MapKept.heap_alloc w o).1
theorem block_alloc_old {w : World} {b : Nat} {o x : Obj} (h : w.heap[b]? = some x) : (w.alloc o).heap[b]? = some x := by
  rw [Below.heap_alloc _ _ _ (block_lt h)]; exact h

/-- WHAT THE WALK IS TOLD OF A SLICE OF INTEGERS THAT CAME IN. -/
def IsRow (k : IntKind) (w : World) (a : Option Addr) (len cap : Nat) (zs : List Int) : Prop :=
  (a = none ∧ len = 0 ∧ cap = 0 ∧ zs = []) ∨
  ∃ x, a = some x ∧ len ≤ cap ∧ cap ≤ maxLen ∧ zs.length = cap ∧ (∀ i, i < zs.length → w.cell? (x.add i) = some (.int k (zs.getD i 0))) ∧ ∀ n ∈ zs, (Lit.int k n).wf = true

/-- The cells of such a slice that is not empty, by block and place. -/
theorem IsRow.cells {k : IntKind} {w : World} {b off : Nat} {spot : Option Nat} {len cap : Nat} {zs : List Int} (h : IsRow k w (some ⟨b, off, spot⟩) len cap zs) (h0 : 0 < len) :
    spot = none ∧ b < w.heap.size ∧ ∀ i, i < len → w.cell? ⟨b, off + i, none⟩ = some (.int k (zs.getD i 0)) := by
  rcases h with ⟨h, _⟩ | ⟨x, hx, hl, hm, hz, hc, hw⟩
  · cases h
  · cases hx
    have h1 := hc 0 (by omega)
    have hs : spot = none := by simpa [Addr.add] using World.cell?_spot h1
    subst hs
    refine ⟨rfl, ?_, fun i hi => ?_⟩
    · have h2 : w.cell? ⟨b, off, none⟩ = some (.int k (zs.getD 0 0)) := by simpa [Addr.add] using h1
      unfold World.cell? at h2
      split at h2
      · rename_i h3; exact block_lt h3
      · cases h2
    · have h2 := hc i (by omega)
      by_cases e : i = 0
      · subst e; simpa [Addr.add] using h2
      · simpa [Addr.add, e] using h2
theorem IsRow.wf {k : IntKind} {w : World} {a : Option Addr} {len cap : Nat} {zs : List Int} (h : IsRow k w a len cap zs) (hz : (Lit.int k 0).wf = true) (i : Nat) : (Lit.int k (zs.getD i 0)).wf = true := by
  rcases h with ⟨_, _, _, rfl⟩ | ⟨x, _, _, _, _, _, hw⟩
  · simpa using hz
  · by_cases hi : i < zs.length
    · have : zs.getD i 0 = zs[i] := by simp [List.getD, hi]
      rw [this]; exact hw _ (List.getElem_mem hi)
    · have : zs.getD i 0 = 0 := by simp [List.getD, List.getElem?_eq_none (by omega : zs.length ≤ i)]
      rw [this]; exact hz
theorem IsRow.len_le {k : IntKind} {w : World} {a : Option Addr} {len cap : Nat} {zs : List Int} (h : IsRow k w a len cap zs) : len ≤ maxLen := by
  rcases h with ⟨_, rfl, _, _⟩ | ⟨x, _, hl, hm, _⟩
  · exact Nat.zero_le _
  · exact Nat.le_trans hl hm
end Go.Proofs.YtbkpbcmjgbdbkaaGreatDoor

/-! D1 -/
namespace Go.Proofs.YtbkpbcmjgbdbkaaGreatDoor
open Go.RowKit
set_option linter.unusedVariables false
set_option linter.unusedSimpArgs false

def numGo (most : Nat) : List UInt8 → Nat → Option Nat
  | [], n => some n
  | c :: r, n => if 48 ≤ c.toNat ∧ c.toNat ≤ 57 ∧ 10 * n + (c.toNat - 48) ≤ most then numGo most r (10 * n + (c.toNat - 48)) else none
def numOf (s : List UInt8) (most : Nat) : Option Nat := if s = [] ∨ (1 < s.length ∧ s.head? = some 48) then none else numGo most s 0
def numV : Option Nat → Value
  | some n => .tuple #[.int .u32 (n : Int), .int .i64 0]
  | none => .tuple #[.int .u32 0, .int .i64 60]

theorem numGo_ok {most : Nat} {c : UInt8} {r : List UInt8} {m : Nat} (h : 48 ≤ c.toNat ∧ c.toNat ≤ 57 ∧ 10 * m + (c.toNat - 48) ≤ most) : numGo most (c :: r) m = numGo most r (10 * m + (c.toNat - 48)) := by
  rw [numGo, if_pos h]
theorem numGo_bad {most : Nat} {c : UInt8} {r : List UInt8} {m : Nat} (h : ¬ (48 ≤ c.toNat ∧ c.toNat ≤ 57 ∧ 10 * m + (c.toNat - 48) ≤ most)) : numGo most (c :: r) m = none := by
  rw [numGo, if_neg h]

set_option maxRecDepth 100000 in
theorem bytes_len (s : ByteArray) : s.data.toList.length = s.size := by rw [Array.length_toList]; rfl
theorem bytes_get (s : ByteArray) (k : Nat) (h : k < s.size) : ∃ c, s.data.toList[k]? = some c ∧ s[k]'h = c :=
  ⟨s[k]'h, by rw [List.getElem?_eq_getElem (by rw [bytes_len]; exact h)]; rfl, rfl⟩

set_option maxRecDepth 100000 in
set_option maxHeartbeats 1000000 in
theorem rnum_loop (s : ByteArray) (most : Nat) (hm : most < 4294967296) (hs : s.size ≤ 9223372036854775807) (w : World) (h0 : s.toList.isEmpty = false) (h1 : 0 < s.size) (hz : 1 < s.size → ∃ c, s[0]'h1 = c ∧ ((c.toNat : Int) == 48) = false) :
    Calls Tryz.prog 62 #[.string s, .int .u32 (most : Int)] w fun e w' => e = .returned (numV (numGo most s.data.toList 0)) ∧ w = w' := by
  by_cases h2 : 1 < s.size
  · obtain ⟨c, hc, hne⟩ := hz h2
    clear hz
    go_enter Tryz.func62, Tryz.ntmps62
    go_wp2_with fail
    clear hc hne h0
    go_loopw [6, 7] (fun n i wr => ∃ (k m : Nat), k ≤ s.size ∧ i = .int .i64 k ∧ n = .int .u64 (m : Int) ∧ w = wr ∧ m ≤ most ∧ Hid (numGo most (s.data.toList.drop k) m = numGo most s.data.toList 0)) (fun _ i _ => s.size - (intOf i).toNat)
    case atStart => exact ⟨0, 0, Nat.zero_le _, rfl, rfl, by trivial, Nat.zero_le _, rfl⟩
    case round =>
      obtain ⟨k, m, hk, rfl, rfl, rfl, hmm, hgo⟩ := hrel
      by_cases hlt : k < s.size
      · have _ := hlt
        obtain ⟨c, hc1, hc2⟩ := bytes_get s k hlt
        have hd : s.data.toList.drop k = c :: s.data.toList.drop (k + 1) := by
          rw [List.drop_eq_getElem_cons (by rw [bytes_len]; exact hlt)]
          first
          | done
          | rw [(List.getElem?_eq_some_iff.1 hc1).2]
        have hg := hgo.out
        rw [hd] at hg
        have hc3 := c.toNat_lt
        clear hgo hd hc1
        by_cases hdig : 48 ≤ c.toNat ∧ c.toNat ≤ 57
        · by_cases hn : 10 * m + (c.toNat - 48) ≤ most
          · rw [numGo_ok ⟨hdig.1, hdig.2, hn⟩] at hg
            have HG := Lib.hid hg
            clear hg
            have d1 : ¬ ((c.toNat : Int) < 48) := by omega
            have d2 : ¬ ((57 : Int) < (c.toNat : Int)) := by omega
            have d3 : ¬ ((most : Int) < 10 * (m : Int) + ((c.toNat : Int) - 48)) := by omega
            go_wp2_with fail
            go_roundw
            case rel => exact ⟨k + 1, 10 * m + (c.toNat - 48), by omega, by go_num, by congr 1; omega, by trivial, hn, HG.out⟩
            case measure => simp [intOf]; omega
          · rw [numGo_bad (fun h => hn h.2.2)] at hg
            have HG := Lib.hid hg
            clear hg
            have d1 : ¬ ((c.toNat : Int) < 48) := by omega
            have d2 : ¬ ((57 : Int) < (c.toNat : Int)) := by omega
            have d3 : (most : Int) < 10 * (m : Int) + ((c.toNat : Int) - 48) := by omega
            go_wp2_with fail
            go_ret2
            exact ⟨by rw [← HG.out]; rfl, rfl⟩
        · rw [numGo_bad (fun h => hdig ⟨h.1, h.2.1⟩)] at hg
          have HG := Lib.hid hg
          clear hg
          go_wp2_with fail
          all_goals first
            | (exfalso; omega)
            | (go_ret2; exact ⟨by rw [← HG.out]; rfl, rfl⟩)
      · go_wp2_with fail
        go_ret2
        have := hgo.out
        rw [List.drop_eq_nil_of_le (by rw [bytes_len]; omega)] at this
        refine ⟨?_, rfl⟩
        rw [← this]
        rfl
  · clear hz
    go_enter Tryz.func62, Tryz.ntmps62
    go_wp2_with fail
    clear h0
    go_loopw [6, 7] (fun n i wr => ∃ (k m : Nat), k ≤ s.size ∧ i = .int .i64 k ∧ n = .int .u64 (m : Int) ∧ w = wr ∧ m ≤ most ∧ Hid (numGo most (s.data.toList.drop k) m = numGo most s.data.toList 0)) (fun _ i _ => s.size - (intOf i).toNat)
    case atStart => exact ⟨0, 0, Nat.zero_le _, rfl, rfl, by trivial, Nat.zero_le _, rfl⟩
    case round =>
      obtain ⟨k, m, hk, rfl, rfl, rfl, hmm, hgo⟩ := hrel
      by_cases hlt : k < s.size
      · have _ := hlt
        obtain ⟨c, hc1, hc2⟩ := bytes_get s k hlt
        have hd : s.data.toList.drop k = c :: s.data.toList.drop (k + 1) := by
          rw [List.drop_eq_getElem_cons (by rw [bytes_len]; exact hlt)]
          first
          | done
          | rw [(List.getElem?_eq_some_iff.1 hc1).2]
        have hg := hgo.out
        rw [hd] at hg
        have hc3 := c.toNat_lt
        clear hgo hd hc1
        by_cases hdig : 48 ≤ c.toNat ∧ c.toNat ≤ 57
        · by_cases hn : 10 * m + (c.toNat - 48) ≤ most
          · rw [numGo_ok ⟨hdig.1, hdig.2, hn⟩] at hg
            have HG := Lib.hid hg
            clear hg
            have d1 : ¬ ((c.toNat : Int) < 48) := by omega
            have d2 : ¬ ((57 : Int) < (c.toNat : Int)) := by omega
            have d3 : ¬ ((most : Int) < 10 * (m : Int) + ((c.toNat : Int) - 48)) := by omega
            go_wp2_with fail
            go_roundw
            case rel => exact ⟨k + 1, 10 * m + (c.toNat - 48), by omega, by go_num, by congr 1; omega, by trivial, hn, HG.out⟩
            case measure => simp [intOf]; omega
          · rw [numGo_bad (fun h => hn h.2.2)] at hg
            have HG := Lib.hid hg
            clear hg
            have d1 : ¬ ((c.toNat : Int) < 48) := by omega
            have d2 : ¬ ((57 : Int) < (c.toNat : Int)) := by omega
            have d3 : (most : Int) < 10 * (m : Int) + ((c.toNat : Int) - 48) := by omega
            go_wp2_with fail
            go_ret2
            exact ⟨by rw [← HG.out]; rfl, rfl⟩
        · rw [numGo_bad (fun h => hdig ⟨h.1, h.2.1⟩)] at hg
          have HG := Lib.hid hg
          clear hg
          go_wp2_with fail
          all_goals first
            | (exfalso; omega)
            | (go_ret2; exact ⟨by rw [← HG.out]; rfl, rfl⟩)
      · go_wp2_with fail
        go_ret2
        have := hgo.out
        rw [List.drop_eq_nil_of_le (by rw [bytes_len]; omega)] at this
        refine ⟨?_, rfl⟩
        rw [← this]
        rfl

theorem toList_cons (s : ByteArray) (h : 0 < s.size) : s.toList.isEmpty = false := by
  have hl : s.toList = s.data.toList := Go.ByteArray.toList_eq s
  rw [hl]
  cases hd : s.data.toList with
  | nil => have := bytes_len s; rw [hd] at this; simp at this; omega
  | cons a l => rfl

set_option maxRecDepth 100000 in
set_option maxHeartbeats 1000000 in
theorem rnum_any (s : ByteArray) (most : Nat) (hm : most < 4294967296) (hs : s.size ≤ 9223372036854775807) (w : World) :
    Calls Tryz.prog 62 #[.string s, .int .u32 (most : Int)] w fun e w' => e = .returned (numV (numOf s.data.toList most)) ∧ w = w' := by
  by_cases h0 : s.size = 0
  · have he : s = ⟨#[]⟩ := by
      obtain ⟨a⟩ := s
      have : a.size = 0 := h0
      rw [Array.eq_empty_of_size_eq_zero this]
    subst he
    go_enter Tryz.func62, Tryz.ntmps62
    go_wp2_with fail
    go_ret2
    exact ⟨rfl, rfl⟩
  · have h1 : 0 < s.size := by omega
    obtain ⟨c, hc1, hc2⟩ := bytes_get s 0 h1
    have hne : s.data.toList ≠ [] := fun e => by rw [e] at hc1; simp at hc1
    have hh : s.data.toList.head? = some c := by rw [List.head?_eq_getElem?, hc1]
    have hemp := toList_cons s h1
    by_cases hz : 1 < s.size ∧ c = 48
    · have hv : numOf s.data.toList most = none := by
        unfold numOf
        rw [if_pos (Or.inr ⟨by rw [bytes_len]; exact hz.1, by rw [hh, hz.2]⟩)]
      have HV := Lib.hid hv
      obtain ⟨h2, rfl⟩ := hz
      clear hv hh hne hc1
      go_enter Tryz.func62, Tryz.ntmps62
      go_wp2_with fail
      go_ret2
      exact ⟨by rw [HV.out]; rfl, rfl⟩
    · have hv : numOf s.data.toList most = numGo most s.data.toList 0 := by
        unfold numOf
        rw [if_neg]
        rintro (e | ⟨e1, e2⟩)
        · exact hne e
        · rw [hh] at e2; exact hz ⟨by rw [bytes_len] at e1; exact e1, by simpa using e2⟩
      rw [hv]
      refine rnum_loop s most hm hs w hemp h1 (fun h2 => ⟨c, hc2, ?_⟩)
      rw [beq_eq_false_iff_ne]
      intro e
      exact hz ⟨h2, UInt8.toNat_inj.1 (by have : c.toNat = 48 := by omega
                                          exact this)⟩
end Go.Proofs.YtbkpbcmjgbdbkaaGreatDoor

/-! D2 -/
namespace Go.Proofs.YtbkpbcmjgbdbkaaGreatDoor
open Go.RowKit
set_option linter.unusedVariables false
set_option linter.unusedSimpArgs false

theorem numOf_go {s : ByteArray} {most : Nat} {c0 : UInt8} (h1 : 0 < s.size) (h : s.data.toList.head? = some c0) (hz : 1 < s.size → c0 ≠ 48) : numOf s.data.toList most = numGo most s.data.toList 0 := by
  unfold numOf
  rw [if_neg]
  rintro (e | ⟨e1, e2⟩)
  · rw [e] at h; cases h
  · rw [h] at e2
    rw [bytes_len] at e1
    exact hz e1 (by simpa using e2)
theorem numOf_nought {s : ByteArray} {most : Nat} (h : s.data.toList.head? = some 48) (h1 : 1 < s.size) : numOf s.data.toList most = none := by
  unfold numOf
  rw [if_pos (Or.inr ⟨by rw [bytes_len]; exact h1, h⟩)]

theorem numOf_none {l : List UInt8} {most : Nat} (h : numGo most l 0 = none) : numOf l most = none := by
  unfold numOf
  split
  · rfl
  · exact h

set_option maxRecDepth 100000 in
set_option maxHeartbeats 2000000 in
theorem pnum_some (s : ByteArray) (most : Nat) (hm : most < 4294967296) (hs : s.size ≤ 9223372036854775807) (w : World) (h1 : 0 < s.size) (c0 : UInt8) (hc0 : s[0]'h1 = c0) (hh : s.data.toList.head? = some c0) :
    Calls Tryz.prog 100 #[.string s, .int .u32 (most : Int)] w fun e w' => e = .returned (numV (numOf s.data.toList most)) ∧ ∃ p, w' = w.iter s p := by
  have hemp := toList_cons s h1
  have HH := Lib.hid hh
  clear hh
  go_enter Tryz.func100, Tryz.ntmps100
  go_wp2_with fail
  go_loopw [6] (fun n wr => ∃ (k m : Nat), k ≤ s.size ∧ n = .int .u64 (m : Int) ∧ wr = w.iter s k ∧ m ≤ most ∧ Hid (numGo most (s.data.toList.drop k) m = numGo most s.data.toList 0) ∧ Hid (2 ≤ k → c0 ≠ 48)) (fun _ wr => s.size - wr.iterPos w.heap.size)
  case atStart => exact ⟨0, 0, Nat.zero_le _, rfl, rfl, Nat.zero_le _, rfl, fun h => by omega⟩
  case round =>
    obtain ⟨k, m, hk, rfl, rfl, hmm, hgo, hz⟩ := hrel
    by_cases hlt : k < s.size
    · obtain ⟨c, hc1, hc2⟩ := bytes_get s k hlt
      have hd : s.data.toList.drop k = c :: s.data.toList.drop (k + 1) := by
        rw [List.drop_eq_getElem_cons (by rw [bytes_len]; exact hlt)]
        first
        | done
        | rw [(List.getElem?_eq_some_iff.1 hc1).2]
      have hg := hgo.out
      rw [hd] at hg
      have hc3 := c.toNat_lt
      have hk0 : k = 0 → c = c0 := fun e => by subst e; rw [← hc2, hc0]
      clear hgo hd hc1
      by_cases hz1 : k = 1 ∧ c0 = 48
      · obtain ⟨rfl, rfl⟩ := hz1
        have HV := Lib.hid (numOf_nought HH.out hlt (most := most))
        clear hg hz hk0
        have hnx : ∀ ty, (Instr.next (.pointer (some ⟨w.heap.size, 0, none⟩)) true ty).run Tryz.prog (w.iter s 1) = _ := fun ty => run_next_any w s 1 ty hlt
        go_wp2_with fail
        all_goals first
          | (exfalso; omega)
          | (go_ret2; exact ⟨by rw [HV.out]; rfl, _, rfl⟩)
      · by_cases ha : c.toNat < 128
        · have hdec := decode_ascii s k hlt (by rw [hc2]; exact ha)
          rw [hc2] at hdec
          have hnx : ∀ ty, (Instr.next (.pointer (some ⟨w.heap.size, 0, none⟩)) true ty).run Tryz.prog (w.iter s k) = _ := fun ty => run_next_any w s k ty hlt
          rw [hdec] at hnx
          clear hdec
          have hz2 : 1 < s.size → c0 ≠ 48 ∨ k = 0 := fun h => by
            by_cases h1 : k = 1
            · exact Or.inl (fun e => hz1 ⟨h1, e⟩)
            · by_cases h0 : k = 0
              · exact Or.inr h0
              · exact Or.inl (hz.out (by omega))
          have HZ := Lib.hid (And.intro hz.out (And.intro hz2 hk0))
          clear hz hz2 hk0
          have hn1 : k = 1 → ((c0.toNat : Int) == 48) = false := fun e => by
            rw [beq_eq_false_iff_ne]; intro h
            have h48 : (48 : UInt8).toNat = 48 := rfl
            exact hz1 ⟨e, UInt8.toNat_inj.1 (by omega)⟩
          have hk1 : (((k : Int) == 1) = true ∧ ((c0.toNat : Int) == 48) = false) ∨ ((k : Int) == 1) = false := by
            by_cases e : k = 1
            · exact Or.inl ⟨by rw [beq_iff_eq]; omega, hn1 e⟩
            · exact Or.inr (by rw [beq_eq_false_iff_ne]; omega)
          clear hn1
          by_cases hdig : 48 ≤ c.toNat ∧ c.toNat ≤ 57
          · have d1 : ¬ ((c.toNat : Int) < 48) := by omega
            have d2 : ¬ ((57 : Int) < (c.toNat : Int)) := by omega
            by_cases hn : 10 * m + (c.toNat - 48) ≤ most
            · rw [numGo_ok ⟨hdig.1, hdig.2, hn⟩] at hg
              have HG := Lib.hid hg
              clear hg
              have d3 : ¬ ((most : Int) < 10 * (m : Int) + ((c.toNat : Int) - 48)) := by omega
              rcases hk1 with ⟨k1, k2⟩ | k1
              all_goals
                go_wp2_with fail
                go_roundw
                case rel => exact ⟨k + 1, 10 * m + (c.toNat - 48), by omega, by congr 1; omega, rfl, hn, HG.out, fun h => by rcases HZ.out.2.1 (by omega) with q | q; exact q; omega⟩
                case measure => simp; omega
            · rw [numGo_bad (fun h => hn h.2.2)] at hg
              have HG := Lib.hid (numOf_none hg.symm)
              clear hg
              have d3 : (most : Int) < 10 * (m : Int) + ((c.toNat : Int) - 48) := by omega
              rcases hk1 with ⟨k1, k2⟩ | k1
              all_goals
                go_wp2_with fail
                go_ret2
                exact ⟨by rw [HG.out]; rfl, _, rfl⟩
          · rw [numGo_bad (fun h => hdig ⟨h.1, h.2.1⟩)] at hg
            have HG := Lib.hid (numOf_none hg.symm)
            clear hg
            rcases hk1 with ⟨k1, k2⟩ | k1
            all_goals
              go_wp2_with fail
              all_goals first
                | (exfalso; omega)
                | (go_ret2; exact ⟨by rw [HG.out]; rfl, _, rfl⟩)
        · rw [numGo_bad (fun h => by omega)] at hg
          have HG := Lib.hid (numOf_none hg.symm)
          clear hg hz hk0
          have hdec := decode_high s k hlt (by rw [hc2]; omega)
          have hle := decode_le s k
          have hnx : ∀ ty, (Instr.next (.pointer (some ⟨w.heap.size, 0, none⟩)) true ty).run Tryz.prog (w.iter s k) = _ := fun ty => run_next_any w s k ty hlt
          generalize Utf8.decode s k = dd at *
          obtain ⟨x, y⟩ := dd
          have hdec1 : 128 ≤ x := hdec.1
          have hle1 : x ≤ 2147483647 := hle
          clear hdec hle
          have d1 : ¬ ((x : Int) < 48) := by omega
          have d2 : (57 : Int) < (x : Int) := by omega
          go_wp2_with fail
          all_goals first
            | (exfalso; omega)
            | (go_ret2; exact ⟨by rw [HG.out]; rfl, _, rfl⟩)
    · have hnx : ∀ ty, (Instr.next (.pointer (some ⟨w.heap.size, 0, none⟩)) true ty).run Tryz.prog (w.iter s k) = _ := fun ty => run_next_end w s k ty hlt
      go_wp2_with fail
      go_ret2
      have := hgo.out
      rw [List.drop_eq_nil_of_le (by rw [bytes_len]; omega)] at this
      refine ⟨?_, _, rfl⟩
      rw [numOf_go h1 HH.out (fun h => hz.out (by omega)), ← this]
      rfl

set_option maxRecDepth 100000 in
set_option maxHeartbeats 1000000 in
theorem pnum_any (s : ByteArray) (most : Nat) (hm : most < 4294967296) (hs : s.size ≤ 9223372036854775807) (w : World) :
    Calls Tryz.prog 100 #[.string s, .int .u32 (most : Int)] w fun e w' => e = .returned (numV (numOf s.data.toList most)) ∧ ∃ p, w' = w.iter s p := by
  by_cases h0 : s.size = 0
  · have he : s = ⟨#[]⟩ := by
      obtain ⟨a⟩ := s
      have : a.size = 0 := h0
      rw [Array.eq_empty_of_size_eq_zero this]
    subst he
    have hnx : ∀ ty, (Instr.next (.pointer (some ⟨w.heap.size, 0, none⟩)) true ty).run Tryz.prog (w.iter ⟨#[]⟩ 0) = _ := fun ty => run_next_end w ⟨#[]⟩ 0 ty (by decide)
    go_enter Tryz.func100, Tryz.ntmps100
    go_wp2_with fail
    refine wp_loop_rounds 1 ?_; rw [rounds_succ]
    go_wp2_with fail
    go_ret2
    exact ⟨rfl, _, rfl⟩
  · have h1 : 0 < s.size := by omega
    obtain ⟨c, hc1, hc2⟩ := bytes_get s 0 h1
    exact pnum_some s most hm hs w h1 c hc2 (by rw [List.head?_eq_getElem?, hc1])
end Go.Proofs.YtbkpbcmjgbdbkaaGreatDoor

/-! D3 -/
namespace Go.Proofs.YtbkpbcmjgbdbkaaGreatDoor
open Go.RowKit
set_option linter.unusedVariables false
set_option linter.unusedSimpArgs false

/-- A number's text. -/
def decL (n : Nat) : List UInt8 := if h : n < 10 then [UInt8.ofNat (48 + n)] else decL (n / 10) ++ [UInt8.ofNat (48 + n % 10)]
  termination_by n
theorem decL_one {n : Nat} (h : n < 10) : decL n = [UInt8.ofNat (48 + n)] := by rw [decL, dif_pos h]
theorem decL_more {n : Nat} (h : ¬ n < 10) : decL n = decL (n / 10) ++ [UInt8.ofNat (48 + n % 10)] := by rw [decL, dif_neg h]

set_option maxRecDepth 100000 in
set_option maxHeartbeats 1000000 in
theorem dec_one (n : Nat) (h : n < 10) (w : World) : Calls Tryz.prog 43 #[.int .u64 (n : Int)] w fun e w' => e = .returned (.string ⟨(decL n).toArray⟩) ∧ w = w' := by
  rw [decL_one h]
  rcases n with _ | _ | _ | _ | _ | _ | _ | _ | _ | _ | n
  case succ.succ.succ.succ.succ.succ.succ.succ.succ.succ => omega
  all_goals
    go_enter Tryz.func43, Tryz.ntmps43
    go_wp2_with fail
    go_ret
    exact ⟨rfl, rfl⟩

theorem decL_len (n : Nat) : (decL n).length ≤ n + 1 := by
  induction n using Nat.strongRecOn with
  | _ n ih =>
    by_cases h : n < 10
    · rw [decL_one h]; simp
    · rw [decL_more h]
      have := ih (n / 10) (by omega)
      simp only [List.length_append, List.length_singleton]
      omega

set_option maxRecDepth 100000 in
set_option maxHeartbeats 1000000 in
theorem dec_any (n : Nat) (hn : n < 4294967296) : ∀ w : World, Calls Tryz.prog 43 #[.int .u64 (n : Int)] w fun e w' => e = .returned (.string ⟨(decL n).toArray⟩) ∧ w = w' := by
  induction n using Nat.strongRecOn with
  | _ n ih =>
    intro w
    by_cases h : n < 10
    · exact dec_one n h w
    · have c1 := ih (n / 10) (by omega) (by omega)
      have c2 := dec_one (n % 10) (by omega)
      rw [decL_one (show n % 10 < 10 by omega)] at c2
      have hm := decL_more h
      have q1 : ((n / 10 : Nat) : Int) = (n : Int) / 10 := by omega
      have q2 : ((n % 10 : Nat) : Int) = (n : Int) % 10 := by omega
      rw [q1] at c1
      rw [q2] at c2
      have C := Lib.hid (And.intro c1 (And.intro c2 hm))
      have h' : ¬ ((n : Int) < 10) := by omega
      clear c1 c2 hm q1 q2 ih
      have hl := decL_len (n / 10)
      obtain ⟨A, hA⟩ : ∃ A : ByteArray, A = ⟨(decL (n / 10)).toArray⟩ := ⟨_, rfl⟩
      obtain ⟨D, hD⟩ : ∃ D : ByteArray, D = ⟨[UInt8.ofNat (48 + n % 10)].toArray⟩ := ⟨_, rfl⟩
      have hs1 : A.size ≤ 4294967296 := by rw [hA]; show (decL (n / 10)).toArray.size ≤ _; simp; omega
      have hs2 : D.size = 1 := by rw [hD]; rfl
      have hs3 : ¬ (A.size + D.size > 9223372036854775807) := by omega
      have hAD : (A ++ D : ByteArray) = ⟨(decL n).toArray⟩ := by rw [C.out.2.2, hA, hD]; exact ByteArray.ext (by rw [ByteArray.data_append]; simp only [List.append_toArray])
      have C1 := C.out.1
      have C2 := C.out.2.1
      rw [← hA] at C1
      rw [← hD] at C2
      have E := Lib.hid (And.intro C1 (And.intro C2 hAD))
      clear C C1 C2 hA hD hAD hl hs1 hs2
      go_enter Tryz.func43, Tryz.ntmps43
      go_wp2_with fail
      refine (E.out.1 _).mono ?_; rintro e w1 ⟨rfl, rfl⟩
      go_wp2_with fail
      refine (E.out.2.1 _).mono ?_; rintro e w1 ⟨rfl, rfl⟩
      go_wp2_with fail
      all_goals first
        | (exfalso; omega)
        | (go_ret; exact ⟨by rw [← E.out.2.2]; rfl, rfl⟩)
end Go.Proofs.YtbkpbcmjgbdbkaaGreatDoor

/-! D4 -/
namespace Go.Proofs.YtbkpbcmjgbdbkaaGreatDoor
open Go.RowKit Go.Lib
set_option linter.unusedVariables false
set_option linter.unusedSimpArgs false

def splitL (c : UInt8) : List UInt8 → List (List UInt8)
  | [] => [[]]
  | b :: l => if b = c then [] :: splitL c l else match splitL c l with
    | [] => [[b]]
    | p :: ps => (b :: p) :: ps
theorem splitL_ne (c : UInt8) (l : List UInt8) : splitL c l ≠ [] := by
  cases l with
  | nil => simp [splitL]
  | cons b l => unfold splitL; split; simp; split <;> simp
theorem splitL_miss {c : UInt8} {l : List UInt8} (h : c ∉ l) : splitL c l = [l] := by
  induction l with
  | nil => rfl
  | cons b l ih =>
    simp only [List.mem_cons, not_or] at h
    unfold splitL
    rw [if_neg (fun e => h.1 e.symm), ih h.2]
theorem splitL_hit {c : UInt8} {p q : List UInt8} (h : c ∉ p) : splitL c (p ++ c :: q) = p :: splitL c q := by
  induction p with
  | nil => simp [splitL]
  | cons b p ih =>
    simp only [List.mem_cons, not_or] at h
    have e1 : splitL c (b :: (p ++ c :: q)) = match splitL c (p ++ c :: q) with
      | [] => [[b]]
      | x :: xs => (b :: x) :: xs := by
      rw [splitL, if_neg (fun e => h.1 e.symm)]
    show splitL c (b :: (p ++ c :: q)) = _
    rw [e1, ih h.2]
theorem index_sign (c : UInt8) (l : List UInt8) : (index l [c] = -1 ∧ c ∉ l) ∨ ∃ p q, l = p ++ c :: q ∧ c ∉ p ∧ index l [c] = p.length := by
  induction l with
  | nil => exact Or.inl ⟨rfl, by simp⟩
  | cons b l ih =>
    by_cases hb : b = c
    · subst hb
      exact Or.inr ⟨[], l, rfl, by simp, by simp [index]⟩
    · have hp : ([c] : List UInt8).isPrefixOf (b :: l) = false := by simp [List.isPrefixOf]; exact fun e => hb e.symm
      rcases ih with ⟨h1, h2⟩ | ⟨p, q, h1, h2, h3⟩
      · refine Or.inl ⟨?_, by simp only [List.mem_cons, not_or]; exact ⟨fun e => hb e.symm, h2⟩⟩
        unfold index
        rw [hp, h1]; rfl
      · refine Or.inr ⟨b :: p, q, by rw [h1]; rfl, by simp only [List.mem_cons, not_or]; exact ⟨fun e => hb e.symm, h2⟩, ?_⟩
        unfold index
        rw [hp, h3]
        have : ¬ ((p.length : Int) == -1) = true := by rw [beq_iff_eq]; omega
        simp only [Bool.false_eq_true, if_false, this]
        simp
theorem splitK_sign (c : UInt8) (l : List UInt8) : splitK [c] 0 (count l [c]) l = splitL c l := by
  generalize hn : l.length = n
  induction n using Nat.strongRecOn generalizing l with
  | _ n ih =>
    rcases index_sign c l with ⟨h1, h2⟩ | ⟨p, q, rfl, h2, h3⟩
    · rw [count_miss h1, splitL_miss h2]; rfl
    · have e1 : (p ++ c :: q).drop (p.length + 1) = q := by
        rw [List.drop_append, List.drop_eq_nil_of_le (by omega)]; simp
      have hc := count_hit (s := p ++ c :: q) (sub := [c]) (by simp) h3
      simp only [List.length_singleton] at hc
      rw [e1] at hc
      rw [hc, Nat.add_comm, splitL_hit h2, ← ih q.length (by rw [← hn]; simp; omega) q rfl]
      have hm : ¬ (index (p ++ c :: q) [c] == -1) = true := by rw [beq_iff_eq, h3]; omega
      have ht : (p ++ c :: q).take p.length = p := by simp
      rw [splitK, if_neg hm, h3]
      simp only [Int.toNat_natCast, Nat.add_zero, List.length_singleton, e1, ht]
/-- What Split and parts leave: the parts of the text, as strings. -/
def partsOf (s : ByteArray) (c : UInt8) : List ByteArray := (splitL c s.data.toList).map fun l => ⟨l.toArray⟩
theorem split_parts (s : ByteArray) (c : UInt8) : splitB ⟨#[c]⟩ 0 (countB s ⟨#[c]⟩) s = partsOf s c := by
  have h := splitB_data ⟨#[c]⟩ 0 (countB s ⟨#[c]⟩) s
  have h2 : splitK [c] 0 (count s.data.toList [c]) s.data.toList = splitL c s.data.toList := splitK_sign c _
  have h3 : (splitB ⟨#[c]⟩ 0 (countB s ⟨#[c]⟩) s).map (·.data.toList) = splitL c s.data.toList := h.trans h2
  unfold partsOf
  rw [← h3, List.map_map]
  symm
  conv => rhs; rw [← List.map_id (splitB ⟨#[c]⟩ 0 (countB s ⟨#[c]⟩) s)]
  apply List.map_congr_left
  intro a _
  rfl
theorem split_len (s : ByteArray) (c : UInt8) : countB s ⟨#[c]⟩ + 1 = (partsOf s c).length := by
  unfold partsOf
  rw [List.length_map]
  generalize hn : s.data.toList.length = n
  have key : ∀ (n : Nat) (l : List UInt8), l.length = n → count l [c] + 1 = (splitL c l).length := by
    intro n
    induction n using Nat.strongRecOn with
    | _ n ih =>
      intro l hl
      rcases index_sign c l with ⟨h1, h2⟩ | ⟨p, q, rfl, h2, h3⟩
      · rw [count_miss h1, splitL_miss h2]; rfl
      · have e1 : (p ++ c :: q).drop (p.length + 1) = q := by
          rw [List.drop_append, List.drop_eq_nil_of_le (by omega)]; simp
        have hc := count_hit (s := p ++ c :: q) (sub := [c]) (by simp) h3
        simp only [List.length_singleton] at hc
        rw [e1] at hc
        rw [hc, splitL_hit h2, List.length_cons, ← ih q.length (by rw [← hl]; simp; omega) q rfl]
        omega
  exact key _ _ rfl
end Go.Proofs.YtbkpbcmjgbdbkaaGreatDoor

/-! D5 -/
namespace Go.Proofs.YtbkpbcmjgbdbkaaGreatDoor
open Go.RowKit Go.Lib
set_option linter.unusedVariables false
set_option linter.unusedSimpArgs false

/-- At place k, the part under way from place f, the parts that stand. -/
def PartsAt (c : UInt8) (l : List UInt8) (k f : Nat) (done : List (List UInt8)) : Prop :=
  (k ≤ l.length ∧ f ≤ k ∧ done ++ splitL c (l.drop f) = splitL c l ∧ c ∉ (l.drop f).take (k - f)) ∨ (k = l.length + 1 ∧ f = l.length + 1 ∧ done = splitL c l)
theorem PartsAt.start (c : UInt8) (l : List UInt8) : PartsAt c l 0 0 [] := Or.inl ⟨Nat.zero_le _, Nat.le_refl _, rfl, by simp⟩
theorem drop_part {c : UInt8} {l : List UInt8} {k f : Nat} (hk : k < l.length) (hf : f ≤ k) (hc : l[k]? = some c) : l.drop f = (l.drop f).take (k - f) ++ c :: l.drop (k + 1) := by
  have e1 : (l.drop f).drop (k - f) = c :: l.drop (k + 1) := by
    rw [List.drop_drop, show f + (k - f) = k by omega, List.drop_eq_getElem_cons hk, (List.getElem?_eq_some_iff.1 hc).2]
  rw [← e1, List.take_append_drop]
theorem PartsAt.hit {c : UInt8} {l : List UInt8} {k f : Nat} {done : List (List UInt8)} (h : PartsAt c l k f done) (hk : k < l.length) (hc : l[k]? = some c) :
    PartsAt c l (k + 1) (k + 1) (done ++ [(l.drop f).take (k - f)]) := by
  rcases h with ⟨_, h2, h3, h4⟩ | ⟨h1, _⟩
  · refine Or.inl ⟨by omega, Nat.le_refl _, ?_, by simp⟩
    rw [← h3, List.append_assoc]
    congr 1
    have e := drop_part hk h2 hc
    have e2 := splitL_hit (q := l.drop (k + 1)) h4
    rw [← e] at e2
    rw [e2]; rfl
  · omega
theorem PartsAt.miss {c b : UInt8} {l : List UInt8} {k f : Nat} {done : List (List UInt8)} (h : PartsAt c l k f done) (hk : k < l.length) (hc : l[k]? = some b) (hb : b ≠ c) : PartsAt c l (k + 1) f done := by
  rcases h with ⟨_, h2, h3, h4⟩ | ⟨h1, _⟩
  · refine Or.inl ⟨by omega, by omega, h3, ?_⟩
    rw [show k + 1 - f = (k - f) + 1 by omega, List.take_add_one, List.getElem?_drop, show f + (k - f) = k by omega, hc]
    simp only [Option.toList_some, List.mem_append, List.mem_singleton, not_or]
    exact ⟨h4, fun e => hb e.symm⟩
  · omega
theorem PartsAt.last {c : UInt8} {l : List UInt8} {f : Nat} {done : List (List UInt8)} (h : PartsAt c l l.length f done) : PartsAt c l (l.length + 1) (l.length + 1) (done ++ [(l.drop f).take (l.length - f)]) := by
  rcases h with ⟨_, h2, h3, h4⟩ | ⟨h1, _⟩
  · have e : (l.drop f).take (l.length - f) = l.drop f := List.take_of_length_le (by simp)
    rw [e] at h4 ⊢
    exact Or.inr ⟨rfl, rfl, by rw [← h3, splitL_miss h4]⟩
  · omega
end Go.Proofs.YtbkpbcmjgbdbkaaGreatDoor

/-! D6 -/
namespace Go.Proofs.YtbkpbcmjgbdbkaaGreatDoor
open Go.RowKit Go.Lib
set_option linter.unusedVariables false
set_option linter.unusedSimpArgs false

theorem info9 : (Tryz.prog.info? 9).map (fun i => (i.zero, i.size, i.bytes)) = some (some (.string ⟨#[]⟩), 1, 16) := by kernel_rfl
def strCells (L : List (List UInt8)) : List Value := L.map fun l => .string ⟨l.toArray⟩
theorem strCells_snoc (L : List (List UInt8)) (l : List UInt8) : strCells (L ++ [l]) = strCells L ++ [.string ⟨l.toArray⟩] := by simp [strCells]
theorem own_snoc {w : World} {base : Nat} {v : Value} {done : List (List UInt8)} {s : ByteArray} {f k : Nat} (h : w.ownsRow base 9 1 v (done.length + 1) (strCells done ++ [.string (s.extract f k)])) :
    w.ownsRow base 9 1 v (done ++ [(s.data.toList.drop f).take (k - f)]).length (strCells (done ++ [(s.data.toList.drop f).take (k - f)])) := by
  have e : s.extract f k = ⟨((s.data.toList.drop f).take (k - f)).toArray⟩ := by
    apply ByteArray.ext
    apply Array.ext'
    rw [ByteArray.data_extract, Array.toList_extract]
  rw [List.length_append, List.length_singleton, strCells_snoc, ← e]
  exact h
theorem ownsRow_turn {w w' : World} {base : Nat} {e : TypeId} {size : Nat} {v : Value} {n : Nat} {xs : List Value} {F : Nat → Prop} (h : w.ownsRow base e size v n xs) (t : Turn F w w') (hF : ∀ g, v.ownBlock = some g → ¬ F g) : w'.ownsRow base e size v n xs := by
  obtain ⟨h1, h2 | ⟨g, cap, cur, rfl, h3, h4, h5⟩⟩ := h
  · exact ⟨h1, Or.inl h2⟩
  · exact ⟨h1, Or.inr ⟨g, cap, cur, rfl, h3, (t.block g (block_lt h4) (hF g rfl)).trans h4, h5⟩⟩
theorem turn_of_grown {w w' : World} {row : Option Nat} (h : w.grownBy w' row) : Turn (fun k => row = some k) w w' :=
  ⟨h.os, h.tape, h.output, h.size, fun k hk hne => h.block k hk (fun e => hne e.symm)⟩
theorem extract_part (s : ByteArray) (f k : Nat) : s.extract f k = ⟨((s.data.toList.drop f).take (k - f)).toArray⟩ := by
  apply ByteArray.ext
  apply Array.ext'
  rw [ByteArray.data_extract, Array.toList_extract]

/-- What parts leaves: the parts, in an array of its own. -/
def PartsPost (s : ByteArray) (c : UInt8) (w : World) (e : Ending) (w' : World) : Prop :=
  ∃ g cap, e = .returned (.slice (some ⟨g, 0, none⟩) (partsOf s c).length cap) ∧ (∀ i (p : ByteArray), (partsOf s c)[i]? = some p → w'.cell? ⟨g, i, none⟩ = some (.string p)) ∧ g < w'.heap.size ∧ Turn (fun _ => False) w w'

theorem parts_shut {s : ByteArray} {c : UInt8} {w wr : World} {v : Value} {done : List (List UInt8)} (hd : done = splitL c s.data.toList) (h : wr.ownsRow w.heap.size 9 1 v done.length (strCells done)) (ht : Turn (fun _ => False) w wr) :
    PartsPost s c w (.returned v) wr := by
  have hl : done.length = (partsOf s c).length := by rw [hd]; simp [partsOf]
  have hne : 0 < done.length := by rw [hd]; exact List.length_pos_iff.2 (splitL_ne _ _)
  have hc : strCells done = (partsOf s c).map Value.string := by rw [hd]; simp [strCells, partsOf]
  obtain ⟨g, cap, rfl, _, hg⟩ := World.ownsRow.form h hne
  refine ⟨g, cap, by rw [hl], fun i p hp => ?_, hg, ht⟩
  have hi : i < (partsOf s c).length := (List.getElem?_eq_some_iff.1 hp).1
  rw [h.cellAt i (by omega), hc, List.getElem?_map, hp]
  rfl

set_option maxRecDepth 100000 in
set_option maxHeartbeats 2000000 in
theorem parts_any (s : ByteArray) (c : UInt8) (hs : s.size ≤ 1000000) (w : World) :
    Calls Tryz.prog 90 #[.string s, .int .u8 (c.toNat : Int)] w (PartsPost s c w) := by
  obtain ⟨i0, hi, hz0, hz1, hz2⟩ := info_parts info9
  have hlen := bytes_len s
  go_enter Tryz.func90, Tryz.ntmps90
  go_wp2_with fail
  go_loopg [5, 6, 7] (s.size + 1) (fun g v f i wr => ∃ (k fr : Nat) (done : List (List UInt8)), g = s.size + 1 - k ∧ k ≤ s.size + 1 ∧ fr ≤ k ∧ f = .int .i64 fr ∧ i = .int .i64 k ∧ wr.ownsRow w.heap.size 9 1 v done.length (strCells done) ∧ done.length ≤ k ∧ Turn (fun _ => False) w wr ∧ Hid (PartsAt c s.data.toList k fr done))
  case atStart => exact ⟨0, 0, [], rfl, Nat.zero_le _, Nat.le_refl _, rfl, rfl, World.ownsRow_nil _ _ _ _, Nat.zero_le _, Turn.refl _ _, PartsAt.start _ _⟩
  case round =>
    obtain ⟨k, fr, done, rfl, hk, hfr, rfl, rfl, hown, hdl, ht, hP⟩ := hrel
    by_cases hlt : k < s.size
    · obtain ⟨b, hb1, hb2⟩ := bytes_get s k hlt
      by_cases hb : b = c
      · have hbe : c = b := hb.symm
        subst hbe
        have hP' : PartsAt c s.data.toList (k + 1) (k + 1) (done ++ [(s.data.toList.drop fr).take (k - fr)]) := (hP.out).hit (by rw [hlen]; exact hlt) hb1
        have hp2 := extract_part s fr k
        have HH := Lib.hid (And.intro hP' (And.intro hp2 (And.intro ht hown)))
        have o5 := hown.alloc (.cells #[.string (s.extract fr k)] 9)
        have hf1 : (0 : Int) ≤ (fr : Int) := by omega
        have hf2 : (fr : Int) ≤ (k : Int) := by omega
        clear hP hP' hp2 hown
        go_wp2_with (at_builtin; refine wpList_append_own_at _ rfl _ _ 54 rfl w.heap.size 9 i0 (.string ⟨#[]⟩) 1 16 Tryz.underlying54 hi hz0 hz1 hz2 rfl (by decide) u5 _ _ rfl o5 ⟨wr.heap.size, 0, none⟩ 1 1 [.string (s.extract fr k)] rfl rfl ?c1 ?c2 ?c3 ?c4 ?c5 ?_)
        case c2 => first | rfl | (intro u hu; simp at hu; rw [hu]; rfl)
        case c3 => unfold maxLen; omega
        case c4 => omega
        case c5 => have := ht.size; simp; omega
        intro v' w' hown' hgrow _ _
        have t2 : Turn (fun _ => False) w w' := (ht.alloc _).trans2 (turn_of_grown hgrow) (fun i hi e => by have := (o5.lt i e).1; omega)
        have hown2 := own_snoc hown'
        clear hgrow o5 ht hown'
        go_wp2_with fail
        go_roundg (s.size + 1 - (k + 1))
        case measure => omega
        case rel => exact ⟨k + 1, k + 1, _, rfl, by omega, by omega, by go_num, by go_num, hown2, by simp only [List.length_append, List.length_singleton]; omega, t2, HH.out.1⟩
      · have hP' := (hP.out).miss (by rw [hlen]; exact hlt) hb1 hb
        have hbc : ((b.toNat : Int) == (c.toNat : Int)) = false := by
          rw [beq_eq_false_iff_ne]; intro e; exact hb (UInt8.toNat_inj.1 (by omega))
        have hks : ((k : Int) == (s.size : Int)) = false := by rw [beq_eq_false_iff_ne]; omega
        have HH := Lib.hid hP'
        clear hP hP'
        go_wp2_with fail
        go_roundg (s.size + 1 - (k + 1))
        case measure => omega
        case rel => exact ⟨k + 1, fr, done, rfl, by omega, by omega, rfl, by go_num, hown, by omega, ht, HH.out⟩
    · by_cases hke : k = s.size
      · subst hke
        have hP' := hP.out
        rw [← hlen] at hP'
        have hP2 := hP'.last
        rw [hlen] at hP2
        have HH := Lib.hid (And.intro hP2 ht)
        have o5 := hown.alloc (.cells #[.string (s.extract fr s.size)] 9)
        have hf1 : (0 : Int) ≤ (fr : Int) := by omega
        have hf2 : (fr : Int) ≤ (s.size : Int) := by omega
        clear hP hP' hP2 hown hlen
        go_wp2_with (at_builtin; refine wpList_append_own_at _ rfl _ _ 54 rfl w.heap.size 9 i0 (.string ⟨#[]⟩) 1 16 Tryz.underlying54 hi hz0 hz1 hz2 rfl (by decide) u5 _ _ rfl o5 ⟨wr.heap.size, 0, none⟩ 1 1 [.string (s.extract fr s.size)] rfl rfl ?e1 ?e2 ?e3 ?e4 ?e5 ?_)
        case e1 => exact cell_one_new _ _ _
        case e2 => first | rfl | (intro u hu; simp at hu; rw [hu]; rfl)
        case e3 => unfold maxLen; omega
        case e4 => omega
        case e5 => have := ht.size; simp; omega
        intro v' w' hown' hgrow _ _
        have t2 : Turn (fun _ => False) w w' := (ht.alloc _).trans2 (turn_of_grown hgrow) (fun i hi e => by have := (o5.lt i e).1; omega)
        have hown2 := own_snoc hown'
        clear hgrow o5 ht hown'
        go_wp2_with fail
        go_roundg 0
        case measure => omega
        case rel => exact ⟨s.size + 1, s.size + 1, _, by omega, by omega, by omega, by go_num, by go_num, hown2, by simp only [List.length_append, List.length_singleton]; omega, t2, HH.out.1⟩
      · obtain rfl : k = s.size + 1 := by omega
        have hd : done = splitL c s.data.toList := by
          rcases hP.out with ⟨h1, _⟩ | ⟨_, _, h⟩
          · omega
          · exact h
        have hex := parts_shut hd hown ht
        have HEX := Lib.hid hex
        clear hP hd hex hown ht
        go_wp2_with fail
        go_ret
        exact HEX.out
end Go.Proofs.YtbkpbcmjgbdbkaaGreatDoor

/-! D7 -/
namespace Go.Proofs.YtbkpbcmjgbdbkaaGreatDoor
open Go.RowKit Go.Lib
set_option linter.unusedVariables false
set_option linter.unusedSimpArgs false

/-! ### numbers -/
theorem byte_of {c : UInt8} {n : Nat} (h : c.toNat = n) : c = UInt8.ofNat n := by
  apply UInt8.toNat_inj.1
  have := c.toNat_lt
  rw [UInt8.toNat_ofNat', h]
  omega
theorem byte_nat {n : Nat} (h : n < 256) : (UInt8.ofNat n).toNat = n := by
  rw [UInt8.toNat_ofNat']; omega
theorem numGo_append (most : Nat) (l r : List UInt8) (m : Nat) : numGo most (l ++ r) m = (numGo most l m).bind (numGo most r) := by
  induction l generalizing m with
  | nil => rfl
  | cons c l ih =>
    rw [List.cons_append]
    unfold numGo
    split
    · exact ih _
    · rfl
theorem numGo_one (most m d : Nat) (hd : d < 10) : numGo most [UInt8.ofNat (48 + d)] m = if 10 * m + d ≤ most then some (10 * m + d) else none := by
  have e := byte_nat (show 48 + d < 256 by omega)
  unfold numGo
  rw [e, show 48 + d - 48 = d by omega]
  by_cases h : 10 * m + d ≤ most
  · rw [if_pos ⟨by omega, by omega, h⟩, if_pos h]; rfl
  · rw [if_neg (fun q => h q.2.2), if_neg h]
theorem numGo_dec (most n : Nat) : numGo most (decL n) 0 = if n ≤ most then some n else none := by
  induction n using Nat.strongRecOn with
  | _ n ih =>
    by_cases h : n < 10
    · rw [decL_one h, numGo_one most 0 n h]
      simp
    · rw [decL_more h, numGo_append, ih (n / 10) (by omega)]
      by_cases h2 : n / 10 ≤ most
      · rw [if_pos h2]
        show numGo most _ (n / 10) = _
        rw [numGo_one most (n / 10) (n % 10) (by omega), show 10 * (n / 10) + n % 10 = n by omega]
      · rw [if_neg h2, if_neg (by omega)]; rfl
theorem decL_ne (n : Nat) : decL n ≠ [] := by
  by_cases h : n < 10
  · rw [decL_one h]; simp
  · rw [decL_more h]; simp
theorem decL_head (n : Nat) (h : 1 ≤ n) : (decL n).head? ≠ some 48 := by
  induction n using Nat.strongRecOn with
  | _ n ih =>
    by_cases h9 : n < 10
    · rw [decL_one h9]
      simp only [List.head?_cons, ne_eq, Option.some.injEq]
      intro e
      have := congrArg UInt8.toNat e
      rw [byte_nat (by omega)] at this
      have h48 : (48 : UInt8).toNat = 48 := rfl
      omega
    · have hne := decL_ne (n / 10)
      rw [decL_more h9, List.head?_append, List.head?_eq_some_head hne]
      have := ih (n / 10) (by omega) (by omega)
      rw [List.head?_eq_some_head hne] at this
      simpa using this
theorem decL_digits (n : Nat) : ∀ c ∈ decL n, 48 ≤ c.toNat ∧ c.toNat ≤ 57 := by
  induction n using Nat.strongRecOn with
  | _ n ih =>
    intro c hc
    by_cases h9 : n < 10
    · rw [decL_one h9, List.mem_singleton] at hc
      rw [hc, byte_nat (by omega)]; omega
    · rw [decL_more h9, List.mem_append, List.mem_singleton] at hc
      rcases hc with hc | hc
      · exact ih (n / 10) (by omega) c hc
      · rw [hc, byte_nat (by omega)]; omega
theorem decL_miss {c : UInt8} (h : c.toNat < 48 ∨ 57 < c.toNat) (n : Nat) : c ∉ decL n := fun hc => by
  have := decL_digits n c hc; omega
theorem numOf_dec (n most : Nat) : numOf (decL n) most = if n ≤ most then some n else none := by
  unfold numOf
  rw [if_neg, numGo_dec]
  rintro (e | ⟨e1, e2⟩)
  · exact decL_ne n e
  · by_cases h : 1 ≤ n
    · exact decL_head n h e2
    · rw [show n = 0 by omega, decL_one (by omega)] at e1; simp at e1
theorem numOf_nought_dec (n most : Nat) : numOf (48 :: decL n) most = none := by
  have := List.length_pos_iff.2 (decL_ne n)
  unfold numOf
  rw [if_pos (Or.inr ⟨by simp only [List.length_cons]; omega, rfl⟩)]
theorem numGo_read {most : Nat} {l : List UInt8} {m x : Nat} (hm : 1 ≤ m) (h : numGo most l m = some x) : decL x = decL m ++ l := by
  induction l generalizing m with
  | nil => simp only [numGo, Option.some.injEq] at h; rw [h]; simp
  | cons c l ih =>
    unfold numGo at h
    split at h
    · rename_i hc
      have hx := ih (by omega) h
      rw [hx, decL_more (by omega), show (10 * m + (c.toNat - 48)) / 10 = m by omega, show (10 * m + (c.toNat - 48)) % 10 = c.toNat - 48 by omega,
        show 48 + (c.toNat - 48) = c.toNat by omega, ← byte_of rfl]
      simp
    · cases h
theorem numGo_le {most : Nat} {l : List UInt8} {m x : Nat} (hm : m ≤ most) (h : numGo most l m = some x) : x ≤ most := by
  induction l generalizing m with
  | nil => simp only [numGo, Option.some.injEq] at h; omega
  | cons c l ih =>
    unfold numGo at h
    split at h
    · rename_i hc; exact ih hc.2.2 h
    · cases h
theorem numOf_le {most : Nat} {l : List UInt8} {x : Nat} (h : numOf l most = some x) : x ≤ most := by
  unfold numOf at h
  split at h
  · cases h
  · exact numGo_le (Nat.zero_le _) h
theorem numOf_read {most : Nat} {l : List UInt8} {x : Nat} (h : numOf l most = some x) : decL x = l := by
  unfold numOf at h
  split at h
  · cases h
  · rename_i hn
    match l, hn, h with
    | [], hn, _ => simp at hn
    | c :: r, hn, h =>
      unfold numGo at h
      split at h
      · rename_i hc
        by_cases hr : r = []
        · subst hr
          simp only [numGo, Option.some.injEq] at h
          rw [← h, decL_one (by omega), show 48 + (10 * 0 + (c.toNat - 48)) = c.toNat by omega, ← byte_of rfl]
        · have hc48 : c ≠ 48 := fun e => hn (Or.inr ⟨by have := List.length_pos_iff.2 hr; simp only [List.length_cons]; omega, by rw [e]; rfl⟩)
          have hc49 : c.toNat ≠ 48 := fun e => hc48 (UInt8.toNat_inj.1 e)
          have := numGo_read (show 1 ≤ 10 * 0 + (c.toNat - 48) by omega) h
          rw [this, decL_one (by omega), show 48 + (10 * 0 + (c.toNat - 48)) = c.toNat by omega, ← byte_of rfl]
          rfl
      · cases h

/-! ### parts and their joining -/
def joinL (c : UInt8) : List (List UInt8) → List UInt8
  | [] => []
  | [p] => p
  | p :: q :: r => p ++ c :: joinL c (q :: r)
theorem splitL_join {c : UInt8} (ps : List (List UInt8)) (hne : ps ≠ []) (h : ∀ p ∈ ps, c ∉ p) : splitL c (joinL c ps) = ps := by
  induction ps with
  | nil => exact absurd rfl hne
  | cons p ps ih =>
    match ps, ih, h with
    | [], _, h => exact splitL_miss (h p (by simp))
    | q :: r, ih, h =>
      show splitL c (p ++ c :: joinL c (q :: r)) = _
      rw [splitL_hit (h p (by simp)), ih (by simp) (fun x hx => h x (List.mem_cons_of_mem _ hx))]
theorem join_splitL (c : UInt8) (l : List UInt8) : joinL c (splitL c l) = l := by
  induction l with
  | nil => rfl
  | cons b l ih =>
    unfold splitL
    have hne := splitL_ne c l
    match hs : splitL c l with
    | [] => exact absurd hs hne
    | p :: ps =>
      rw [hs] at ih
      split
      · rename_i hb
        show ([] : List UInt8) ++ c :: joinL c (p :: ps) = b :: l
        rw [ih, hb]; rfl
      · match ps, ih with
        | [], ih => show b :: p = b :: l; rw [← ih]; rfl
        | q :: r, ih => show (b :: p) ++ c :: joinL c (q :: r) = b :: l; rw [← ih]; rfl
theorem splitL_len {c : UInt8} {l p : List UInt8} (h : p ∈ splitL c l) : p.length ≤ l.length := by
  induction l generalizing p with
  | nil => simp [splitL] at h; simp [h]
  | cons b l ih =>
    unfold splitL at h
    split at h
    · rcases List.mem_cons.1 h with h | h
      · rw [h]; simp
      · have := ih h; simp; omega
    · split at h
      · rw [List.mem_singleton] at h; rw [h]; simp
      · rename_i q qs hs
        rcases List.mem_cons.1 h with h | h
        · have := ih (p := q) (by rw [hs]; simp)
          rw [h]; simp; omega
        · have := ih (p := p) (by rw [hs]; simp [h])
          simp; omega

/-! ### addresses -/
def ipGo : List (List UInt8) → Nat → Option Nat
  | [], n => some n
  | p :: ps, n => match numOf p 255 with
    | some x => ipGo ps (n * 256 + x)
    | none => none
def ipOf (l : List UInt8) : Option Nat := if (splitL 46 l).length = 4 then ipGo (splitL 46 l) 0 else none
def ipText (n : Nat) : List UInt8 := joinL 46 [decL (n / 16777216), decL (n / 65536 % 256), decL (n / 256 % 256), decL (n % 256)]
theorem numOf_byte {n : Nat} (h : n < 256) : numOf (decL n) 255 = some n := by rw [numOf_dec, if_pos (by omega)]
theorem ipOf_text (n : Nat) (h : n < 4294967296) : ipOf (ipText n) = some n := by
  have e : splitL 46 (ipText n) = [decL (n / 16777216), decL (n / 65536 % 256), decL (n / 256 % 256), decL (n % 256)] :=
    splitL_join _ (by simp) (fun p hp => by
      simp only [List.mem_cons, List.not_mem_nil, or_false] at hp
      rcases hp with rfl | rfl | rfl | rfl <;> exact decL_miss (by decide) _)
  unfold ipOf
  rw [e, if_pos (by rfl)]
  simp only [ipGo]
  rw [numOf_byte (show n / 16777216 < 256 by omega), numOf_byte (show n / 65536 % 256 < 256 by omega), numOf_byte (show n / 256 % 256 < 256 by omega), numOf_byte (show n % 256 < 256 by omega)]
  simp only [ipGo, Option.some.injEq]
  omega
theorem ipOf_read {l : List UInt8} {n : Nat} (h : ipOf l = some n) : ipText n = l ∧ n < 4294967296 := by
  unfold ipOf at h
  split at h
  · rename_i h4
    have hj := join_splitL 46 l
    match hs : splitL 46 l, h4 with
    | [a, b, c, d], _ =>
      rw [hs] at h hj
      simp only [ipGo] at h
      split at h <;> try (cases h; done)
      rename_i x hx
      split at h <;> try (cases h; done)
      rename_i y hy
      split at h <;> try (cases h; done)
      rename_i z hz
      split at h <;> try (cases h; done)
      rename_i t ht
      simp only [Option.some.injEq] at h
      have h1 := numOf_le hx; have h2 := numOf_le hy; have h3 := numOf_le hz; have h4 := numOf_le ht
      have g1 := numOf_read hx; have g2 := numOf_read hy; have g3 := numOf_read hz; have g4 := numOf_read ht
      refine ⟨?_, by omega⟩
      rw [← hj]
      unfold ipText
      rw [show n / 16777216 = x by omega, show n / 65536 % 256 = y by omega, show n / 256 % 256 = z by omega, show n % 256 = t by omega, g1, g2, g3, g4]
  · cases h
theorem ipOf_lt {l : List UInt8} {n : Nat} (h : ipOf l = some n) : n < 4294967296 := (ipOf_read h).2

/-! ### bytes of two digits -/
def hexOf (c : UInt8) : Option Nat :=
  if 48 ≤ c.toNat ∧ c.toNat ≤ 57 then some (c.toNat - 48) else if 97 ≤ c.toNat ∧ c.toNat ≤ 102 then some (c.toNat - 87) else none
def pairsOf : List UInt8 → Option (List Nat)
  | [] => some []
  | [_] => none
  | a :: b :: r => match hexOf a, hexOf b, pairsOf r with
    | some x, some y, some l => some ((16 * x + y) :: l)
    | _, _, _ => none
def hexD (d : Nat) : UInt8 := UInt8.ofNat (if d < 10 then 48 + d else 87 + d)
def hexL (b : Nat) : List UInt8 := [hexD (b / 16), hexD (b % 16)]
def macGo : List (List UInt8) → Option (List Nat)
  | [] => some []
  | p :: ps => if p.length = 2 then match pairsOf p, macGo ps with
    | some [x], some l => some (x :: l)
    | _, _ => none
    else none
def macOf (l : List UInt8) : Option (List Nat) := if (splitL 58 l).length = 6 then macGo (splitL 58 l) else none
def keyOf (l : List UInt8) : Option (List Nat) := if l.length = 16 then pairsOf l else none
def macText (m : List Nat) : List UInt8 := joinL 58 (m.map hexL)
def keyText (k : List Nat) : List UInt8 := (k.map hexL).flatten
theorem hexOf_D {d : Nat} (h : d < 16) : hexOf (hexD d) = some d := by
  unfold hexOf hexD
  by_cases h9 : d < 10
  · rw [if_pos h9, byte_nat (by omega), if_pos (by omega), show 48 + d - 48 = d by omega]
  · rw [if_neg h9, byte_nat (by omega), if_neg (by omega), if_pos (by omega), show 87 + d - 87 = d by omega]
theorem hexOf_read {c : UInt8} {d : Nat} (h : hexOf c = some d) : hexD d = c ∧ d < 16 := by
  unfold hexOf at h
  split at h
  · simp only [Option.some.injEq] at h
    refine ⟨?_, by omega⟩
    unfold hexD
    rw [if_pos (by omega)]
    exact (byte_of (by omega)).symm
  · split at h
    · simp only [Option.some.injEq] at h
      refine ⟨?_, by omega⟩
      unfold hexD
      rw [if_neg (by omega)]
      exact (byte_of (by omega)).symm
    · cases h
theorem pairsOf_hex (l : List Nat) (h : ∀ b ∈ l, b < 256) : pairsOf (keyText l) = some l := by
  induction l with
  | nil => rfl
  | cons b l ih =>
    show pairsOf (hexD (b / 16) :: hexD (b % 16) :: keyText l) = _
    have hb := h b (by simp)
    rw [pairsOf, hexOf_D (by omega), hexOf_D (by omega), ih (fun x hx => h x (by simp [hx]))]
    show some _ = some _
    rw [show 16 * (b / 16) + b % 16 = b by omega]
theorem pairsOf_read : ∀ (p : List UInt8) {l : List Nat}, pairsOf p = some l → keyText l = p ∧ (∀ b ∈ l, b < 256) ∧ p.length = 2 * l.length
  | [], l, h => by simp only [pairsOf, Option.some.injEq] at h; subst h; exact ⟨rfl, by simp, rfl⟩
  | [_], l, h => by simp [pairsOf] at h
  | a :: b :: r, l, h => by
    rw [pairsOf] at h
    split at h
    · rename_i x y l' hx hy hl
      simp only [Option.some.injEq] at h
      obtain ⟨i1, i2, i3⟩ := pairsOf_read r hl
      have ha := hexOf_read hx
      have hb := hexOf_read hy
      subst h
      refine ⟨?_, ?_, by simp [i3]; omega⟩
      · show hexD ((16 * x + y) / 16) :: hexD ((16 * x + y) % 16) :: keyText l' = _
        rw [show (16 * x + y) / 16 = x by omega, show (16 * x + y) % 16 = y by omega, ha.1, hb.1, i1]
      · intro c hc
        rcases List.mem_cons.1 hc with rfl | hc
        · omega
        · exact i2 c hc
    · cases h
theorem keyText_len (l : List Nat) : (keyText l).length = 2 * l.length := by
  induction l with
  | nil => rfl
  | cons b l ih =>
    show (hexD (b / 16) :: hexD (b % 16) :: keyText l).length = _
    simp only [List.length_cons]; omega
theorem keyOf_text (l : List Nat) (h8 : l.length = 8) (h : ∀ b ∈ l, b < 256) : keyOf (keyText l) = some l := by
  unfold keyOf
  rw [if_pos (by rw [keyText_len]; omega), pairsOf_hex l h]
theorem keyOf_read {p : List UInt8} {l : List Nat} (h : keyOf p = some l) : keyText l = p ∧ l.length = 8 ∧ ∀ b ∈ l, b < 256 := by
  unfold keyOf at h
  split at h
  · obtain ⟨h1, h2, h3⟩ := pairsOf_read _ h
    exact ⟨h1, by omega, h2⟩
  · cases h
theorem hexL_one (b : Nat) : hexL b = keyText [b] := by simp [keyText]
theorem macGo_hex (l : List Nat) (h : ∀ b ∈ l, b < 256) : macGo (l.map hexL) = some l := by
  induction l with
  | nil => rfl
  | cons b l ih =>
    show macGo (hexL b :: l.map hexL) = _
    rw [macGo, if_pos (by rfl), hexL_one, pairsOf_hex [b] (by simpa using h b (by simp)), ih (fun x hx => h x (by simp [hx]))]
theorem macGo_read : ∀ {ps : List (List UInt8)} {l : List Nat}, macGo ps = some l → l.map hexL = ps ∧ (∀ b ∈ l, b < 256) ∧ l.length = ps.length := by
  intro ps
  induction ps with
  | nil => intro l h; simp only [macGo, Option.some.injEq] at h; subst h; exact ⟨rfl, by simp, rfl⟩
  | cons p ps ih =>
    intro l h
    rw [macGo] at h
    split at h
    · split at h
      · rename_i x l' hx hl
        simp only [Option.some.injEq] at h
        subst h
        obtain ⟨i1, i2, i3⟩ := ih hl
        obtain ⟨j1, j2, _⟩ := pairsOf_read _ hx
        refine ⟨?_, ?_, by simp [i3]⟩
        · rw [List.map_cons, i1, hexL_one, j1]
        · intro c hc
          rcases List.mem_cons.1 hc with rfl | hc
          · exact j2 c (by simp)
          · exact i2 c hc
      · cases h
    · cases h
theorem hexD_range {d : Nat} (h : d < 16) : (48 ≤ (hexD d).toNat ∧ (hexD d).toNat ≤ 57) ∨ (97 ≤ (hexD d).toNat ∧ (hexD d).toNat ≤ 102) := by
  unfold hexD
  by_cases h9 : d < 10
  · rw [if_pos h9, byte_nat (by omega)]; omega
  · rw [if_neg h9, byte_nat (by omega)]; omega
theorem hexL_miss {b : Nat} (hb : b < 256) : (58 : UInt8) ∉ hexL b := by
  intro hc
  have h58 : (58 : UInt8).toNat = 58 := rfl
  simp only [hexL, List.mem_cons, List.not_mem_nil, or_false] at hc
  rcases hc with hc | hc
  · have := hexD_range (show b / 16 < 16 by omega); rw [← hc] at this; omega
  · have := hexD_range (show b % 16 < 16 by omega); rw [← hc] at this; omega
theorem macOf_text (l : List Nat) (h6 : l.length = 6) (h : ∀ b ∈ l, b < 256) : macOf (macText l) = some l := by
  have e : splitL 58 (macText l) = l.map hexL := splitL_join _ (by intro e; rw [List.map_eq_nil_iff] at e; rw [e] at h6; cases h6) (fun p hp => by
    obtain ⟨b, hb, rfl⟩ := List.mem_map.1 hp
    exact hexL_miss (h b hb))
  unfold macOf
  rw [e, if_pos (by simp [h6]), macGo_hex l h]
theorem macOf_read {p : List UInt8} {l : List Nat} (h : macOf p = some l) : macText l = p ∧ l.length = 6 ∧ ∀ b ∈ l, b < 256 := by
  unfold macOf at h
  split at h
  · rename_i h6
    obtain ⟨h1, h2, h3⟩ := macGo_read h
    refine ⟨?_, by omega, h2⟩
    unfold macText
    rw [h1, join_splitL]
  · cases h
end Go.Proofs.YtbkpbcmjgbdbkaaGreatDoor

/-! D8 -/
namespace Go.Proofs.YtbkpbcmjgbdbkaaGreatDoor
open Go.RowKit Go.Lib
set_option linter.unusedVariables false
set_option linter.unusedSimpArgs false

theorem decL_digitsOf (n : Nat) : decDigits n = decL n := by
  induction n using Nat.strongRecOn with
  | _ n ih =>
    by_cases h : n < 10
    · rw [decL_one h, decDigits, dif_pos h]
    · rw [decL_more h, decDigits, dif_neg h, ih (n / 10) (by omega)]
theorem itoa_dec (n : Nat) : itoa (n : Int) = decL n := by
  unfold itoa
  rw [if_neg (by omega), Int.toNat_natCast, decL_digitsOf]

/-- A rune that may stand in a name (first: at its head). -/
def cls (first : Bool) (r : Nat) : Bool := decide ((97 ≤ r ∧ r ≤ 122) ∨ 128 ≤ r ∨ (first = false ∧ ((48 ≤ r ∧ r ≤ 57) ∨ r = 45)))
theorem cls_iff (first : Bool) (r : Nat) : cls first r = true ↔ (97 ≤ r ∧ r ≤ 122) ∨ 128 ≤ r ∨ (first = false ∧ ((48 ≤ r ∧ r ≤ 57) ∨ r = 45)) := by
  unfold cls; exact decide_eq_true_iff
theorem cls_false (first : Bool) (r : Nat) : cls first r = false ↔ ¬ ((97 ≤ r ∧ r ≤ 122) ∨ 128 ≤ r ∨ (first = false ∧ ((48 ≤ r ∧ r ≤ 57) ∨ r = 45))) := by
  unfold cls; exact decide_eq_false_iff_not
def runsGo : Nat → Bool → List UInt8 → Bool
  | 0, _, _ => true
  | n + 1, f, l => if l = [] then true else if cls f (decodeL l).1 then runsGo n false (l.drop (decodeL l).2) else false
def runs (f : Bool) (l : List UInt8) : Bool := runsGo l.length f l
theorem runsGo_nil (n : Nat) (f : Bool) : runsGo n f [] = true := by cases n <;> simp [runsGo]
theorem runsGo_fuel : ∀ (n m : Nat) (f : Bool) (l : List UInt8), l.length ≤ n → l.length ≤ m → runsGo n f l = runsGo m f l
  | 0, m, f, l, hn, _ => by
    have : l = [] := List.eq_nil_of_length_eq_zero (by omega)
    subst this
    rw [runsGo_nil, runsGo_nil]
  | n + 1, 0, f, l, _, hm => by
    have : l = [] := List.eq_nil_of_length_eq_zero (by omega)
    subst this
    rw [runsGo_nil, runsGo_nil]
  | n + 1, m + 1, f, l, hn, hm => by
    unfold runsGo
    by_cases hne : l = []
    · simp [hne]
    · have hw := decodeL_width l
      have hl : 0 < l.length := List.length_pos_iff.2 hne
      rw [if_neg hne, if_neg hne, runsGo_fuel n m false (l.drop (decodeL l).2) (by rw [List.length_drop]; omega) (by rw [List.length_drop]; omega)]
theorem runs_nil (f : Bool) : runs f [] = true := rfl
theorem runs_step (f : Bool) (l : List UInt8) (hne : l ≠ []) : runs f l = if cls f (decodeL l).1 then runs false (l.drop (decodeL l).2) else false := by
  have hl : 0 < l.length := List.length_pos_iff.2 hne
  have hw := decodeL_width l
  obtain ⟨n, hn⟩ : ∃ n, l.length = n + 1 := ⟨l.length - 1, by omega⟩
  unfold runs
  rw [hn]
  show (if l = [] then true else _) = _
  rw [if_neg hne, runsGo_fuel n (l.drop (decodeL l).2).length _ _ (by rw [List.length_drop]; omega) (Nat.le_refl _)]
/-- Runes that may stand there, and sound ones. -/
def rv (f : Bool) (l : List UInt8) : Bool := runs f l && validD l
theorem rv_nil (f : Bool) : rv f [] = true := rfl
theorem rv_low (f : Bool) (c : UInt8) (t : List UInt8) (h : c.toNat < 128) : rv f (c :: t) = if cls f c.toNat then rv false t else false := by
  unfold rv
  rw [runs_step f (c :: t) (by simp), validD_cons c t h, decodeL_ascii c t h]
  simp only [List.drop_succ_cons, List.drop_zero]
  split <;> simp
theorem rv_bad (f : Bool) (l : List UInt8) (hne : l ≠ []) (h : (decodeL l).1 = 65533 ∧ (decodeL l).2 = 1) : rv f l = false := by
  unfold rv
  rw [validD_step l hne, if_pos h, Bool.and_false]
theorem rv_high (f : Bool) (l : List UInt8) (hne : l ≠ []) (h0 : 128 ≤ (decodeL l).1) (h : ¬ ((decodeL l).1 = 65533 ∧ (decodeL l).2 = 1)) : rv f l = rv false (l.drop (decodeL l).2) := by
  unfold rv
  rw [validD_step l hne, if_neg h, runs_step f l hne, if_pos ((cls_iff _ _).2 (by omega))]
def nameOf (l : List UInt8) : Bool := decide (l ≠ [] ∧ l.length ≤ 32) && rv true l
theorem nameOf_no {l : List UInt8} (h : l = [] ∨ 32 < l.length) : nameOf l = false := by
  unfold nameOf
  rw [decide_eq_false (by rintro ⟨h1, h2⟩; rcases h with h | h; exact h1 h; omega), Bool.false_and]
theorem nameOf_some {l : List UInt8} (h1 : l ≠ []) (h2 : l.length ≤ 32) : nameOf l = rv true l := by
  unfold nameOf
  rw [decide_eq_true ⟨h1, h2⟩, Bool.true_and]
theorem nameOf_runs {l : List UInt8} (h : runs true l = false) : nameOf l = false := by
  unfold nameOf rv
  rw [h, Bool.false_and, Bool.and_false]
theorem nameOf_valid {l : List UInt8} (h : runs true l = true) (h1 : l ≠ []) (h2 : l.length ≤ 32) : nameOf l = validD l := by
  rw [nameOf_some h1 h2]
  unfold rv
  rw [h, Bool.true_and]
end Go.Proofs.YtbkpbcmjgbdbkaaGreatDoor
