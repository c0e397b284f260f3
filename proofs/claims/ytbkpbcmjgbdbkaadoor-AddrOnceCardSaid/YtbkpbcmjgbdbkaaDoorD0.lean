/- The frame 'Turn' (which blocks a call may have turned) and small facts on worlds. No condition. -/
import Derived.Test.YtbkpbcmjgbdbkaaDoorRows
import Derived.WalkKit
import Derived.WalkSpells
import Derived.WalkLawsBesides
import Derived.ProofKit
import Derived.BigRegion
import Derived.BigQuiet
import Derived.Deep.QuietTactic
import Derived.Deep.LoopGhost
import Derived.Lib.Hide
namespace Go.Proofs.YtbkpbcmjgbdbkaaDoor
open Go.RowKit

/-- All but the blocks of F (and new ones) stand as they stood. -/
structure Turn (F : Nat → Prop) (w w' : World) : Prop where
  os : w'.os = w.os
  tape : w'.tape = w.tape
  output : w'.output = w.output
  size : w.heap.size ≤ w'.heap.size
  block : ∀ k, k < w.heap.size → ¬ F k → w'.heap[k]? = w.heap[k]?

theorem Turn.refl (F : Nat → Prop) (w : World) : Turn F w w := ⟨rfl, rfl, rfl, Nat.le_refl _, fun _ _ _ => rfl⟩
theorem Turn.trans {F : Nat → Prop} {a b c : World} (h : Turn F a b) (k : Turn F b c) : Turn F a c :=
  ⟨k.os.trans h.os, k.tape.trans h.tape, k.output.trans h.output, Nat.le_trans h.size k.size,
    fun i hi hF => (k.block i (Nat.lt_of_lt_of_le hi h.size) hF).trans (h.block i hi hF)⟩
/-- the second call's blocks: of F, or new since a. -/
theorem Turn.trans2 {F G : Nat → Prop} {a b c : World} (h : Turn F a b) (k : Turn G b c) (hG : ∀ i, i < a.heap.size → G i → F i) : Turn F a c :=
  ⟨k.os.trans h.os, k.tape.trans h.tape, k.output.trans h.output, Nat.le_trans h.size k.size,
    fun i hi hF => (k.block i (Nat.lt_of_lt_of_le hi h.size) (fun g => hF (hG i hi g))).trans (h.block i hi hF)⟩
theorem Turn.mono {F G : Nat → Prop} {a b : World} (h : Turn F a b) (hG : ∀ i, i < a.heap.size → F i → G i) : Turn G a b :=
  ⟨h.os, h.tape, h.output, h.size, fun i hi hF => h.block i hi (fun g => hF (hG i hi g))⟩
theorem Turn.below {F : Nat → Prop} {a b : World} {B : Nat} (h : Turn F a b) (hB : B ≤ a.heap.size) (hF : ∀ i, i < B → ¬ F i) : Below B a b :=
  ⟨h.os, h.tape, h.output, h.size, fun i hi => h.block i (Nat.lt_of_lt_of_le hi hB) (hF i hi)⟩
theorem Turn.onto {F : Nat → Prop} {a b c : World} {B : Nat} (t : Turn F b c) (h : Below B a b) (hB : B ≤ a.heap.size) (hF : ∀ i, i < B → ¬ F i) : Below B a c :=
  h.trans (t.below (Nat.le_trans hB h.size) hF)
theorem Turn.drew {F : Nat → Prop} {a b : World} (h : Turn F a b) : Turn F a b.drew := ⟨h.os, h.tape, h.output, h.size, h.block⟩
theorem Turn.drewN {F : Nat → Prop} {a b : World} (h : Turn F a b) (n : Nat) : Turn F a (b.drewN n) := by
  induction n with
  | zero => exact h
  | succ n ih => rw [← World.drew_drewN]; exact ih.drew
theorem Turn.alloc {F : Nat → Prop} {a b : World} (h : Turn F a b) (o : Obj) : Turn F a (b.alloc o) :=
  h.trans2 (G := fun _ => False) ⟨rfl, rfl, rfl, by simp, fun k hk _ => Below.heap_alloc _ _ _ hk⟩ (fun _ _ h => h.elim)
theorem Turn.setCell {F : Nat → Prop} {a b : World} (h : Turn F a b) {p : Addr} (u : Value) (hp : p.block < a.heap.size → F p.block) : Turn F a (b.setCell p u) :=
  h.trans2 (G := fun k => k = p.block) ⟨rfl, rfl, rfl, by simp [World.setCell], fun k _ hk => Below.heap_setCell _ _ _ _ hk⟩
    (fun i hi e => by subst e; exact hp hi)

/-- A block of cells that is known whole. -/
theorem cell_of_block {w : World} {b : Nat} {cs : Array Value} {T : Nat} {fz : Nat × Nat} (h : w.heap[b]? = some (.cells cs T fz)) (i : Nat) : w.cell? ⟨b, i, none⟩ = cs[i]? := by
  simp [World.cell?, h]
theorem free_of_block {w : World} {b : Nat} {cs : Array Value} {T : Nat} (h : w.heap[b]? = some (.cells cs T (0, 0))) (i : Nat) : w.frozen? ⟨b, i, none⟩ = false := by
  simp [World.frozen?, h]
theorem block_setCell {w : World} {b : Nat} {cs : Array Value} {T : Nat} {fz : Nat × Nat} (h : w.heap[b]? = some (.cells cs T fz)) (i : Nat) (v : Value) :
    (w.setCell ⟨b, i, none⟩ v).heap[b]? = some (.cells (cs.setIfInBounds i v) T fz) := by
  simp [World.setCell, Array.getElem?_modify, h]
theorem block_lt {w : World} {b : Nat} {o : Obj} (h : w.heap[b]? = some o) : b < w.heap.size := (Array.getElem?_eq_some_iff.1 h).1
theorem block_drewN (w : World) (n b : Nat) : (w.drewN n).heap[b]? = w.heap[b]? := by
  induction n with
  | zero => rfl
  | succ n ih => rw [← World.drew_drewN]; exact ih
theorem block_alloc_new (w : World) (o : Obj) : (w.alloc o).heap[w.heap.size]? = some o := (MapKept.heap_alloc w o).1
theorem block_alloc_old {w : World} {b : Nat} {o x : Obj} (h : w.heap[b]? = some x) : (w.alloc o).heap[b]? = some x := by
  rw [Below.heap_alloc _ _ _ (block_lt h)]; exact h

/-- WHAT THE WALK IS TOLD OF A SLICE OF INTEGERS THAT CAME IN. -/
def IsRow (k : IntKind) (w : World) (a : Option Addr) (len cap : Nat) (zs : List Int) : Prop :=
  (a = none ∧ len = 0 ∧ cap = 0 ∧ zs = []) ∨
  ∃ x, a = some x ∧ len ≤ cap ∧ cap ≤ maxLen ∧ zs.length = cap ∧ (∀ i, i < zs.length → w.cell? (x.add i) = some (.int k (zs.getD i 0))) ∧ ∀ n ∈ zs, (Lit.int k n).wf = true

/-- The cells of such a slice that is not empty, by block and place. -/
theorem IsRow.cells {k : IntKind} {w : World} {b off : Nat} {spot : Option Nat} {len cap : Nat} {zs : List Int} (h : IsRow k w (some ⟨b, off, spot⟩) len cap zs) (h0 : 0 < len) :
    spot = none ∧ b < w.heap.size ∧ ∀ i, i < len → w.cell? ⟨b, off + i, none⟩ = some (.int k (zs.getD i 0)) := by
  rcases h with ⟨h, _⟩ | ⟨x, hx, hl, hm, hz, hc, hw⟩
  · cases h
  · cases hx
    have h1 := hc 0 (by omega)
    have hs : spot = none := by simpa [Addr.add] using World.cell?_spot h1
    subst hs
    refine ⟨rfl, ?_, fun i hi => ?_⟩
    · have h2 : w.cell? ⟨b, off, none⟩ = some (.int k (zs.getD 0 0)) := by simpa [Addr.add] using h1
      unfold World.cell? at h2
      split at h2
      · rename_i h3; exact block_lt h3
      · cases h2
    · have h2 := hc i (by omega)
      by_cases e : i = 0
      · subst e; simpa [Addr.add] using h2
      · simpa [Addr.add, e] using h2
theorem IsRow.wf {k : IntKind} {w : World} {a : Option Addr} {len cap : Nat} {zs : List Int} (h : IsRow k w a len cap zs) (hz : (Lit.int k 0).wf = true) (i : Nat) : (Lit.int k (zs.getD i 0)).wf = true := by
  rcases h with ⟨_, _, _, rfl⟩ | ⟨x, _, _, _, _, _, hw⟩
  · simpa using hz
  · by_cases hi : i < zs.length
    · have : zs.getD i 0 = zs[i] := by simp [List.getD, hi]
      rw [this]; exact hw _ (List.getElem_mem hi)
    · have : zs.getD i 0 = 0 := by simp [List.getD, List.getElem?_eq_none (by omega : zs.length ≤ i)]
      rw [this]; exact hz
theorem IsRow.len_le {k : IntKind} {w : World} {a : Option Addr} {len cap : Nat} {zs : List Int} (h : IsRow k w a len cap zs) : len ≤ maxLen := by
  rcases h with ⟨_, rfl, _, _⟩ | ⟨x, _, hl, hm, _⟩
  · exact Nat.zero_le _
  · exact Nat.le_trans hl hm
end Go.Proofs.YtbkpbcmjgbdbkaaDoor
