/- The map of ports: keys that are structs, elements that are pointers; words and bits. No condition. -/
import Derived.Test.YtpnobcffglohnaaL6
import Derived.Maps.Keyed
import Derived.Laws.BitsAllLaws
import Derived.DeepKeys4
namespace Go.Proofs.Ytpnobcffglohnaa
open Go.RowKit
set_option linter.unusedVariables false
set_option linter.unusedSimpArgs false

theorem Try.row78 : (78 : TypeId) < Try.prog.types.size := of_decide_eq_true (by kernel_rfl)
theorem Try.cells78 : Try.prog.cellsOf 78 = 2 := by kernel_rfl
theorem Try.laid : laidOutB Try.prog = true := by kernel_rfl
theorem Try.wide78 : (match Try.prog.underlying 78 with | some (.array _ _) | some (.struct _) => true | _ => false) = true := by rw [Try.underlying78]
theorem keyLaw : Maps.Keyed Try.prog 78 := Maps.Keyed.of_law (deep_law_laid Try.laid (m := 2) (by omega) Try.row78 (by kernel_rfl) Try.wide78)
theorem Try.keyType78 : Try.prog.keyType 78 = true := by kernel_rfl
theorem Try.types : Try.prog.types.size = 99 := by kernel_rfl
theorem Try.cells5 : Try.prog.cellsOf 5 = 1 := by kernel_rfl
theorem Try.cells22 : Try.prog.cellsOf 22 = 1 := by kernel_rfl

def KeyV (pr ip : Int) : Value := .agg #[.int .u8 pr, .int .u32 ip]
def PtrV (b : Nat) : Value := .pointer (some ⟨b, 0, none⟩)
def W8 (n : Int) : Prop := (Lit.int .u8 n).wf = true
def W32 (n : Int) : Prop := (Lit.int .u32 n).wf = true

theorem lits_of {pr ip : Int} (h1 : W8 pr) (h2 : W32 ip) (d : Nat) : Try.prog.keyLits (d + 2) 78 [.int .u8 pr, .int .u32 ip] = some [.int .u8 pr, .int .u32 ip] := by
  unfold W8 at h1; unfold W32 at h2
  simp [Program.keyLits, Try.underlying78, Try.cells78, Try.underlying5, Try.underlying22, Try.cells5, Try.cells22, h1, h2]
theorem key_of {pr ip : Int} (h1 : W8 pr) (h2 : W32 ip) : ∃ kl, keyOf Try.prog 78 (KeyV pr ip) = some kl := by
  unfold keyOf
  rw [Try.underlying78, Try.types]
  have e : (KeyV pr ip).cells.toList = [.int .u8 pr, .int .u32 ip] := rfl
  have f : (KeyV pr ip).formed Try.prog 78 = true := by simp [KeyV, Value.formed, Try.underlying78, Try.cells78]
  rw [e, f, Try.keyType78]
  have g := lits_of h1 h2 98
  rw [show (98 + 2 : Nat) = 99 + 1 from rfl] at g
  rw [g]
  exact ⟨_, rfl⟩

theorem keyV_inj {a b c d : Int} (h : KeyV a b = KeyV c d) : a = c ∧ b = d := by
  simpa [KeyV] using h

/-- A map of the ports' kind: which block each address leads to. -/
structure MapIs (w : World) (bm : Nat) (f : Int → Int → Option Nat) : Prop where
  ex : ∃ es clock, w.heap[bm]? = some (.map es clock) ∧
    (∀ e ∈ es.toList, ∃ pr ip b, W8 pr ∧ W32 ip ∧ e.key = KeyV pr ip ∧ e.val = PtrV b ∧ f pr ip = some b) ∧
    (∀ pr ip b, f pr ip = some b → ∃ e ∈ es.toList, e.key = KeyV pr ip)

theorem MapIs.of_block {w w' : World} {bm : Nat} {f : Int → Int → Option Nat} (h : MapIs w bm f) (hb : w'.heap[bm]? = w.heap[bm]?) : MapIs w' bm f := by
  obtain ⟨es, clock, h1, h2⟩ := h.ex
  exact ⟨es, clock, hb.trans h1, h2⟩
theorem MapIs.lt {w : World} {bm : Nat} {f : Int → Int → Option Nat} (h : MapIs w bm f) : bm < w.heap.size := by
  obtain ⟨es, clock, h1, h2⟩ := h.ex
  exact block_lt h1
theorem MapIs.made (w : World) : MapIs (w.alloc (.map #[] 0)) w.heap.size (fun _ _ => none) :=
  ⟨#[], 0, (MapKept.heap_alloc w _).1, by simp, by simp⟩

theorem zero79 (w : World) : (zeroValue 79).run Try.prog w = .ok (.pointer none) w := by kernel_rfl

/-- 'm[k]'. -/
theorem MapIs.look {w : World} {bm : Nat} {f : Int → Int → Option Nat} (h : MapIs w bm f) {pr ip : Int} (h1 : W8 pr) (h2 : W32 ip) :
    (Instr.lookup 74 (.map (some bm)) (KeyV pr ip) false).run Try.prog w = .ok (match f pr ip with | some b => PtrV b | none => .pointer none) w := by
  obtain ⟨es, clock, hb, he, hf⟩ := h.ex
  obtain ⟨kl, hkl⟩ := key_of h1 h2
  have hkeys : ∀ e ∈ es.toList, ∃ l, keyOf Try.prog 78 e.key = some l := by
    intro e hm
    obtain ⟨p, i, b, q1, q2, hk, _⟩ := he e hm
    rw [hk]; exact key_of q1 q2
  rcases keyLaw.find w hkl es.toList hkeys with ⟨r, hno⟩ | ⟨j, e, r, hj, hk⟩
  · have hn : f pr ip = none := by
      cases hh : f pr ip with
      | none => rfl
      | some b =>
        obtain ⟨e, hm, hk⟩ := hf _ _ _ hh
        exact absurd hk (hno e hm)
    rw [hn]
    simp [Instr.lookup, run_underlying Try.underlying74, MapKept.run_getObj_map hb, keyLaw.check w _ hkl, r, zero79, Result.andThen]
  · have hm := List.mem_of_getElem? hj
    obtain ⟨p, i, b, _, _, hk', hv, hfe⟩ := he e hm
    obtain ⟨rfl, rfl⟩ := keyV_inj (hk'.symm.trans hk)
    rw [hfe]
    simp [Instr.lookup, run_underlying Try.underlying74, MapKept.run_getObj_map hb, keyLaw.check w _ hkl, r, hv, Result.andThen]

/-- The world with a map's entries turned. -/
def setMap (w : World) (bm : Nat) (es : Array MapEntry) (c : Nat) : World := ChangeMaps.setBlock w bm (.map es c)

/-- 'm[k] = v' at a key that is not there, in whatever world that holds the map. -/
theorem MapIs.put {w : World} {bm : Nat} {f : Int → Int → Option Nat} (h : MapIs w bm f) {pr ip : Int} (h1 : W8 pr) (h2 : W32 ip) (hn : f pr ip = none) (b : Nat) :
    ∃ es c, ∀ w' : World, w'.heap[bm]? = w.heap[bm]? → (Instr.mapUpdate 74 (.map (some bm)) (KeyV pr ip) (PtrV b)).run Try.prog w' = .ok () (setMap w' bm es c) ∧
      MapIs (setMap w' bm es c) bm (fun p i => if p = pr ∧ i = ip then some b else f p i) := by
  obtain ⟨es, clock, hb0, he, hf⟩ := h.ex
  obtain ⟨kl, hkl⟩ := key_of h1 h2
  have hkeys : ∀ e ∈ es.toList, ∃ l, keyOf Try.prog 78 e.key = some l := by
    intro e hm
    obtain ⟨p, i, b, q1, q2, hk, _⟩ := he e hm
    rw [hk]; exact key_of q1 q2
  refine ⟨es.push ⟨KeyV pr ip, PtrV b, clock⟩, clock + 1, fun w' hw => ?_⟩
  have hb := hw.trans hb0
  have hno : (Instr.findKey 78 (KeyV pr ip) es.toList).run Try.prog w' = .ok none w' := by
    rcases keyLaw.find w' hkl es.toList hkeys with ⟨r, hno⟩ | ⟨j, e, r, hj, hk⟩
    · exact r
    · have hm := List.mem_of_getElem? hj
      obtain ⟨p, i, b, _, _, hk', hv, hfe⟩ := he e hm
      obtain ⟨rfl, rfl⟩ := keyV_inj (hk'.symm.trans hk)
      rw [hn] at hfe; cases hfe
  refine ⟨?_, ⟨es.push ⟨KeyV pr ip, PtrV b, clock⟩, clock + 1, ?_, ?_, ?_⟩⟩
  · simp [Instr.mapUpdate, run_underlying Try.underlying74, MapKept.run_getObj_map hb, keyLaw.check w' _ hkl, hno, MapKept.run_setObj_map _ hb, Result.andThen, setMap, ChangeMaps.setBlock]
  · exact ChangeMaps.heap_setBlock_same hb _
  · intro e hm
    simp only [Array.toList_push, List.mem_append, List.mem_singleton] at hm
    rcases hm with hm | rfl
    · obtain ⟨p, i, b', q1, q2, hk, hv, hfe⟩ := he e hm
      refine ⟨p, i, b', q1, q2, hk, hv, ?_⟩
      show (if p = pr ∧ i = ip then some b else f p i) = some b'
      rw [if_neg, hfe]
      rintro ⟨rfl, rfl⟩
      rw [hn] at hfe; cases hfe
    · exact ⟨pr, ip, b, h1, h2, rfl, rfl, if_pos ⟨rfl, rfl⟩⟩
  · intro p i b' hh
    simp only [Array.toList_push, List.mem_append, List.mem_singleton]
    by_cases hc : p = pr ∧ i = ip
    · obtain ⟨rfl, rfl⟩ := hc
      exact ⟨_, Or.inr rfl, rfl⟩
    · have hh' : f p i = some b' := by
        have : (if p = pr ∧ i = ip then some b else f p i) = some b' := hh
        rwa [if_neg hc] at this
      obtain ⟨e, hm, hk⟩ := hf _ _ _ hh'
      exact ⟨e, Or.inl hm, hk⟩

theorem setMap_turn (w : World) (bm : Nat) (es : Array MapEntry) (c : Nat) (hb : bm < w.heap.size) : Turn (fun k => k = bm) w (setMap w bm es c) :=
  ⟨rfl, rfl, rfl, by simp [setMap, ChangeMaps.setBlock], fun k _ hk => by simp [setMap, ChangeMaps.setBlock, Array.getElem?_setIfInBounds, Ne.symm hk]⟩

/-- 1024 words of nought. -/
def zeros : Array Value := Array.replicate 1024 (.int .u64 0)
theorem zero80 (w : World) : (zeroValue 80).run Try.prog w = .ok (.agg zeros) w := by kernel_rfl
end Go.Proofs.Ytpnobcffglohnaa
