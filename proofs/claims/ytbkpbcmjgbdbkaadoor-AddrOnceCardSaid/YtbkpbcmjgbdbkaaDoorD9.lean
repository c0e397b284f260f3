/- The library's contracts over the world that the calls want (Env). -/
import Derived.Test.YtbkpbcmjgbdbkaaDoorE6
import Derived.Test.YtbkpbcmjgbdbkaaDoorShelf
namespace Go.Proofs.YtbkpbcmjgbdbkaaDoor
open Go.RowKit Go.Lib
set_option linter.unusedVariables false
set_option linter.unusedSimpArgs false

theorem turn_of_below {w w' : World} (h : Below w.heap.size w w') : Turn (fun _ => False) w w' := ⟨h.os, h.tape, h.output, h.size, fun k hk _ => h.block k hk⟩
/-- What the library's functions want of the world: the tables that their calls read, as they were laid. -/
structure Env (w : World) : Prop where
  six : 6 ≤ w.heap.size
  maxlen : ∃ m, w.cell? ⟨2, 0, none⟩ = some (.int .i64 m)
  utf8 : Lib.Utf8Tabs 0 1 w
  pow10 : Lib.TabIs Tryd.prog w "internal/strconv.uint64pow10" .u64 Lib.pow10Tab
theorem pow10_num : Tryd.prog.globalNamed "internal/strconv.uint64pow10" = some 3 := by kernel_rfl
theorem cell_turn {F : Nat → Prop} {w w' : World} (t : Turn F w w') {a : Addr} (h : a.block < w.heap.size) (hF : ¬ F a.block) : w'.cell? a = w.cell? a := World.cell?_of_block (t.block a.block h hF)
theorem var_turn {F : Nat → Prop} {w w' : World} (t : Turn F w w') {g : Nat} {n : String} (hn : Tryd.prog.globalNamed n = some g) (h : g < w.heap.size) (hF : ¬ F g) : w'.var? Tryd.prog n = w.var? Tryd.prog n := by
  unfold World.var?
  rw [hn]
  simp [t.block g h hF]
theorem Env.turn {w w' : World} {F : Nat → Prop} (e : Env w) (t : Turn F w w') (hF : ∀ i, i < 6 → ¬ F i) : Env w' where
  six := Nat.le_trans e.six t.size
  maxlen := by
    obtain ⟨m, hm⟩ := e.maxlen
    exact ⟨m, (cell_turn t (show 2 < w.heap.size by have := e.six; omega) (hF 2 (by omega))).trans hm⟩
  utf8 := by
    have h6 := e.six
    refine ⟨fun c hc => (cell_turn t (show 0 < w.heap.size by omega) (hF 0 (by omega))).trans (e.utf8.1 c hc), fun i hi => ?_⟩
    have := e.utf8.2 i hi
    exact ⟨(cell_turn t (show 1 < w.heap.size by omega) (hF 1 (by omega))).trans this.1, (cell_turn t (show 1 < w.heap.size by omega) (hF 1 (by omega))).trans this.2⟩
  pow10 := by
    have h6 := e.six
    show w'.var? Tryd.prog _ = _
    rw [var_turn t pow10_num (by omega) (hF 3 (by omega))]
    exact e.pow10
theorem psplit (s : ByteArray) (c : UInt8) (w : World) (h : Env w) (hs : s.size ≤ 1000000) : Calls Tryd.prog 28 #[.string s, .string ⟨#[c]⟩] w (PartsPost s c w) := by
  obtain ⟨m, hm⟩ := h.maxlen
  have := Tryd.strings_Split s ⟨#[c]⟩ m w (by omega) hm (Nat.le_refl 1)
  rw [split_len, split_parts] at this
  refine this.mono fun e w' ⟨he, hw⟩ => ⟨w.heap.size, _, he, fun i p hp => ?_, by rw [hw]; simp, by rw [hw]; exact (Turn.refl _ _).alloc _⟩
  rw [hw, cell_of_block (block_alloc_new _ _)]
  simp [hp]
end Go.Proofs.YtbkpbcmjgbdbkaaDoor
