/- The great seat: from the rows' listed tables to what the walks want (Env); the wrap that keeps the world's shape beside what the row lists; arrays of bytes opened. No condition. -/
import Derived.Test.YtbkpbcmjgbdbkaaGreatDoorY4
import Derived.LaidHandle
import Derived.Test.YtbkpbcmjgbdbkaaGreatDoorTie
import Derived.Lib.LaidU8T
import Derived.Deep.Modes
import Derived.Shelf.Vars
import Derived.HandedShaped
import Derived.ProofKit
import Derived.OpenShut
import Derived.ShutString
import Derived.LaidMore
import Derived.Lay
import Derived.Below
import Derived.Carry
namespace Go.Proofs.YtbkpbcmjgbdbkaaGreatDoor
open Go.RowKit Go.Lib Go.ChangeShapes Go.WideShapes Go.ChangeAt
set_option maxRecDepth 100000
set_option linter.unusedVariables false
set_option linter.unusedSimpArgs false

theorem below_turn {w w' : World} (t : Turn (fun _ => False) w w') : Below w.heap.size w w' := t.below (Nat.le_refl _) (fun _ _ h => h)
def laidL : List (String × DataW Unit) := [("math/bits.deBruijn32tab", Rows.laid_math_bits_deBruijn32tab), ("math/bits.deBruijn64tab", Rows.laid_math_bits_deBruijn64tab), ("internal/strconv.uint64pow10", Rows.laid_internal_strconv_uint64pow10), ("unicode/utf8.acceptRanges", Rows.laid_unicode_utf8_acceptRanges), ("errors.errorType", Rows.laid_errors_errorType), ("unicode/utf8.first", Rows.laid_unicode_utf8_first)]
def laidP : List (String × DataW Unit) := [("math/bits.deBruijn32tab", Rows.laid_math_bits_deBruijn32tab), ("math/bits.deBruijn64tab", Rows.laid_math_bits_deBruijn64tab), ("internal/strconv.uint64pow10", Rows.laid_internal_strconv_uint64pow10), ("unicode/utf8.acceptRanges", Rows.laid_unicode_utf8_acceptRanges), ("unicode/utf8.first", Rows.laid_unicode_utf8_first)]
theorem first_eq : Rows.laid_unicode_utf8_first = firstData := by kernel_rfl
theorem accept_eq : (Rows.laid_unicode_utf8_acceptRanges : DataW Unit) = acceptData := by kernel_rfl
theorem pow10_eq : (Rows.laid_internal_strconv_uint64pow10 : DataW Unit) = tabData .u64 Lib.pow10Tab := by kernel_rfl
theorem parts_of {W : World} (h : laidMetH Tryz.prog laidL W) : laidMet Tryz.prog laidP W ∧ handlesMet Tryz.prog [("errors.errorType", Rows.laid_errors_errorType)] W := h
theorem Tryz.et : Tryz.prog.globalNamed "errors.errorType" = some 0 := by kernel_rfl
theorem Tryz.rt : (Tryz.prog.cutTypes.find? (·.1 == "internal/reflectlite.rtype")).map (·.2) = some 156 := by kernel_rfl
theorem Tryz.sizeT : Tryz.prog.types.size = 238 := by kernel_rfl
theorem Tryz.oneRow : ((List.range 238).filter fun t => Tryz.prog.rowNamed t [101, 114, 114, 111, 114]) = [31] := by kernel_rfl
theorem errtype_of {W : World} (h : laidMetH Tryz.prog laidL W) : ErrType W := by
  obtain ⟨name, u, ty, e1, e2, e3, e4, e5⟩ := (parts_of h).2 _ (List.mem_singleton.2 rfl)
  have en : name = [101, 114, 114, 111, 114] := (Option.some.inj e1).symm
  subst en
  obtain rfl := Option.some.inj (Tryz.rt.symm.trans e2)
  have hm : ty ∈ (List.range 238).filter fun t => Tryz.prog.rowNamed t [101, 114, 114, 111, 114] := List.mem_filter.2 ⟨List.mem_range.2 (by rw [← Tryz.sizeT]; exact e3), e4⟩
  rw [Tryz.oneRow] at hm
  obtain rfl := List.mem_singleton.1 hm
  have hh : typeHandle Tryz.prog 31 = .pointer (some ⟨7, 31, none⟩) := by kernel_rfl
  rw [hh] at e5
  unfold ErrType
  simpa using World.var?_cell Tryz.et e5 0
theorem extra8 : U8Extra Tryz.prog Tryz.lays196_ren := ⟨by kernel_rfl, by kernel_rfl, by kernel_rfl, by kernel_rfl, by kernel_rfl, by kernel_rfl, by kernel_rfl⟩
theorem env_of {W : World} (hL0 : laidMetH Tryz.prog laidL W) (hsh : W.ShapedOpen Tryz.prog) : Env W := by
  have hL := (parts_of hL0).1
  have r1 : VarReads Tryz.prog W "unicode/utf8.first" firstData := first_eq ▸ Lib.laidMet.reads hL (.tail _ (.tail _ (.tail _ (.tail _ (.head _)))))
  have r2 : VarReads Tryz.prog W "unicode/utf8.acceptRanges" acceptData := accept_eq ▸ Lib.laidMet.reads hL (.tail _ (.tail _ (.tail _ (.head _))))
  have r3 : VarReads Tryz.prog W "internal/strconv.uint64pow10" (tabData .u64 Lib.pow10Tab) := pow10_eq ▸ Lib.laidMet.reads hL (.tail _ (.tail _ (.head _)))
  have r5 : VarReads Tryz.prog W "math/bits.deBruijn64tab" Rows.laid_math_bits_deBruijn64tab := Lib.laidMet.reads hL (.tail _ (.head _))
  have u8 : Lib.Utf8Tabs 1 2 W := utf8Tabs_of_readsT (U8Types.of196 Tryz.lays196) extra8 r1 r2
  obtain ⟨m, hm⟩ := cell_of_shapedOpen_int (P := Tryz.prog) (g := 4) (zero := #[.int .i64 0]) (t := 3) hsh (of_decide_eq_true (by kernel_rfl)) (by kernel_rfl) rfl (by kernel_rfl) (by kernel_rfl) Tryz.underlying3
  refine ⟨?_, ⟨m, hm⟩, u8, ?_⟩
  · obtain ⟨g, t, cs, fuel, p, hg, hty, hvar, hd⟩ := r5
    have h5 : Tryz.prog.globalNamed "math/bits.deBruijn64tab" = some 6 := by kernel_rfl
    unfold World.var? at hvar
    rw [h5] at hvar
    rcases Nat.lt_or_ge 6 W.heap.size with h | h
    · exact h
    · simp [Array.getElem?_eq_none h] at hvar
  · obtain ⟨g, t, cs, fuel, p, hg, hty, hvar, hd⟩ := r3
    obtain rfl := Option.some.inj (pow10_num.symm.trans hg)
    obtain rfl := Option.some.inj ((show (Tryz.prog.globals[3]?).map (·.type) = some 200 by kernel_rfl).symm.trans hty)
    have hcs := cells_of_tab (show Tryz.prog.underlying 200 = some (.array 20 100) by kernel_rfl) (show Tryz.prog.underlying 100 = some (.int .u64) by kernel_rfl) (by kernel_rfl) (by kernel_rfl) hd
    show W.var? Tryz.prog _ = _
    rw [hvar, ← hcs]

section
variable {H : Type} {enc : TypeId × Value → H}
/-- The wrap: what the row lists (X), and the world's shape beside it. -/
theorem lift_shaped {C : Checked} {os : Os} {f : FuncId} {fn : Func} {s : ChangeSpec} {X : World → Prop} (hX : ∀ (w w' : World), w.heap = w'.heap → X w → X w')
    (own : ownKnob C.prog.godebug = none) (started : os.Started) (noInit : C.prog.inits.idxOf? f = none) (hfn : C.prog.funcs[f]? = some fn)
    (witness : ∃ (w : World) (tape : Tape) (i : Input), w.os = os ∧ (w.forCall tape i).Shaped C.prog ∧ i.vars = [] ∧ Input.okWide C.prog (w.forCall tape i) .any w.heap.size f i ∧
      ((s.pre enc C.prog fn [] false (w.forCall tape i).memory i.args ∧ X (w.forCall tape i).memory) ∧ sizedMet enc C.prog fn (OpenSpec.ofChange s) false (w.forCall tape i).memory i.args) ∧ ({} : Assume).holds C.prog (lone (Frame.enter C.prog f i.args .normal) [] (w.forCall tape i)))
    (contract : ∀ (W : World) (base : Nat) (args : Array Value) (ds gs : List (DataW H)) (before : List MemPlace),
      (∀ (j : Nat) t v, fn.params[j]? = some t → args[j]? = some v → Value.okWide C.prog W .any base t v) →
      DataW.Whole enc C.prog fn.params.toList s.vars false W args.toList ds gs before → X W → W.ShapedOpen C.prog →
      Calls C.prog f args W fun e W' => ∃ v, e = .returned v ∧ s.post enc C.prog fn false true false false W args v W') :
    ReturnsInHanded {} C os f .any (fun w args => (s.pre enc C.prog fn [] false w args ∧ X w) ∧ sizedMet enc C.prog fn (OpenSpec.ofChange s) false w args) (s.post enc C.prog fn false true false false) := by
  refine returnsInHanded_of_calls own started noInit witness fun w tape i _ hsh _ hok hpre _ => ?_
  have hval := hok
  obtain ⟨_, _, _, fn', hfn', _, _, _, _, hv⟩ := hval
  have e : fn' = fn := Option.some.inj (hfn'.symm.trans hfn)
  subst e
  obtain ⟨⟨⟨ds, gs, before, hw, _⟩, hx⟩, _⟩ := hpre
  exact (contract (w.forCall tape i) w.heap.size i.args ds gs before hv (DataW.Whole.of_heap (w' := w.forCall tape i) (by rfl) hw) (hX _ _ (by rfl) hx) hsh).mono fun e W' ⟨v, he, hp⟩ => by
    subst he; exact ChangeSpec.post_blind hp
end

section
variable {H : Type} {enc : TypeId × Value → H} {W : World}
theorem open_agg8 {r : Reach} {b0 : Nat} {t : TypeId} {n : Nat} {v : Value} (ht : Tryz.prog.underlying t = some (.array n 5)) (hc : Tryz.prog.cellsOf t = n) (h : Value.okWide Tryz.prog W r b0 t v) : ∃ xs : Array Value, v = .agg xs ∧ xs.size = n := by
  simp only [Value.okWide, ht] at h
  obtain ⟨cs, h1, h2, _⟩ := h
  exact ⟨cs, h1, by rw [h2, hc]⟩
/-- An array of bytes that came in by value. -/
theorem open_row8 {base : Nat} {sp : Nat → Bool} {hd : Bool} {t : TypeId} {n : Nat} {xs : Array Value} {d : DataW H} {ps : List MemPlace} (ht : Tryz.prog.underlying t = some (.array n 5)) (hn : xs.size = n)
    (h : DataW.Trod enc Tryz.prog W base sp hd t (.agg xs) d ps) : ∃ M : List Nat, xs = u8row M ∧ M.length = n ∧ (∀ b ∈ M, b < 256) ∧ ps = [] := by
  obtain ⟨fuel, hf⟩ := h
  obtain ⟨ys, m, rfl, hx, hl, hyl, hall⟩ := DataW.trod_array ht hf
  have h1 : Tryz.prog.cellsOf 5 = 1 := by kernel_rfl
  have key : ∀ i, i < n → ∃ b : Nat, b < 256 ∧ xs[i]? = some (.int .u8 (b : Int)) ∧ ∃ y, ys[i]? = some (y, []) := fun i hi => by
    have hi2 := hall i hi
    rw [h1, Nat.mul_one] at hi2
    obtain ⟨y, hy⟩ : ∃ y, ys[i]? = some y := ⟨_, List.getElem?_eq_getElem (by omega)⟩
    rw [hy] at hi2
    obtain ⟨z, e1, e2, wz⟩ := DataW.trod_int Tryz.underlying5 hi2
    have hz := bounds_u8 wz
    refine ⟨z.toNat, by omega, ?_, y.1, ?_⟩
    · have hc : (Value.agg xs).cells.toList[i]? = some (.int .u8 z) := by
        have := congrArg (fun l => l[0]?) e1
        simp only [List.getElem?_cons_zero, List.getElem?_take, List.getElem?_drop] at this
        simpa using this
      have : xs[i]? = some (.int .u8 z) := by simpa [Value.cells] using hc
      rw [this, show ((z.toNat : Nat) : Int) = z by omega]
    · rw [hy, e2]
  obtain ⟨f, hf2⟩ : ∃ f : Nat → Nat, ∀ i, i < n → f i < 256 ∧ xs[i]? = some (.int .u8 (f i : Int)) := by
    refine ⟨fun i => if h : i < n then (key i h).choose else 0, fun i hi => ?_⟩
    simp only [dif_pos hi]
    exact ⟨(key i hi).choose_spec.1, (key i hi).choose_spec.2.1⟩
  refine ⟨(List.range n).map f, ?_, by simp, fun b hb => ?_, ?_⟩
  · apply Array.ext'
    apply List.ext_getElem?
    intro i
    unfold u8row
    by_cases hi : i < n
    · rw [Array.getElem?_toList, (hf2 i hi).2]
      simp [hi]
    · rw [List.getElem?_eq_none (by rw [Array.length_toList]; omega), List.getElem?_eq_none (by simp; omega)]
  · obtain ⟨i, hi, rfl⟩ := List.mem_map.1 hb
    exact (hf2 i (List.mem_range.1 hi)).1
  · have hp : ps = ys.flatMap (·.2) := congrArg Prod.snd hx
    rw [hp, List.flatMap_eq_nil_iff]
    intro y hy
    obtain ⟨i, hi, rfl⟩ := List.getElem_of_mem hy
    obtain ⟨_, _, _, z, hz⟩ := key i (by omega)
    rw [List.getElem?_eq_getElem hi] at hz
    rw [Option.some.inj hz]
end
/-- A world that meets the condition. -/
noncomputable def handleWorld (os : Os) : World :=
  let w0 := World.holding Tryz.prog os ⟨#[], #[], []⟩
  { w0 with heap := w0.heap.modify 0 fun
      | .cells _ t frozen => .cells #[.iface 156 (.agg #[.pointer (some ⟨7, 31, none⟩)])] t frozen
      | o => o }
noncomputable def laidWorld (os : Os) : World := (handleWorld os).layVars Tryz.prog laidP
theorem laidWorld_os (os : Os) : (laidWorld os).os = os := World.layVars_os _ _ _
theorem laidWorld_met (os : Os) (args : Array Value) : laidMetH Tryz.prog laidL ((laidWorld os).forCall (fun _ _ => 0) ⟨#[], args, []⟩).memory := by
  refine laidMetH_of_parts ?_ (by kernel_rfl)
  have e : (laidL.filter fun x => x.2.handleName?.isNone) = laidP := rfl
  rw [e]
  have e1 : (laidP.filter fun x => (laidP.map (·.1)).contains x.1) = laidP := List.filter_eq_self.2 fun x hx => List.contains_iff_mem.2 (List.mem_map.2 ⟨x, hx, rfl⟩)
  have e2 : (laidP.filter fun x => !(laidP.map (·.1)).contains x.1) = [] := List.filter_eq_nil_iff.2 fun x hx => by rw [List.contains_iff_mem.2 (List.mem_map.2 ⟨x, hx, rfl⟩)]; simp
  have h : laidMet Tryz.prog laidP (laidWorld os) := laidMet_layVars (w0 := handleWorld os) (laidP.map (·.1)) [] (by rw [e1]; rfl) (by rw [e1]; kernel_rfl) (by rw [e1]; kernel_rfl) (by rw [e2]; exact LaidIn.none)
  exact h.of_heap (by simp [World.memory, World.forCall, Input.heap])
theorem laidWorld_shaped (os : Os) : (laidWorld os).Shaped Tryz.prog := World.shaped_of_ZipB (by kernel_rfl) (by kernel_rfl)
end Go.Proofs.YtbkpbcmjgbdbkaaGreatDoor
