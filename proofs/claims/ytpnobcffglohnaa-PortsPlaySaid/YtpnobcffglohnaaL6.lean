/- LimitPlays: an argument of acts opened; the walks at every argument. No condition. -/
import Derived.Test.YtpnobcffglohnaaL5
import Derived.Deep.Slices
import Derived.ChangeSame
namespace Go.Proofs.Ytpnobcffglohnaa
open Go.RowKit

section
variable {H : Type} {enc : TypeId × Value → H} {P : Program} {w : World} {base : Nat} {spare : Nat → Bool} {held : Bool}

theorem one_of_drop {cs : List Value} {o : Nat} {v : Value} (h : (cs.drop o).take 1 = [v]) : cs[o]? = some v := by
  have : ((cs.drop o).take 1)[0]? = some v := by rw [h]; rfl
  simpa using this

/-- A whole number's field of a struct. -/
theorem field_int {t : TypeId} {fs : Array Field} {fuel : Nat} {cs : List Value} {x : DataW H × List MemPlace} (ht : P.underlying t = some (.struct fs)) (h : DataW.trod enc P w base spare held fuel t cs = some x)
    (j : Nat) (f : Field) (hf : fs[j]? = some f) (k : IntKind) (hk : P.underlying f.type = some (.int k)) (hc : P.cellsOf f.type = 1) : ∃ a, cs[f.offset]? = some (.int k a) ∧ (Lit.int k a).wf = true := by
  obtain ⟨xs, n, _, _, _, hl, hfs⟩ := DataW.trod_struct ht h
  have h1 := hfs j f hf
  have hj : j < xs.length := by rw [hl]; exact (Array.getElem?_eq_some_iff.1 hf).1
  rw [hc, List.getElem?_eq_getElem hj] at h1
  obtain ⟨a, h2, _, hw⟩ := DataW.trod_int hk h1
  exact ⟨a, one_of_drop h2, hw⟩
theorem field_bool {t : TypeId} {fs : Array Field} {fuel : Nat} {cs : List Value} {x : DataW H × List MemPlace} (ht : P.underlying t = some (.struct fs)) (h : DataW.trod enc P w base spare held fuel t cs = some x)
    (j : Nat) (f : Field) (hf : fs[j]? = some f) (hk : P.underlying f.type = some .bool) (hc : P.cellsOf f.type = 1) : ∃ a, cs[f.offset]? = some (.bool a) := by
  obtain ⟨xs, n, _, _, _, hl, hfs⟩ := DataW.trod_struct ht h
  have h1 := hfs j f hf
  have hj : j < xs.length := by rw [hl]; exact (Array.getElem?_eq_some_iff.1 hf).1
  rw [hc, List.getElem?_eq_getElem hj] at h1
  obtain ⟨a, h2, _⟩ := DataW.trod_bool hk h1
  exact ⟨a, one_of_drop h2⟩
/-- A struct's field that is a struct. -/
theorem field_sub {t : TypeId} {fs : Array Field} {fuel : Nat} {cs : List Value} {x : DataW H × List MemPlace} (ht : P.underlying t = some (.struct fs)) (h : DataW.trod enc P w base spare held fuel t cs = some x)
    (j : Nat) (f : Field) (hf : fs[j]? = some f) : ∃ n y, DataW.trod enc P w base spare held n f.type ((cs.drop f.offset).take (P.cellsOf f.type)) = some y := by
  obtain ⟨xs, n, _, _, _, hl, hfs⟩ := DataW.trod_struct ht h
  have h1 := hfs j f hf
  have hj : j < xs.length := by rw [hl]; exact (Array.getElem?_eq_some_iff.1 hf).1
  rw [List.getElem?_eq_getElem hj] at h1
  exact ⟨n, _, h1⟩

theorem cell_block_lt {b o : Nat} {sp : Option Nat} {v : Value} (h : w.cell? ⟨b, o, sp⟩ = some v) : b < w.heap.size := by
  unfold World.cell? at h
  split at h
  · rename_i h3; exact block_lt h3
  · cases h

/-- A slice of elements of C cells, not empty: its place; each element's cells, and that they read. -/
theorem open_elems {t e : TypeId} {C : Nat} {ao : Option Addr} {len cap : Nat} {d : DataW H} {p : List MemPlace} (ht : P.underlying t = some (.slice e)) (hC : P.cellsOf e = C) (hC0 : 0 < C)
    (h : DataW.Trod enc P w base spare held t (.slice ao len cap) d p) (h0 : 0 < len) :
    ∃ b off, ao = some ⟨b, off, none⟩ ∧ b < w.heap.size ∧ len ≤ cap ∧ cap ≤ maxLen ∧ ∀ i, i < len → ∃ (cs : List Value) (n : Nat) (y : DataW H × List MemPlace), cs.length = C ∧ DataW.trod enc P w base spare held n e cs = some y ∧
      ∀ j v, cs[j]? = some v → w.cell? ⟨b, off + i * C + j, none⟩ = some v := by
  obtain ⟨fuel, hf⟩ := h
  rcases Deep.open_slice ht hf with ⟨hcs, _⟩ | ⟨a, len', cap', m, n, D, Pl, hcs, hb, hl, hm, hmm, hx, hi⟩
  · simp [Value.cells] at hcs; omega
  · simp [Value.cells] at hcs
    obtain ⟨rfl, rfl, rfl⟩ := hcs
    obtain ⟨b, off, sp⟩ := a
    have hm' : len ≤ m := by rw [hmm]; split <;> omega
    have hsp : sp = none := by
      obtain ⟨cs, hc, _⟩ := hi 0 (by omega)
      obtain ⟨_, hl0, hat⟩ := World.cells?_some hc
      have h1 := hat 0 (by omega)
      rw [List.getElem?_eq_getElem (by omega)] at h1
      have h2 : w.cell? ⟨b, off, sp⟩ = some (cs[0]'(by omega)) := by simpa [Addr.add] using h1
      simpa using World.cell?_spot h2
    subst hsp
    have hat' : ∀ i, i < len → ∃ (cs : List Value) (n : Nat) (y : DataW H × List MemPlace), cs.length = C ∧ DataW.trod enc P w base spare held n e cs = some y ∧
      ∀ j v, cs[j]? = some v → w.cell? ⟨b, off + i * C + j, none⟩ = some v := by
      intro i hlt
      obtain ⟨cs, hc, ht'⟩ := hi i (by omega)
      obtain ⟨_, hl0, hat⟩ := World.cells?_some hc
      rw [hC] at hl0
      refine ⟨cs, n, _, hl0, ht', fun j v hv => ?_⟩
      have hj : j < P.cellsOf e := by rw [hC, ← hl0]; exact (List.getElem?_eq_some_iff.1 hv).1
      have h1 := hat j hj
      rw [hv, hC] at h1
      rw [← h1]
      congr 1
      simp only [Addr.add]
      split <;> split <;> simp_all
    refine ⟨b, off, rfl, ?_, hl, hm, hat'⟩
    obtain ⟨cs, n', y, hl0, _, hc⟩ := hat' 0 h0
    exact cell_block_lt (hc 0 _ (List.getElem?_eq_getElem (by omega)))
end

theorem act_cells : Try.prog.cellsOf 39 = 5 := by kernel_rfl

theorem acts_open {H : Type} {enc : TypeId × Value → H} {w : World} {base : Nat} {spare : Nat → Bool} {held : Bool} {ao : Option Addr} {len cap : Nat} {d : DataW H} {p : List MemPlace}
    (h : DataW.Trod enc Try.prog w base spare held 34 (.slice ao len cap) d p) (h0 : 0 < len) :
    ∃ b off wh n ra bu sm, ao = some ⟨b, off, none⟩ ∧ Acts w b off len wh n ra bu sm := by
  obtain ⟨b, off, rfl, hb, _, _, hi⟩ := open_elems Try.underlying34 act_cells (by decide) h h0
  have hall : ∀ i, ∃ x : Int × Int × Int × Int × Bool, i < len → w.cell? ⟨b, off + i * 5, none⟩ = some (.int .i64 x.1) ∧ w.cell? ⟨b, off + i * 5 + 1, none⟩ = some (.int .u32 x.2.1) ∧
      w.cell? ⟨b, off + i * 5 + 2, none⟩ = some (.int .u32 x.2.2.1) ∧ w.cell? ⟨b, off + i * 5 + 3, none⟩ = some (.int .u32 x.2.2.2.1) ∧ w.cell? ⟨b, off + i * 5 + 4, none⟩ = some (.bool x.2.2.2.2) ∧
      (Lit.int .u32 x.2.1).wf = true ∧ (Lit.int .u32 x.2.2.1).wf = true ∧ (Lit.int .u32 x.2.2.2.1).wf = true := by
    intro i
    by_cases hl : i < len
    · obtain ⟨cs, m, y, hlen, ht, hc⟩ := hi i hl
      obtain ⟨a0, k0, _⟩ := field_int Try.underlying39 ht 0 _ rfl .i64 Try.underlying3 (by kernel_rfl)
      obtain ⟨a1, k1, q1⟩ := field_int Try.underlying39 ht 1 _ rfl .u32 Try.underlying22 (by kernel_rfl)
      obtain ⟨a2, k2, q2⟩ := field_int Try.underlying39 ht 2 _ rfl .u32 Try.underlying22 (by kernel_rfl)
      obtain ⟨a3, k3, q3⟩ := field_int Try.underlying39 ht 3 _ rfl .u32 Try.underlying22 (by kernel_rfl)
      obtain ⟨a4, k4⟩ := field_bool Try.underlying39 ht 4 _ rfl Try.underlying4 (by kernel_rfl)
      exact ⟨(a0, a1, a2, a3, a4), fun _ => ⟨hc 0 _ k0, hc 1 _ k1, hc 2 _ k2, hc 3 _ k3, hc 4 _ k4, q1, q2, q3⟩⟩
    · exact ⟨(0, 0, 0, 0, false), fun h => absurd h hl⟩
  obtain ⟨f, hf⟩ := Classical.axiomOfChoice hall
  exact ⟨b, off, fun i => (f i).1, fun i => (f i).2.1, fun i => (f i).2.2.1, fun i => (f i).2.2.2.1, fun i => (f i).2.2.2.2, rfl,
    ⟨hb, fun i h => (hf i h).1, fun i h => (hf i h).2.1, fun i h => (hf i h).2.2.1, fun i h => (hf i h).2.2.2.1, fun i h => (hf i h).2.2.2.2.1,
      fun i h => wf_u32 (hf i h).2.2.2.2.2.1, fun i h => wf_u32 (hf i h).2.2.2.2.2.2.1, fun i h => wf_u32 (hf i h).2.2.2.2.2.2.2⟩⟩

set_option maxHeartbeats 1000000 in
theorem plays_nil (r m : Int) (ao : Option Addr) (cap : Nat) (w : World) :
    Calls Try.prog 5 #[.int .u32 r, .int .u32 m, .slice ao 0 cap] w fun e w' => e = .returned (.bool true) ∧ Below w.heap.size w w' := by
  go_enter Try.func5, Try.ntmps5
  go_wp2_with fail
  refine (known20 _).mono ?_; rintro e w0 ⟨rfl, t0⟩
  go_wp2_with fail
  refine (new_any _ _ _).mono ?_; rintro e w1 ⟨rfl, hw1⟩
  have t1 : Below w.heap.size w w1 := by rw [hw1]; exact t0.alloc t0.size _
  clear hw1 t0
  generalize w0.heap.size = B at *
  have t2 : Below w.heap.size w (w1.alloc (.cells #[.int .u32 r, .int .u32 m, .int .u32 m] 37)) := t1.alloc t1.size _
  go_wp2_with fail
  refine wp_loop_rounds 1 ?_; rw [rounds_succ]
  go_wp2_with fail
  go_ret
  exact ⟨rfl, t2⟩

set_option maxHeartbeats 1000000 in
theorem plays_long (r m : Int) (ao : Option Addr) (len cap : Nat) (hlen : 100 < len) (hl : len ≤ maxLen) (w : World) :
    Calls Try.prog 5 #[.int .u32 r, .int .u32 m, .slice ao len cap] w fun e w' => e = .returned (.bool true) ∧ Below w.heap.size w w' := by
  unfold maxLen at hl
  go_enter Try.func5, Try.ntmps5
  go_wp2_with fail
  refine (known20 _).mono ?_; rintro e w0 ⟨rfl, t0⟩
  go_wp2_with fail
  go_ret
  exact ⟨rfl, t0⟩

theorem slice_len {H : Type} {enc : TypeId × Value → H} {P : Program} {w : World} {base : Nat} {spare : Nat → Bool} {held : Bool} {t e : TypeId} {ao : Option Addr} {len cap : Nat} {d : DataW H} {p : List MemPlace}
    (ht : P.underlying t = some (.slice e)) (h : DataW.Trod enc P w base spare held t (.slice ao len cap) d p) : len ≤ maxLen := by
  obtain ⟨fuel, hf⟩ := h
  rcases Deep.open_slice ht hf with ⟨hcs, _⟩ | ⟨a, len', cap', m, n, D, Pl, hcs, hb, hl, hm, _⟩
  · simp [Value.cells] at hcs; omega
  · simp [Value.cells] at hcs; omega

theorem plays_all {H : Type} {enc : TypeId × Value → H} {w : World} {base : Nat} {spare : Nat → Bool} {held : Bool} {ao : Option Addr} {len cap : Nat} {d : DataW H} {p : List MemPlace}
    (r m : Int) (w0 : (Lit.int .u32 r).wf = true) (w1 : (Lit.int .u32 m).wf = true) (h : DataW.Trod enc Try.prog w base spare held 34 (.slice ao len cap) d p) :
    Calls Try.prog 5 #[.int .u32 r, .int .u32 m, .slice ao len cap] w fun e w' => e = .returned (.bool true) ∧ Below w.heap.size w w' := by
  by_cases hl : 100 < len
  · exact plays_long r m ao len cap hl (slice_len Try.underlying34 h) w
  · by_cases h0 : len = 0
    · subst h0; exact plays_nil r m ao cap w
    · obtain ⟨b, off, wh, n, ra, bu, sm, rfl, hA⟩ := acts_open h (by omega)
      exact plays_walk r m b off len cap wh n ra bu sm w (wf_u32 w0).1 (wf_u32 w0).2 (wf_u32 w1).1 (wf_u32 w1).2 hA (by omega)
end Go.Proofs.Ytpnobcffglohnaa
