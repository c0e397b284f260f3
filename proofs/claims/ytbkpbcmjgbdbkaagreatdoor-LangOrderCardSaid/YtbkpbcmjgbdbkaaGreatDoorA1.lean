/- An argument of settings opened: what its cells say, as settings in plain Lean. No condition. -/
import Derived.Test.YtbkpbcmjgbdbkaaGreatDoorA0
import Derived.Deep.Slices
import Derived.ChangeSame
namespace Go.Proofs.YtbkpbcmjgbdbkaaGreatDoor
open Go.RowKit Go.Lib Go.WideShapes
set_option maxRecDepth 100000
set_option linter.unusedVariables false
set_option linter.unusedSimpArgs false

section
variable {H : Type} {enc : TypeId × Value → H} {P : Program} {w : World} {base : Nat} {spare : Nat → Bool} {held : Bool}
theorem one_of_drop {cs : List Value} {o : Nat} {v : Value} (h : (cs.drop o).take 1 = [v]) : cs[o]? = some v := by
  have : ((cs.drop o).take 1)[0]? = some v := by rw [h]; rfl
  simpa using this
/-- A struct's field, as it reads. -/
theorem field_sub {t : TypeId} {fs : Array Field} {fuel : Nat} {cs : List Value} {x : DataW H × List MemPlace} (ht : P.underlying t = some (.struct fs)) (h : DataW.trod enc P w base spare held fuel t cs = some x)
    (j : Nat) (f : Field) (hf : fs[j]? = some f) : ∃ n y, DataW.trod enc P w base spare held n f.type ((cs.drop f.offset).take (P.cellsOf f.type)) = some y := by
  obtain ⟨xs, n, _, _, _, hl, hfs⟩ := DataW.trod_struct ht h
  have h1 := hfs j f hf
  have hj : j < xs.length := by rw [hl]; exact (Array.getElem?_eq_some_iff.1 hf).1
  rw [List.getElem?_eq_getElem hj] at h1
  exact ⟨n, _, h1⟩
theorem field_int {t : TypeId} {fs : Array Field} {fuel : Nat} {cs : List Value} {x : DataW H × List MemPlace} (ht : P.underlying t = some (.struct fs)) (h : DataW.trod enc P w base spare held fuel t cs = some x)
    (j : Nat) (f : Field) (hf : fs[j]? = some f) (k : IntKind) (hk : P.underlying f.type = some (.int k)) (hc : P.cellsOf f.type = 1) : ∃ a, cs[f.offset]? = some (.int k a) ∧ (Lit.int k a).wf = true := by
  obtain ⟨n, y, h1⟩ := field_sub ht h j f hf
  rw [hc] at h1
  obtain ⟨a, h2, _, hw⟩ := DataW.trod_int hk h1
  exact ⟨a, one_of_drop h2, hw⟩
theorem field_str {t : TypeId} {fs : Array Field} {fuel : Nat} {cs : List Value} {x : DataW H × List MemPlace} (ht : P.underlying t = some (.struct fs)) (h : DataW.trod enc P w base spare held fuel t cs = some x)
    (j : Nat) (f : Field) (hf : fs[j]? = some f) (hk : P.underlying f.type = some .string) (hc : P.cellsOf f.type = 1) : ∃ s : ByteArray, cs[f.offset]? = some (.string s) ∧ s.size ≤ maxLen := by
  obtain ⟨n, y, h1⟩ := field_sub ht h j f hf
  rw [hc] at h1
  obtain ⟨s, h2, _, hw⟩ := DataW.trod_string hk h1
  exact ⟨s, one_of_drop h2, hw⟩
theorem cell_block_lt {b o : Nat} {sp : Option Nat} {v : Value} (h : w.cell? ⟨b, o, sp⟩ = some v) : b < w.heap.size := by
  unfold World.cell? at h
  split at h
  · rename_i h3; exact block_lt h3
  · cases h
/-- A slice of elements of C cells, not empty: its place; each element's cells, and that they read. -/
theorem open_elems {t e : TypeId} {C : Nat} {ao : Option Addr} {len cap : Nat} {d : DataW H} {p : List MemPlace} (ht : P.underlying t = some (.slice e)) (hC : P.cellsOf e = C) (hC0 : 0 < C)
    (h : DataW.Trod enc P w base spare held t (.slice ao len cap) d p) (h0 : 0 < len) :
    ∃ b off, ao = some ⟨b, off, none⟩ ∧ b < w.heap.size ∧ len ≤ cap ∧ cap ≤ maxLen ∧ ∀ i, i < len → ∃ (cs : List Value) (n : Nat) (y : DataW H × List MemPlace), cs.length = C ∧ DataW.trod enc P w base spare held n e cs = some y ∧
      ∀ j v, cs[j]? = some v → w.cell? ⟨b, off + i * C + j, none⟩ = some v := by
  obtain ⟨fuel, hf⟩ := h
  rcases Deep.open_slice ht hf with ⟨hcs, _⟩ | ⟨a, len', cap', m, n, D, Pl, hcs, hb, hl, hm, hmm, hx, hi⟩
  · simp [Value.cells] at hcs; omega
  · simp [Value.cells] at hcs
    obtain ⟨rfl, rfl, rfl⟩ := hcs
    obtain ⟨b, off, sp⟩ := a
    have hm' : len ≤ m := by rw [hmm]; split <;> omega
    have hsp : sp = none := by
      obtain ⟨cs, hc, _⟩ := hi 0 (by omega)
      obtain ⟨_, hl0, hat⟩ := World.cells?_some hc
      have h1 := hat 0 (by omega)
      rw [List.getElem?_eq_getElem (by omega)] at h1
      have h2 : w.cell? ⟨b, off, sp⟩ = some (cs[0]'(by omega)) := by simpa [Addr.add] using h1
      simpa using World.cell?_spot h2
    subst hsp
    have hat' : ∀ i, i < len → ∃ (cs : List Value) (n : Nat) (y : DataW H × List MemPlace), cs.length = C ∧ DataW.trod enc P w base spare held n e cs = some y ∧
      ∀ j v, cs[j]? = some v → w.cell? ⟨b, off + i * C + j, none⟩ = some v := by
      intro i hlt
      obtain ⟨cs, hc, ht'⟩ := hi i (by omega)
      obtain ⟨_, hl0, hat⟩ := World.cells?_some hc
      rw [hC] at hl0
      refine ⟨cs, n, _, hl0, ht', fun j v hv => ?_⟩
      have hj : j < P.cellsOf e := by rw [hC, ← hl0]; exact (List.getElem?_eq_some_iff.1 hv).1
      have h1 := hat j hj
      rw [hv, hC] at h1
      rw [← h1]
      congr 1
      simp only [Addr.add]
      split <;> split <;> simp_all
    refine ⟨b, off, rfl, ?_, hl, hm, hat'⟩
    obtain ⟨cs, n', y, hl0, _, hc⟩ := hat' 0 h0
    exact cell_block_lt (hc 0 _ (List.getElem?_eq_getElem (by omega)))
theorem slice_len {t e : TypeId} {ao : Option Addr} {len cap : Nat} {d : DataW H} {p : List MemPlace}
    (ht : P.underlying t = some (.slice e)) (h : DataW.Trod enc P w base spare held t (.slice ao len cap) d p) : len ≤ maxLen := by
  obtain ⟨fuel, hf⟩ := h
  rcases Deep.open_slice ht hf with ⟨hcs, _⟩ | ⟨a, len', cap', m, n, D, Pl, hcs, hb, hl, hm, _⟩
  · simp [Value.cells] at hcs; omega
  · simp [Value.cells] at hcs; omega
/-- The cell of a slice. -/
theorem slice_form {t e : TypeId} {n : Nat} {cs : List Value} {y : DataW H × List MemPlace} (ht : P.underlying t = some (.slice e)) (h : DataW.trod enc P w base spare held n t cs = some y) :
    ∃ ao len cap, cs = [.slice ao len cap] ∧ DataW.Trod enc P w base spare held t (.slice ao len cap) y.1 y.2 := by
  have key : ∀ ao len cap, cs = [.slice ao len cap] → ∃ ao len cap, cs = [.slice ao len cap] ∧ DataW.Trod enc P w base spare held t (.slice ao len cap) y.1 y.2 := fun ao len cap hc =>
    ⟨ao, len, cap, hc, n, by show DataW.trod enc P w base spare held n t [.slice ao len cap] = some (y.1, y.2); rw [← hc]; exact h⟩
  rcases Deep.open_slice ht h with ⟨hcs, _⟩ | ⟨a, len', cap', m, n', D, Pl, hcs, _⟩
  · exact key _ _ _ hcs
  · exact key _ _ _ hcs
/-- A list chosen, place by place. -/
theorem list_choose {α : Type} [Inhabited α] {len : Nat} {R : Nat → α → Prop} (h : ∀ i, i < len → ∃ x, R i x) : ∃ l : List α, l.length = len ∧ ∀ i x, l[i]? = some x → R i x := by
  have h' : ∀ i, ∃ x, i < len → R i x := fun i => by
    by_cases hi : i < len
    · obtain ⟨x, hx⟩ := h i hi; exact ⟨x, fun _ => hx⟩
    · exact ⟨default, fun h => absurd h hi⟩
  obtain ⟨f, hf⟩ := Classical.axiomOfChoice h'
  refine ⟨(List.range len).map f, by simp, fun i x hx => ?_⟩
  rw [List.getElem?_map] at hx
  by_cases hi : i < len
  · rw [List.getElem?_range hi] at hx
    cases hx
    exact hf i hi
  · rw [List.getElem?_eq_none (by simp; omega)] at hx; cases hx
end
/-! ### whole numbers -/
theorem nat_u32 {n : Int} (h : (Lit.int .u32 n).wf = true) : ∃ m : Nat, n = (m : Int) ∧ m < 4294967296 := by
  have := bounds_u32 h
  exact ⟨n.toNat, by omega, by omega⟩
theorem nat_u16 {n : Int} (h : (Lit.int .u16 n).wf = true) : ∃ m : Nat, n = (m : Int) ∧ m < 65536 := by
  have := bounds_u16 h
  exact ⟨n.toNat, by omega, by omega⟩
theorem nat_u8 {n : Int} (h : (Lit.int .u8 n).wf = true) : ∃ m : Nat, n = (m : Int) ∧ m < 256 := by
  have := bounds_u8 h
  exact ⟨n.toNat, by omega, by omega⟩
theorem rng_i64 {n : Int} (h : (Lit.int .i64 n).wf = true) : -9223372036854775808 ≤ n ∧ n ≤ 9223372036854775807 := by
  simp [Lit.wf, IntKind.min, IntKind.max, IntKind.bits, IntKind.signed] at h; omega
/-! ### lists, of whatever length -/
def NumsAny (w : World) (v : Value) (l : List Nat) : Prop :=
  ∃ ao cap, v = .slice ao l.length cap ∧ l.length ≤ maxLen ∧ ∀ (i x : Nat), l[i]? = some x → x < 4294967296 ∧ ∃ b off, ao = some ⟨b, off, none⟩ ∧ b < w.heap.size ∧ w.cell? ⟨b, off + i, none⟩ = some (.int .u32 (x : Int))
def PairsAny (w : World) (v : Value) (l : List (Nat × Nat)) : Prop :=
  ∃ ao cap, v = .slice ao l.length cap ∧ l.length ≤ maxLen ∧ ∀ (i : Nat) (x : Nat × Nat), l[i]? = some x → (x.1 < 4294967296 ∧ x.2 < 4294967296) ∧ ∃ b off, ao = some ⟨b, off, none⟩ ∧ b < w.heap.size ∧ w.cell? ⟨b, off + i * 2, none⟩ = some (.int .u32 (x.1 : Int)) ∧ w.cell? ⟨b, off + i * 2 + 1, none⟩ = some (.int .u32 (x.2 : Int))
theorem NumsAny.in_ {w : World} {v : Value} {l : List Nat} (h : NumsAny w v l) (hl : l.length ≤ 1000000) : NumsIn w v l := by
  obtain ⟨ao, cap, h1, h2, h3⟩ := h
  exact ⟨ao, cap, h1, hl, fun i x hx => (h3 i x hx).2⟩
theorem NumsAny.lt {w : World} {v : Value} {l : List Nat} (h : NumsAny w v l) : ∀ x ∈ l, x < 4294967296 := fun x hx => by
  obtain ⟨ao, cap, h1, h2, h3⟩ := h
  obtain ⟨i, hi⟩ := List.mem_iff_getElem?.1 hx
  exact (h3 i x hi).1
theorem PairsAny.in_ {w : World} {v : Value} {l : List (Nat × Nat)} (h : PairsAny w v l) (hl : l.length ≤ 1000000) : PairsIn w v l := by
  obtain ⟨ao, cap, h1, h2, h3⟩ := h
  exact ⟨ao, cap, h1, hl, fun i x hx => (h3 i x hx).2⟩
theorem PairsAny.lt {w : World} {v : Value} {l : List (Nat × Nat)} (h : PairsAny w v l) : ∀ x ∈ l, x.1 < 4294967296 ∧ x.2 < 4294967296 := fun x hx => by
  obtain ⟨ao, cap, h1, h2, h3⟩ := h
  obtain ⟨i, hi⟩ := List.mem_iff_getElem?.1 hx
  exact (h3 i x hi).1
structure RngT (t : Ten) : Prop where
  name : t.name.size ≤ maxLen
  vni : t.vni < 4294967296
  key : ∀ b ∈ t.key, b < 256
  vtep : t.vtep < 4294967296
  vmac : ∀ b ∈ t.vmac, b < 256
  host : ∀ b ∈ t.host, b < 256
  lo : t.lo < 65536
  hi : t.hi < 65536
  sess : t.sess < 9223372036854775808
  queue : t.queue < 9223372036854775808
  rate : t.rate < 4294967296
  burst : t.burst < 4294967296
def TenAny (w : World) (x : TenM) : Prop := WfTen x.1 ∧ NumsAny w x.2.1 x.1.pool ∧ PairsAny w x.2.2.1 x.1.statics ∧ PairsAny w x.2.2.2 x.1.twices ∧ RngT x.1
def TensAny (w : World) (tv : Value) (l : List TenM) : Prop :=
  ∃ ao cap, tv = .slice ao l.length cap ∧ l.length ≤ maxLen ∧ ∀ (i : Nat) (x : TenM), l[i]? = some x → TenAny w x ∧ ∃ b off, ao = some ⟨b, off, none⟩ ∧ b < w.heap.size ∧ ∀ (j : Nat) (u : Value), (tmRow x).toList[j]? = some u → w.cell? ⟨b, off + i * 33 + j, none⟩ = some u
section
variable {H : Type} {enc : TypeId × Value → H} {w : World} {base : Nat} {spare : Nat → Bool} {held : Bool}
theorem cells41 : Tryz.prog.cellsOf 41 = 1 := by kernel_rfl
theorem cells43 : Tryz.prog.cellsOf 43 = 1 := by kernel_rfl
theorem cells27 : Tryz.prog.cellsOf 27 = 1 := by kernel_rfl
theorem cells23 : Tryz.prog.cellsOf 23 = 1 := by kernel_rfl
theorem cells97 : Tryz.prog.cellsOf 97 = 2 := by kernel_rfl
theorem cells45 : Tryz.prog.cellsOf 45 = 33 := by kernel_rfl
theorem cells25 : Tryz.prog.cellsOf 25 = 6 := by kernel_rfl
theorem cells26 : Tryz.prog.cellsOf 26 = 8 := by kernel_rfl
theorem cells29 : Tryz.prog.cellsOf 29 = 29 := by kernel_rfl
theorem nums_open {n : Nat} {cs : List Value} {y : DataW H × List MemPlace} (h : DataW.trod enc Tryz.prog w base spare held n 41 cs = some y) : ∃ v l, cs = [v] ∧ NumsAny w v l := by
  obtain ⟨ao, len, cap, rfl, hT⟩ := slice_form Tryz.underlying41 h
  have hl := slice_len Tryz.underlying41 hT
  by_cases h0 : 0 < len
  · obtain ⟨b, off, rfl, hb, _, _, hi⟩ := open_elems Tryz.underlying41 (C := 1) cells23 (by decide) hT h0
    obtain ⟨l, hll, hR⟩ := list_choose (len := len) (R := fun i (x : Nat) => x < 4294967296 ∧ w.cell? ⟨b, off + i, none⟩ = some (.int .u32 (x : Int))) (fun i hlt => by
      obtain ⟨cs', m, z, hlen, ht, hc'⟩ := hi i hlt
      obtain ⟨x, h1, _, h3⟩ := DataW.trod_int Tryz.underlying23 ht
      obtain ⟨k, rfl, hk⟩ := nat_u32 h3
      have := hc' 0 (.int .u32 (k : Int)) (by rw [h1]; rfl)
      exact ⟨k, hk, by simpa using this⟩)
    subst hll
    exact ⟨_, l, rfl, _, _, rfl, hl, fun i x hx => ⟨(hR i x hx).1, b, off, rfl, hb, (hR i x hx).2⟩⟩
  · obtain rfl : len = 0 := by omega
    exact ⟨_, [], rfl, _, _, rfl, by simp, fun i x hx => by simp at hx⟩
theorem pairs_open {n : Nat} {cs : List Value} {y : DataW H × List MemPlace} (h : DataW.trod enc Tryz.prog w base spare held n 43 cs = some y) : ∃ v l, cs = [v] ∧ PairsAny w v l := by
  obtain ⟨ao, len, cap, rfl, hT⟩ := slice_form Tryz.underlying43 h
  have hl := slice_len Tryz.underlying43 hT
  by_cases h0 : 0 < len
  · obtain ⟨b, off, rfl, hb, _, _, hi⟩ := open_elems Tryz.underlying43 (C := 2) cells97 (by decide) hT h0
    obtain ⟨l, hll, hR⟩ := list_choose (len := len) (R := fun i (x : Nat × Nat) => (x.1 < 4294967296 ∧ x.2 < 4294967296) ∧ w.cell? ⟨b, off + i * 2, none⟩ = some (.int .u32 (x.1 : Int)) ∧ w.cell? ⟨b, off + i * 2 + 1, none⟩ = some (.int .u32 (x.2 : Int))) (fun i hlt => by
      obtain ⟨cs', m, z, hlen, ht, hc'⟩ := hi i hlt
      obtain ⟨x1, h1, q1⟩ := field_int Tryz.underlying97 ht 0 _ rfl .u32 Tryz.underlying23 cells23
      obtain ⟨x2, h2, q2⟩ := field_int Tryz.underlying97 ht 1 _ rfl .u32 Tryz.underlying23 cells23
      obtain ⟨k1, rfl, hk1⟩ := nat_u32 q1
      obtain ⟨k2, rfl, hk2⟩ := nat_u32 q2
      exact ⟨(k1, k2), ⟨hk1, hk2⟩, hc' 0 _ h1, hc' 1 _ h2⟩)
    subst hll
    exact ⟨_, l, rfl, _, _, rfl, hl, fun i x hx => ⟨(hR i x hx).1, b, off, rfl, hb, (hR i x hx).2⟩⟩
  · obtain rfl : len = 0 := by omega
    exact ⟨_, [], rfl, _, _, rfl, by simp, fun i x hx => by simp at hx⟩
theorem bytes_open {T : TypeId} {k n : Nat} {cs : List Value} {y : DataW H × List MemPlace} (ht : Tryz.prog.underlying T = some (.array k 5)) (hl : cs.length = k) (h : DataW.trod enc Tryz.prog w base spare held n T cs = some y) :
    ∃ M : List Nat, cs = (u8row M).toList ∧ M.length = k ∧ ∀ b ∈ M, b < 256 := by
  obtain ⟨M, h1, h2, h3, _⟩ := open_row8 (xs := cs.toArray) (d := y.1) (ps := y.2) ht (by simpa using hl) ⟨n, by show DataW.trod enc Tryz.prog w base spare held n T cs.toArray.toList = some (y.1, y.2); exact h⟩
  refine ⟨M, ?_, h2, h3⟩
  have := congrArg Array.toList h1
  simpa using this
theorem field_bytes {t T : TypeId} {fs : Array Field} {fuel k : Nat} {cs : List Value} {x : DataW H × List MemPlace} (ht : Tryz.prog.underlying t = some (.struct fs)) (h : DataW.trod enc Tryz.prog w base spare held fuel t cs = some x)
    (j : Nat) (f : Field) (hf : fs[j]? = some f) (hT : f.type = T) (hu : Tryz.prog.underlying T = some (.array k 5)) (hc : Tryz.prog.cellsOf T = k) (hl : f.offset + k ≤ cs.length) :
    ∃ M : List Nat, (cs.drop f.offset).take k = (u8row M).toList ∧ M.length = k ∧ ∀ b ∈ M, b < 256 := by
  obtain ⟨n, y, h1⟩ := field_sub ht h j f hf
  rw [hT, hc] at h1
  exact bytes_open hu (by rw [List.length_take, List.length_drop]; omega) h1
theorem get_of_sub {cs : List Value} {o : Nat} {v : Value} {T : TypeId} (hc : Tryz.prog.cellsOf T = 1) (h : (cs.drop o).take (Tryz.prog.cellsOf T) = [v]) : cs[o]? = some v := one_of_drop (by rw [← hc]; exact h)
theorem list_split {cs : List Value} (a b : Nat) : cs.drop a = (cs.drop a).take b ++ cs.drop (a + b) := by
  have := (List.take_append_drop b (cs.drop a)).symm
  rwa [List.drop_drop] at this
theorem drop_get {cs : List Value} {a : Nat} {v : Value} (h : cs[a]? = some v) : cs.drop a = v :: cs.drop (a + 1) := by
  obtain ⟨hl, rfl⟩ := List.getElem?_eq_some_iff.1 h
  exact (List.drop_eq_getElem_cons hl)
theorem ten_open {n : Nat} {cs : List Value} {y : DataW H × List MemPlace} (h : DataW.trod enc Tryz.prog w base spare held n 45 cs = some y) : ∃ x : TenM, cs = (tmRow x).toList ∧ TenAny w x := by
  have hlen : cs.length = 33 := by
    obtain ⟨_, _, _, _, hl, _⟩ := DataW.trod_struct Tryz.underlying45 h
    rw [hl]; exact cells45
  obtain ⟨nm, k0, q0⟩ := field_str Tryz.underlying45 h 0 _ rfl Tryz.underlying9 (by kernel_rfl)
  obtain ⟨z1, k1, q1⟩ := field_int Tryz.underlying45 h 1 _ rfl .u32 Tryz.underlying23 cells23
  obtain ⟨K, k2, l2, q2⟩ := field_bytes Tryz.underlying45 h 2 _ rfl rfl Tryz.underlying26 cells26 (by rw [hlen]; decide)
  obtain ⟨z3, k3, q3⟩ := field_int Tryz.underlying45 h 3 _ rfl .u32 Tryz.underlying23 cells23
  obtain ⟨M, k4, l4, q4⟩ := field_bytes Tryz.underlying45 h 4 _ rfl rfl Tryz.underlying25 cells25 (by rw [hlen]; decide)
  obtain ⟨G, k5, l5, q5⟩ := field_bytes Tryz.underlying45 h 5 _ rfl rfl Tryz.underlying25 cells25 (by rw [hlen]; decide)
  obtain ⟨n6, y6, t6⟩ := field_sub Tryz.underlying45 h 6 _ rfl
  obtain ⟨p, pl, e6, hp⟩ := nums_open t6
  have k6 := get_of_sub cells41 e6
  obtain ⟨z7, k7, q7⟩ := field_int Tryz.underlying45 h 7 _ rfl .u16 Tryz.underlying42 (by kernel_rfl)
  obtain ⟨z8, k8, q8⟩ := field_int Tryz.underlying45 h 8 _ rfl .u16 Tryz.underlying42 (by kernel_rfl)
  obtain ⟨z9, k9, q9⟩ := field_int Tryz.underlying45 h 9 _ rfl .i64 Tryz.underlying3 (by kernel_rfl)
  obtain ⟨n10, y10, t10⟩ := field_sub Tryz.underlying45 h 10 _ rfl
  obtain ⟨s, sl, e10, hs⟩ := pairs_open t10
  have k10 := get_of_sub cells43 e10
  obtain ⟨n11, y11, t11⟩ := field_sub Tryz.underlying45 h 11 _ rfl
  obtain ⟨q, ql, e11, hq⟩ := pairs_open t11
  have k11 := get_of_sub cells43 e11
  obtain ⟨z12, k12, q12⟩ := field_int Tryz.underlying45 h 12 _ rfl .i64 Tryz.underlying3 (by kernel_rfl)
  obtain ⟨z13, k13, q13⟩ := field_int Tryz.underlying45 h 13 _ rfl .i64 Tryz.underlying3 (by kernel_rfl)
  obtain ⟨z14, k14, q14⟩ := field_int Tryz.underlying45 h 14 _ rfl .u32 Tryz.underlying23 cells23
  obtain ⟨z15, k15, q15⟩ := field_int Tryz.underlying45 h 15 _ rfl .u32 Tryz.underlying23 cells23
  obtain ⟨m1, rfl, b1⟩ := nat_u32 q1
  obtain ⟨m3, rfl, b3⟩ := nat_u32 q3
  obtain ⟨m7, rfl, b7⟩ := nat_u16 q7
  obtain ⟨m8, rfl, b8⟩ := nat_u16 q8
  obtain ⟨m14, rfl, b14⟩ := nat_u32 q14
  obtain ⟨m15, rfl, b15⟩ := nat_u32 q15
  refine ⟨(⟨nm, m1, K, m3, M, G, pl, m7, m8, z9, sl, ql, z12, z13, m14, m15⟩, p, s, q), ?_, ⟨l2, l4, l5⟩, hp, hs, hq, ⟨q0, b1, q2, b3, q4, q5, b7, b8, by have := rng_i64 q12; show z12 < _; omega, by have := rng_i64 q13; show z13 < _; omega, b14, b15⟩⟩
  have e0 : cs = .string nm :: .int .u32 (m1 : Int) :: ((u8row K).toList ++ (.int .u32 (m3 : Int) :: ((u8row M).toList ++ ((u8row G).toList ++ [p, .int .u16 (m7 : Int), .int .u16 (m8 : Int), .int .i64 z9, s, q, .int .i64 z12, .int .i64 z13, .int .u32 (m14 : Int), .int .u32 (m15 : Int)])))) := by
    have d0 := drop_get (cs := cs) (a := 0) k0
    have d1 := drop_get (cs := cs) (a := 1) k1
    have d2 := list_split (cs := cs) 2 8
    have d3 := drop_get (cs := cs) (a := 10) k3
    have d4 := list_split (cs := cs) 11 6
    have d5 := list_split (cs := cs) 17 6
    have d6 := drop_get (cs := cs) (a := 23) k6
    have d7 := drop_get (cs := cs) (a := 24) k7
    have d8 := drop_get (cs := cs) (a := 25) k8
    have d9 := drop_get (cs := cs) (a := 26) k9
    have d10 := drop_get (cs := cs) (a := 27) k10
    have d11 := drop_get (cs := cs) (a := 28) k11
    have d12 := drop_get (cs := cs) (a := 29) k12
    have d13 := drop_get (cs := cs) (a := 30) k13
    have d14 := drop_get (cs := cs) (a := 31) k14
    have d15 := drop_get (cs := cs) (a := 32) k15
    have d16 : cs.drop 33 = [] := List.drop_eq_nil_of_le (by omega)
    have k2 : (cs.drop 2).take 8 = (u8row K).toList := k2
    have k4 : (cs.drop 11).take 6 = (u8row M).toList := k4
    have k5 : (cs.drop 17).take 6 = (u8row G).toList := k5
    rw [k2] at d2
    rw [k4] at d4
    rw [k5] at d5
    calc cs = cs.drop 0 := rfl
      _ = _ := by rw [d0, d1, d2, d3, d4, d5, d6, d7, d8, d9, d10, d11, d12, d13, d14, d15, d16]
  rw [e0]
  unfold tmRow tenRow
  simp
theorem tens_open {ao : Option Addr} {len cap : Nat} {d : DataW H} {ps : List MemPlace} (hT : DataW.Trod enc Tryz.prog w base spare held 27 (.slice ao len cap) d ps) : ∃ l, TensAny w (.slice ao len cap) l := by
  have hl := slice_len Tryz.underlying27 hT
  by_cases h0 : 0 < len
  · obtain ⟨b, off, rfl, hb, _, _, hi⟩ := open_elems Tryz.underlying27 (C := 33) cells45 (by decide) hT h0
    haveI : Inhabited TenM := ⟨(⟨⟨#[]⟩, 0, [], 0, [], [], [], 0, 0, 0, [], [], 0, 0, 0, 0⟩, .nilIface, .nilIface, .nilIface)⟩
    obtain ⟨l, hll, hR⟩ := list_choose (len := len) (R := fun i (x : TenM) => TenAny w x ∧ ∀ (j : Nat) (u : Value), (tmRow x).toList[j]? = some u → w.cell? ⟨b, off + i * 33 + j, none⟩ = some u) (fun i hlt => by
      obtain ⟨cs', m, z, hlen, ht, hc'⟩ := hi i hlt
      obtain ⟨x, e1, hx⟩ := ten_open ht
      exact ⟨x, hx, fun j u hj => hc' j u (by rw [e1]; exact hj)⟩)
    subst hll
    exact ⟨l, _, _, rfl, hl, fun i x hx => ⟨(hR i x hx).1, b, off, rfl, hb, (hR i x hx).2⟩⟩
  · obtain rfl : len = 0 := by omega
    exact ⟨[], _, _, rfl, by simp, fun i x hx => by simp at hx⟩
structure RngHead (c : Cfg) : Prop where
  ip : c.ip < 4294967296
  mac : ∀ b ∈ c.mac, b < 256
  out : ∀ b ∈ c.out, b < 256
  next : ∀ b ∈ c.next, b < 256
  key : ∀ b ∈ c.key, b < 256
  drain : c.drain < 4294967296
theorem cfg_open {xs : Array Value} {d : DataW H} {ps : List MemPlace} (h : DataW.Trod enc Tryz.prog w base spare held 29 (.agg xs) d ps) : ∃ c tv l, xs = cfgRow c tv ∧ WfCfg c ∧ RngHead c ∧ TensAny w tv l ∧ l.map (·.1) = c.tens := by
  obtain ⟨n, h⟩ := h
  have h : DataW.trod enc Tryz.prog w base spare held n 29 xs.toList = some (d, ps) := h
  generalize hcs : xs.toList = cs at h
  have hlen : cs.length = 29 := by
    obtain ⟨_, _, _, _, hl, _⟩ := DataW.trod_struct Tryz.underlying29 h
    rw [hl]; exact cells29
  obtain ⟨z0, k0, q0⟩ := field_int Tryz.underlying29 h 0 _ rfl .u32 Tryz.underlying23 cells23
  obtain ⟨M1, k1, l1, q1⟩ := field_bytes Tryz.underlying29 h 1 _ rfl rfl Tryz.underlying25 cells25 (by rw [hlen]; decide)
  obtain ⟨M2, k2, l2, q2⟩ := field_bytes Tryz.underlying29 h 2 _ rfl rfl Tryz.underlying25 cells25 (by rw [hlen]; decide)
  obtain ⟨M3, k3, l3, q3⟩ := field_bytes Tryz.underlying29 h 3 _ rfl rfl Tryz.underlying25 cells25 (by rw [hlen]; decide)
  obtain ⟨K, k4, l4, q4⟩ := field_bytes Tryz.underlying29 h 4 _ rfl rfl Tryz.underlying26 cells26 (by rw [hlen]; decide)
  obtain ⟨z5, k5, q5⟩ := field_int Tryz.underlying29 h 5 _ rfl .u32 Tryz.underlying23 cells23
  obtain ⟨n6, y6, t6⟩ := field_sub Tryz.underlying29 h 6 _ rfl
  obtain ⟨ao, len, cap, e6, T6⟩ := slice_form Tryz.underlying27 t6
  have k6 := get_of_sub cells27 e6
  obtain ⟨l, hl⟩ := tens_open T6
  obtain ⟨m0, rfl, b0⟩ := nat_u32 q0
  obtain ⟨m5, rfl, b5⟩ := nat_u32 q5
  refine ⟨⟨m0, M1, M2, M3, K, m5, l.map (·.1)⟩, .slice ao len cap, l, ?_, ⟨l1, l2, l3, l4⟩, ⟨b0, q1, q2, q3, q4, b5⟩, hl, rfl⟩
  apply Array.ext'
  rw [hcs]
  have e0 : cs = .int .u32 (m0 : Int) :: ((u8row M1).toList ++ ((u8row M2).toList ++ ((u8row M3).toList ++ ((u8row K).toList ++ [.int .u32 (m5 : Int), .slice ao len cap])))) := by
    have d0 := drop_get (cs := cs) (a := 0) k0
    have d1 := list_split (cs := cs) 1 6
    have d2 := list_split (cs := cs) 7 6
    have d3 := list_split (cs := cs) 13 6
    have d4 := list_split (cs := cs) 19 8
    have d5 := drop_get (cs := cs) (a := 27) k5
    have d6 := drop_get (cs := cs) (a := 28) k6
    have d7 : cs.drop 29 = [] := List.drop_eq_nil_of_le (by omega)
    have k1 : (cs.drop 1).take 6 = (u8row M1).toList := k1
    have k2 : (cs.drop 7).take 6 = (u8row M2).toList := k2
    have k3 : (cs.drop 13).take 6 = (u8row M3).toList := k3
    have k4 : (cs.drop 19).take 8 = (u8row K).toList := k4
    rw [k1] at d1
    rw [k2] at d2
    rw [k3] at d3
    rw [k4] at d4
    calc cs = cs.drop 0 := rfl
      _ = _ := by rw [d0, d1, d2, d3, d4, d5, d6, d7]
  rw [e0]
  unfold cfgRow
  simp
end
end Go.Proofs.YtbkpbcmjgbdbkaaGreatDoor
