/- The tenants of settings in memory. No condition. Settings' text in plain Lean; tenants that are read. No condition. Settings read from a text's lines, in plain Lean; how many words a text has. No condition. The scan of a text whose lines are words with blanks between them: the words again. No condition. Settings from lines whose words are those of settings: the settings again, wherever the words stand. No condition. lang.config: the relation of its loop. No condition. -/
import Derived.Test.YtbkpbcmjgbdbkaaGreatDoorMF
import Derived.Test.YtbkpbcmjgbdbkaaGreatDoorMC
import Derived.Test.YtbkpbcmjgbdbkaaGreatDoorMD
/-! P0 -/
namespace Go.Proofs.YtbkpbcmjgbdbkaaGreatDoor
open Go.RowKit Go.Lib
set_option linter.unusedVariables false
set_option linter.unusedSimpArgs false
set_option maxRecDepth 100000

/-- A tenant and its lists' slices. -/
abbrev TenM := Ten × Value × Value × Value
def tmRow (x : TenM) : Array Value := tenRow x.1 x.2.1 x.2.2.1 x.2.2.2
def tmOwns (x : TenM) (k : Nat) : Prop := Owns x.2.1 x.2.2.1 x.2.2.2 k
structure TenOwn (W : World) (lo : Nat) (x : TenM) : Prop where
  pool : W.ownsRow lo 23 1 x.2.1 x.1.pool.length (numCells x.1.pool)
  stat : W.ownsRow lo 97 2 x.2.2.1 x.1.statics.length (pairCells x.1.statics)
  twic : W.ownsRow lo 97 2 x.2.2.2 x.1.twices.length (pairCells x.1.twices)
  apart : ∀ k, x.2.2.1.ownBlock = some k → x.2.2.2.ownBlock ≠ some k
  wf : WfTen x.1
def tensCells (l : List TenM) : List Value := l.flatMap fun x => (tmRow x).toList
structure TensAt (W : World) (lo : Nat) (tv : Value) (l : List TenM) : Prop where
  row : W.ownsRow lo 45 33 tv l.length (tensCells l)
  each : ∀ x ∈ l, TenOwn W lo x
  apart : l.Pairwise fun x y => ∀ k, tmOwns x k → ¬ tmOwns y k
theorem TenOwn.turn {W W' : World} {lo : Nat} {x : TenM} {F : Nat → Prop} (h : TenOwn W lo x) (t : Turn F W W') (hF : ∀ k, tmOwns x k → ¬ F k) : TenOwn W' lo x :=
  ⟨ownsRow_turn h.pool t (fun g hg => hF g (Or.inl hg)), ownsRow_turn h.stat t (fun g hg => hF g (Or.inr (Or.inl hg))), ownsRow_turn h.twic t (fun g hg => hF g (Or.inr (Or.inr hg))), h.apart, h.wf⟩
theorem TenOwn.tag {W : World} {lo : Nat} {x : TenM} (h : TenOwn W lo x) {k : Nat} (hk : tmOwns x k) : lo ≤ k ∧ k < W.heap.size ∧ ∃ cs T, W.heap[k]? = some (.cells cs T (0, 0)) ∧ (T = 23 ∨ T = 97) := by
  rcases hk with hk | hk | hk
  · obtain ⟨cs, hc⟩ := own_cells h.pool hk; exact ⟨(h.pool.lt k hk).1, (h.pool.lt k hk).2, cs, 23, hc, Or.inl rfl⟩
  · obtain ⟨cs, hc⟩ := own_cells h.stat hk; exact ⟨(h.stat.lt k hk).1, (h.stat.lt k hk).2, cs, 97, hc, Or.inr rfl⟩
  · obtain ⟨cs, hc⟩ := own_cells h.twic hk; exact ⟨(h.twic.lt k hk).1, (h.twic.lt k hk).2, cs, 97, hc, Or.inr rfl⟩
theorem TenOwn.not {W : World} {lo : Nat} {x : TenM} (h : TenOwn W lo x) {k : Nat} {cs : Array Value} {T : TypeId} {fz : Nat × Nat} (hb : W.heap[k]? = some (.cells cs T fz)) (h1 : T ≠ 23) (h2 : T ≠ 97) : ¬ tmOwns x k := fun hk => by
  obtain ⟨_, _, cs', T', hc, e⟩ := h.tag hk
  rw [hb] at hc
  cases hc
  rcases e with e | e
  · exact h1 e
  · exact h2 e
theorem tensCells_len {W : World} {lo : Nat} {l : List TenM} (h : ∀ x ∈ l, TenOwn W lo x) : (tensCells l).length = l.length * 33 := by
  induction l with
  | nil => rfl
  | cons x l ih =>
    have := ih (fun y hy => h y (List.mem_cons_of_mem _ hy))
    have h2 := tenRow_len (h x (List.mem_cons_self ..)).wf x.2.1 x.2.2.1 x.2.2.2
    simp only [tensCells, List.flatMap_cons, List.length_append, List.length_cons, tmRow] at this ⊢
    omega
theorem tensCells_get {W : World} {lo : Nat} {l : List TenM} (h : ∀ x ∈ l, TenOwn W lo x) {i : Nat} {x : TenM} (hi : l[i]? = some x) {j : Nat} (hj : j < 33) : (tensCells l)[i * 33 + j]? = (tmRow x).toList[j]? := by
  induction l generalizing i with
  | nil => simp at hi
  | cons y l ih =>
    have h2 : (tmRow y).toList.length = 33 := tenRow_len (h y (List.mem_cons_self ..)).wf y.2.1 y.2.2.1 y.2.2.2
    have hc : tensCells (y :: l) = (tmRow y).toList ++ tensCells l := rfl
    rw [hc]
    cases i with
    | zero =>
      simp at hi; subst hi
      rw [List.getElem?_append_left (by omega)]; simp
    | succ i =>
      rw [List.getElem?_append_right (by omega), h2, show (i + 1) * 33 + j - 33 = i * 33 + j by omega]
      exact ih (fun y hy => h y (List.mem_cons_of_mem _ hy)) (by simpa using hi)
theorem tensCells_snoc (l : List TenM) (x : TenM) : tensCells (l ++ [x]) = tensCells l ++ (tmRow x).toList := by simp [tensCells]
theorem TensAt.nil (W : World) (lo : Nat) : TensAt W lo (.slice none 0 0) [] := ⟨World.ownsRow_nil _ _ _ _, fun x hx => by simp at hx, List.Pairwise.nil⟩
theorem TensAt.turn {W W' : World} {lo : Nat} {tv : Value} {l : List TenM} {F : Nat → Prop} (h : TensAt W lo tv l) (t : Turn F W W') (h1 : ∀ k, tv.ownBlock = some k → ¬ F k) (h2 : ∀ x ∈ l, ∀ k, tmOwns x k → ¬ F k) : TensAt W' lo tv l :=
  ⟨ownsRow_turn h.row t h1, fun x hx => (h.each x hx).turn t (h2 x hx), h.apart⟩
/-- All blocks are from lo on. -/
theorem TensAt.low {W W' : World} {lo : Nat} {tv : Value} {l : List TenM} {F : Nat → Prop} (h : TensAt W lo tv l) (t : Turn F W W') (hF : ∀ k, F k → k < lo) : TensAt W' lo tv l :=
  h.turn t (fun k hk hf => by have := own1_low h.row hk; have := hF k hf; omega) (fun x hx k hk hf => by have := ((h.each x hx).tag hk).1; have := hF k hf; omega)
/-- A block of another type stands apart. -/
theorem TensAt.other {W W' : World} {lo b : Nat} {tv : Value} {l : List TenM} (h : TensAt W lo tv l) {cs : Array Value} {T : TypeId} (hb : W.heap[b]? = some (.cells cs T (0, 0))) (h1 : T ≠ 45) (h2 : T ≠ 23) (h3 : T ≠ 97) (t : Turn (fun k => k = b) W W') : TensAt W' lo tv l :=
  h.turn t (fun k hk hf => by subst hf; obtain ⟨_, _, _, hne⟩ := own_form h.row hb h1; exact hne hk) (fun x hx k hk hf => by subst hf; exact (h.each x hx).not hb h2 h3 hk)
/-- The last tenant, in its cells. -/
theorem TensAt.last {W : World} {lo : Nat} {tv : Value} {l0 : List TenM} {x : TenM} (h : TensAt W lo tv (l0 ++ [x])) :
    ∃ G cap cur, tv = .slice (some ⟨G, 0, none⟩) (l0.length + 1) cap ∧ lo ≤ G ∧ TenAt W lo G (l0.length * 33) cur x.1 x.2.1 x.2.2.1 x.2.2.2 := by
  rcases h.row.2 with ⟨_, h0⟩ | ⟨G, cap, cur, hv, hlo, hb, hnc, hcm, hcs, htake⟩
  · simp at h0
  · have hx := h.each x (by simp)
    refine ⟨G, cap, cur, by simpa using hv, hlo, hb, fun j u hj => ?_, hx.pool, hx.stat, hx.twic, hx.apart, hx.wf⟩
    have hjl : j < 33 := by
      have := (List.getElem?_eq_some_iff.1 hj).1
      rwa [tenRow_len hx.wf] at this
    have hg := tensCells_get h.each (i := l0.length) (x := x) (by simp) hjl
    have hj2 : (tmRow x).toList[j]? = some u := hj
    rw [hj2, ← htake, List.getElem?_take, if_pos (by simp; omega)] at hg
    simpa using hg
/-- The last tenant turned. -/
theorem TensAt.upd {W W' : World} {lo G cap b : Nat} {cur cur' : Array Value} {l0 : List TenM} {x x' : TenM} {bc : Array Value} (h : TensAt W lo (.slice (some ⟨G, 0, none⟩) (l0.length + 1) cap) (l0 ++ [x])) (hb : W.heap[G]? = some (.cells cur 45 (0, 0)))
    (ht : TenAt W' lo G (l0.length * 33) cur' x'.1 x'.2.1 x'.2.2.1 x'.2.2.2) (hs : SameOff (l0.length * 33) cur cur') (tn : Turn (fun k => k = b ∨ k = G ∨ tmOwns x k) W W') (hbb : W.heap[b]? = some (.cells bc 145 (0, 0)))
    (hnew : ∀ k, tmOwns x' k → tmOwns x k ∨ W.heap.size ≤ k) : TensAt W' lo (.slice (some ⟨G, 0, none⟩) (l0.length + 1) cap) (l0 ++ [x']) := by
  have hx := h.each x (by simp)
  have hap := List.pairwise_append.1 h.apart
  have hx' : TenOwn W' lo x' := ⟨ht.pool, ht.stat, ht.twic, ht.apart, ht.wf⟩
  have hold : ∀ y ∈ l0, TenOwn W' lo y := fun y hy => (h.each y (by simp [hy])).turn tn (fun k hk e => by
    have hY := h.each y (by simp [hy])
    rcases e with e | e | e
    · subst e; exact hY.not hbb (by decide) (by decide) hk
    · subst e; exact hY.not hb (by decide) (by decide) hk
    · exact hap.2.2 y hy x (by simp) k hk e)
  have hall : ∀ y ∈ l0 ++ [x'], TenOwn W' lo y := fun y hy => by
    rcases List.mem_append.1 hy with hy | hy
    · exact hold y hy
    · rw [List.mem_singleton.1 hy]; exact hx'
  refine ⟨⟨?_, Or.inr ?_⟩, hall, ?_⟩
  · exact tensCells_len hall
  · rcases h.row.2 with ⟨_, h0⟩ | ⟨G', cap', cur0, hv, hlo, hb', hnc, hcm, hcs, htake⟩
    · simp at h0
    · simp only [Value.slice.injEq, Option.some.injEq, Addr.mk.injEq, and_true, true_and] at hv
      obtain ⟨rfl, hcap⟩ := hv
      have hcap : cap = cap' := hcap.2
      subst hcap
      rw [hb] at hb'
      cases hb'
      refine ⟨G, cap, cur', by simp, hlo, ht.blk, by simpa using hnc, hcm, hs.1.trans hcs, ?_⟩
      have hl1 := tensCells_len h.each
      have hl2 := tensCells_len hall
      have hcs' : cur'.size = cap * 33 := hs.1.trans hcs
      simp only [List.length_append, List.length_singleton] at hnc hl1 hl2 htake ⊢
      apply List.ext_getElem?
      intro i
      by_cases hi : i < l0.length * 33
      · have e1 : (tensCells (l0 ++ [x']))[i]? = (tensCells l0)[i]? := by
          rw [tensCells_snoc, List.getElem?_append_left (by rw [tensCells_len (fun y hy => hold y hy)]; exact hi)]
        have e2 : (tensCells (l0 ++ [x]))[i]? = (tensCells l0)[i]? := by
          rw [tensCells_snoc, List.getElem?_append_left (by rw [tensCells_len (fun y hy => hold y hy)]; exact hi)]
        rw [e1, ← e2, ← htake, List.getElem?_take, List.getElem?_take, if_pos (by omega), if_pos (by omega)]
        have := hs.2 i (Or.inl hi)
        simpa using this
      · by_cases hi2 : i < (l0.length + 1) * 33
        · obtain ⟨j, rfl⟩ : ∃ j, i = l0.length * 33 + j := ⟨i - l0.length * 33, by omega⟩
          have hj : j < 33 := by omega
          rw [tensCells_get hall (i := l0.length) (x := x') (by simp) hj, List.getElem?_take, if_pos (by omega)]
          have hjl : j < (tmRow x').toList.length := by have := tenRow_len hx'.wf x'.2.1 x'.2.2.1 x'.2.2.2; unfold tmRow; omega
          rw [List.getElem?_eq_getElem hjl]
          have := ht.row j _ (List.getElem?_eq_getElem hjl)
          simpa using this
        · rw [List.getElem?_take, if_neg (by omega)]; exact (List.getElem?_eq_none (by omega)).symm
  · refine List.pairwise_append.2 ⟨hap.1, by simp, fun y hy z hz k h1 h2 => ?_⟩
    rw [List.mem_singleton.1 hz] at h2
    rcases hnew k h2 with h3 | h3
    · exact hap.2.2 y hy x (by simp) k h1 h3
    · have := ((h.each y (by simp [hy])).tag h1).2.1; omega
/-- A tenant without lists laid behind them. -/
theorem TensAt.snoc {W W' : World} {lo : Nat} {tv tv' : Value} {l : List TenM} {t : Ten} (h : TensAt W lo tv l) (hw : WfTen t) (h1 : t.pool = []) (h2 : t.statics = []) (h3 : t.twices = [])
    (hown : W'.ownsRow lo 45 33 tv' (l.length + 1) (tensCells l ++ (tenRow t (.slice none 0 0) (.slice none 0 0) (.slice none 0 0)).toList)) (tn : Turn (fun k => tv.ownBlock = some k) W W') :
    TensAt W' lo tv' (l ++ [(t, .slice none 0 0, .slice none 0 0, .slice none 0 0)]) := by
  have hno : ∀ k, ¬ tmOwns (t, .slice none 0 0, .slice none 0 0, .slice none 0 0) k := fun k hk => by
    rcases hk with hk | hk | hk <;> simp [Value.ownBlock] at hk
  refine ⟨?_, fun y hy => ?_, ?_⟩
  · rw [List.length_append, tensCells_snoc]; exact hown
  · rcases List.mem_append.1 hy with hy | hy
    · refine (h.each y hy).turn tn (fun k hk e => ?_)
      obtain ⟨cs, hc⟩ := own_cells h.row e
      exact (h.each y hy).not hc (by decide) (by decide) hk
    · rw [List.mem_singleton.1 hy]
      exact ⟨by rw [h1]; exact World.ownsRow_nil _ _ _ _, by rw [h2]; exact World.ownsRow_nil _ _ _ _, by rw [h3]; exact World.ownsRow_nil _ _ _ _, fun k hk => by simp [Value.ownBlock] at hk, hw⟩
  · refine List.pairwise_append.2 ⟨h.apart, by simp, fun y hy z hz k h1 h2 => ?_⟩
    rw [List.mem_singleton.1 hz] at h2
    exact hno k h2
end Go.Proofs.YtbkpbcmjgbdbkaaGreatDoor

/-! U1 -/
namespace Go.Proofs.YtbkpbcmjgbdbkaaGreatDoor
open Go.RowKit Go.Lib
set_option linter.unusedVariables false
set_option linter.unusedSimpArgs false
set_option maxRecDepth 100000

def lineL (ps : List (List UInt8)) : List UInt8 := joinL 32 ps ++ [10]
def gwB : List UInt8 := [103, 97, 116, 101, 119, 97, 121]
def drB : List UInt8 := [100, 114, 97, 105, 110]
def tenB : List UInt8 := [116, 101, 110, 97, 110, 116]
def vniB : List UInt8 := [118, 110, 105]
def keyB : List UInt8 := [107, 101, 121]
def vtepB : List UInt8 := [118, 116, 101, 112]
def hostB : List UInt8 := [104, 111, 115, 116]
def poolB : List UInt8 := [112, 111, 111, 108]
def portsB : List UInt8 := [112, 111, 114, 116, 115]
def filtB : List UInt8 := [102, 105, 108, 116, 101, 114]
def statB : List UInt8 := [115, 116, 97, 116, 105, 99]
def twicB : List UInt8 := [116, 119, 105, 99, 101]
def quotaB : List UInt8 := [113, 117, 111, 116, 97]
def rateB : List UInt8 := [114, 97, 116, 101]
def headL (c : Cfg) : List UInt8 := lineL [gwB, ipText c.ip, macText c.mac, macText c.out, macText c.next, keyText c.key, drB, decL c.drain]
def tenHeadL (t : Ten) : List UInt8 := lineL [tenB, t.name.data.toList, vniB, decL t.vni, keyB, keyText t.key, vtepB, ipText t.vtep, macText t.vmac, hostB, macText t.host]
def poolL (t : Ten) : List UInt8 := if t.pool.length = 0 then [] else lineL (poolB :: t.pool.map ipText)
def portsL (t : Ten) : List UInt8 := lineL [portsB, decL t.lo, decL t.hi]
def filtL (t : Ten) : List UInt8 := lineL [filtB, filterL t.filter]
def statL (x : Nat × Nat) : List UInt8 := lineL [statB, ipText x.1, ipText x.2]
def twicL (x : Nat × Nat) : List UInt8 := lineL [twicB, ipText x.1, ipText x.2]
def quotaL (t : Ten) : List UInt8 := lineL [quotaB, decL t.sess.toNat, decL t.queue.toNat]
def rateL (t : Ten) : List UInt8 := lineL [rateB, decL t.rate, decL t.burst]
def tenL (t : Ten) : List UInt8 := tenHeadL t ++ poolL t ++ portsL t ++ filtL t ++ t.statics.flatMap statL ++ t.twices.flatMap twicL ++ quotaL t ++ rateL t
def textL (c : Cfg) : List UInt8 := headL c ++ c.tens.flatMap tenL

/-- Each number within its type's range. -/
structure RngTen (t : Ten) : Prop where
  name : t.name.size ≤ 1000000
  vni : t.vni < 4294967296
  key : ∀ b ∈ t.key, b < 256
  vtep : t.vtep < 4294967296
  vmac : ∀ b ∈ t.vmac, b < 256
  host : ∀ b ∈ t.host, b < 256
  pool : ∀ x ∈ t.pool, x < 4294967296
  lo : t.lo < 65536
  hi : t.hi < 65536
  statics : ∀ x ∈ t.statics, x.1 < 4294967296 ∧ x.2 < 4294967296
  twices : ∀ x ∈ t.twices, x.1 < 4294967296 ∧ x.2 < 4294967296
  sess : 0 ≤ t.sess ∧ t.sess < 9223372036854775808
  queue : 0 ≤ t.queue ∧ t.queue < 9223372036854775808
  rate : t.rate < 4294967296
  burst : t.burst < 4294967296
  plen : t.pool.length ≤ 999999
structure RngCfg (c : Cfg) : Prop where
  ip : c.ip < 4294967296
  mac : ∀ b ∈ c.mac, b < 256
  out : ∀ b ∈ c.out, b < 256
  next : ∀ b ∈ c.next, b < 256
  key : ∀ b ∈ c.key, b < 256
  drain : c.drain < 4294967296
  tens : ∀ t ∈ c.tens, RngTen t
/-- Tenants that can be read. -/
def TensIn (w : World) (tv : Value) (l : List TenM) : Prop :=
  RowsIn w tv (l.map tmRow) ∧ ∀ x ∈ l, WfTen x.1 ∧ NumsIn w x.2.1 x.1.pool ∧ PairsIn w x.2.2.1 x.1.statics ∧ PairsIn w x.2.2.2 x.1.twices
theorem loadAt_agg {W : World} {b o n ty : Nat} {r : Array Value} (hk : r.size = n) (ha : (isAgg ty).run Tryz.prog W = .ok true W) (hs : (sizeOf ty).run Tryz.prog W = .ok n W) (h : ∀ (j : Nat) (u : Value), r.toList[j]? = some u → W.cell? ⟨b, o + j, none⟩ = some u) :
    (Instr.loadAt ty (.pointer (some ⟨b, o, none⟩))).run Tryz.prog W = .ok (.agg r) W := by
  have hl := load_at hk h
  simp only [Instr.loadAt, Instr.sureAddr, Sem.run_bind, Sem.run_pure, Result.andThen_ok, loadVar, ha, if_true, hs, loadCells, hl]
/-- Own rows read as what they hold. -/
theorem nums_of_own {W : World} {lo : Nat} {v : Value} {l : List Nat} (h : W.ownsRow lo 23 1 v l.length (numCells l)) (hl : l.length ≤ 1000000) : NumsIn W v l := by
  rcases h.2 with ⟨hv, h0⟩ | ⟨g, cap, cur, hv, h1, h2, h3, h4, h5, h6⟩
  · exact ⟨none, 0, by rw [hv, h0], hl, fun i x hx => by have := (List.getElem?_eq_some_iff.1 hx).1; omega⟩
  · refine ⟨some ⟨g, 0, none⟩, cap, hv, hl, fun i x hx => ⟨g, 0, rfl, block_lt h2, ?_⟩⟩
    subst hv
    rw [Nat.zero_add, h.cellAt i (by have := (List.getElem?_eq_some_iff.1 hx).1; omega)]
    simp [numCells, hx]
theorem pairCells_get (l : List (Nat × Nat)) (i : Nat) (x : Nat × Nat) (h : l[i]? = some x) : (pairCells l)[i * 2]? = some (.int .u32 (x.1 : Int)) ∧ (pairCells l)[i * 2 + 1]? = some (.int .u32 (x.2 : Int)) := by
  induction l generalizing i with
  | nil => simp at h
  | cons y l ih =>
    have hc : pairCells (y :: l) = .int .u32 (y.1 : Int) :: .int .u32 (y.2 : Int) :: pairCells l := rfl
    cases i with
    | zero => simp at h; subst h; exact ⟨rfl, rfl⟩
    | succ i =>
      have := ih i (by simpa using h)
      rw [hc, show (i + 1) * 2 = i * 2 + 1 + 1 by omega]
      simpa using this
theorem pairs_of_own {W : World} {lo : Nat} {v : Value} {l : List (Nat × Nat)} (h : W.ownsRow lo 97 2 v l.length (pairCells l)) (hl : l.length ≤ 1000000) : PairsIn W v l := by
  rcases h.2 with ⟨hv, h0⟩ | ⟨g, cap, cur, hv, h1, h2, h3, h4, h5, h6⟩
  · exact ⟨none, 0, by rw [hv, h0], hl, fun i x hx => by have := (List.getElem?_eq_some_iff.1 hx).1; omega⟩
  · refine ⟨some ⟨g, 0, none⟩, cap, hv, hl, fun i x hx => ⟨g, 0, rfl, block_lt h2, ?_, ?_⟩⟩
    · subst hv
      rw [Nat.zero_add, h.cellAt _ (by have := (List.getElem?_eq_some_iff.1 hx).1; omega)]
      exact (pairCells_get l i x hx).1
    · subst hv
      rw [Nat.zero_add, h.cellAt _ (by have := (List.getElem?_eq_some_iff.1 hx).1; omega)]
      exact (pairCells_get l i x hx).2
theorem tens_of_own {W : World} {lo : Nat} {tv : Value} {l : List TenM} (h : TensAt W lo tv l) (hl : l.length ≤ 1000000) (hb : ∀ x ∈ l, x.1.pool.length ≤ 1000000 ∧ x.1.statics.length ≤ 1000000 ∧ x.1.twices.length ≤ 1000000) : TensIn W tv l := by
  refine ⟨?_, fun x hx => ⟨(h.each x hx).wf, nums_of_own (h.each x hx).pool (hb x hx).1, pairs_of_own (h.each x hx).stat (hb x hx).2.1, pairs_of_own (h.each x hx).twic (hb x hx).2.2⟩⟩
  rcases h.row.2 with ⟨hv, h0⟩ | ⟨g, cap, cur, hv, h1, h2, h3, h4, h5, h6⟩
  · exact ⟨none, 0, by rw [hv, List.length_map, h0], by simpa using hl, fun i r hr => by have := (List.getElem?_eq_some_iff.1 hr).1; simp at this; omega⟩
  · refine ⟨some ⟨g, 0, none⟩, cap, by rw [hv, List.length_map], by simpa using hl, fun i r hr => ?_⟩
    rw [List.getElem?_map] at hr
    cases hx : l[i]? with
    | none => rw [hx] at hr; cases hr
    | some x =>
      rw [hx] at hr
      have hr' : tmRow x = r := by simpa using hr
      subst hr'
      have hmem := List.mem_of_getElem? hx
      refine ⟨tenRow_size (h.each x hmem).wf _ _ _, g, 0, rfl, block_lt h2, fun j u hj => ?_⟩
      have hj33 : j < 33 := by
        have h1 := (List.getElem?_eq_some_iff.1 hj).1
        have h2 : (tmRow x).toList.length = 33 := tenRow_len (h.each x hmem).wf x.2.1 x.2.2.1 x.2.2.2
        omega
      have hil := (List.getElem?_eq_some_iff.1 hx).1
      subst hv
      have hrow := h.row
      rw [Nat.zero_add, hrow.cellAt _ (by omega), tensCells_get h.each hx hj33]
      exact hj
end Go.Proofs.YtbkpbcmjgbdbkaaGreatDoor

/-! P1 -/
namespace Go.Proofs.YtbkpbcmjgbdbkaaGreatDoor
open Go.RowKit Go.Lib
set_option linter.unusedVariables false
set_option linter.unusedSimpArgs false
set_option maxRecDepth 100000

def tenName : ByteArray := ⟨#[116, 101, 110, 97, 110, 116]⟩
/-- What stands behind a line's first word. -/
def bodyP (c : Cfg) (x : Wd) (L : List Wd) (en n : Nat) : Except Nat (Cfg × Nat) :=
  if x.1 = tenName then (tenantP L en n).map fun r => ({ c with tens := c.tens ++ [r.1] }, r.2)
  else match c.tens.getLast? with
    | none => .error x.2
    | some t => (fieldP x.1 x.2 L en n t).map fun r => ({ c with tens := c.tens.dropLast ++ [r.1] }, r.2)
def lineP (c : Cfg) (X : List Wd × Nat) : Except Nat Cfg := match nextP X.1 X.2 0 with
  | .error pl => .error pl
  | .ok (x, n) => match bodyP c x X.1 X.2 n with
    | .error pl => .error pl
    | .ok (c', m) => match doneP X.1 m with
      | .error pl => .error pl
      | .ok _ => .ok c'
def restP : List (List Wd × Nat) → Cfg → Except Nat Cfg
  | [], c => .ok c
  | X :: r, c => match lineP c X with
    | .error pl => .error pl
    | .ok c' => restP r c'
def headP (X : List Wd × Nat) : Except Nat Cfg := match gatewayP X.1 X.2 0 with
  | .error pl => .error pl
  | .ok (c, n) => match doneP X.1 n with
    | .error pl => .error pl
    | .ok _ => .ok c
def fromP (n : Nat) : List (List Wd × Nat) → Except Nat Cfg
  | [] => .error n
  | X :: r => match headP X with
    | .error pl => .error pl
    | .ok c => restP r c
def configP (s : ByteArray) : Except Nat Cfg := if 32768 < s.size then .error 32768 else fromP s.size (linesOf s)

theorem lineP_err {c : Cfg} {Y : List Wd × Nat} {x : Wd} {n pl : Nat} (h1 : nextP Y.1 Y.2 0 = .ok (x, n)) (h2 : bodyP c x Y.1 Y.2 n = .error pl) : lineP c Y = .error pl := by simp only [lineP, h1, h2]
theorem lineP_doneErr {c c' : Cfg} {Y : List Wd × Nat} {x : Wd} {n m pl : Nat} (h1 : nextP Y.1 Y.2 0 = .ok (x, n)) (h2 : bodyP c x Y.1 Y.2 n = .ok (c', m)) (h3 : doneP Y.1 m = .error pl) : lineP c Y = .error pl := by simp only [lineP, h1, h2, h3]
theorem lineP_ok {c c' : Cfg} {Y : List Wd × Nat} {x : Wd} {n m : Nat} (h1 : nextP Y.1 Y.2 0 = .ok (x, n)) (h2 : bodyP c x Y.1 Y.2 n = .ok (c', m)) (h3 : doneP Y.1 m = .ok ()) : lineP c Y = .ok c' := by simp only [lineP, h1, h2, h3]
theorem lineP_nextErr {c : Cfg} {Y : List Wd × Nat} {pl : Nat} (h1 : nextP Y.1 Y.2 0 = .error pl) : lineP c Y = .error pl := by simp only [lineP, h1]
theorem bodyP_tenErr {c : Cfg} {a : Nat} {L : List Wd} {en n pl : Nat} (h : tenantP L en n = .error pl) : bodyP c (tenName, a) L en n = .error pl := by
  unfold bodyP
  rw [if_pos rfl, h]; rfl
theorem bodyP_tenOk {c : Cfg} {a : Nat} {L : List Wd} {en n m : Nat} {t : Ten} (h : tenantP L en n = .ok (t, m)) : bodyP c (tenName, a) L en n = .ok ({ c with tens := c.tens ++ [t] }, m) := by
  unfold bodyP
  rw [if_pos rfl, h]; rfl
theorem bodyP_nil {c : Cfg} {x : ByteArray} {a : Nat} {L : List Wd} {en n : Nat} (h0 : ¬ x = tenName) (h : c.tens = []) : bodyP c (x, a) L en n = .error a := by
  unfold bodyP
  rw [if_neg h0, h]; rfl
theorem bodyP_fieldErr {c : Cfg} {x : ByteArray} {a : Nat} {L : List Wd} {en n pl : Nat} {ts : List Ten} {t : Ten} (h0 : ¬ x = tenName) (h : c.tens = ts ++ [t]) (h2 : fieldP x a L en n t = .error pl) : bodyP c (x, a) L en n = .error pl := by
  unfold bodyP
  rw [if_neg h0, h, List.getLast?_concat]
  simp only [h2]; rfl
theorem bodyP_fieldOk {c : Cfg} {x : ByteArray} {a : Nat} {L : List Wd} {en n m : Nat} {ts : List Ten} {t t' : Ten} (h0 : ¬ x = tenName) (h : c.tens = ts ++ [t]) (h2 : fieldP x a L en n t = .ok (t', m)) : bodyP c (x, a) L en n = .ok ({ c with tens := ts ++ [t'] }, m) := by
  unfold bodyP
  rw [if_neg h0, h, List.getLast?_concat]
  simp only [h2, Except.map]
  simp

/-! ### how many words -/
def tot (Ls : List (List Wd × Nat)) : Nat := (Ls.map fun X => X.1.length).sum
theorem tot_snoc (Ls : List (List Wd × Nat)) (X : List Wd × Nat) : tot (Ls ++ [X]) = tot Ls + X.1.length := by simp [tot]
def scTot (σ : Sc) : Nat := tot σ.outs + σ.ws.length + (if σ.bg = none then 0 else 1)
theorem wordEnd_len (s : ByteArray) (σ : Sc) (i : Nat) : (wordEnd s σ.ws σ.bg i).length = σ.ws.length + (if σ.bg = none then 0 else 1) := by
  cases hb : σ.bg <;> simp [wordEnd]
theorem scEnd_tot (s : ByteArray) (σ : Sc) (i : Nat) : scTot (scEnd s σ i) = scTot σ := by
  unfold scEnd scTot
  have := wordEnd_len s σ i
  split
  · simp only [tot_snoc, List.length_nil, if_true]; omega
  · simp only [List.length_nil, if_true]; omega
theorem scStep_tot (s : ByteArray) (σ : Sc) (i c : Nat) : scTot (scStep s σ i c) ≤ scTot σ + 1 := by
  unfold scStep
  split
  · rw [scEnd_tot]; omega
  · split
    · omega
    · split
      · unfold scWord scTot; have := wordEnd_len s σ i; simp only [if_true]; omega
      · split
        · unfold scWord scTot; have := wordEnd_len s σ i; simp only [if_true]; omega
        · split
          · rename_i hb; unfold scTot; simp [hb]
          · omega
theorem scan_tot (s : ByteArray) : ∀ k, scTot (scan s k) ≤ k
  | 0 => by simp [scan, scTot, tot]
  | k + 1 => by
    have := scan_tot s k
    have h2 := scStep_tot s (scan s k) k (s.data.toList.getD k 0).toNat
    show scTot (scStep s (scan s k) k (s.data.toList.getD k 0).toNat) ≤ k + 1
    omega
theorem lines_tot (s : ByteArray) : tot (linesOf s) ≤ s.size := by
  have h1 := scan_tot s s.size
  have h2 := scEnd_tot s (scan s s.size) s.size
  have h3 : scTot (scEnd s (scan s s.size) s.size) = tot (linesOf s) := by simp [scTot, scEnd, linesOf]
  omega

/-! ### lists of settings that were read are no longer than the words -/
def BndT (N : Nat) (t : Ten) : Prop := t.pool.length ≤ N ∧ t.statics.length ≤ N ∧ t.twices.length ≤ N
def Bnd (N : Nat) (c : Cfg) : Prop := ∀ t ∈ c.tens, BndT N t
theorem ok_inj {α : Type} {x y : α} (h : (Except.ok x : Except Nat α) = .ok y) : x = y := by injection h
theorem poolGo_bnd (L : List Wd) (en : Nat) : ∀ (f n : Nat) (acc l : List Nat) (m : Nat), poolGo L en f n acc = .ok (l, m) → l.length = acc.length + f ∧ m = n + f
  | 0, n, acc, l, m, h => by simp only [poolGo, Except.ok.injEq, Prod.mk.injEq] at h; obtain ⟨rfl, rfl⟩ := h; exact ⟨rfl, rfl⟩
  | f + 1, n, acc, l, m, h => by
    rw [poolGo] at h
    cases hr : readP ipOf L en n with
    | error pl => rw [hr] at h; cases h
    | ok x =>
      obtain ⟨x, k⟩ := x
      rw [hr] at h
      have := poolGo_bnd L en f k _ l m h
      have h2 := (readP_n hr).1
      simp at this
      omega
theorem pairP_n {L : List Wd} {en n m : Nat} {x : Nat × Nat} (h : pairP L en n = .ok (x, m)) : m = n + 2 ∧ n + 1 < L.length := by
  unfold pairP at h
  split at h
  · cases h
  · rename_i a b hr
    split at h
    · cases h
    · rename_i c d hr2
      cases h
      have := readP_n hr
      have := readP_n hr2
      omega
theorem fieldP_bnd {s : ByteArray} {a : Nat} {L : List Wd} {en n m N : Nat} {t t' : Ten} (h : fieldP s a L en n t = .ok (t', m)) (hb : BndT N t) (hw : WfTen t) : BndT (N + L.length) t' ∧ WfTen t' := by
  obtain ⟨b1, b2, b3⟩ := hb
  obtain ⟨w1, w2, w3⟩ := hw
  unfold fieldP at h
  split at h
  · unfold poolP at h
    cases hr : poolGo L en (L.length - n) n t.pool with
    | error pl => rw [hr] at h; cases h
    | ok x =>
      obtain ⟨l, k⟩ := x
      rw [hr] at h
      cases h
      have := poolGo_bnd L en _ _ _ _ _ hr
      exact ⟨⟨by dsimp only; omega, by dsimp only; omega, by dsimp only; omega⟩, ⟨w1, w2, w3⟩⟩
  split at h
  · unfold portsP numP at h
    cases hr : readP (fun l => numOf l 65535) L en n with
    | error pl => rw [hr] at h; cases h
    | ok x =>
      simp only [hr, bind, Except.bind] at h
      cases hr2 : readP (fun l => numOf l 65535) L en x.2 with
      | error pl => rw [hr2] at h; cases h
      | ok y => rw [hr2] at h; cases h; exact ⟨⟨by dsimp only; omega, by dsimp only; omega, by dsimp only; omega⟩, ⟨w1, w2, w3⟩⟩
  split at h
  · unfold filtP at h
    cases hr : readP filterOf L en n with
    | error pl => rw [hr] at h; cases h
    | ok x => rw [hr] at h; cases h; exact ⟨⟨by dsimp only; omega, by dsimp only; omega, by dsimp only; omega⟩, ⟨w1, w2, w3⟩⟩
  split at h
  · unfold statP at h
    cases hr : pairP L en n with
    | error pl => rw [hr] at h; cases h
    | ok x =>
      obtain ⟨x, k⟩ := x
      rw [hr] at h; cases h
      have := pairP_n hr
      exact ⟨⟨by dsimp only; omega, by simp; omega, by dsimp only; omega⟩, ⟨w1, w2, w3⟩⟩
  split at h
  · unfold twicP at h
    cases hr : pairP L en n with
    | error pl => rw [hr] at h; cases h
    | ok x =>
      obtain ⟨x, k⟩ := x
      rw [hr] at h; cases h
      have := pairP_n hr
      exact ⟨⟨by dsimp only; omega, by dsimp only; omega, by simp; omega⟩, ⟨w1, w2, w3⟩⟩
  split at h
  · unfold quotaP numP at h
    cases hr : readP (fun l => numOf l 65535) L en n with
    | error pl => rw [hr] at h; cases h
    | ok x =>
      simp only [hr, bind, Except.bind] at h
      cases hr2 : readP (fun l => numOf l 65535) L en x.2 with
      | error pl => rw [hr2] at h; cases h
      | ok y => rw [hr2] at h; cases h; exact ⟨⟨by dsimp only; omega, by dsimp only; omega, by dsimp only; omega⟩, ⟨w1, w2, w3⟩⟩
  split at h
  · unfold rateP numP at h
    cases hr : readP (fun l => numOf l 4294967295) L en n with
    | error pl => rw [hr] at h; cases h
    | ok x =>
      simp only [hr, bind, Except.bind] at h
      cases hr2 : readP (fun l => numOf l 4294967295) L en x.2 with
      | error pl => rw [hr2] at h; cases h
      | ok y => rw [hr2] at h; cases h; exact ⟨⟨by dsimp only; omega, by dsimp only; omega, by dsimp only; omega⟩, ⟨w1, w2, w3⟩⟩
  · cases h
theorem tenantP_bnd {L : List Wd} {en n m : Nat} {t : Ten} (h : tenantP L en n = .ok (t, m)) : t.pool = [] ∧ t.statics = [] ∧ t.twices = [] ∧ WfTen t := by
  unfold tenantP at h
  simp only [bind, Except.bind] at h
  split at h; · cases h
  split at h; · cases h
  split at h; · cases h
  split at h; · cases h
  split at h; · cases h
  split at h; · cases h
  rename_i r1
  split at h; · cases h
  split at h; · cases h
  split at h; · cases h
  rename_i r2
  split at h; · cases h
  split at h; · cases h
  rename_i r3
  cases h
  exact ⟨rfl, rfl, rfl, ⟨readP_key r1, readP_mac r2, readP_mac r3⟩⟩
theorem gatewayP_wf {L : List Wd} {en n m : Nat} {c : Cfg} (h : gatewayP L en n = .ok (c, m)) : c.tens = [] ∧ c.mac.length = 6 ∧ c.out.length = 6 ∧ c.next.length = 6 ∧ c.key.length = 8 := by
  unfold gatewayP at h
  simp only [bind, Except.bind] at h
  split at h; · cases h
  split at h; · cases h
  split at h; · cases h
  rename_i r1
  split at h; · cases h
  rename_i r2
  split at h; · cases h
  rename_i r3
  split at h; · cases h
  rename_i r4
  split at h; · cases h
  split at h; · cases h
  cases h
  exact ⟨rfl, readP_mac r1, readP_mac r2, readP_mac r3, readP_key r4⟩
end Go.Proofs.YtbkpbcmjgbdbkaaGreatDoor

/-! Y0 -/
namespace Go.Proofs.YtbkpbcmjgbdbkaaGreatDoor
open Go.RowKit Go.Lib
set_option linter.unusedVariables false
set_option linter.unusedSimpArgs false
set_option maxRecDepth 100000

/-- The scan along a list of bytes that begins at k. -/
def scanL (s : ByteArray) : Nat → List UInt8 → Sc → Sc
  | _, [], σ => σ
  | k, b :: l, σ => scanL s (k + 1) l (scStep s σ k b.toNat)
theorem scanL_append (s : ByteArray) (a b : List UInt8) : ∀ (k : Nat) (σ : Sc), scanL s k (a ++ b) σ = scanL s (k + a.length) b (scanL s k a σ) := by
  induction a with
  | nil => intro k σ; rfl
  | cons x a ih =>
    intro k σ
    show scanL s (k + 1) (a ++ b) _ = scanL s (k + (a.length + 1)) b (scanL s (k + 1) a _)
    rw [ih, show k + 1 + a.length = k + (a.length + 1) by omega]
def sc0 : Sc := ⟨[], [], none, false⟩
theorem scan_take (s : ByteArray) : ∀ m, m ≤ s.data.toList.length → scan s m = scanL s 0 (s.data.toList.take m) sc0
  | 0, _ => rfl
  | m + 1, h => by
    have ih := scan_take s m (by omega)
    have hx : s.data.toList.take (m + 1) = s.data.toList.take m ++ [s.data.toList[m]'(by omega)] := List.take_succ_eq_append_getElem (by omega)
    have hg : s.data.toList.getD m 0 = s.data.toList[m]'(by omega) := by rw [List.getD_eq_getElem?_getD, List.getElem?_eq_getElem (by omega)]; rfl
    rw [hx, scanL_append, ← ih]
    show scStep s (scan s m) m (s.data.toList.getD m 0).toNat = _
    rw [hg, List.length_take, Nat.min_eq_left (by omega), Nat.zero_add]
    rfl
theorem linesOf_scanL (s : ByteArray) : linesOf s = (scEnd s (scanL s 0 s.data.toList sc0) s.size).outs := by
  have h := scan_take s s.size (by rw [bytes_len]; exact Nat.le_refl _)
  rw [List.take_of_length_le (by rw [bytes_len]; exact Nat.le_refl _)] at h
  unfold linesOf
  rw [h]
/-- A word's bytes: no blank, no sign of a comment, no line's end. -/
def Plain (l : List UInt8) : Prop := ∀ b ∈ l, b.toNat ≠ 10 ∧ b.toNat ≠ 35 ∧ b.toNat ≠ 32
def Good (l : List UInt8) : Prop := l ≠ [] ∧ Plain l
theorem scan_mid (s : ByteArray) (o : List (List Wd × Nat)) (ws : List Wd) (n : Nat) : ∀ (l : List UInt8) (k : Nat), Plain l → scanL s k l ⟨o, ws, some n, false⟩ = ⟨o, ws, some n, false⟩
  | [], _, _ => rfl
  | b :: l, k, h => by
    have hb := h b (List.mem_cons_self ..)
    show scanL s (k + 1) l (scStep s _ k b.toNat) = _
    have : scStep s ⟨o, ws, some n, false⟩ k b.toNat = ⟨o, ws, some n, false⟩ := by
      unfold scStep
      rw [if_neg hb.1, if_neg (by simp), if_neg hb.2.1, if_neg hb.2.2]
    rw [this]
    exact scan_mid s o ws n l (k + 1) (fun x hx => h x (List.mem_cons_of_mem _ hx))
theorem scan_word (s : ByteArray) (o : List (List Wd × Nat)) (ws : List Wd) (l : List UInt8) (k : Nat) (h : Good l) : scanL s k l ⟨o, ws, none, false⟩ = ⟨o, ws, some k, false⟩ := by
  cases l with
  | nil => exact absurd rfl h.1
  | cons b l =>
    have hb := h.2 b (List.mem_cons_self ..)
    show scanL s (k + 1) l (scStep s _ k b.toNat) = _
    have : scStep s ⟨o, ws, none, false⟩ k b.toNat = ⟨o, ws, some k, false⟩ := by
      unfold scStep
      rw [if_neg hb.1, if_neg (by simp), if_neg hb.2.1, if_neg hb.2.2]
    rw [this]
    exact scan_mid s o ws k l (k + 1) (fun x hx => h.2 x (List.mem_cons_of_mem _ hx))
def HoldsAt (s : ByteArray) (k : Nat) (l : List UInt8) : Prop := (s.data.toList.drop k).take l.length = l
theorem HoldsAt.left {s : ByteArray} {k : Nat} {a b : List UInt8} (h : HoldsAt s k (a ++ b)) : HoldsAt s k a := by
  unfold HoldsAt at h ⊢
  have := congrArg (List.take a.length) h
  rw [List.take_take, List.length_append, Nat.min_eq_left (by omega), List.take_left'] at this
  · exact this
  · rfl
theorem HoldsAt.right {s : ByteArray} {k : Nat} {a b : List UInt8} (h : HoldsAt s k (a ++ b)) : HoldsAt s (k + a.length) b := by
  unfold HoldsAt at h ⊢
  have := congrArg (List.drop a.length) h
  rw [List.drop_take, List.length_append, List.drop_drop, List.drop_left', show a.length + b.length - a.length = b.length by omega] at this
  · exact this
  · rfl
theorem HoldsAt.all (s : ByteArray) : HoldsAt s 0 s.data.toList := by
  unfold HoldsAt
  rw [List.drop_zero, List.take_length]
theorem HoldsAt.cut {s : ByteArray} {k : Nat} {l : List UInt8} (h : HoldsAt s k l) : (s.extract k (k + l.length)).data.toList = l := by
  rw [ByteArray.data_extract, Array.toList_extract]
  simp only [List.extract_eq_take_drop, show k + l.length - k = l.length by omega]
  exact h
def wdL (x : Wd) : List UInt8 := x.1.data.toList
def wordsL (X : List Wd × Nat) : List (List UInt8) := X.1.map wdL
/-- Lines and words that were scanned, between words. -/
structure Rd (O : List (List (List UInt8))) (W : List (List UInt8)) (σ : Sc) : Prop where
  outs : σ.outs.map wordsL = O
  ws : σ.ws.map wdL = W
  bg : σ.bg = none
  rest : σ.rest = false
theorem Rd.form {O : List (List (List UInt8))} {W : List (List UInt8)} {σ : Sc} (h : Rd O W σ) : σ = ⟨σ.outs, σ.ws, none, false⟩ := by
  obtain ⟨o, ws, bg, rest⟩ := σ
  have h1 : bg = none := h.bg
  have h2 : rest = false := h.rest
  subst h1; subst h2
  rfl
theorem Rd.start : Rd [] [] sc0 := ⟨rfl, rfl, rfl, rfl⟩
section
variable {s : ByteArray} {O : List (List (List UInt8))} {W : List (List UInt8)} {σ : Sc} {k : Nat} {l : List UInt8}
theorem Rd.blank (h : Rd O W σ) (k : Nat) : Rd O W (scStep s σ k 32) := by
  rw [h.form]
  exact ⟨h.outs, h.ws, rfl, rfl⟩
theorem Rd.blanks (h : Rd O W σ) (n k : Nat) : Rd O W (scanL s k (List.replicate n 32) σ) := by
  induction n generalizing k σ with
  | zero => exact h
  | succ n ih => exact ih (h.blank k) (k + 1)
theorem Rd.empty (h : Rd O [] σ) (k : Nat) : Rd O [] (scStep s σ k 10) := by
  rw [h.form]
  have hw : σ.ws = [] := List.map_eq_nil_iff.1 h.ws
  refine ⟨?_, rfl, rfl, rfl⟩
  simp only [scStep, scEnd, wordEnd, hw, if_true, List.length_nil, Nat.lt_irrefl, if_false]
  exact h.outs
theorem Rd.word (h : Rd O W σ) (hl : Good l) (hs : HoldsAt s k l) (n : Nat) : Rd O (W ++ [l]) (scanL s k (l ++ 32 :: List.replicate n 32) σ) := by
  rw [h.form, scanL_append, scan_word s _ _ l k hl]
  refine Rd.blanks (σ := scStep s _ (k + l.length) 32) ?_ n _
  refine ⟨h.outs, ?_, rfl, rfl⟩
  show (σ.ws ++ [(s.extract k (k + l.length), k)]).map wdL = _
  rw [List.map_append, h.ws, List.map_singleton]
  unfold wdL
  rw [hs.cut]
/-- What may end a line: with a comment, with empty lines behind it. -/
def Ends (E : List UInt8) : Prop := E = [10] ∨ E = [35, 120, 10] ∨ E = [32, 35, 32, 112, 111, 111, 108, 32, 49, 46, 50, 46, 51, 46, 52, 10, 10, 32, 32, 10]
theorem end_words (o : List (List Wd × Nat)) (ws : List Wd) (x : Wd) (i : Nat) (ho : o.map wordsL = O) (hw : ws.map wdL = W) (hx : wdL x = l) : (o ++ [(ws ++ [x], i)]).map wordsL = O ++ [W ++ [l]] := by
  rw [List.map_append, ho, List.map_singleton]
  unfold wordsL
  rw [List.map_append, hw, List.map_singleton, hx]
theorem Rd.line (h : Rd O W σ) (hl : Good l) (hs : HoldsAt s k l) {E : List UInt8} (hE : Ends E) : Rd (O ++ [W ++ [l]]) [] (scanL s k (l ++ E) σ) := by
  rw [h.form, scanL_append, scan_word s _ _ l k hl]
  have hx : wdL (s.extract k (k + l.length), k) = l := hs.cut
  generalize k + l.length = m at *
  have key : ∀ i, (σ.outs ++ [(σ.ws ++ [(s.extract k m, k)], i)]).map wordsL = O ++ [W ++ [l]] := fun i => end_words _ _ _ _ h.outs h.ws hx
  rcases hE with rfl | rfl | rfl
  · refine ⟨?_, ?_, ?_, ?_⟩ <;> simp [scanL, scStep, scEnd, wordEnd]
    simpa using key m
  · refine ⟨?_, ?_, ?_, ?_⟩ <;> simp [scanL, scStep, scEnd, scWord, wordEnd]
    simpa using key (m + 1 + 1)
  · refine ⟨?_, ?_, ?_, ?_⟩ <;> simp [scanL, scStep, scEnd, scWord, wordEnd]
    simpa using key (m + 1 + 1 + 1 + 1 + 1 + 1 + 1 + 1 + 1 + 1 + 1 + 1 + 1 + 1 + 1)
end
/-- A line of words, with blanks between and an end behind them. -/
inductive SpL : List (List UInt8) → List UInt8 → Prop
  | last (l E : List UInt8) : Ends E → SpL [l] (l ++ E)
  | more (l : List UInt8) (n : Nat) (ps : List (List UInt8)) (t : List UInt8) : SpL ps t → SpL (l :: ps) ((l ++ 32 :: List.replicate n 32) ++ t)
inductive SpT : List (List (List UInt8)) → List UInt8 → Prop
  | nil : SpT [] []
  | cons (ps : List (List UInt8)) (t : List UInt8) (Ls : List (List (List UInt8))) (u : List UInt8) : SpL ps t → SpT Ls u → SpT (ps :: Ls) (t ++ u)
theorem SpT.append {A B : List (List (List UInt8))} {a b : List UInt8} (h : SpT A a) (k : SpT B b) : SpT (A ++ B) (a ++ b) := by
  induction h with
  | nil => exact k
  | cons ps t Ls u hl _ ih => rw [List.append_assoc]; exact .cons _ _ _ _ hl ih
theorem spl_read {s : ByteArray} {ps : List (List UInt8)} {t : List UInt8} (h : SpL ps t) : ∀ {O : List (List (List UInt8))} {W : List (List UInt8)} {σ : Sc} {k : Nat}, (∀ l ∈ ps, Good l) → HoldsAt s k t → Rd O W σ → Rd (O ++ [W ++ ps]) [] (scanL s k t σ) := by
  induction h with
  | last l E hE =>
    intro O W σ k hg hs hr
    exact hr.line (hg l (by simp)) hs.left hE
  | more l n ps t _ ih =>
    intro O W σ k hg hs hr
    rw [scanL_append]
    have := ih (fun x hx => hg x (List.mem_cons_of_mem _ hx)) hs.right (hr.word (hg l (by simp)) hs.left.left n)
    rw [List.append_assoc] at this
    exact this
theorem spt_read {s : ByteArray} {Ls : List (List (List UInt8))} {t : List UInt8} (h : SpT Ls t) : ∀ {O : List (List (List UInt8))} {σ : Sc} {k : Nat}, (∀ ps ∈ Ls, ∀ l ∈ ps, Good l) → HoldsAt s k t → Rd O [] σ → Rd (O ++ Ls) [] (scanL s k t σ) := by
  induction h with
  | nil => intro O σ k _ _ hr; rw [List.append_nil]; exact hr
  | cons ps t Ls u hl _ ih =>
    intro O σ k hg hs hr
    rw [scanL_append]
    have := ih (fun x hx => hg x (List.mem_cons_of_mem _ hx)) hs.right (spl_read hl (hg ps (by simp)) hs.left hr)
    rw [List.append_assoc] at this
    exact this
/-- The lines of a text of words. -/
theorem lines_spread {s : ByteArray} {Ls : List (List (List UInt8))} (h : SpT Ls s.data.toList) (hg : ∀ ps ∈ Ls, ∀ l ∈ ps, Good l) : (linesOf s).map wordsL = Ls := by
  have h1 := spt_read (s := s) h hg (HoldsAt.all s) Rd.start
  rw [linesOf_scanL]
  exact (h1.empty (s := s) s.size).outs
/-- A comment without an end behind it. -/
theorem lines_comment {s : ByteArray} {Ls : List (List (List UInt8))} {t xs : List UInt8} (h : SpT Ls t) (hg : ∀ ps ∈ Ls, ∀ l ∈ ps, Good l) (hs : s.data.toList = t ++ 35 :: xs) (hx : ∀ b ∈ xs, b.toNat ≠ 10) : (linesOf s).map wordsL = Ls := by
  have h0 := HoldsAt.all s
  rw [hs] at h0
  have h1 := spt_read (s := s) h hg h0.left Rd.start
  rw [linesOf_scanL, hs, scanL_append]
  generalize scanL s 0 t sc0 = σ at *
  rw [h1.form]
  have hw : σ.ws = [] := List.map_eq_nil_iff.1 h1.ws
  have stay : ∀ (l : List UInt8) (k : Nat), (∀ b ∈ l, b.toNat ≠ 10) → scanL s k l ⟨σ.outs, [], none, true⟩ = ⟨σ.outs, [], none, true⟩ := by
    intro l
    induction l with
    | nil => intro k _; rfl
    | cons b l ih =>
      intro k hb
      show scanL s (k + 1) l (scStep s _ k b.toNat) = _
      have : scStep s ⟨σ.outs, [], none, true⟩ k b.toNat = ⟨σ.outs, [], none, true⟩ := by
        unfold scStep
        rw [if_neg (hb b (List.mem_cons_self ..)), if_pos rfl]
      rw [this]
      exact ih (k + 1) (fun x hx => hb x (List.mem_cons_of_mem _ hx))
  have h2 : scanL s (0 + t.length) (35 :: xs) ⟨σ.outs, σ.ws, none, false⟩ = ⟨σ.outs, [], none, true⟩ := by
    show scanL s (0 + t.length + 1) xs (scStep s _ _ 35) = _
    have : scStep s ⟨σ.outs, σ.ws, none, false⟩ (0 + t.length) 35 = ⟨σ.outs, [], none, true⟩ := by
      rw [hw]; rfl
    rw [this]
    exact stay xs _ hx
  rw [h2]
  exact h1.outs
end Go.Proofs.YtbkpbcmjgbdbkaaGreatDoor

/-! Y1 -/
namespace Go.Proofs.YtbkpbcmjgbdbkaaGreatDoor
open Go.RowKit Go.Lib
set_option linter.unusedVariables false
set_option linter.unusedSimpArgs false
set_option maxRecDepth 100000

/-! ### a line's words -/
def WdsAre (L : List Wd) (ps : List (List UInt8)) : Prop := L.map wdL = ps
theorem bytes_eq {s : ByteArray} {l : List UInt8} (h : s.data.toList = l) : s = ⟨l.toArray⟩ := by
  subst h
  exact ByteArray.ext (by simp)
section
variable {L : List Wd} {ps : List (List UInt8)} {n en : Nat} {l : List UInt8}
theorem WdsAre.at_ (h : WdsAre L ps) (hl : ps[n]? = some l) : ∃ a, L[n]? = some (⟨l.toArray⟩, a) := by
  unfold WdsAre at h
  subst h
  rw [List.getElem?_map] at hl
  cases hx : L[n]? with
  | none => rw [hx] at hl; cases hl
  | some x =>
    obtain ⟨s, a⟩ := x
    rw [hx] at hl
    have hs : s.data.toList = l := by simpa [wdL] using hl
    exact ⟨a, by rw [bytes_eq hs]⟩
theorem WdsAre.none (h : WdsAre L ps) (hl : ps.length ≤ n) : L[n]? = none := by
  unfold WdsAre at h
  subst h
  exact List.getElem?_eq_none (by simpa using hl)
theorem WdsAre.read {α : Type} {f : List UInt8 → Option α} {v : α} (h : WdsAre L ps) (hl : ps[n]? = some l) (hf : f l = some v) : readP f L en n = .ok (v, n + 1) := by
  obtain ⟨a, ha⟩ := h.at_ hl
  exact readP_some ha (by simpa using hf)
theorem WdsAre.must {s : ByteArray} (h : WdsAre L ps) (hl : ps[n]? = some s.data.toList) : mustP s L en n = .ok (n + 1) := by
  obtain ⟨a, ha⟩ := h.at_ hl
  unfold mustP
  rw [ha]
  exact if_pos (ByteArray.ext (by simp))
theorem WdsAre.next (h : WdsAre L ps) (hl : ps[n]? = some l) : ∃ a, nextP L en n = .ok ((⟨l.toArray⟩, a), n + 1) := by
  obtain ⟨a, ha⟩ := h.at_ hl
  exact ⟨a, nextP_some ha⟩
theorem WdsAre.done (h : WdsAre L ps) (hl : ps.length ≤ n) : doneP L n = .ok () := by
  unfold doneP
  rw [h.none hl]
theorem WdsAre.len (h : WdsAre L ps) : L.length = ps.length := by
  unfold WdsAre at h
  subst h
  simp
end
/-! ### settings that may be -/
structure OkTen (t : Ten) : Prop where
  name : nameOf t.name.data.toList = true
  vni : t.vni ≤ 16777215
  key : t.key.length = 8 ∧ ∀ b ∈ t.key, b < 256
  vtep : t.vtep < 4294967296
  vmac : t.vmac.length = 6 ∧ ∀ b ∈ t.vmac, b < 256
  host : t.host.length = 6 ∧ ∀ b ∈ t.host, b < 256
  pool : ∀ x ∈ t.pool, x < 4294967296
  lo : t.lo ≤ 65535
  hi : t.hi ≤ 65535
  filter : t.filter = 0 ∨ t.filter = 1 ∨ t.filter = 2
  statics : ∀ x ∈ t.statics, x.1 < 4294967296 ∧ x.2 < 4294967296
  twices : ∀ x ∈ t.twices, x.1 < 4294967296 ∧ x.2 < 4294967296
  sess : 0 ≤ t.sess ∧ t.sess ≤ 65535
  queue : 0 ≤ t.queue ∧ t.queue ≤ 65535
  rate : t.rate ≤ 4294967295
  burst : t.burst ≤ 4294967295
structure OkCfg (c : Cfg) : Prop where
  ip : c.ip < 4294967296
  mac : c.mac.length = 6 ∧ ∀ b ∈ c.mac, b < 256
  out : c.out.length = 6 ∧ ∀ b ∈ c.out, b < 256
  next : c.next.length = 6 ∧ ∀ b ∈ c.next, b < 256
  key : c.key.length = 8 ∧ ∀ b ∈ c.key, b < 256
  drain : c.drain ≤ 4294967295
  tens : ∀ t ∈ c.tens, OkTen t
def headW (c : Cfg) : List (List UInt8) := [gwB, ipText c.ip, macText c.mac, macText c.out, macText c.next, keyText c.key, drB, decL c.drain]
def tenW (t : Ten) : List (List UInt8) := [tenB, t.name.data.toList, vniB, decL t.vni, keyB, keyText t.key, vtepB, ipText t.vtep, macText t.vmac, hostB, macText t.host]
def poolW (l : List Nat) : List (List UInt8) := poolB :: l.map ipText
def portsW (a b : Nat) : List (List UInt8) := [portsB, decL a, decL b]
def filtW (f : Int) : List (List UInt8) := [filtB, filterL f]
def statW (x : Nat × Nat) : List (List UInt8) := [statB, ipText x.1, ipText x.2]
def twicW (x : Nat × Nat) : List (List UInt8) := [twicB, ipText x.1, ipText x.2]
def quotaW (a b : Nat) : List (List UInt8) := [quotaB, decL a, decL b]
def rateW (a b : Nat) : List (List UInt8) := [rateB, decL a, decL b]
/-- A tenant's lines behind its first one. -/
def restW (t : Ten) : List (List (List UInt8)) := (if t.pool.length = 0 then [] else [poolW t.pool]) ++ ([portsW t.lo t.hi] ++ ([filtW t.filter] ++ (t.statics.map statW ++ (t.twices.map twicW ++ [quotaW t.sess.toNat t.queue.toNat, rateW t.rate t.burst]))))
def linesC (c : Cfg) : List (List (List UInt8)) := headW c :: c.tens.flatMap fun t => tenW t :: restW t
theorem textL_lines (c : Cfg) : textL c = (linesC c).flatMap lineL := by
  have ht : ∀ t : Ten, tenL t = (tenW t :: restW t).flatMap lineL := fun t => by
    unfold tenL restW poolL
    by_cases h : t.pool.length = 0
    · simp only [h, if_true, List.flatMap_cons, List.nil_append, List.flatMap_append, List.flatMap_map, List.flatMap_nil, List.append_nil, List.append_assoc]
      rfl
    · simp only [h, if_false, List.flatMap_cons, List.flatMap_append, List.flatMap_map, List.flatMap_nil, List.append_nil, List.append_assoc]
      rfl
  have hts : ∀ l : List Ten, l.flatMap tenL = (l.flatMap fun t => tenW t :: restW t).flatMap lineL := fun l => by
    induction l with
    | nil => rfl
    | cons t l ih => rw [List.flatMap_cons, List.flatMap_cons, List.flatMap_append, ih, ht t]
  unfold textL linesC
  rw [List.flatMap_cons, hts]
  rfl
/-! ### lines, one by one -/
theorem head_read {c : Cfg} (h : OkCfg c) {X : List Wd × Nat} (hx : wordsL X = headW c) : headP X = .ok { c with tens := [] } := by
  have hw : WdsAre X.1 (headW c) := hx
  have e : gatewayP X.1 X.2 0 = .ok ({ c with tens := [] }, 8) := by
    unfold gatewayP
    rw [hw.must (s := gwName) (n := 0) rfl]
    simp only [bind, Except.bind]
    rw [hw.read (n := 1) (f := ipOf) rfl (ipOf_text _ h.ip)]
    simp only [bind, Except.bind]
    rw [hw.read (n := 2) (f := macOf) rfl (macOf_text _ h.mac.1 h.mac.2)]
    simp only [bind, Except.bind]
    rw [hw.read (n := 3) (f := macOf) rfl (macOf_text _ h.out.1 h.out.2)]
    simp only [bind, Except.bind]
    rw [hw.read (n := 4) (f := macOf) rfl (macOf_text _ h.next.1 h.next.2)]
    simp only [bind, Except.bind]
    rw [hw.read (n := 5) (f := keyOf) rfl (keyOf_text _ h.key.1 h.key.2)]
    simp only [bind, Except.bind]
    rw [hw.must (s := drName) (n := 6) rfl]
    simp only [bind, Except.bind]
    rw [hw.read (n := 7) (f := fun l => numOf l 4294967295) rfl (by rw [numOf_dec, if_pos h.drain])]
  unfold headP
  simp only [e, hw.done (n := 8) (Nat.le_refl _)]
def tenFirst (t : Ten) : Ten := ⟨t.name, t.vni, t.key, t.vtep, t.vmac, t.host, [], 0, 0, 0, [], [], 0, 0, 0, 0⟩
theorem name_bytes (s : ByteArray) : (⟨s.data.toList.toArray⟩ : ByteArray) = s := ByteArray.ext (by simp)
theorem ten_read {t : Ten} (h : OkTen t) {X : List Wd × Nat} (hx : wordsL X = tenW t) (c : Cfg) : lineP c X = .ok { c with tens := c.tens ++ [tenFirst t] } := by
  have hw : WdsAre X.1 (tenW t) := hx
  obtain ⟨a, h0⟩ := hw.next (n := 0) (en := X.2) (l := tenB) rfl
  have e : tenantP X.1 X.2 1 = .ok (tenFirst t, 11) := by
    unfold tenantP
    obtain ⟨a1, h1⟩ := hw.next (n := 1) (en := X.2) (l := t.name.data.toList) rfl
    rw [h1]
    simp only [bind, Except.bind, h.name, if_true]
    rw [hw.must (s := vniName) (n := 2) rfl]
    simp only [bind, Except.bind]
    rw [hw.read (n := 3) (f := fun l => numOf l 16777215) rfl (by rw [numOf_dec, if_pos h.vni])]
    simp only [bind, Except.bind]
    rw [hw.must (s := keyName) (n := 4) rfl]
    simp only [bind, Except.bind]
    rw [hw.read (n := 5) (f := keyOf) rfl (keyOf_text _ h.key.1 h.key.2)]
    simp only [bind, Except.bind]
    rw [hw.must (s := vtepName) (n := 6) rfl]
    simp only [bind, Except.bind]
    rw [hw.read (n := 7) (f := ipOf) rfl (ipOf_text _ h.vtep)]
    simp only [bind, Except.bind]
    rw [hw.read (n := 8) (f := macOf) rfl (macOf_text _ h.vmac.1 h.vmac.2)]
    simp only [bind, Except.bind]
    rw [hw.must (s := hostName) (n := 9) rfl]
    simp only [bind, Except.bind]
    rw [hw.read (n := 10) (f := macOf) rfl (macOf_text _ h.host.1 h.host.2)]
    simp only [name_bytes]
    rfl
  exact lineP_ok h0 (bodyP_tenOk e) (hw.done (n := 11) (Nat.le_refl _))
theorem field_read {X : List Wd × Nat} {ps : List (List UInt8)} (hx : wordsL X = ps) (c : Cfg) (ts : List Ten) (t t' : Ten) (hc : c.tens = ts ++ [t]) (w : List UInt8) (m : Nat) (hl : ps[0]? = some w) (hne : ¬ (⟨w.toArray⟩ : ByteArray) = tenName) (hf : ∀ a, fieldP ⟨w.toArray⟩ a X.1 X.2 1 t = .ok (t', m)) (hm : ps.length ≤ m) : lineP c X = .ok { c with tens := ts ++ [t'] } := by
  have hw : WdsAre X.1 ps := hx
  obtain ⟨a, h0⟩ := hw.next (n := 0) (en := X.2) hl
  exact lineP_ok h0 (bodyP_fieldOk hne hc (hf a)) (hw.done hm)
theorem pool_go {L : List Wd} {en : Nat} : ∀ (l : List Nat) (ps : List (List UInt8)) (n : Nat) (acc : List Nat), WdsAre L ps → ps.drop n = l.map ipText → (∀ x ∈ l, x < 4294967296) → poolGo L en l.length n acc = .ok (acc ++ l, n + l.length)
  | [], ps, n, acc, _, _, _ => by simp [poolGo]
  | x :: l, ps, n, acc, hw, hd, hx => by
    have h0 : ps[n]? = some (ipText x) := by
      have := congrArg (fun q => q[0]?) hd
      simpa using this
    have h1 : ps.drop (n + 1) = l.map ipText := by
      have := congrArg List.tail hd
      simpa using this
    rw [List.length_cons, poolGo, hw.read (f := ipOf) h0 (ipOf_text x (hx x (List.mem_cons_self ..)))]
    show poolGo L en l.length (n + 1) (acc ++ [x]) = _
    rw [pool_go l ps (n + 1) (acc ++ [x]) hw h1 (fun y hy => hx y (List.mem_cons_of_mem _ hy))]
    rw [List.append_assoc, show n + 1 + l.length = n + (l.length + 1) by omega]
    rfl
theorem read_pool {X : List Wd × Nat} (c : Cfg) (ts : List Ten) (t : Ten) (hc : c.tens = ts ++ [t]) {l : List Nat} (hx : wordsL X = poolW l) (hl : ∀ x ∈ l, x < 4294967296) : lineP c X = .ok { c with tens := ts ++ [{ t with pool := t.pool ++ l }] } := by
  refine field_read hx c ts t _ hc poolB (1 + l.length) rfl (by decide) (fun a => ?_) (by simp [poolW]; omega)
  have hw : WdsAre X.1 (poolW l) := hx
  unfold fieldP
  rw [if_pos (by decide)]
  unfold poolP
  rw [hw.len, show (poolW l).length - 1 = l.length by simp [poolW], pool_go l (poolW l) 1 t.pool hw rfl hl]
  rfl
theorem read_ports {X : List Wd × Nat} (c : Cfg) (ts : List Ten) (t : Ten) (hc : c.tens = ts ++ [t]) {a b : Nat} (hx : wordsL X = portsW a b) (ha : a ≤ 65535) (hb : b ≤ 65535) : lineP c X = .ok { c with tens := ts ++ [{ t with lo := a, hi := b }] } := by
  refine field_read hx c ts t _ hc portsB 3 rfl (by decide) (fun p => ?_) (Nat.le_refl _)
  have hw : WdsAre X.1 (portsW a b) := hx
  unfold fieldP
  rw [if_neg (by decide), if_pos (by decide)]
  unfold portsP numP
  rw [hw.read (n := 1) (f := fun l => numOf l 65535) rfl (by rw [numOf_dec, if_pos ha])]
  simp only [bind, Except.bind]
  rw [hw.read (n := 2) (f := fun l => numOf l 65535) rfl (by rw [numOf_dec, if_pos hb])]
theorem read_filt {X : List Wd × Nat} (c : Cfg) (ts : List Ten) (t : Ten) (hc : c.tens = ts ++ [t]) {f : Int} (hx : wordsL X = filtW f) (hf : f = 0 ∨ f = 1 ∨ f = 2) : lineP c X = .ok { c with tens := ts ++ [{ t with filter := f }] } := by
  refine field_read hx c ts t _ hc filtB 2 rfl (by decide) (fun p => ?_) (Nat.le_refl _)
  have hw : WdsAre X.1 (filtW f) := hx
  have hfil : ∃ n : Nat, (n : Int) = f ∧ filterOf (filterL f) = some n := by
    rcases hf with rfl | rfl | rfl
    · exact ⟨0, rfl, by decide⟩
    · exact ⟨1, rfl, by decide⟩
    · exact ⟨2, rfl, by decide⟩
  obtain ⟨n, e, hfil⟩ := hfil
  unfold fieldP
  rw [if_neg (by decide), if_neg (by decide), if_pos (by decide)]
  unfold filtP
  rw [hw.read (n := 1) (f := filterOf) rfl hfil]
  simp only [bind, Except.bind, e]
theorem read_stat {X : List Wd × Nat} (c : Cfg) (ts : List Ten) (t : Ten) (hc : c.tens = ts ++ [t]) {x : Nat × Nat} (hx : wordsL X = statW x) (h1 : x.1 < 4294967296) (h2 : x.2 < 4294967296) : lineP c X = .ok { c with tens := ts ++ [{ t with statics := t.statics ++ [x] }] } := by
  refine field_read hx c ts t _ hc statB 3 rfl (by decide) (fun p => ?_) (Nat.le_refl _)
  have hw : WdsAre X.1 (statW x) := hx
  unfold fieldP
  rw [if_neg (by decide), if_neg (by decide), if_neg (by decide), if_pos (by decide)]
  unfold statP pairP
  rw [hw.read (n := 1) (f := ipOf) rfl (ipOf_text _ h1)]
  simp only [bind, Except.bind]
  rw [hw.read (n := 2) (f := ipOf) rfl (ipOf_text _ h2)]
theorem read_twic {X : List Wd × Nat} (c : Cfg) (ts : List Ten) (t : Ten) (hc : c.tens = ts ++ [t]) {x : Nat × Nat} (hx : wordsL X = twicW x) (h1 : x.1 < 4294967296) (h2 : x.2 < 4294967296) : lineP c X = .ok { c with tens := ts ++ [{ t with twices := t.twices ++ [x] }] } := by
  refine field_read hx c ts t _ hc twicB 3 rfl (by decide) (fun p => ?_) (Nat.le_refl _)
  have hw : WdsAre X.1 (twicW x) := hx
  unfold fieldP
  rw [if_neg (by decide), if_neg (by decide), if_neg (by decide), if_neg (by decide), if_pos (by decide)]
  unfold twicP pairP
  rw [hw.read (n := 1) (f := ipOf) rfl (ipOf_text _ h1)]
  simp only [bind, Except.bind]
  rw [hw.read (n := 2) (f := ipOf) rfl (ipOf_text _ h2)]
theorem read_quota {X : List Wd × Nat} (c : Cfg) (ts : List Ten) (t : Ten) (hc : c.tens = ts ++ [t]) {a b : Nat} (hx : wordsL X = quotaW a b) (ha : a ≤ 65535) (hb : b ≤ 65535) : lineP c X = .ok { c with tens := ts ++ [{ t with sess := (a : Int), queue := (b : Int) }] } := by
  refine field_read hx c ts t _ hc quotaB 3 rfl (by decide) (fun p => ?_) (Nat.le_refl _)
  have hw : WdsAre X.1 (quotaW a b) := hx
  unfold fieldP
  rw [if_neg (by decide), if_neg (by decide), if_neg (by decide), if_neg (by decide), if_neg (by decide), if_pos (by decide)]
  unfold quotaP numP
  rw [hw.read (n := 1) (f := fun l => numOf l 65535) rfl (by rw [numOf_dec, if_pos ha])]
  simp only [bind, Except.bind]
  rw [hw.read (n := 2) (f := fun l => numOf l 65535) rfl (by rw [numOf_dec, if_pos hb])]
theorem read_rate {X : List Wd × Nat} (c : Cfg) (ts : List Ten) (t : Ten) (hc : c.tens = ts ++ [t]) {a b : Nat} (hx : wordsL X = rateW a b) (ha : a ≤ 4294967295) (hb : b ≤ 4294967295) : lineP c X = .ok { c with tens := ts ++ [{ t with rate := a, burst := b }] } := by
  refine field_read hx c ts t _ hc rateB 3 rfl (by decide) (fun p => ?_) (Nat.le_refl _)
  have hw : WdsAre X.1 (rateW a b) := hx
  unfold fieldP
  rw [if_neg (by decide), if_neg (by decide), if_neg (by decide), if_neg (by decide), if_neg (by decide), if_neg (by decide), if_pos (by decide)]
  unfold rateP numP
  rw [hw.read (n := 1) (f := fun l => numOf l 4294967295) rfl (by rw [numOf_dec, if_pos ha])]
  simp only [bind, Except.bind]
  rw [hw.read (n := 2) (f := fun l => numOf l 4294967295) rfl (by rw [numOf_dec, if_pos hb])]
/-! ### a tenant's lines, in whatever order -/
/-- What a line says of a tenant. -/
inductive FieldW : List (List UInt8) → Ten → Ten → Prop
  | pool (l : List Nat) (t : Ten) : (∀ x ∈ l, x < 4294967296) → FieldW (poolW l) t { t with pool := t.pool ++ l }
  | ports (a b : Nat) (t : Ten) : a ≤ 65535 → b ≤ 65535 → FieldW (portsW a b) t { t with lo := a, hi := b }
  | filt (f : Int) (t : Ten) : f = 0 ∨ f = 1 ∨ f = 2 → FieldW (filtW f) t { t with filter := f }
  | stat (x : Nat × Nat) (t : Ten) : x.1 < 4294967296 → x.2 < 4294967296 → FieldW (statW x) t { t with statics := t.statics ++ [x] }
  | twic (x : Nat × Nat) (t : Ten) : x.1 < 4294967296 → x.2 < 4294967296 → FieldW (twicW x) t { t with twices := t.twices ++ [x] }
  | quota (a b : Nat) (t : Ten) : a ≤ 65535 → b ≤ 65535 → FieldW (quotaW a b) t { t with sess := (a : Int), queue := (b : Int) }
  | rate (a b : Nat) (t : Ten) : a ≤ 4294967295 → b ≤ 4294967295 → FieldW (rateW a b) t { t with rate := a, burst := b }
inductive FieldsW : List (List (List UInt8)) → Ten → Ten → Prop
  | nil (t : Ten) : FieldsW [] t t
  | cons {ps : List (List UInt8)} {r : List (List (List UInt8))} {t u v : Ten} : FieldW ps t u → FieldsW r u v → FieldsW (ps :: r) t v
theorem FieldsW.append {a b : List (List (List UInt8))} {t u v : Ten} (h : FieldsW a t u) (k : FieldsW b u v) : FieldsW (a ++ b) t v := by
  induction h with
  | nil => exact k
  | cons h _ ih => exact .cons h (ih k)
theorem FieldsW.one {ps : List (List UInt8)} {t u : Ten} (h : FieldW ps t u) : FieldsW [ps] t u := .cons h (.nil u)
theorem line_field {ps : List (List UInt8)} {t u : Ten} (h : FieldW ps t u) {X : List Wd × Nat} (hx : wordsL X = ps) {c : Cfg} {ts : List Ten} (hc : c.tens = ts ++ [t]) : lineP c X = .ok { c with tens := ts ++ [u] } := by
  cases h with
  | pool l t hl => exact read_pool c ts t hc hx hl
  | ports a b t h1 h2 => exact read_ports c ts t hc hx h1 h2
  | filt f t h1 => exact read_filt c ts t hc hx h1
  | stat x t h1 h2 => exact read_stat c ts t hc hx h1 h2
  | twic x t h1 h2 => exact read_twic c ts t hc hx h1 h2
  | quota a b t h1 h2 => exact read_quota c ts t hc hx h1 h2
  | rate a b t h1 h2 => exact read_rate c ts t hc hx h1 h2
theorem rest_cons {c c' : Cfg} {X : List Wd × Nat} (r : List (List Wd × Nat)) (h : lineP c X = .ok c') : restP (X :: r) c = restP r c' := by
  rw [restP, h]
theorem rest_fields {A : List (List (List UInt8))} {t u : Ten} (h : FieldsW A t u) : ∀ {Ls : List (List Wd × Nat)} {c : Cfg} {ts : List Ten} (r : List (List Wd × Nat)), Ls.map wordsL = A → c.tens = ts ++ [t] → restP (Ls ++ r) c = restP r { c with tens := ts ++ [u] } := by
  induction h with
  | nil t =>
    intro Ls c ts r hL hc
    rw [List.map_eq_nil_iff] at hL
    subst hL
    rw [← hc]
    rfl
  | @cons ps q t u v h1 _ ih =>
    intro Ls c ts r hL hc
    cases Ls with
    | nil => cases hL
    | cons X Ls =>
      simp only [List.map_cons, List.cons.injEq] at hL
      rw [List.cons_append, rest_cons _ (line_field h1 hL.1 hc)]
      exact ih (c := { c with tens := ts ++ [u] }) r hL.2 rfl
theorem fields_stat (l : List (Nat × Nat)) (t : Ten) (h : ∀ x ∈ l, x.1 < 4294967296 ∧ x.2 < 4294967296) : FieldsW (l.map statW) t { t with statics := t.statics ++ l } := by
  induction l generalizing t with
  | nil => rw [List.append_nil]; exact .nil t
  | cons x l ih =>
    have hx := h x (List.mem_cons_self ..)
    have := ih { t with statics := t.statics ++ [x] } (fun y hy => h y (List.mem_cons_of_mem _ hy))
    rw [show ({ t with statics := t.statics ++ [x] } : Ten).statics ++ l = t.statics ++ (x :: l) by simp] at this
    exact .cons (.stat x t hx.1 hx.2) this
theorem fields_twic (l : List (Nat × Nat)) (t : Ten) (h : ∀ x ∈ l, x.1 < 4294967296 ∧ x.2 < 4294967296) : FieldsW (l.map twicW) t { t with twices := t.twices ++ l } := by
  induction l generalizing t with
  | nil => rw [List.append_nil]; exact .nil t
  | cons x l ih =>
    have hx := h x (List.mem_cons_self ..)
    have := ih { t with twices := t.twices ++ [x] } (fun y hy => h y (List.mem_cons_of_mem _ hy))
    rw [show ({ t with twices := t.twices ++ [x] } : Ten).twices ++ l = t.twices ++ (x :: l) by simp] at this
    exact .cons (.twic x t hx.1 hx.2) this
theorem fields_ten {t : Ten} (h : OkTen t) : FieldsW (restW t) (tenFirst t) t := by
  have h1 : FieldsW (if t.pool.length = 0 then [] else [poolW t.pool]) (tenFirst t) { tenFirst t with pool := t.pool } := by
    by_cases h0 : t.pool.length = 0
    · rw [if_pos h0, List.length_eq_zero_iff.1 h0]
      exact .nil _
    · rw [if_neg h0]
      exact .one (.pool t.pool (tenFirst t) h.pool)
  refine h1.append ((FieldsW.one (.ports t.lo t.hi _ h.lo h.hi)).append ((FieldsW.one (.filt t.filter _ h.filter)).append ((fields_stat t.statics _ h.statics).append ((fields_twic t.twices _ h.twices).append (.cons (.quota _ _ _ ?_ ?_) ?_)))))
  · have := h.sess; omega
  · have := h.queue; omega
  · have e : t = { ({ ({ ({ ({ ({ ({ tenFirst t with pool := t.pool } : Ten) with lo := t.lo, hi := t.hi } : Ten) with filter := t.filter } : Ten) with statics := [] ++ t.statics } : Ten) with twices := [] ++ t.twices } : Ten) with sess := (t.sess.toNat : Int), queue := (t.queue.toNat : Int) } : Ten) with rate := t.rate, burst := t.burst } := by
      rw [Int.toNat_of_nonneg h.sess.1, Int.toNat_of_nonneg h.queue.1]
      rfl
    have k := FieldsW.one (.rate t.rate t.burst ({ ({ ({ ({ ({ ({ tenFirst t with pool := t.pool } : Ten) with lo := t.lo, hi := t.hi } : Ten) with filter := t.filter } : Ten) with statics := [] ++ t.statics } : Ten) with twices := [] ++ t.twices } : Ten) with sess := (t.sess.toNat : Int), queue := (t.queue.toNat : Int) } : Ten) h.rate h.burst)
    rw [← e] at k
    exact k
theorem rest_tens (l : List Ten) : ∀ {Ls : List (List Wd × Nat)} {c : Cfg} (r : List (List Wd × Nat)), (∀ t ∈ l, OkTen t) → Ls.map wordsL = (l.flatMap fun t => tenW t :: restW t) → restP (Ls ++ r) c = restP r { c with tens := c.tens ++ l } := by
  induction l with
  | nil =>
    intro Ls c r _ hL
    have : Ls = [] := List.map_eq_nil_iff.1 hL
    subst this
    rw [List.append_nil]
    rfl
  | cons t l ih =>
    intro Ls c r hok hL
    rw [List.flatMap_cons, List.cons_append] at hL
    cases Ls with
    | nil => cases hL
    | cons X Ls =>
      simp only [List.map_cons, List.cons.injEq] at hL
      obtain ⟨A, B, rfl, hA, hB⟩ := List.map_eq_append_iff.1 hL.2
      have ht := hok t (List.mem_cons_self ..)
      rw [List.cons_append, rest_cons _ (ten_read ht hL.1 c), List.append_assoc, rest_fields (fields_ten ht) (c := { c with tens := c.tens ++ [tenFirst t] }) _ hA rfl, ih r (fun y hy => hok y (List.mem_cons_of_mem _ hy)) hB]
      simp
/-- Lines of settings' words are read as the settings. -/
theorem from_lines {c : Cfg} (h : OkCfg c) {n : Nat} {Ls : List (List Wd × Nat)} (hL : Ls.map wordsL = linesC c) : fromP n Ls = .ok c := by
  unfold linesC at hL
  cases Ls with
  | nil => cases hL
  | cons X Ls =>
    simp only [List.map_cons, List.cons.injEq] at hL
    simp only [fromP, head_read h hL.1]
    have := rest_tens c.tens (c := { c with tens := [] }) [] h.tens hL.2
    rw [List.append_nil] at this
    rw [this]
    simp [restP]
end Go.Proofs.YtbkpbcmjgbdbkaaGreatDoor

/-! P2 -/
namespace Go.Proofs.YtbkpbcmjgbdbkaaGreatDoor
open Go.RowKit Go.Lib
set_option linter.unusedVariables false
set_option linter.unusedSimpArgs false
set_option maxRecDepth 100000

def WfCfg (c : Cfg) : Prop := c.mac.length = 6 ∧ c.out.length = 6 ∧ c.next.length = 6 ∧ c.key.length = 8
theorem cfgRow_size {c : Cfg} (h : WfCfg c) (v : Value) : (cfgRow c v).size = 29 := by
  simp [cfgRow, u8row, h.1, h.2.1, h.2.2.1, h.2.2.2]
theorem cfgRow_get {c : Cfg} (h : WfCfg c) (v : Value) : (cfgRow c v)[28]? = some v := by
  obtain ⟨ip, mac, out, next, key, drain, tens⟩ := c
  obtain ⟨_, _, _, _, _, _, rfl⟩ := list6 mac h.1
  obtain ⟨_, _, _, _, _, _, rfl⟩ := list6 out h.2.1
  obtain ⟨_, _, _, _, _, _, rfl⟩ := list6 next h.2.2.1
  obtain ⟨_, _, _, _, _, _, _, _, rfl⟩ := list8 key h.2.2.2
  kernel_rfl
theorem cfgRow_set {c : Cfg} (h : WfCfg c) (v u : Value) (l : List Ten) : (cfgRow c v).setIfInBounds 28 u = cfgRow { c with tens := l } u := by
  obtain ⟨ip, mac, out, next, key, drain, tens⟩ := c
  obtain ⟨_, _, _, _, _, _, rfl⟩ := list6 mac h.1
  obtain ⟨_, _, _, _, _, _, rfl⟩ := list6 out h.2.1
  obtain ⟨_, _, _, _, _, _, rfl⟩ := list6 next h.2.2.1
  obtain ⟨_, _, _, _, _, _, _, _, rfl⟩ := list8 key h.2.2.2
  kernel_rfl
theorem cfgRow_one {c : Cfg} (v : Value) (hv : v.oneCell' = true) : ∀ u ∈ (cfgRow c v).toList, u.oneCell' = true := by
  intro u hu
  simp only [cfgRow, Array.toList_append, List.mem_append] at hu
  rcases hu with ((((hu | hu) | hu) | hu) | hu) | hu
  · simp at hu; subst hu; rfl
  · exact u8row_one _ u hu
  · exact u8row_one _ u hu
  · exact u8row_one _ u hu
  · exact u8row_one _ u hu
  · simp at hu; rcases hu with rfl | rfl
    · rfl
    · exact hv
theorem line_apart {W : World} {b g cap en n b' g' cap' en' n' : Nat} {L L' : List Wd} (h : LineIs W b g cap L en n) (h' : LineIs W b' g' cap' L' en' n') (h0 : 0 < L'.length) : g' ≠ b := fun e => by
  obtain ⟨h1, _⟩ := h.ex
  obtain ⟨_, _, _, h4⟩ := h'.ex
  have := (h4 0 _ (List.getElem?_eq_getElem h0)).1
  rw [e, show 0 * 2 = 0 by omega, cell_of_block h1 0] at this
  simp at this
/-- The lines from the k-th on. -/
def LnF (lo M r : Nat) (os : List Nat) (Ls : List (List Wd × Nat)) (k : Nat) (W : World) : Prop :=
  ∀ (j b : Nat) (L : List Wd × Nat), k ≤ j → os[j]? = some b → Ls[j]? = some L → ∃ g cp, LineIs W b g cp L.1 L.2 0 ∧ lo ≤ b ∧ b < M ∧ g < M ∧ r ≠ g
theorem LnF.step {W W' : World} {lo M r k b : Nat} {os : List Nat} {Ls : List (List Wd × Nat)} (h : LnF lo M r os Ls k W) (hn : os.Nodup) (hlen : os.length = Ls.length) (hne : ∀ L ∈ Ls, 0 < L.1.length) (hb : os[k]? = some b) (t : Turn (fun x => x = b ∨ M ≤ x) W W') : LnF lo M r os Ls (k + 1) W' := by
  have hkl : k < os.length := (List.getElem?_eq_some_iff.1 hb).1
  have hkL : k < Ls.length := by rw [← hlen]; exact hkl
  obtain ⟨g0, cp0, hl0, lb0, bM0, gM0, rg0⟩ := h k b _ (Nat.le_refl _) hb (List.getElem?_eq_getElem hkL)
  intro j b' L hj hb' hL
  obtain ⟨g, cp, hl, h1, h2, h3, h4⟩ := h j b' L (by omega) hb' hL
  have hbb : b' ≠ b := fun e => by
    subst e
    have := (List.getElem?_inj (i := k) (j := j) hkl hn).1 (hb.trans hb'.symm)
    omega
  refine ⟨g, cp, hl.turn t (by omega) ?_, h1, h2, h3, h4⟩
  have := line_apart hl0 hl (hne L (List.mem_of_getElem? hL))
  omega
theorem LnF.same {W W' : World} {lo M r k : Nat} {os : List Nat} {Ls : List (List Wd × Nat)} (h : LnF lo M r os Ls k W) (t : Turn (fun x => M ≤ x) W W') : LnF lo M r os Ls k W' := fun j b L hj hb hL => by
  obtain ⟨g, cp, hl, h1, h2, h3, h4⟩ := h j b L hj hb hL
  exact ⟨g, cp, hl.turn t (by omega) (by omega), h1, h2, h3, h4⟩
/-- How the world stands at the k-th of the lines Ls, whose blocks are os: c was read. -/
structure CfAt (w : World) (lo M r C h cap : Nat) (os : List Nat) (Ls : List (List Wd × Nat)) (k : Nat) (c : Cfg) (tv : Value) (l : List TenM) (W : World) : Prop where
  env : Env W
  turn : Turn (fun _ => False) w W
  res : W.heap[r]? = some (.cells (cfgZero 0) 29 (0, 0))
  cel : W.heap[C]? = some (.cells (cfgRow c tv) 29 (0, 0))
  tens : TensAt W M tv l
  eqt : l.map (·.1) = c.tens
  wfc : WfCfg c
  bnd : Bnd (tot (Ls.take k)) c
  cnt : l.length ≤ k
  ov : W.ownsRow lo 106 1 (.slice (some ⟨h, 0, none⟩) os.length cap) os.length (ptrCells os)
  lines : LnF lo M r os Ls k W
  nodup : os.Nodup
  len : os.length = Ls.length
  ne : ∀ L ∈ Ls, 0 < L.1.length
  lo7 : 7 ≤ lo
  wlo : w.heap.size ≤ r
  rlo : r < lo
  loM : lo ≤ M
  MC : M ≤ C
  hM : h < M
  Ml : M ≤ W.heap.size
section
variable {w W W' : World} {lo M r C h cap k b : Nat} {os : List Nat} {Ls : List (List Wd × Nat)} {c c' : Cfg} {tv tv' : Value} {l l' : List TenM}
/-- What a line's reading leaves of the rest. -/
theorem CfAt.step (hc : CfAt w lo M r C h cap os Ls k c tv l W) (hb : os[k]? = some b) (t : Turn (fun x => x = b ∨ M ≤ x) W W') (cel : W'.heap[C]? = some (.cells (cfgRow c' tv') 29 (0, 0))) (tens : TensAt W' M tv' l') (eqt : l'.map (·.1) = c'.tens) (wfc : WfCfg c') (bnd : Bnd (tot (Ls.take (k + 1))) c') (cnt : l'.length ≤ k + 1) :
    CfAt w lo M r C h cap os Ls (k + 1) c' tv' l' W' := by
  have hkl : k < os.length := (List.getElem?_eq_some_iff.1 hb).1
  have hkL : k < Ls.length := by rw [← hc.len]; exact hkl
  obtain ⟨g0, cp0, hl0, lb0, bM0, gM0, rg0⟩ := hc.lines k b _ (Nat.le_refl _) hb (List.getElem?_eq_getElem hkL)
  have h7 := hc.lo7
  have hlM := hc.loM
  have hrl := hc.rlo
  have hMl := hc.Ml
  have hwr := hc.wlo
  refine ⟨hc.env.turn t (fun i hi e => by omega), hc.turn.trans2 t (fun i hi e => by omega), (t.block r (block_lt hc.res) (by omega)).trans hc.res, cel, tens, eqt, wfc, bnd, cnt, ownsRow_turn hc.ov t (fun g hg e => ?_), LnF.step hc.lines hc.nodup hc.len hc.ne hb t, hc.nodup, hc.len, hc.ne, hc.lo7, hc.wlo, hc.rlo, hc.loM, hc.MC, hc.hM, Nat.le_trans hc.Ml t.size⟩
  rcases e with e | e
  · subst e
    obtain ⟨_, _, _, hne⟩ := own_form hc.ov hl0.ex.1 (by decide)
    exact hne hg
  · have := hc.hM
    have : h = g := own_slice hg
    omega
end
end Go.Proofs.YtbkpbcmjgbdbkaaGreatDoor
