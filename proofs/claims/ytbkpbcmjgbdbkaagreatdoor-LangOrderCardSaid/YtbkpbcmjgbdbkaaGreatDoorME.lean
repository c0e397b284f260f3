/- lang.lines: the scan over a text's bytes; the relation of the loop. No condition. lang.lines: how the world stands in the midst of its loop. No condition. lang.lines: the walk. Condition: Env. A pair of addresses. Condition: Env. The first line. Condition: Env. -/
import Derived.Test.YtbkpbcmjgbdbkaaGreatDoorMD
import Derived.Test.YtbkpbcmjgbdbkaaGreatDoorMB
import Derived.Laws.EntriesVeiled
/-! J2 -/
namespace Go.Proofs.YtbkpbcmjgbdbkaaGreatDoor
open Go.RowKit Go.Lib
set_option linter.unusedVariables false
set_option linter.unusedSimpArgs false

/-- What was scanned: the lines told, the line's words, where a word began, whether the line's rest says nothing. -/
structure Sc where
  outs : List (List Wd × Nat)
  ws : List Wd
  bg : Option Nat
  rest : Bool
def scEnd (s : ByteArray) (σ : Sc) (i : Nat) : Sc :=
  ⟨if 0 < (wordEnd s σ.ws σ.bg i).length then σ.outs ++ [(wordEnd s σ.ws σ.bg i, i)] else σ.outs, [], none, false⟩
def scWord (s : ByteArray) (σ : Sc) (i : Nat) (r : Bool) : Sc := ⟨σ.outs, wordEnd s σ.ws σ.bg i, none, r⟩
def scStep (s : ByteArray) (σ : Sc) (i c : Nat) : Sc :=
  if c = 10 then scEnd s σ i
  else if σ.rest = true then σ
  else if c = 35 then scWord s σ i true
  else if c = 32 then scWord s σ i false
  else match σ.bg with
    | none => ⟨σ.outs, σ.ws, some i, σ.rest⟩
    | some _ => σ
def scan (s : ByteArray) : Nat → Sc
  | 0 => ⟨[], [], none, false⟩
  | k + 1 => scStep s (scan s k) k (s.data.toList.getD k 0).toNat
def linesOf (s : ByteArray) : List (List Wd × Nat) := (scEnd s (scan s s.size) s.size).outs

structure ScOk (s : ByteArray) (k : Nat) (σ : Sc) : Prop where
  bg : ∀ n, σ.bg = some n → n < k
  ws : (if σ.bg = none then σ.ws.length else σ.ws.length + 1) ≤ k
  outs : σ.outs.length ≤ k
  lines : ∀ L ∈ σ.outs, 0 < L.1.length ∧ L.1.length ≤ k ∧ ∀ x ∈ L.1, x.1.size ≤ s.size
  sizes : ∀ x ∈ σ.ws, x.1.size ≤ s.size
theorem extract_size_le (s : ByteArray) (a b : Nat) : (s.extract a b).size ≤ s.size := by
  rw [ByteArray.size_extract]; omega
theorem ScOk.word {s : ByteArray} {k : Nat} {σ : Sc} (h : ScOk s k σ) (i : Nat) : (wordEnd s σ.ws σ.bg i).length ≤ k ∧ ∀ x ∈ wordEnd s σ.ws σ.bg i, x.1.size ≤ s.size := by
  have h1 := h.ws
  cases hb : σ.bg with
  | none =>
    rw [hb, if_pos rfl] at h1
    exact ⟨h1, h.sizes⟩
  | some n =>
    rw [hb, if_neg (by simp)] at h1
    refine ⟨by simpa [wordEnd] using h1, fun x hx => ?_⟩
    simp only [wordEnd, List.mem_append, List.mem_singleton] at hx
    rcases hx with hx | rfl
    · exact h.sizes x hx
    · exact extract_size_le _ _ _
theorem ScOk.mono {s : ByteArray} {k m : Nat} {σ : Sc} (h : ScOk s k σ) (hm : k ≤ m) : ScOk s m σ :=
  ⟨fun n hn => Nat.lt_of_lt_of_le (h.bg n hn) hm, Nat.le_trans h.ws hm, Nat.le_trans h.outs hm, fun L hL => ⟨(h.lines L hL).1, Nat.le_trans (h.lines L hL).2.1 hm, (h.lines L hL).2.2⟩, h.sizes⟩
theorem scEnd_ok {s : ByteArray} {k : Nat} {σ : Sc} (h : ScOk s k σ) (i : Nat) : ScOk s (k + 1) (scEnd s σ i) := by
  have hw := h.word i
  have ho := h.outs
  refine ⟨fun n hn => by simp [scEnd] at hn, by simp [scEnd], ?_, fun L hL => ?_, fun x hx => by simp [scEnd] at hx⟩
  · simp only [scEnd]
    split
    · simp; omega
    · omega
  · simp only [scEnd] at hL
    split at hL
    · rename_i h0
      rcases List.mem_append.1 hL with hL | hL
      · have := h.lines L hL; exact ⟨this.1, by omega, this.2.2⟩
      · rw [List.mem_singleton.1 hL]; exact ⟨h0, by dsimp only; omega, hw.2⟩
    · have := h.lines L hL; exact ⟨this.1, by omega, this.2.2⟩
theorem scWord_ok {s : ByteArray} {k : Nat} {σ : Sc} (h : ScOk s k σ) (i : Nat) (r : Bool) : ScOk s k (scWord s σ i r) := by
  have hw := h.word i
  exact ⟨fun n hn => by simp [scWord] at hn, by simpa [scWord] using hw.1, h.outs, h.lines, hw.2⟩
theorem scStep_ok {s : ByteArray} {k : Nat} {σ : Sc} (h : ScOk s k σ) (c : Nat) : ScOk s (k + 1) (scStep s σ k c) := by
  unfold scStep
  split
  · exact scEnd_ok h k
  · split
    · exact h.mono (by omega)
    · split
      · exact (scWord_ok h k true).mono (by omega)
      · split
        · exact (scWord_ok h k false).mono (by omega)
        · split
          · rename_i hb
            have h1 := h.ws
            rw [hb, if_pos rfl] at h1
            refine ⟨fun n hn => ?_, ?_, Nat.le_trans h.outs (by omega), fun L hL => ?_, h.sizes⟩
            · simp only [Option.some.injEq] at hn; omega
            · simp; omega
            · have := h.lines L hL; exact ⟨this.1, by omega, this.2.2⟩
          · exact h.mono (by omega)
theorem scan_ok (s : ByteArray) : ∀ k, ScOk s k (scan s k)
  | 0 => ⟨fun n hn => by simp [scan] at hn, by simp [scan], by simp [scan], fun L hL => by simp [scan] at hL, fun x hx => by simp [scan] at hx⟩
  | k + 1 => scStep_ok (scan_ok s k) _
theorem lines_ok (s : ByteArray) : ScOk s (s.size + 1) (scEnd s (scan s s.size) s.size) := scEnd_ok (scan_ok s s.size) _

/-- A byte from 128 on: only a word begins. -/
theorem scStep_high {s : ByteArray} {σ : Sc} {i c : Nat} (hc : 128 ≤ c) : scStep s σ i c = if σ.rest = true then σ else match σ.bg with
    | none => ⟨σ.outs, σ.ws, some i, σ.rest⟩
    | some _ => σ := by
  unfold scStep
  rw [if_neg (by omega : ¬ c = 10), if_neg (by omega : ¬ c = 35), if_neg (by omega : ¬ c = 32)]
def scIn (σ : Sc) : Prop := σ.rest = true ∨ σ.bg ≠ none
theorem scStep_in {s : ByteArray} {σ : Sc} {i c : Nat} (hc : 128 ≤ c) : scIn (scStep s σ i c) := by
  rw [scStep_high hc]
  unfold scIn
  split
  · left; assumption
  · split
    · right; simp
    · rename_i h; right; rw [h]; simp
theorem scStep_stay {s : ByteArray} {σ : Sc} {i c : Nat} (hc : 128 ≤ c) (h : scIn σ) : scStep s σ i c = σ := by
  rw [scStep_high hc]
  split
  · rfl
  · rename_i h1
    rcases h with h | h
    · exact absurd h h1
    · split
      · rename_i h2; exact absurd h2 h
      · rfl
theorem decode_width (s : ByteArray) (k : Nat) (h : k < s.size) : ∀ j, k < j → j < k + (Utf8.decode s k).2 → j < s.size ∧ 128 ≤ (s.data.toList.getD j 0).toNat := by
  have hg : ∀ j, s.data.toList.getD j 0 = s.get! j := fun j => by
    simp only [List.getD_eq_getElem?_getD, ByteArray.get!]
    cases hj : s.data[j]? <;> simp_all [Array.getElem!_eq_getD, Array.getD_eq_getD_getElem?] <;> rfl
  intro j h1 h2
  rw [hg]
  have key : ∀ n, (k + n < s.size && (s.get! (k + n)).toNat / 64 == 2) = true → k + n < s.size ∧ 128 ≤ (s.get! (k + n)).toNat := fun n hn => by
    simp only [Bool.and_eq_true, decide_eq_true_eq, beq_iff_eq] at hn
    omega
  obtain ⟨n, rfl⟩ : ∃ n, j = k + n := ⟨j - k, by omega⟩
  unfold Utf8.decode at h2
  simp only at h2
  split at h2
  · simp at h2; omega
  · split at h2
    · rename_i h3
      simp only [Bool.and_eq_true] at h3
      split at h2
      · simp at h2
        have : n = 1 := by omega
        subst this
        exact key 1 (by simpa [Bool.and_eq_true] using h3.2)
      · simp at h2; omega
    · split at h2
      · rename_i h3
        simp only [Bool.and_eq_true] at h3
        split at h2
        · simp at h2
          rcases (by omega : n = 1 ∨ n = 2) with rfl | rfl
          · exact key 1 (by simpa [Bool.and_eq_true] using h3.1.2)
          · exact key 2 (by simpa [Bool.and_eq_true] using h3.2)
        · simp at h2; omega
      · split at h2
        · rename_i h3
          simp only [Bool.and_eq_true] at h3
          split at h2
          · simp at h2
            rcases (by omega : n = 1 ∨ n = 2 ∨ n = 3) with rfl | rfl | rfl
            · exact key 1 (by simpa [Bool.and_eq_true] using h3.1.1.2)
            · exact key 2 (by simpa [Bool.and_eq_true] using h3.1.2)
            · exact key 3 (by simpa [Bool.and_eq_true] using h3.2)
          · simp at h2; omega
        · simp at h2; omega
/-- A rune of many bytes: as its first one. -/
theorem scan_skip {s : ByteArray} {k y : Nat} (h0 : 128 ≤ (s.data.toList.getD k 0).toNat) (h : ∀ j, k < j → j < k + y → 128 ≤ (s.data.toList.getD j 0).toNat) (hy : 1 ≤ y) : scan s (k + y) = scan s (k + 1) := by
  obtain ⟨m, rfl⟩ : ∃ m, y = m + 1 := ⟨y - 1, by omega⟩
  clear hy
  induction m with
  | zero => rfl
  | succ m ih =>
    have := ih (fun j h1 h2 => h j h1 (by omega))
    rw [show k + (m + 1 + 1) = (k + (m + 1)) + 1 by omega]
    show scStep s (scan s (k + (m + 1))) _ _ = _
    rw [this]
    exact scStep_stay (h _ (by omega) (by omega)) (scStep_in h0)
end Go.Proofs.YtbkpbcmjgbdbkaaGreatDoor

/-! J3 -/
namespace Go.Proofs.YtbkpbcmjgbdbkaaGreatDoor
open Go.RowKit Go.Lib
set_option linter.unusedVariables false
set_option linter.unusedSimpArgs false

/-- Lines told: each stands in its own blocks, away from those of T. -/
def DoneAt (lo : Nat) (T : Nat → Prop) (os : List Nat) (outs : List (List Wd × Nat)) (W : World) : Prop :=
  os.length = outs.length ∧ os.Nodup ∧ ∀ (j b : Nat) (L : List Wd × Nat), os[j]? = some b → outs[j]? = some L → ∃ g cap, LineIs W b g cap L.1 L.2 0 ∧ lo ≤ b ∧ lo ≤ g ∧ ¬ T b ∧ ¬ T g
theorem DoneAt.keep {lo : Nat} {T T' F : Nat → Prop} {os : List Nat} {outs : List (List Wd × Nat)} {W W' : World} (h : DoneAt lo T os outs W) (t : Turn F W W') (hF : ∀ k, k < W.heap.size → F k → T k) (hT : ∀ k, k < W.heap.size → T' k → T k) : DoneAt lo T' os outs W' := by
  refine ⟨h.1, h.2.1, fun j b L hb hL => ?_⟩
  obtain ⟨g, cap, h1, h2, h3, h4, h5⟩ := h.2.2 j b L hb hL
  exact ⟨g, cap, h1.turn t (fun e => h4 (hF b h1.lt e)) (fun e => h5 (hF g h1.glt e)), h2, h3, fun e => h4 (hT b h1.lt e), fun e => h5 (hT g h1.glt e)⟩
theorem DoneAt.lt {lo : Nat} {T : Nat → Prop} {os : List Nat} {outs : List (List Wd × Nat)} {W : World} (h : DoneAt lo T os outs W) {b : Nat} (hb : b ∈ os) : lo ≤ b ∧ b < W.heap.size := by
  obtain ⟨j, hj, rfl⟩ := List.mem_iff_getElem.1 hb
  have hl : j < outs.length := by rw [← h.1]; exact hj
  obtain ⟨g, cap, h1, h2, h3, h4, h5⟩ := h.2.2 j _ _ (List.getElem?_eq_getElem hj) (List.getElem?_eq_getElem hl)
  exact ⟨h2, h1.lt⟩
theorem DoneAt.snoc {lo : Nat} {T : Nat → Prop} {os : List Nat} {outs : List (List Wd × Nat)} {W : World} (h : DoneAt lo T os outs W) {X g cap en : Nat} {ws : List Wd} (hX : LineIs W X g cap ws en 0) (h1 : lo ≤ X) (h2 : lo ≤ g) (h3 : ¬ T X) (h4 : ¬ T g) (hn : X ∉ os) :
    DoneAt lo T (os ++ [X]) (outs ++ [(ws, en)]) W := by
  refine ⟨by simp [h.1], ?_, fun j b L hb hL => ?_⟩
  · rw [List.nodup_append]
    refine ⟨h.2.1, by simp, fun a ha b hb e => ?_⟩
    rw [List.mem_singleton] at hb
    subst hb
    subst e
    exact hn ha
  · by_cases hj : j < os.length
    · rw [List.getElem?_append_left hj] at hb
      rw [List.getElem?_append_left (by rw [← h.1]; exact hj)] at hL
      exact h.2.2 j b L hb hL
    · rw [List.getElem?_append_right (by omega)] at hb
      rw [List.getElem?_append_right (by rw [← h.1]; omega)] at hL
      rw [← h.1] at hL
      have h0 : j - os.length = 0 := by
        rcases Nat.eq_zero_or_pos (j - os.length) with e | e
        · exact e
        · rw [List.getElem?_eq_none (by simp; omega)] at hb; cases hb
      rw [h0] at hb hL
      simp at hb hL
      subst hb
      subst hL
      exact ⟨g, cap, hX, h1, h2, h3, h4⟩
theorem wdCells_get (ws : List Wd) (i : Nat) (x : Wd) (h : ws[i]? = some x) : (wdCells ws)[i * 2]? = some (.string x.1) ∧ (wdCells ws)[i * 2 + 1]? = some (.int .i64 (x.2 : Int)) := by
  induction ws generalizing i with
  | nil => simp at h
  | cons y ws ih =>
    have hc : wdCells (y :: ws) = .string y.1 :: .int .i64 (y.2 : Int) :: wdCells ws := rfl
    cases i with
    | zero => simp at h; subst h; exact ⟨rfl, rfl⟩
    | succ i =>
      have := ih i (by simpa using h)
      rw [hc, show (i + 1) * 2 = i * 2 + 1 + 1 by omega]
      simpa using this
theorem line_of_own {W : World} {B X en : Nat} {v : Value} {ws : List Wd} (hX : W.heap[X]? = some (.cells #[v, .int .i64 (en : Int), .int .i64 0] 145 (0, 0))) (own : W.ownsRow B 108 2 v ws.length (wdCells ws)) (h0 : 0 < ws.length)
    (hl : ws.length ≤ 1000000) (hs : ∀ x ∈ ws, x.1.size ≤ 1000000) (h7 : 7 ≤ X) : ∃ g cap, v = .slice (some ⟨g, 0, none⟩) ws.length cap ∧ B ≤ g ∧ LineIs W X g cap ws en 0 := by
  obtain ⟨g, cap, rfl, hB, hlt⟩ := own.form h0
  obtain ⟨_, _, _, hne⟩ := own_form own hX (by decide)
  refine ⟨g, cap, rfl, hB, ⟨⟨hX, fun e => hne (by rw [e]; rfl), hlt, fun i x hi => ?_⟩, hl, Nat.zero_le _, fun i x hi => hs x (List.mem_of_getElem? hi), h7⟩⟩
  have hi' := (List.getElem?_eq_some_iff.1 hi).1
  have := wdCells_get ws i x hi
  exact ⟨by rw [own.cellAt _ (by omega)]; exact this.1, by rw [own.cellAt _ (by omega)]; exact this.2⟩
/-- The blocks that the loop turns. -/
def LnT (it bb bx bo br X : Nat) (v ov : Value) (k : Nat) : Prop := k = it ∨ k = bb ∨ k = X ∨ k = bo ∨ k = bx ∨ k = br ∨ v.ownBlock = some k ∨ ov.ownBlock = some k
/-- How the world stands in the midst of the loop: σ was scanned; the iterator stands at p. -/
structure LnAt (s : ByteArray) (w : World) (it bt bo bx bb br bw : Nat) (σ : Sc) (p : Nat) (W : World) (X : Nat) (v ov : Value) (os : List Nat) : Prop where
  iter : W.heap[it]? = some (.stringIter s p)
  text : W.heap[bt]? = some (.cells #[.string s] 9 (0, 0))
  out : W.heap[bo]? = some (.cells #[ov] 103 (0, 0))
  cur : W.heap[bx]? = some (.cells #[.pointer (some ⟨X, 0, none⟩)] 106 (0, 0))
  beg : W.heap[bb]? = some (.cells #[.int .i64 (begV σ.bg)] 3 (0, 0))
  rest : W.heap[br]? = some (.cells #[.bool σ.rest] 4 (0, 0))
  fn : W.heap[bw]? = some (.cells #[.func (.func 73) #[] #[.pointer (some ⟨bb, 0, none⟩), .pointer (some ⟨bx, 0, none⟩), .pointer (some ⟨bt, 0, none⟩)]] 80 (0, 0))
  line : W.heap[X]? = some (.cells #[v, .int .i64 0, .int .i64 0] 145 (0, 0))
  own : W.ownsRow it 108 2 v σ.ws.length (wdCells σ.ws)
  outs : W.ownsRow it 106 1 ov os.length (ptrCells os)
  turn : Turn (fun _ => False) w W
  big : it ≤ W.heap.size
  newX : w.heap.size ≤ X
  done : DoneAt w.heap.size (LnT it bb bx bo br X v ov) os σ.outs W
structure LnCls (w : World) (it bt bo bx bb br bw : Nat) : Prop where
  seven : 7 ≤ w.heap.size
  hit : w.heap.size ≤ it
  hbo : w.heap.size ≤ bo
  hbx : w.heap.size ≤ bx
  hbb : w.heap.size ≤ bb
  hbr : w.heap.size ≤ br
  low : bx < it
  off : it ≠ bt ∧ it ≠ bo ∧ it ≠ bx ∧ it ≠ bb ∧ it ≠ br ∧ it ≠ bw
theorem cells_ne {W : World} {a b : Nat} {o o' : Obj} (h1 : W.heap[a]? = some o) (h2 : W.heap[b]? = some o') (hne : o ≠ o') : a ≠ b := fun e => by
  rw [e, h2] at h1; exact hne (Option.some.inj h1).symm
theorem LnAt.word {s : ByteArray} {w W W' : World} {it bt bo bx bb br bw p i X : Nat} {σ : Sc} {v ov : Value} {os : List Nat} {e : Ending} (c : LnCls w it bt bo bx bb br bw) (h : LnAt s w it bt bo bx bb br bw σ p W X v ov os)
    (hw : WordPost1 s σ.ws σ.bg i it 0 bb X v W e W') : e = .returned (.tuple #[]) ∧ ∃ v', LnAt s w it bt bo bx bb br bw (scWord s σ i σ.rest) p W' X v' ov os := by
  obtain ⟨he, v', q1, q2, q3, t, q5⟩ := hw
  refine ⟨he, v', ?_⟩
  have nb : ∀ {k : Nat} {cs : Array Value} {T : TypeId}, W.heap[k]? = some (.cells cs T (0, 0)) → T ≠ 108 → T ≠ 145 → k ≠ bb → W'.heap[k]? = some (.cells cs T (0, 0)) := fun {k cs T} hk h1 h2 h3 =>
    (t.block k (block_lt hk) (by
      rintro (h' | h' | h')
      · exact h3 h'
      · exact cells_ne hk h.line (by simp; intro _ e; exact absurd e h2) h'
      · obtain ⟨_, _, _, hne⟩ := own_form h.own hk h1; exact hne h')).trans hk
  have hboo : bo ≠ bb := cells_ne h.out h.beg (by simp)
  have hbx : bx ≠ bb := cells_ne h.cur h.beg (by simp)
  have hbt : bt ≠ bb := cells_ne h.text h.beg (by simp)
  have hbr : br ≠ bb := cells_ne h.rest h.beg (by simp)
  have hbw : bw ≠ bb := cells_ne h.fn h.beg (by simp)
  have hitX : it ≠ X := cells_ne h.iter h.line (by simp)
  have hitv : v.ownBlock ≠ some it := fun e => by obtain ⟨cs, hc⟩ := own_cells h.own e; rw [h.iter] at hc; cases hc
  exact {
    iter := (t.block it (block_lt h.iter) (by rintro (h' | h' | h'); exact c.off.2.2.2.1 h'; exact hitX h'; exact hitv h')).trans h.iter
    text := nb h.text (by decide) (by decide) hbt
    out := nb h.out (by decide) (by decide) hboo
    cur := nb h.cur (by decide) (by decide) hbx
    beg := q3
    rest := nb h.rest (by decide) (by decide) hbr
    fn := nb h.fn (by decide) (by decide) hbw
    line := q1
    own := q2
    outs := ownsRow_turn h.outs t (fun g hg => by
      rintro (h' | h' | h')
      · have h2 := hg
        rw [h'] at h2
        obtain ⟨_, _, _, hne⟩ := own_form h.outs h.beg (by decide)
        exact hne h2
      · have h2 := hg
        rw [h'] at h2
        obtain ⟨_, _, _, hne⟩ := own_form h.outs h.line (by decide)
        exact hne h2
      · exact own_apart h.own h.outs (by decide) h' hg)
    turn := h.turn.trans2 t (fun k hk h' => by
      rcases h' with h' | h' | h'
      · have := c.hbb; omega
      · have := h.newX; omega
      · have := own1_low h.own h'; have := c.hit; omega)
    big := Nat.le_trans h.big t.size
    newX := h.newX
    done := h.done.keep t (fun k hk h' => by rcases h' with h' | h' | h' <;> simp [LnT, h']) (fun k hk h' => by
      unfold LnT at h' ⊢
      rcases h' with h' | h' | h' | h' | h' | h' | h' | h'
      all_goals try simp [h']
      rcases q5 k h' with h'' | h''
      · simp [h'']
      · omega) }
theorem LnAt.ended {s : ByteArray} {w W W' : World} {it bt bo bx bb br bw p i X X' : Nat} {σ : Sc} {v ov v' ov' : Value} {os : List Nat} (c : LnCls w it bt bo bx bb br bw) (h : LnAt s w it bt bo bx bb br bw σ p W X v ov os)
    (hw : Ended s (wordEnd s σ.ws σ.bg i) os i it bb bx bo br X v ov W W' v' ov' X') (hl : (wordEnd s σ.ws σ.bg i).length ≤ 1000000) (hs : ∀ x ∈ wordEnd s σ.ws σ.bg i, x.1.size ≤ 1000000) :
    LnAt s w it bt bo bx bb br bw (scEnd s σ i) p W' X' (.slice none 0 0) ov' (outEnd os (wordEnd s σ.ws σ.bg i) X) := by
  have t := hw.turn
  have nb : ∀ {k : Nat} {cs : Array Value} {T : TypeId}, W.heap[k]? = some (.cells cs T (0, 0)) → T ≠ 108 → T ≠ 145 → T ≠ 106 → k ≠ bb → k ≠ bo → k ≠ bx → k ≠ br → W'.heap[k]? = some (.cells cs T (0, 0)) := fun {k cs T} hk h1 h2 h0 h3 h4 h5 h6 =>
    (t.block k (block_lt hk) (by
      rintro (h' | h' | h' | h' | h' | h' | h')
      · exact h3 h'
      · exact cells_ne hk h.line (by simp; intro _ e; exact absurd e h2) h'
      · exact h4 h'
      · exact h5 h'
      · exact h6 h'
      · obtain ⟨_, _, _, hne⟩ := own_form h.own hk h1; exact hne h'
      · obtain ⟨_, _, _, hne⟩ := own_form h.outs hk h0; exact hne h')).trans hk
  have hitX : it ≠ X := cells_ne h.iter h.line (by simp)
  have hitv : v.ownBlock ≠ some it := fun e => by obtain ⟨cs, hc⟩ := own_cells h.own e; rw [h.iter] at hc; cases hc
  have hito : ov.ownBlock ≠ some it := fun e => by obtain ⟨cs, hc⟩ := own_cells h.outs e; rw [h.iter] at hc; cases hc
  have hXl := block_lt h.line
  have hnew := hw.new
  have hX : 7 ≤ X := Nat.le_trans c.seven h.newX
  have t2 : Turn (LnT it bb bx bo br X v ov) W W' := t.mono (fun k _ h' => by unfold LnT; rcases h' with h' | h' | h' | h' | h' | h' | h' <;> simp [h'])
  have hTT : ∀ k, k < W.heap.size → LnT it bb bx bo br X' (.slice none 0 0) ov' k → LnT it bb bx bo br X v ov k := fun k hk h' => by
    unfold LnT at h' ⊢
    rcases h' with h' | h' | h' | h' | h' | h' | h' | h'
    all_goals try simp [h']
    · omega
    · simp [Value.ownBlock] at h'
    · rcases hw.oown k h' with h'' | h''
      · simp [h'']
      · omega
  have hdone := h.done.keep t2 (fun k _ h => h) hTT
  exact {
    iter := (t.block it (block_lt h.iter) (by
      rintro (h' | h' | h' | h' | h' | h' | h')
      · exact c.off.2.2.2.1 h'
      · exact hitX h'
      · exact c.off.2.1 h'
      · exact c.off.2.2.1 h'
      · exact c.off.2.2.2.2.1 h'
      · exact hitv h'
      · exact hito h')).trans h.iter
    text := nb h.text (by decide) (by decide) (by decide) (cells_ne h.text h.beg (by simp)) (cells_ne h.text h.out (by simp)) (cells_ne h.text h.cur (by simp)) (cells_ne h.text h.rest (by simp))
    out := hw.out
    cur := hw.cur
    beg := hw.beg
    rest := hw.rest
    fn := nb h.fn (by decide) (by decide) (by decide) (cells_ne h.fn h.beg (by simp)) (cells_ne h.fn h.out (by simp)) (cells_ne h.fn h.cur (by simp)) (cells_ne h.fn h.rest (by simp))
    line := hw.zero
    own := World.ownsRow_nil _ _ _ _
    outs := hw.outs
    turn := h.turn.trans2 t (fun k hk h' => by
      rcases h' with h' | h' | h' | h' | h' | h' | h'
      · have := c.hbb; omega
      · have := h.newX; omega
      · have := c.hbo; omega
      · have := c.hbx; omega
      · have := c.hbr; omega
      · have := own1_low h.own h'; have := c.hit; omega
      · have := own1_low h.outs h'; have := c.hit; omega)
    big := Nat.le_trans h.big t.size
    newX := by have := h.turn.size; omega
    done := by
      unfold outEnd
      show DoneAt _ _ _ (if 0 < (wordEnd s σ.ws σ.bg i).length then σ.outs ++ [(wordEnd s σ.ws σ.bg i, i)] else σ.outs) _
      by_cases h0 : 0 < (wordEnd s σ.ws σ.bg i).length
      · rw [if_pos h0, if_pos h0]
        obtain ⟨g, cap, hv', hg, hLI⟩ := line_of_own hw.line hw.own h0 hl hs hX
        have hgo : v'.ownBlock = some g := by rw [hv']; rfl
        obtain ⟨gcs, hgc⟩ := own_cells hw.own hgo
        refine hdone.snoc hLI h.newX (by have := c.hit; omega) ?_ ?_ ?_
        · unfold LnT
          rintro (h' | h' | h' | h' | h' | h' | h' | h')
          · exact hitX h'.symm
          · exact cells_ne hw.line hw.beg (by simp) h'
          · omega
          · exact cells_ne hw.line hw.out (by simp) h'
          · exact cells_ne hw.line hw.cur (by simp) h'
          · exact cells_ne hw.line hw.rest (by simp) h'
          · simp [Value.ownBlock] at h'
          · obtain ⟨_, _, _, hne⟩ := own_form hw.outs hw.line (by decide); exact hne h'
        · unfold LnT
          rintro (h' | h' | h' | h' | h' | h' | h' | h')
          · rw [h'] at hgo
            rcases hw.vown it hgo with h'' | h''
            · exact hitv h''
            · have := block_lt h.iter; omega
          · exact cells_ne hgc hw.beg (by simp) h'
          · have h1 := hw.zero
            rw [← h', hgc] at h1
            cases h1
          · exact cells_ne hgc hw.out (by simp) h'
          · exact cells_ne hgc hw.cur (by simp) h'
          · exact cells_ne hgc hw.rest (by simp) h'
          · simp [Value.ownBlock] at h'
          · exact own_apart hw.own hw.outs (by decide) hgo h'
        · intro hm
          obtain ⟨j, hj, he⟩ := List.mem_iff_getElem.1 hm
          have hl : j < σ.outs.length := by rw [← h.done.1]; exact hj
          obtain ⟨g, cap, _, _, _, h4, _⟩ := h.done.2.2 j X _ (by rw [List.getElem?_eq_getElem hj, he]) (List.getElem?_eq_getElem hl)
          exact h4 (by simp [LnT])
      · rw [if_neg h0, if_neg h0]
        exact hdone }
theorem LnAt.setRest {s : ByteArray} {w W : World} {it bt bo bx bb br bw p X : Nat} {σ : Sc} {v ov : Value} {os : List Nat} (c : LnCls w it bt bo bx bb br bw) (h : LnAt s w it bt bo bx bb br bw σ p W X v ov os) (r : Bool) :
    LnAt s w it bt bo bx bb br bw ⟨σ.outs, σ.ws, σ.bg, r⟩ p (W.setCell ⟨br, 0, none⟩ (.bool r)) X v ov os := by
  have t : Turn (fun k => k = br) W (W.setCell ⟨br, 0, none⟩ (.bool r)) := (Turn.refl (fun k => k = br) W).setCell (p := ⟨br, 0, none⟩) _ (fun _ => rfl)
  have nb : ∀ {k : Nat} {o : Obj}, W.heap[k]? = some o → k ≠ br → (W.setCell ⟨br, 0, none⟩ (.bool r)).heap[k]? = some o := fun hk hne => (t.block _ (block_lt hk) hne).trans hk
  exact {
    iter := nb h.iter c.off.2.2.2.2.1
    text := nb h.text (cells_ne h.text h.rest (by simp))
    out := nb h.out (cells_ne h.out h.rest (by simp))
    cur := nb h.cur (cells_ne h.cur h.rest (by simp))
    beg := nb h.beg (cells_ne h.beg h.rest (by simp))
    rest := block_setCell h.rest 0 _
    fn := nb h.fn (cells_ne h.fn h.rest (by simp))
    line := nb h.line (cells_ne h.line h.rest (by simp))
    own := ownsRow_turn h.own t (fun g hg e => by rw [e] at hg; obtain ⟨_, _, _, hne⟩ := own_form h.own h.rest (by decide); exact hne hg)
    outs := ownsRow_turn h.outs t (fun g hg e => by rw [e] at hg; obtain ⟨_, _, _, hne⟩ := own_form h.outs h.rest (by decide); exact hne hg)
    turn := h.turn.trans2 t (fun k hk e => by have := c.hbr; omega)
    big := Nat.le_trans h.big t.size
    newX := h.newX
    done := h.done.keep t (fun k _ e => by simp [LnT, e]) (fun k _ h => h) }
theorem LnAt.setBeg {s : ByteArray} {w W : World} {it bt bo bx bb br bw p X i : Nat} {σ : Sc} {v ov : Value} {os : List Nat} (c : LnCls w it bt bo bx bb br bw) (h : LnAt s w it bt bo bx bb br bw σ p W X v ov os) :
    LnAt s w it bt bo bx bb br bw ⟨σ.outs, σ.ws, some i, σ.rest⟩ p (W.setCell ⟨bb, 0, none⟩ (.int .i64 (i : Int))) X v ov os := by
  have t : Turn (fun k => k = bb) W (W.setCell ⟨bb, 0, none⟩ (.int .i64 (i : Int))) := (Turn.refl (fun k => k = bb) W).setCell (p := ⟨bb, 0, none⟩) _ (fun _ => rfl)
  have nb : ∀ {k : Nat} {o : Obj}, W.heap[k]? = some o → k ≠ bb → (W.setCell ⟨bb, 0, none⟩ (.int .i64 (i : Int))).heap[k]? = some o := fun hk hne => (t.block _ (block_lt hk) hne).trans hk
  exact {
    iter := nb h.iter c.off.2.2.2.1
    text := nb h.text (cells_ne h.text h.beg (by simp))
    out := nb h.out (cells_ne h.out h.beg (by simp))
    cur := nb h.cur (cells_ne h.cur h.beg (by simp))
    beg := block_setCell h.beg 0 _
    rest := nb h.rest (cells_ne h.rest h.beg (by simp))
    fn := nb h.fn (cells_ne h.fn h.beg (by simp))
    line := nb h.line (cells_ne h.line h.beg (by simp))
    own := ownsRow_turn h.own t (fun g hg e => by rw [e] at hg; obtain ⟨_, _, _, hne⟩ := own_form h.own h.beg (by decide); exact hne hg)
    outs := ownsRow_turn h.outs t (fun g hg e => by rw [e] at hg; obtain ⟨_, _, _, hne⟩ := own_form h.outs h.beg (by decide); exact hne hg)
    turn := h.turn.trans2 t (fun k hk e => by have := c.hbb; omega)
    big := Nat.le_trans h.big t.size
    newX := h.newX
    done := h.done.keep t (fun k _ e => by simp [LnT, e]) (fun k _ h => h) }
theorem LnAt.next {s : ByteArray} {w W : World} {it bt bo bx bb br bw p q X : Nat} {σ : Sc} {v ov : Value} {os : List Nat} (c : LnCls w it bt bo bx bb br bw) (h : LnAt s w it bt bo bx bb br bw σ p W X v ov os) :
    LnAt s w it bt bo bx bb br bw σ q (itSet W it s q) X v ov os := by
  have t : Turn (fun k => k = it) W (itSet W it s q) := (Turn.refl (fun k => k = it) W).itSet (fun _ => rfl) s q
  have nb : ∀ {k : Nat} {o : Obj}, W.heap[k]? = some o → it ≠ k → (itSet W it s q).heap[k]? = some o := fun hk hne => (t.block _ (block_lt hk) (fun e => hne e.symm)).trans hk
  exact {
    iter := itSet_same (block_lt h.iter)
    text := nb h.text c.off.1
    out := nb h.out c.off.2.1
    cur := nb h.cur c.off.2.2.1
    beg := nb h.beg c.off.2.2.2.1
    rest := nb h.rest c.off.2.2.2.2.1
    fn := nb h.fn c.off.2.2.2.2.2
    line := nb h.line (cells_ne h.iter h.line (by simp))
    own := ownsRow_turn h.own t (fun g hg e => by rw [e] at hg; obtain ⟨cs, hc⟩ := own_cells h.own hg; rw [h.iter] at hc; cases hc)
    outs := ownsRow_turn h.outs t (fun g hg e => by rw [e] at hg; obtain ⟨cs, hc⟩ := own_cells h.outs hg; rw [h.iter] at hc; cases hc)
    turn := h.turn.trans2 t (fun k hk e => by have := c.hit; omega)
    big := Nat.le_trans h.big t.size
    newX := h.newX
    done := h.done.keep t (fun k _ e => by simp [LnT, e]) (fun k _ h => h) }
end Go.Proofs.YtbkpbcmjgbdbkaaGreatDoor

/-! J4 -/
namespace Go.Proofs.YtbkpbcmjgbdbkaaGreatDoor
open Go.RowKit Go.Lib
set_option linter.unusedVariables false
set_option linter.unusedSimpArgs false
set_option maxRecDepth 100000
set_option pp.maxSteps 3000

def LinesPost (s : ByteArray) (w : World) (e : Ending) (w' : World) : Prop :=
  ∃ ov os, e = .returned ov ∧ w'.ownsRow w.heap.size 106 1 ov os.length (ptrCells os) ∧ DoneAt w.heap.size (fun k => ov.ownBlock = some k) os (linesOf s) w' ∧ Turn (fun _ => False) w w'
theorem lines_world (s : ByteArray) (w : World) : ∃ W, W = ((((((w.alloc (.cells #[.string s] 9)).alloc (.cells #[.slice none 0 0] 103)).alloc (.cells #[.slice none 0 0, .int .i64 0, .int .i64 0] 145)).alloc (.cells #[.pointer (some ⟨w.heap.size + 1 + 1, 0, none⟩)] 106)).alloc (.cells #[.int .i64 (-1)] 3)).alloc (.cells #[.bool false] 4)) ∧
    W.heap.size = w.heap.size + 6 ∧ W.heap[w.heap.size]? = some (.cells #[.string s] 9 (0, 0)) ∧ W.heap[w.heap.size + 1]? = some (.cells #[.slice none 0 0] 103 (0, 0)) ∧ W.heap[w.heap.size + 1 + 1]? = some (.cells #[.slice none 0 0, .int .i64 0, .int .i64 0] 145 (0, 0)) ∧
    W.heap[w.heap.size + 1 + 1 + 1]? = some (.cells #[.pointer (some ⟨w.heap.size + 1 + 1, 0, none⟩)] 106 (0, 0)) ∧ W.heap[w.heap.size + 1 + 1 + 1 + 1]? = some (.cells #[.int .i64 (-1)] 3 (0, 0)) ∧ W.heap[w.heap.size + 1 + 1 + 1 + 1 + 1]? = some (.cells #[.bool false] 4 (0, 0)) ∧ Turn (fun _ => False) w W := by
  refine ⟨_, rfl, by simp, ?_, ?_, ?_, ?_, ?_, ?_, (((((((Turn.refl (fun _ => False) w).alloc _).alloc _).alloc _).alloc _).alloc _).alloc _)⟩
  · exact block_alloc_old (block_alloc_old (block_alloc_old (block_alloc_old (block_alloc_old (block_alloc_new _ _)))))
  · refine block_alloc_old (block_alloc_old (block_alloc_old (block_alloc_old ?_)))
    have := block_alloc_new (w.alloc (.cells #[.string s] 9)) (.cells #[.slice none 0 0] 103)
    simpa using this
  · refine block_alloc_old (block_alloc_old (block_alloc_old ?_))
    have := block_alloc_new ((w.alloc (.cells #[.string s] 9)).alloc (.cells #[.slice none 0 0] 103)) (.cells #[.slice none 0 0, .int .i64 0, .int .i64 0] 145)
    simpa using this
  · refine block_alloc_old (block_alloc_old ?_)
    have := block_alloc_new (((w.alloc (.cells #[.string s] 9)).alloc (.cells #[.slice none 0 0] 103)).alloc (.cells #[.slice none 0 0, .int .i64 0, .int .i64 0] 145)) (.cells #[.pointer (some ⟨w.heap.size + 1 + 1, 0, none⟩)] 106)
    simpa using this
  · refine block_alloc_old ?_
    have := block_alloc_new ((((w.alloc (.cells #[.string s] 9)).alloc (.cells #[.slice none 0 0] 103)).alloc (.cells #[.slice none 0 0, .int .i64 0, .int .i64 0] 145)).alloc (.cells #[.pointer (some ⟨w.heap.size + 1 + 1, 0, none⟩)] 106)) (.cells #[.int .i64 (-1)] 3)
    simpa using this
  · have := block_alloc_new (((((w.alloc (.cells #[.string s] 9)).alloc (.cells #[.slice none 0 0] 103)).alloc (.cells #[.slice none 0 0, .int .i64 0, .int .i64 0] 145)).alloc (.cells #[.pointer (some ⟨w.heap.size + 1 + 1, 0, none⟩)] 106)).alloc (.cells #[.int .i64 (-1)] 3)) (.cells #[.bool false] 4)
    simpa using this
theorem own_mono {w : World} {base base' : Nat} {e : TypeId} {size : Nat} {v : Value} {n : Nat} {xs : List Value} (h : w.ownsRow base e size v n xs) (hb : base' ≤ base) : w.ownsRow base' e size v n xs := by
  refine ⟨h.1, ?_⟩
  rcases h.2 with h2 | ⟨g, cap, cur, hv, h3, h4⟩
  · exact Or.inl h2
  · exact Or.inr ⟨g, cap, cur, hv, Nat.le_trans hb h3, h4⟩
theorem lines_step (s : ByteArray) (k : Nat) (h : k < s.size) : ∃ x y, Utf8.decode s k = (x, y) ∧ 1 ≤ y ∧ k + y ≤ s.size ∧ x ≤ 2147483647 ∧ scan s (k + y) = scStep s (scan s k) k x := by
  obtain ⟨ch, hc1, hc2⟩ := bytes_get s k h
  have hgd : s.data.toList.getD k 0 = ch := by rw [List.getD_eq_getElem?_getD, hc1]; rfl
  by_cases ha : ch.toNat < 128
  · have hdec := decode_ascii s k h (by rw [hc2]; exact ha)
    rw [hc2] at hdec
    refine ⟨_, _, hdec, by omega, by omega, by omega, ?_⟩
    show scStep s (scan s k) k (s.data.toList.getD k 0).toNat = _
    rw [hgd]
  · have hdec := decode_high s k h (by rw [hc2]; omega)
    have hle := decode_le s k
    have hw := decode_width s k h
    generalize Utf8.decode s k = dd at *
    obtain ⟨x, y⟩ := dd
    refine ⟨x, y, rfl, hdec.2, ?_, hle, ?_⟩
    · by_cases e : y = 1
      · omega
      · have := (hw (k + y - 1) (by have := hdec.2; omega) (by have := hdec.2; show k + y - 1 < k + y; omega)).1; omega
    · rw [scan_skip (by rw [hgd]; omega) (fun j h1 h2 => (hw j h1 h2).2) hdec.2]
      show scStep s (scan s k) k (s.data.toList.getD k 0).toNat = _
      rw [scStep_high (by rw [hgd]; omega), scStep_high hdec.1]
def LnRel (s : ByteArray) (w : World) (it bt bo bx bb br bw k : Nat) (W : World) : Prop := ∃ X v ov os, LnAt s w it bt bo bx bb br bw (scan s k) k W X v ov os
set_option maxHeartbeats 2000000 in
theorem lines_any (s : ByteArray) (hs : s.size ≤ 100000) (w : World) (he : Env w) : Calls Tryz.prog 48 #[.string s] w (LinesPost s w) := by
  have hmf : ∀ (fn : Fn) (first cap : Array Value) (w : World), (Instr.makeFunc fn first cap).run Tryz.prog w = .ok (.func fn first cap) w := fun _ _ _ _ => rfl
  go_enter Tryz.func48, Tryz.ntmps48
  go_upto_region 4 with (fail)
  obtain ⟨W, hW, hsz, k0, k1, k2, k3, k4, k5, t0⟩ := lines_world s w
  rw [← hW]
  clear hW
  have six := he.six
  generalize hbr : w.heap.size + 1 + 1 + 1 + 1 + 1 = br at *
  generalize hbb : w.heap.size + 1 + 1 + 1 + 1 = bb at *
  generalize hbx : w.heap.size + 1 + 1 + 1 = bx at *
  generalize hX0 : w.heap.size + 1 + 1 = X0 at *
  generalize hbo : w.heap.size + 1 = bo at *
  generalize hbt : w.heap.size = bt at *
  obtain ⟨bw, hbw⟩ : ∃ x, x = bt + 6 := ⟨_, rfl⟩
  rw [← hbw] at hsz
  have c6 : (W.alloc (.cells #[.nilFunc] 80)).cell? ⟨bw, 0, none⟩ = some .nilFunc := by rw [← hsz]; exact cell_of_block (block_alloc_new _ _) 0
  have f6 : (W.alloc (.cells #[.nilFunc] 80)).frozen? ⟨bw, 0, none⟩ = false := by rw [← hsz]; exact free_of_block (block_alloc_new _ _) 0
  have c0 : (W.alloc (.cells #[.nilFunc] 80)).cell? ⟨bt, 0, none⟩ = some (.string s) := cell_of_block (block_alloc_old k0) 0
  have HB := Lib.hid (And.intro hbr (And.intro hbb (And.intro hbx (And.intro hX0 (And.intro hbo hbw)))))
  clear hbr hbb hbx hX0 hbo hbw
  go_upto_region 6 with (fail)
  have k0 := block_alloc_old (o := .cells #[.func (.func 73) #[] #[.pointer (some ⟨bb, 0, none⟩), .pointer (some ⟨bx, 0, none⟩), .pointer (some ⟨bt, 0, none⟩)]] 80) k0
  have k1 := block_alloc_old (o := .cells #[.func (.func 73) #[] #[.pointer (some ⟨bb, 0, none⟩), .pointer (some ⟨bx, 0, none⟩), .pointer (some ⟨bt, 0, none⟩)]] 80) k1
  have k2 := block_alloc_old (o := .cells #[.func (.func 73) #[] #[.pointer (some ⟨bb, 0, none⟩), .pointer (some ⟨bx, 0, none⟩), .pointer (some ⟨bt, 0, none⟩)]] 80) k2
  have k3 := block_alloc_old (o := .cells #[.func (.func 73) #[] #[.pointer (some ⟨bb, 0, none⟩), .pointer (some ⟨bx, 0, none⟩), .pointer (some ⟨bt, 0, none⟩)]] 80) k3
  have k4 := block_alloc_old (o := .cells #[.func (.func 73) #[] #[.pointer (some ⟨bb, 0, none⟩), .pointer (some ⟨bx, 0, none⟩), .pointer (some ⟨bt, 0, none⟩)]] 80) k4
  have k5 := block_alloc_old (o := .cells #[.func (.func 73) #[] #[.pointer (some ⟨bb, 0, none⟩), .pointer (some ⟨bx, 0, none⟩), .pointer (some ⟨bt, 0, none⟩)]] 80) k5
  have k6 := block_alloc_new W (.cells #[.func (.func 73) #[] #[.pointer (some ⟨bb, 0, none⟩), .pointer (some ⟨bx, 0, none⟩), .pointer (some ⟨bt, 0, none⟩)]] 80)
  have t1 := t0.alloc (.cells #[.func (.func 73) #[] #[.pointer (some ⟨bb, 0, none⟩), .pointer (some ⟨bx, 0, none⟩), .pointer (some ⟨bt, 0, none⟩)]] 80)
  have hsz1 : (W.alloc (.cells #[.func (.func 73) #[] #[.pointer (some ⟨bb, 0, none⟩), .pointer (some ⟨bx, 0, none⟩), .pointer (some ⟨bt, 0, none⟩)]] 80)).heap.size = W.heap.size + 1 := by simp
  rw [hsz] at k6 hsz1
  clear c6 f6 c0 t0 hsz
  generalize W.alloc (.cells #[.func (.func 73) #[] #[.pointer (some ⟨bb, 0, none⟩), .pointer (some ⟨bx, 0, none⟩), .pointer (some ⟨bt, 0, none⟩)]] 80) = W5 at *
  obtain ⟨it, hit⟩ : ∃ x, x = bw + 1 := ⟨_, rfl⟩
  rw [← hit] at hsz1
  have c0 : W5.cell? ⟨bt, 0, none⟩ = some (.string s) := cell_of_block k0 0
  have cls : LnCls w it bt bo bx bb br bw := by
    obtain ⟨h1, h2, h3, h4, h5, h6⟩ := HB.out
    exact ⟨by omega, by omega, by omega, by omega, by omega, by omega, by omega, by omega, by omega, by omega, by omega, by omega, by omega⟩
  have hst : LnRel s w it bt bo bx bb br bw 0 (W5.iter s 0) := by
    have hi := World.iter_heap W5 s 0
    rw [hsz1] at hi
    exact ⟨X0, .slice none 0 0, .slice none 0 0, [], ⟨hi, block_alloc_old k0, block_alloc_old k1, block_alloc_old k3, block_alloc_old k4, block_alloc_old k5, block_alloc_old k6, block_alloc_old k2, World.ownsRow_nil _ _ _ _, World.ownsRow_nil _ _ _ _, t1.iter s 0,
      Nat.le_of_lt (block_lt hi), by obtain ⟨h1, h2, h3, h4, h5, h6⟩ := HB.out; omega, ⟨rfl, List.nodup_nil, fun j b L hb => by simp at hb⟩⟩⟩
  have HK := Lib.hid (And.intro cls hst)
  clear k0 k1 k2 k3 k4 k5 k6 t1 cls hst hit six
  go_wp2_with fail
  go_loopg [] (s.size + 1) (fun g wr => ∃ k : Nat, g = s.size + 1 - k ∧ k ≤ s.size ∧ Hid (LnRel s w it bt bo bx bb br bw k wr))
  case atStart => exact ⟨0, rfl, Nat.zero_le _, Lib.hid HK.out.2⟩
  case round =>
    clear c0 hsz1
    obtain ⟨k, rfl, hk, HR⟩ := hrel
    by_cases hlt : k < s.size
    · obtain ⟨x, y, hdec, hy1, hy2, hx, hstep⟩ := lines_step s k hlt
      obtain ⟨X, v, ov, os, hA⟩ := HR.out
      have hnx : ∀ ty, (Instr.next (.pointer (some ⟨it, 0, none⟩)) true ty).run Tryz.prog wr = _ := fun ty => run_next_at hA.iter ty hlt
      rw [hdec] at hnx
      have hB := hA.next (q := k + y) HK.out.1
      have hok := scan_ok s k
      generalize scan s k = σ at *
      have HS := Lib.hid (And.intro hstep hok)
      clear hA HR hdec hstep hok
      generalize itSet wr it s (k + y) = W at *
      have cbr : W.cell? ⟨br, 0, none⟩ = some (.bool σ.rest) := cell_of_block hB.rest 0
      have cbw : W.cell? ⟨bw, 0, none⟩ = some (.func (.func 73) #[] #[.pointer (some ⟨bb, 0, none⟩), .pointer (some ⟨bx, 0, none⟩), .pointer (some ⟨bt, 0, none⟩)]) := cell_of_block hB.fn 0
      have fbr : W.frozen? ⟨br, 0, none⟩ = false := free_of_block hB.rest 0
      have cbb : W.cell? ⟨bb, 0, none⟩ = some (.int .i64 (begV σ.bg)) := cell_of_block hB.beg 0
      have fbb : W.frozen? ⟨bb, 0, none⟩ = false := free_of_block hB.beg 0
      have hword := word1_any s σ.ws σ.bg it k 0 bb bx bt X v W hB.beg hB.cur hB.text hB.line hB.own (fun n hn => Nat.le_of_lt (HS.out.2.bg n hn)) hk (by omega) (by have := HS.out.2.ws; split at this <;> omega) hB.big
      have hbgV : (0 : Int) ≤ begV σ.bg ↔ σ.bg ≠ none := by
        cases hb : σ.bg with
        | none => simp [begV]
        | some n => simp [begV]
      have HBG := Lib.hid hbgV
      clear hbgV
      by_cases c10 : x = 10
      · have hend := ended_any s σ.ws os σ.bg it k 0 bw bb bx bt bo br X v ov σ.rest W hB.fn hB.beg hB.cur hB.text hB.line hB.own hB.out hB.outs hB.rest HK.out.1.low (fun n hn => Nat.le_of_lt (HS.out.2.bg n hn)) hk (by omega) (by have := HS.out.2.ws; split at this <;> omega) (by have := hB.done.1; have := HS.out.2.outs; omega) hB.big
        subst c10
        clear cbr cbw fbr cbb fbb hword
        go_wp2_with fail
        refine hend.mono ?_
        rintro e w1 ⟨rfl, v', ov', X', hE⟩
        have hz := HS.out.2.word k
        have h2 := hB.ended HK.out.1 hE (by omega) (fun x hx => by have := hz.2 x hx; omega)
        have hs2 : scan s (k + y) = scEnd s σ k := by rw [HS.out.1]; exact if_pos rfl
        rw [← hs2] at h2
        clear hE hB hend
        go_wp2_with fail
        go_roundg (s.size + 1 - (k + y))
        case measure => omega
        case rel => exact ⟨k + y, rfl, hy2, Lib.hid ⟨_, _, _, _, h2⟩⟩
      have c10' : ¬ ((x : Int) = 10) := by omega
      by_cases cr : σ.rest = true
      · rw [cr] at cbr
        have hs2 : scan s (k + y) = σ := by rw [HS.out.1]; unfold scStep; rw [if_neg c10, if_pos cr]
        have HE := Lib.hid hs2
        clear cbw fbr cbb fbb hword hs2 cr
        go_wp2_with fail
        go_roundg (s.size + 1 - (k + y))
        case measure => omega
        case rel => exact ⟨k + y, rfl, hy2, Lib.hid ⟨_, _, _, _, by rw [HE.out]; exact hB⟩⟩
      have cr' : σ.rest = false := by simpa using cr
      rw [cr'] at cbr
      have HCR := Lib.hid (And.intro cr cr')
      clear cr cr'
      by_cases c35 : x = 35
      · have hs2 : scan s (k + y) = scWord s σ k true := by rw [HS.out.1]; unfold scStep; rw [if_neg c10, if_neg HCR.out.1, if_pos c35]
        have HE := Lib.hid hs2
        subst c35
        clear fbr cbb fbb hs2 c10
        go_wp2_with fail
        refine hword.mono ?_
        intro e w1 hw1
        obtain ⟨rfl, v', hA⟩ := hB.word HK.out.1 hw1
        clear hword hw1 cbr cbw hB
        have crr : w1.cell? ⟨br, 0, none⟩ = some (.bool σ.rest) := cell_of_block hA.rest 0
        have frr : w1.frozen? ⟨br, 0, none⟩ = false := free_of_block hA.rest 0
        have h2 := hA.setRest HK.out.1 true
        clear hA
        go_wp2_with fail
        go_roundg (s.size + 1 - (k + y))
        case measure => omega
        case rel => exact ⟨k + y, rfl, hy2, Lib.hid ⟨_, _, _, _, by rw [HE.out]; exact h2⟩⟩
      have c35' : ¬ ((x : Int) = 35) := by omega
      by_cases c32 : x = 32
      · have hs2 : scan s (k + y) = scWord s σ k σ.rest := by rw [HS.out.1]; unfold scStep; rw [if_neg c10, if_neg HCR.out.1, if_neg c35, if_pos c32, HCR.out.2]
        have HE := Lib.hid hs2
        subst c32
        clear fbr cbb fbb hs2 c10 c35
        go_wp2_with fail
        refine hword.mono ?_
        intro e w1 hw1
        obtain ⟨rfl, v', hA⟩ := hB.word HK.out.1 hw1
        clear hword hw1 cbr cbw hB
        go_wp2_with fail
        go_roundg (s.size + 1 - (k + y))
        case measure => omega
        case rel => exact ⟨k + y, rfl, hy2, Lib.hid ⟨_, _, _, _, by rw [HE.out]; exact hA⟩⟩
      have c32' : ¬ ((x : Int) = 32) := by omega
      cases hbg : σ.bg with
      | none =>
        have hs2 : scan s (k + y) = ⟨σ.outs, σ.ws, some k, σ.rest⟩ := by rw [HS.out.1]; unfold scStep; rw [if_neg c10, if_neg HCR.out.1, if_neg c35, if_neg c32, hbg]
        have HE := Lib.hid hs2
        rw [hbg] at cbb
        simp only [begV] at cbb
        have h2 := hB.setBeg (i := k) HK.out.1
        clear hword hs2 hB hbg cbw fbr
        go_wp2_with fail
        go_roundg (s.size + 1 - (k + y))
        case measure => omega
        case rel => exact ⟨k + y, rfl, hy2, Lib.hid ⟨_, _, _, _, by rw [HE.out]; exact h2⟩⟩
      | some n =>
        have hs2 : scan s (k + y) = σ := by rw [HS.out.1]; unfold scStep; rw [if_neg c10, if_neg HCR.out.1, if_neg c35, if_neg c32, hbg]
        have HE := Lib.hid hs2
        rw [hbg] at cbb
        simp only [begV] at cbb
        have hn0 : ¬ ((n : Int) < 0) := by omega
        clear hword hs2 hbg cbw fbr
        go_wp2_with fail
        go_roundg (s.size + 1 - (k + y))
        case measure => omega
        case rel => exact ⟨k + y, rfl, hy2, Lib.hid ⟨_, _, _, _, by rw [HE.out]; exact hB⟩⟩
    · have hke : k = s.size := by omega
      subst hke
      obtain ⟨X, v, ov, os, hA⟩ := HR.out
      have hnx : ∀ ty, (Instr.next (.pointer (some ⟨it, 0, none⟩)) true ty).run Tryz.prog wr = _ := fun ty => run_next_at_end hA.iter ty hlt
      have hok := scan_ok s s.size
      have hend := ended_any s (scan s s.size).ws os (scan s s.size).bg it s.size 0 bw bb bx bt bo br X v ov (scan s s.size).rest wr hA.fn hA.beg hA.cur hA.text hA.line hA.own hA.out hA.outs hA.rest HK.out.1.low (fun n hn => Nat.le_of_lt (hok.bg n hn)) (Nat.le_refl _) (by omega) (by have := hok.ws; split at this <;> omega) (by have := hA.done.1; have := hok.outs; omega) hA.big
      have ct : wr.cell? ⟨bt, 0, none⟩ = some (.string s) := cell_of_block hA.text 0
      have HH := Lib.hid (And.intro hA hok)
      clear hA hok HR
      go_wp2_with fail
      refine hend.mono ?_
      rintro e w1 ⟨rfl, v', ov', X', hE⟩
      have hz := HH.out.2.word s.size
      have h2 := HH.out.1.ended HK.out.1 hE (by omega) (fun x hx => by have := hz.2 x hx; omega)
      have co : w1.cell? ⟨bo, 0, none⟩ = some ov' := cell_of_block h2.out 0
      clear hend hE hnx ct
      obtain ⟨ao, cap, hov, _⟩ := own_form h2.outs h2.text (by decide)
      have HZ := Lib.hid (And.intro h2 HK.out.1)
      subst hov
      clear h2 hz HH
      go_wp2_with fail
      go_ret
      exact ⟨_, _, rfl, own_mono HZ.out.1.outs HZ.out.2.hit, HZ.out.1.done.keep (Turn.refl (fun _ => False) _) (fun _ _ h => h.elim) (fun k _ h => Or.inr (Or.inr (Or.inr (Or.inr (Or.inr (Or.inr (Or.inr h))))))), HZ.out.1.turn⟩
end Go.Proofs.YtbkpbcmjgbdbkaaGreatDoor

/-! H5 -/
namespace Go.Proofs.YtbkpbcmjgbdbkaaGreatDoor
open Go.RowKit Go.Lib
set_option linter.unusedVariables false
set_option linter.unusedSimpArgs false

def pairP (L : List Wd) (en n : Nat) : Except Nat ((Nat × Nat) × Nat) := match readP ipOf L en n with
  | .error pl => .error pl
  | .ok (x, m) => match readP ipOf L en m with
    | .error pl => .error pl
    | .ok (y, k) => .ok ((x, y), k)
theorem pair_any (b g cap : Nat) (L : List Wd) (en n : Nat) (w : World) (h : LineIs w b g cap L en n) (he : Env w) :
    Calls Tryz.prog 86 #[.pointer (some ⟨b, 0, none⟩)] w (Took w b g cap L en ((pairP L en n).map fun r => (.agg #[.int .u32 (r.1.1 : Int), .int .u32 (r.1.2 : Int)], r.2))) := by
  have s0 := (Stage.start h he).alloc (.cells #[.int .u32 0, .int .u32 0] 97)
  clear h he
  go_enter Tryz.func86, Tryz.ntmps86
  go_wp2_with fail
  refine (readIp_any b g cap L en n _ s0.line s0.env).mono ?_
  intro e w1 h1
  cases r1 : readP ipOf L en n with
  | error pl =>
    rw [r1] at h1
    have hf := s0.fails h1
    obtain ⟨p, rfl, _⟩ := h1
    exact ⟨rfl, took_error (by simp only [pairP, r1]) hf⟩
  | ok x =>
    obtain ⟨x, m⟩ := x
    rw [r1] at h1
    obtain ⟨rfl, l1, t1⟩ := h1
    have s1 := s0.call l1 t1
    clear s0 l1 t1
    go_wp2_with fail
    refine (readIp_any b g cap L en m _ s1.line s1.env).mono ?_
    intro e w2 h2
    cases r2 : readP ipOf L en m with
    | error pl =>
      rw [r2] at h2
      have hf := s1.fails h2
      obtain ⟨p, rfl, _⟩ := h2
      exact ⟨rfl, took_error (by simp only [pairP, r1, r2]) hf⟩
    | ok y =>
      obtain ⟨y, k⟩ := y
      rw [r2] at h2
      obtain ⟨rfl, l2, t2⟩ := h2
      have s2 := s1.call l2 t2
      have hR : pairP L en n = .ok ((x, y), k) := by simp only [pairP, r1, r2]
      clear s1 l2 t2 r2 r1
      obtain ⟨hce, hfr⟩ := row_facts (s2.keep _ (List.mem_cons_self ..))
      have s3 := (s2.cell (by simp) 0 (.int .u32 (x : Int))).cell (by simp) 1 (.int .u32 (y : Int))
      have H := Lib.hid s3
      have HR := Lib.hid hR
      clear s2 s3 hR
      go_wp2_with fail
      exact bodyPost_ret (results_row Tryz.results86 _ _ w.heap.size _ rfl (H.out.keep _ (List.mem_cons_self ..)) _ Tryz.underlying97 rfl (by kernel_rfl)) rfl (took_ok HR.out rfl rfl H.out.line H.out.turn)
end Go.Proofs.YtbkpbcmjgbdbkaaGreatDoor

/-! H6 -/
namespace Go.Proofs.YtbkpbcmjgbdbkaaGreatDoor
open Go.RowKit Go.Lib
set_option linter.unusedVariables false
set_option linter.unusedSimpArgs false
set_option maxRecDepth 100000

/-- A tenant's settings, and settings, in plain Lean. -/
structure Ten where
  name : ByteArray
  vni : Nat
  key : List Nat
  vtep : Nat
  vmac : List Nat
  host : List Nat
  pool : List Nat
  lo : Nat
  hi : Nat
  filter : Int
  statics : List (Nat × Nat)
  twices : List (Nat × Nat)
  sess : Int
  queue : Int
  rate : Nat
  burst : Nat
structure Cfg where
  ip : Nat
  mac : List Nat
  out : List Nat
  next : List Nat
  key : List Nat
  drain : Nat
  tens : List Ten
def cfgRow (c : Cfg) (v : Value) : Array Value := #[.int .u32 (c.ip : Int)] ++ u8row c.mac ++ u8row c.out ++ u8row c.next ++ u8row c.key ++ #[.int .u32 (c.drain : Int), v]
def tenRow (t : Ten) (p s q : Value) : Array Value := #[.string t.name, .int .u32 (t.vni : Int)] ++ u8row t.key ++ #[.int .u32 (t.vtep : Int)] ++ u8row t.vmac ++ u8row t.host ++ #[p, .int .u16 (t.lo : Int), .int .u16 (t.hi : Int), .int .i64 t.filter, s, q, .int .i64 t.sess, .int .i64 t.queue, .int .u32 (t.rate : Int), .int .u32 (t.burst : Int)]
theorem except_cases {α : Type} (r : Except Nat α) : (∃ pl, r = .error pl) ∨ ∃ x, r = .ok x := by
  cases r with
  | error pl => exact Or.inl ⟨pl, rfl⟩
  | ok x => exact Or.inr ⟨x, rfl⟩
def gwName : ByteArray := ⟨#[103, 97, 116, 101, 119, 97, 121]⟩
def drName : ByteArray := ⟨#[100, 114, 97, 105, 110]⟩
def gatewayP (L : List Wd) (en n : Nat) : Except Nat (Cfg × Nat) := do
  let n ← mustP gwName L en n
  let (ip, n) ← readP ipOf L en n
  let (m1, n) ← readP macOf L en n
  let (m2, n) ← readP macOf L en n
  let (m3, n) ← readP macOf L en n
  let (k, n) ← readP keyOf L en n
  let n ← mustP drName L en n
  let (d, n) ← readP (fun l => numOf l 4294967295) L en n
  .ok (⟨ip, m1, m2, m3, k, d, []⟩, n)
def cfgZero (x : Int) : Array Value := #[.int .u32 x, .int .u8 0, .int .u8 0, .int .u8 0, .int .u8 0, .int .u8 0, .int .u8 0, .int .u8 0, .int .u8 0, .int .u8 0, .int .u8 0, .int .u8 0, .int .u8 0, .int .u8 0, .int .u8 0, .int .u8 0, .int .u8 0, .int .u8 0, .int .u8 0, .int .u8 0, .int .u8 0, .int .u8 0, .int .u8 0, .int .u8 0, .int .u8 0, .int .u8 0, .int .u8 0, .int .u32 0, .slice none 0 0]
theorem gw_cells (x d : Nat) (M1 M2 M3 K : List Nat) (h1 : M1.length = 6) (h2 : M2.length = 6) (h3 : M3.length = 6) (h4 : K.length = 8) :
    (rowPut (rowPut (rowPut (rowPut (cfgZero x) 1 (u8row M1).toList) 7 (u8row M2).toList) 13 (u8row M3).toList) 19 (u8row K).toList).setIfInBounds 27 (.int .u32 (d : Int)) = cfgRow ⟨x, M1, M2, M3, K, d, []⟩ (.slice none 0 0) := by
  obtain ⟨_, _, _, _, _, _, rfl⟩ := list6 M1 h1
  obtain ⟨_, _, _, _, _, _, rfl⟩ := list6 M2 h2
  obtain ⟨_, _, _, _, _, _, rfl⟩ := list6 M3 h3
  obtain ⟨_, _, _, _, _, _, _, _, rfl⟩ := list8 K h4
  kernel_rfl
theorem cfg_one (x d : Nat) (M1 M2 M3 K : List Nat) : ∀ v ∈ (cfgRow ⟨x, M1, M2, M3, K, d, []⟩ (.slice none 0 0)).toList, v.oneCell' = true := by
  intro v hv
  simp only [cfgRow, Array.toList_append, List.mem_append] at hv
  rcases hv with ((((hv | hv) | hv) | hv) | hv) | hv
  · simp at hv; subst hv; rfl
  · exact u8row_one _ v hv
  · exact u8row_one _ v hv
  · exact u8row_one _ v hv
  · exact u8row_one _ v hv
  · simp at hv; rcases hv with rfl | rfl <;> rfl
set_option maxHeartbeats 4000000 in
theorem gateway_any (b g cap : Nat) (L : List Wd) (en n : Nat) (w : World) (h : LineIs w b g cap L en n) (he : Env w) :
    Calls Tryz.prog 49 #[.pointer (some ⟨b, 0, none⟩)] w (Took w b g cap L en ((gatewayP L en n).map fun r => (.agg (cfgRow r.1 (.slice none 0 0)), r.2))) := by
  have s0 := (Stage.start h he).alloc (.cells (cfgZero 0) 29)
  have hr : ∀ T : Nat, T = w.heap.size → T < (w.alloc (.cells (cfgZero 0) 29)).heap.size := fun T hT => by rw [hT]; exact block_lt (block_alloc_new _ _)
  clear h he
  go_enter Tryz.func49, Tryz.ntmps49
  go_wp2_with fail
  change Calls _ _ _ (w.alloc (.cells (cfgZero 0) 29)) _
  generalize w.alloc (.cells (cfgZero 0) 29) = W0 at *
  go_wp2_with fail
  refine (must_any gwName b g cap L en n _ s0.line).mono ?_
  intro e w1 h1
  rcases except_cases (mustP gwName L en n) with ⟨pl, r1⟩ | ⟨n1, r1⟩
  · rw [r1] at h1
    have hf := s0.fails h1
    obtain ⟨p, rfl, _⟩ := h1
    exact ⟨rfl, took_error (by simp only [gatewayP, r1, bind, Except.bind]) hf⟩
  rw [r1] at h1
  obtain ⟨rfl, l1, c1⟩ := h1
  have t1 := s0.call l1 c1
  clear s0 l1 c1
  go_wp2_with fail
  refine (readIp_any b g cap L en n1 _ t1.line t1.env).mono ?_
  intro e w2 h2
  rcases except_cases (readP ipOf L en n1) with ⟨pl, r2⟩ | ⟨x, r2⟩
  · rw [r2] at h2
    have hf := t1.fails h2
    obtain ⟨p, rfl, _⟩ := h2
    exact ⟨rfl, took_error (by simp only [gatewayP, r1, r2, bind, Except.bind]) hf⟩
  obtain ⟨x0, n2⟩ := x
  rw [r2] at h2
  obtain ⟨rfl, l2, c2⟩ := h2
  have t2 := t1.call l2 c2
  clear t1 l2 c2
  have hlt : w.heap.size < w2.heap.size := block_lt (t2.keep _ (List.mem_cons_self ..))
  have hB : ∀ p ∈ [(w.heap.size, Obj.cells (cfgZero 0) 29 (0, 0))], p.1 ≠ w2.heap.size := by intro p hp; rcases List.mem_singleton.1 hp with rfl; exact Nat.ne_of_lt hlt
  obtain ⟨st0, a1⟩ := (t2.alloc (.cells (cfgZero 0) 29)).whole hB (cfgZero x0) rfl (by intro v hv; simp [cfgZero] at hv; rcases hv with rfl | rfl | rfl | rfl <;> rfl)
  clear t2
  go_wp2_with (refine wpList_store_put rfl 29 _ _ rfl w2.heap.size 0 (cfgZero x0) rfl rfl (by kernel_rfl) _ st0 ?_)
  change Calls _ _ _ ((w2.alloc (.cells (cfgZero 0) 29)).setRow w2.heap.size (cfgZero x0)) _
  clear st0
  generalize (w2.alloc (.cells (cfgZero 0) 29)).setRow w2.heap.size (cfgZero x0) = W2 at *
  have z0 : (cfgZero x0).size = 29 := rfl
  go_wp2_with fail
  refine (readMac_any b g cap L en n2 _ a1.line a1.env).mono ?_
  intro e w3 h3
  rcases except_cases (readP macOf L en n2) with ⟨pl, r3⟩ | ⟨x, r3⟩
  · rw [r3] at h3
    have hf := a1.fails h3
    obtain ⟨p, rfl, _⟩ := h3
    exact ⟨rfl, took_error (by simp only [gatewayP, r1, r2, r3, bind, Except.bind]) hf⟩
  obtain ⟨M1, n3⟩ := x
  rw [r3] at h3
  obtain ⟨rfl, l3, c3⟩ := h3
  have t3 := a1.call l3 c3
  clear a1 l3 c3
  have q1 := readP_mac r3
  go_wp2_with fail
  refine (readMac_any b g cap L en n3 _ t3.line t3.env).mono ?_
  intro e w4 h4
  rcases except_cases (readP macOf L en n3) with ⟨pl, r4⟩ | ⟨x, r4⟩
  · rw [r4] at h4
    have hf := t3.fails h4
    obtain ⟨p, rfl, _⟩ := h4
    exact ⟨rfl, took_error (by simp only [gatewayP, r1, r2, r3, r4, bind, Except.bind]) hf⟩
  obtain ⟨M2, n4⟩ := x
  rw [r4] at h4
  obtain ⟨rfl, l4, c4⟩ := h4
  have t4 := t3.call l4 c4
  clear t3 l4 c4
  have q2 := readP_mac r4
  go_wp2_with fail
  refine (readMac_any b g cap L en n4 _ t4.line t4.env).mono ?_
  intro e w5 h5
  rcases except_cases (readP macOf L en n4) with ⟨pl, r5⟩ | ⟨x, r5⟩
  · rw [r5] at h5
    have hf := t4.fails h5
    obtain ⟨p, rfl, _⟩ := h5
    exact ⟨rfl, took_error (by simp only [gatewayP, r1, r2, r3, r4, r5, bind, Except.bind]) hf⟩
  obtain ⟨M3, n5⟩ := x
  rw [r5] at h5
  obtain ⟨rfl, l5, c5⟩ := h5
  have t5 := t4.call l5 c5
  clear t4 l5 c5
  have q3 := readP_mac r5
  obtain ⟨st1, a2⟩ := t5.row hB 1 (u8row M1).toList (by rw [u8row_len, q1, z0]; omega) (u8row_one M1)
  have z1 : (rowPut (cfgZero x0) 1 (u8row M1).toList).size = 29 := (rowPut_size (by rw [u8row_len, q1, z0]; omega)).trans z0
  obtain ⟨st2, a3⟩ := a2.row hB 7 (u8row M2).toList (by rw [u8row_len, q2, z1]; omega) (u8row_one M2)
  have z2 : (rowPut (rowPut (cfgZero x0) 1 (u8row M1).toList) 7 (u8row M2).toList).size = 29 := (rowPut_size (by rw [u8row_len, q2, z1]; omega)).trans z1
  obtain ⟨st3, a4⟩ := a3.row hB 13 (u8row M3).toList (by rw [u8row_len, q3, z2]; omega) (u8row_one M3)
  have z3 : (rowPut (rowPut (rowPut (cfgZero x0) 1 (u8row M1).toList) 7 (u8row M2).toList) 13 (u8row M3).toList).size = 29 := (rowPut_size (by rw [u8row_len, q3, z2]; omega)).trans z2
  have hs1 : (u8row M1).size = 6 := (u8row_len M1).trans q1
  have hs2 : (u8row M2).size = 6 := (u8row_len M2).trans q2
  have hs3 : (u8row M3).size = 6 := (u8row_len M3).trans q3
  go_wp2_with fail
  refine (readKey_any b g cap L en n5 _ a4.line a4.env).mono ?_
  intro e w6 h6
  rcases except_cases (readP keyOf L en n5) with ⟨pl, r6⟩ | ⟨x, r6⟩
  · rw [r6] at h6
    have hf := a4.fails h6
    obtain ⟨p, rfl, _⟩ := h6
    exact ⟨rfl, took_error (by simp only [gatewayP, r1, r2, r3, r4, r5, r6, bind, Except.bind]) hf⟩
  obtain ⟨K, n6⟩ := x
  rw [r6] at h6
  obtain ⟨rfl, l6, c6⟩ := h6
  have t6 := a4.call l6 c6
  clear a4 l6 c6
  have q4 := readP_key r6
  have hs4 : (u8row K).size = 8 := (u8row_len K).trans q4
  clear st1 st2 st3 hs1 hs2 hs3
  obtain ⟨st4, a5⟩ := t6.row hB 19 (u8row K).toList (by rw [u8row_len, q4, z3]; omega) (u8row_one K)
  have z4 : (rowPut (rowPut (rowPut (rowPut (cfgZero x0) 1 (u8row M1).toList) 7 (u8row M2).toList) 13 (u8row M3).toList) 19 (u8row K).toList).size = 29 := (rowPut_size (by rw [u8row_len, q4, z3]; omega)).trans z3
  go_wp2_with fail
  refine (must_any drName b g cap L en n6 _ a5.line).mono ?_
  intro e w7 h7
  rcases except_cases (mustP drName L en n6) with ⟨pl, r7⟩ | ⟨n7, r7⟩
  · rw [r7] at h7
    have hf := a5.fails h7
    obtain ⟨p, rfl, _⟩ := h7
    exact ⟨rfl, took_error (by simp only [gatewayP, r1, r2, r3, r4, r5, r6, r7, bind, Except.bind]) hf⟩
  rw [r7] at h7
  obtain ⟨rfl, l7, c7⟩ := h7
  have t7 := a5.call l7 c7
  clear a5 l7 c7
  clear st4 hs4
  go_wp2_with fail
  refine (readNum_any 4294967295 (by omega) b g cap L en n7 _ t7.line).mono ?_
  intro e w8 h8
  rcases except_cases (readP (fun l => numOf l 4294967295) L en n7) with ⟨pl, r8⟩ | ⟨x, r8⟩
  · rw [r8] at h8
    have hf := t7.fails h8
    obtain ⟨p, rfl, _⟩ := h8
    exact ⟨rfl, took_error (by simp only [gatewayP, r1, r2, r3, r4, r5, r6, r7, r8, bind, Except.bind]) hf⟩
  obtain ⟨d, n8⟩ := x
  rw [r8] at h8
  obtain ⟨rfl, l8, c8⟩ := h8
  have t8 := t7.call l8 c8
  clear t7 l8 c8
  have hblk := t8.keep _ (List.mem_cons_self ..)
  obtain ⟨v27, hc27⟩ : ∃ v, w8.cell? ⟨w2.heap.size, 27, none⟩ = some v := ⟨_, (cell_of_block hblk 27).trans (Array.getElem?_eq_getElem (by rw [z4]; omega))⟩
  have hf27 : w8.frozen? ⟨w2.heap.size, 27, none⟩ = false := free_of_block hblk 27
  have a9 := t8.cell hB 27 (.int .u32 (d : Int))
  obtain ⟨csF, hcF⟩ : ∃ cs, cs = (rowPut (rowPut (rowPut (rowPut (cfgZero x0) 1 (u8row M1).toList) 7 (u8row M2).toList) 13 (u8row M3).toList) 19 (u8row K).toList).setIfInBounds 27 (.int .u32 (d : Int)) := ⟨_, rfl⟩
  rw [← hcF] at a9
  have zF : csF.size = 29 := by rw [hcF, Array.size_setIfInBounds]; exact z4
  have hR : gatewayP L en n = .ok (⟨x0, M1, M2, M3, K, d, []⟩, n8) := by simp only [gatewayP, r1, r2, r3, r4, r5, r6, r7, r8, bind, Except.bind]
  have hV : csF = cfgRow ⟨x0, M1, M2, M3, K, d, []⟩ (.slice none 0 0) := hcF.trans (gw_cells x0 d M1 M2 M3 K q1 q2 q3 q4)
  have hB2 : ∀ p ∈ [(w2.heap.size, Obj.cells csF 29 (0, 0))], p.1 ≠ w.heap.size := by intro p hp; rcases List.mem_singleton.1 hp with rfl; exact Nat.ne_of_gt hlt
  have h1 : ∀ v ∈ csF.toList, v.oneCell' = true := by rw [hV]; exact cfg_one x0 d M1 M2 M3 K
  obtain ⟨stF, aF⟩ := a9.swap.whole hB2 csF zF.symm h1
  have hgF := a9.keep _ (List.mem_cons_self ..)
  have H := Lib.hid (And.intro aF (And.intro hR hV))
  have hi29 : (Tryz.prog.info? 29).map (·.size) = some csF.size := by rw [zF]; kernel_rfl
  clear hcF hV hR aF a9 t8 hblk h1 hB2 r1 r2 r3 r4 r5 r6 r7 r8 z0 z1 z2 z3 z4 q1 q2 q3 q4 zF
  go_wp2_with (first | (refine wpList_load_row rfl 29 _ rfl w2.heap.size rfl 29 csF (0, 0) _ hgF Tryz.underlying29 rfl hi29 ?_) | (refine wpList_store_put rfl 29 _ _ rfl w.heap.size 0 csF rfl rfl hi29 _ stF ?_))
  exact bodyPost_ret (results_row Tryz.results49 _ _ w.heap.size _ rfl (H.out.1.keep _ (List.mem_cons_self ..)) _ Tryz.underlying29 rfl hi29) rfl (took_ok H.out.2.1 (by rw [H.out.2.2]) rfl H.out.1.line H.out.1.turn)
end Go.Proofs.YtbkpbcmjgbdbkaaGreatDoor
