/- The scan of a text, line by line; what was told stays told. No condition. The reference's words of a line. No condition. -/
import Derived.Test.YtbkpbcmjgbdbkaaGreatDoorMG
import Derived.Maps.AppendAt
/-! X0 -/
namespace Go.Proofs.YtbkpbcmjgbdbkaaGreatDoor
open Go.RowKit Go.Lib
set_option linter.unusedVariables false
set_option linter.unusedSimpArgs false
set_option maxRecDepth 100000

def byteAt (s : ByteArray) (i : Nat) : Nat := (s.data.toList.getD i 0).toNat
/-- The scan within a line: its words, where a word began, whether the rest says nothing. -/
structure Ln where
  ws : List Wd
  bg : Option Nat
  rest : Bool
def lnStep (s : ByteArray) (σ : Ln) (i c : Nat) : Ln :=
  if σ.rest = true then σ
  else if c = 35 then ⟨wordEnd s σ.ws σ.bg i, none, true⟩
  else if c = 32 then ⟨wordEnd s σ.ws σ.bg i, none, false⟩
  else match σ.bg with
    | none => ⟨σ.ws, some i, σ.rest⟩
    | some _ => σ
def lnScan (s : ByteArray) (f : Nat) : Nat → Ln
  | 0 => ⟨[], none, false⟩
  | k + 1 => lnStep s (lnScan s f k) (f + k) (byteAt s (f + k))
def wordsAt (s : ByteArray) (f k : Nat) : List Wd := wordEnd s (lnScan s f k).ws (lnScan s f k).bg (f + k)
theorem scan_line {s : ByteArray} {f : Nat} {O : List (List Wd × Nat)} (h0 : scan s f = ⟨O, [], none, false⟩) : ∀ k, (∀ j, j < k → byteAt s (f + j) ≠ 10) → scan s (f + k) = ⟨O, (lnScan s f k).ws, (lnScan s f k).bg, (lnScan s f k).rest⟩
  | 0, _ => h0
  | k + 1, h => by
    have ih := scan_line h0 k (fun j hj => h j (by omega))
    have hk := h k (by omega)
    show scStep s (scan s (f + k)) (f + k) (byteAt s (f + k)) = _
    rw [ih]
    show _ = (⟨O, (lnStep s (lnScan s f k) (f + k) (byteAt s (f + k))).ws, (lnStep s (lnScan s f k) (f + k) (byteAt s (f + k))).bg, (lnStep s (lnScan s f k) (f + k) (byteAt s (f + k))).rest⟩ : Sc)
    generalize lnScan s f k = σ
    obtain ⟨ws, bg, rest⟩ := σ
    unfold scStep lnStep scWord
    rw [if_neg hk]
    dsimp only
    cases rest with
    | true => rfl
    | false =>
      by_cases h35 : byteAt s (f + k) = 35
      · simp [h35]
      · by_cases h32 : byteAt s (f + k) = 32
        · simp [h32]
        · cases bg <;> simp [h35, h32]
/-- Behind a line's end. -/
theorem scan_end {s : ByteArray} {f k : Nat} {O : List (List Wd × Nat)} (h0 : scan s f = ⟨O, [], none, false⟩) (h : ∀ j, j < k → byteAt s (f + j) ≠ 10) : scEnd s (scan s (f + k)) (f + k) = ⟨if 0 < (wordsAt s f k).length then O ++ [(wordsAt s f k, f + k)] else O, [], none, false⟩ := by
  rw [scan_line h0 k h]
  rfl
theorem scan_nl {s : ByteArray} {f k : Nat} {O : List (List Wd × Nat)} (h0 : scan s f = ⟨O, [], none, false⟩) (h : ∀ j, j < k → byteAt s (f + j) ≠ 10) (hk : byteAt s (f + k) = 10) : scan s (f + k + 1) = ⟨if 0 < (wordsAt s f k).length then O ++ [(wordsAt s f k, f + k)] else O, [], none, false⟩ := by
  show scStep s (scan s (f + k)) (f + k) (byteAt s (f + k)) = _
  rw [hk]
  unfold scStep
  rw [if_pos rfl]
  exact scan_end h0 h
theorem scan_last {s : ByteArray} {f k : Nat} {O : List (List Wd × Nat)} (h0 : scan s f = ⟨O, [], none, false⟩) (h : ∀ j, j < k → byteAt s (f + j) ≠ 10) (hk : f + k = s.size) : linesOf s = if 0 < (wordsAt s f k).length then O ++ [(wordsAt s f k, f + k)] else O := by
  have := scan_end h0 h
  rw [hk] at this
  unfold linesOf
  rw [this, hk]
theorem scEnd_outs (s : ByteArray) (σ : Sc) (i : Nat) : ∃ t, (scEnd s σ i).outs = σ.outs ++ t := by
  unfold scEnd
  dsimp only
  split
  · exact ⟨_, rfl⟩
  · exact ⟨[], by simp⟩
theorem scStep_outs (s : ByteArray) (σ : Sc) (i c : Nat) : ∃ t, (scStep s σ i c).outs = σ.outs ++ t := by
  unfold scStep
  split
  · exact scEnd_outs s σ i
  · split
    · exact ⟨[], by simp⟩
    · split
      · exact ⟨[], by simp [scWord]⟩
      · split
        · exact ⟨[], by simp [scWord]⟩
        · split
          · exact ⟨[], by simp⟩
          · exact ⟨[], by simp⟩
theorem scan_outs (s : ByteArray) (k : Nat) : ∀ m, ∃ t, (scan s (k + m)).outs = (scan s k).outs ++ t
  | 0 => ⟨[], by simp⟩
  | m + 1 => by
    obtain ⟨t, ht⟩ := scan_outs s k m
    obtain ⟨u, hu⟩ := scStep_outs s (scan s (k + m)) (k + m) (s.data.toList.getD (k + m) 0).toNat
    refine ⟨t ++ u, ?_⟩
    show (scStep s (scan s (k + m)) (k + m) (s.data.toList.getD (k + m) 0).toNat).outs = _
    rw [hu, ht, List.append_assoc]
/-- What was told stays at the head of the lines. -/
theorem lines_prefix (s : ByteArray) {k : Nat} (hk : k ≤ s.size) : ∃ t, linesOf s = (scan s k).outs ++ t := by
  obtain ⟨t, ht⟩ := scan_outs s k (s.size - k)
  rw [show k + (s.size - k) = s.size by omega] at ht
  obtain ⟨u, hu⟩ := scEnd_outs s (scan s s.size) s.size
  refine ⟨t ++ u, ?_⟩
  unfold linesOf
  rw [hu, ht, List.append_assoc]
/-! ### a line's words as they are gathered -/
/-- i bytes of the line that begins at f are behind: L was gathered. -/
structure Gath (s : ByteArray) (f n i : Nat) (L : List Wd) : Prop where
  rest : (lnScan s f i).rest = false
  words : wordsAt s f i = L
  stop : (lnScan s f i).bg ≠ none → i = n ∨ byteAt s (f + i) = 32 ∨ byteAt s (f + i) = 35
theorem Gath.start (s : ByteArray) (f n : Nat) : Gath s f n 0 [] := ⟨rfl, rfl, fun h => absurd rfl h⟩
section
variable {s : ByteArray} {f n i k : Nat} {L : List Wd}
theorem Gath.blank (h : Gath s f n i L) (hb : byteAt s (f + i) = 32) : Gath s f n (i + 1) L := by
  have e : lnScan s f (i + 1) = ⟨L, none, false⟩ := by
    show lnStep s (lnScan s f i) (f + i) (byteAt s (f + i)) = _
    unfold lnStep
    rw [h.rest, hb, if_neg (by decide), if_neg (by decide), if_pos rfl]
    have := h.words
    unfold wordsAt at this
    rw [this]
  refine ⟨by rw [e], ?_, fun hn => ?_⟩
  · unfold wordsAt; rw [e]; rfl
  · rw [e] at hn; exact absurd rfl hn
theorem ln_rest (s : ByteArray) (f i : Nat) (W : List Wd) (h : lnScan s f i = ⟨W, none, true⟩) : ∀ m, lnScan s f (i + m) = ⟨W, none, true⟩
  | 0 => h
  | m + 1 => by
    show lnStep s (lnScan s f (i + m)) (f + (i + m)) (byteAt s (f + (i + m))) = _
    rw [ln_rest s f i W h m]
    rfl
/-- A comment: no more words. -/
theorem Gath.comment (h : Gath s f n i L) (hb : byteAt s (f + i) = 35) (hn : i < n) : wordsAt s f n = L := by
  have e : lnScan s f (i + 1) = ⟨L, none, true⟩ := by
    show lnStep s (lnScan s f i) (f + i) (byteAt s (f + i)) = _
    unfold lnStep
    rw [h.rest, hb, if_neg (by decide), if_pos rfl]
    have := h.words
    unfold wordsAt at this
    rw [this]
  have e2 := ln_rest s f (i + 1) L e (n - (i + 1))
  rw [show i + 1 + (n - (i + 1)) = n by omega] at e2
  unfold wordsAt
  rw [e2]
  rfl
theorem Gath.open_ (h : Gath s f n i L) (h1 : byteAt s (f + i) ≠ 32) (h2 : byteAt s (f + i) ≠ 35) (hn : i < n) : lnScan s f i = ⟨L, none, false⟩ := by
  have hb : (lnScan s f i).bg = none := by
    rcases Classical.em ((lnScan s f i).bg = none) with h3 | h3
    · exact h3
    · rcases h.stop h3 with h4 | h4 | h4
      · omega
      · exact absurd h4 h1
      · exact absurd h4 h2
  have hw := h.words
  have hr := h.rest
  unfold wordsAt at hw
  generalize lnScan s f i = σ at *
  obtain ⟨ws, bg, rest⟩ := σ
  dsimp only at hb hr hw
  subst hb; subst hr
  have hw : ws = L := hw
  rw [hw]
/-- A word, up to its end. -/
theorem ln_word (h : lnScan s f i = ⟨L, none, false⟩) : ∀ m, (∀ j, i ≤ j → j < i + (m + 1) → byteAt s (f + j) ≠ 32 ∧ byteAt s (f + j) ≠ 35) → lnScan s f (i + (m + 1)) = ⟨L, some (f + i), false⟩
  | 0, hw => by
    show lnStep s (lnScan s f (i + 0)) (f + (i + 0)) (byteAt s (f + (i + 0))) = _
    have hi := hw i (Nat.le_refl _) (by omega)
    rw [Nat.add_zero, h]
    unfold lnStep
    rw [if_neg (by simp), if_neg hi.2, if_neg hi.1]
  | m + 1, hw => by
    have ih := ln_word h m (fun j h1 h2 => hw j h1 (by omega))
    show lnStep s (lnScan s f (i + (m + 1))) (f + (i + (m + 1))) (byteAt s (f + (i + (m + 1)))) = _
    have hi := hw (i + (m + 1)) (by omega) (by omega)
    rw [ih]
    unfold lnStep
    rw [if_neg (by simp), if_neg hi.2, if_neg hi.1]
theorem Gath.word (h : Gath s f n i L) (hn : i < n) (hk : i < k) (hkn : k ≤ n) (hw : ∀ j, i ≤ j → j < k → byteAt s (f + j) ≠ 32 ∧ byteAt s (f + j) ≠ 35) (hs : k = n ∨ byteAt s (f + k) = 32 ∨ byteAt s (f + k) = 35) :
    Gath s f n k (L ++ [(s.extract (f + i) (f + k), f + i)]) := by
  obtain ⟨m, rfl⟩ : ∃ m, k = i + (m + 1) := ⟨k - i - 1, by omega⟩
  have hi := hw i (Nat.le_refl _) hk
  have e := ln_word (h.open_ hi.1 hi.2 hn) m hw
  refine ⟨by rw [e], ?_, fun _ => hs⟩
  unfold wordsAt
  rw [e]
  rfl
theorem lnScan_len (s : ByteArray) (f : Nat) : ∀ k, (lnScan s f k).ws.length + (if (lnScan s f k).bg = none then 0 else 1) ≤ k
  | 0 => by simp [lnScan]
  | k + 1 => by
    have ih := lnScan_len s f k
    show (lnStep s (lnScan s f k) (f + k) (byteAt s (f + k))).ws.length + (if (lnStep s (lnScan s f k) (f + k) (byteAt s (f + k))).bg = none then 0 else 1) ≤ k + 1
    generalize lnScan s f k = σ at *
    obtain ⟨ws, bg, rest⟩ := σ
    have ih : ws.length + (if bg = none then 0 else 1) ≤ k := ih
    have hl : (wordEnd s ws bg (f + k)).length = ws.length + (if bg = none then 0 else 1) := by cases bg <;> simp [wordEnd]
    unfold lnStep
    dsimp only
    by_cases hr : rest = true
    · rw [if_pos hr]
      show ws.length + (if bg = none then 0 else 1) ≤ k + 1
      omega
    · rw [if_neg hr]
      by_cases h35 : byteAt s (f + k) = 35
      · rw [if_pos h35]
        show (wordEnd s ws bg (f + k)).length + (if (none : Option Nat) = none then 0 else 1) ≤ k + 1
        rw [if_pos rfl]; omega
      · rw [if_neg h35]
        by_cases h32 : byteAt s (f + k) = 32
        · rw [if_pos h32]
          show (wordEnd s ws bg (f + k)).length + (if (none : Option Nat) = none then 0 else 1) ≤ k + 1
          rw [if_pos rfl]; omega
        · rw [if_neg h32]
          cases bg with
          | none =>
            rw [if_pos rfl] at ih
            show ws.length + (if (some (f + k)) = none then 0 else 1) ≤ k + 1
            rw [if_neg (by simp)]; omega
          | some x =>
            show ws.length + (if (some x) = none then 0 else 1) ≤ k + 1
            rw [if_neg (by simp)] at ih ⊢
            omega
theorem wordsAt_len (s : ByteArray) (f k : Nat) : (wordsAt s f k).length ≤ k := by
  have h1 := lnScan_len s f k
  unfold wordsAt
  generalize lnScan s f k = σ at *
  obtain ⟨ws, bg, rest⟩ := σ
  have h1 : ws.length + (if bg = none then 0 else 1) ≤ k := h1
  show (wordEnd s ws bg (f + k)).length ≤ k
  cases bg with
  | none => simp only [if_true] at h1; simp only [wordEnd]; omega
  | some n => simp only [wordEnd, List.length_append, List.length_singleton]; simp at h1; omega
theorem lnScan_sizes (s : ByteArray) (f : Nat) : ∀ k, ∀ x ∈ (lnScan s f k).ws, x.1.size ≤ s.size
  | 0 => by simp [lnScan]
  | k + 1 => by
    have ih := lnScan_sizes s f k
    show ∀ x ∈ (lnStep s (lnScan s f k) (f + k) (byteAt s (f + k))).ws, x.1.size ≤ s.size
    generalize lnScan s f k = σ at *
    obtain ⟨ws, bg, rest⟩ := σ
    have hw : ∀ x ∈ wordEnd s ws bg (f + k), x.1.size ≤ s.size := by
      intro x hx
      cases bg with
      | none => exact ih x hx
      | some n =>
        rcases List.mem_append.1 hx with hx | hx
        · exact ih x hx
        · rw [List.mem_singleton.1 hx]; exact extract_size_le s n (f + k)
    unfold lnStep
    dsimp only at ih ⊢
    split
    · exact ih
    · split
      · exact hw
      · split
        · exact hw
        · cases bg <;> exact ih
theorem wordsAt_sizes (s : ByteArray) (f k : Nat) : ∀ x ∈ wordsAt s f k, x.1.size ≤ s.size := by
  have ih := lnScan_sizes s f k
  unfold wordsAt
  generalize lnScan s f k = σ at *
  obtain ⟨ws, bg, rest⟩ := σ
  intro x hx
  cases bg with
  | none => exact ih x hx
  | some n =>
    rcases List.mem_append.1 hx with hx | hx
    · exact ih x hx
    · rw [List.mem_singleton.1 hx]; exact extract_size_le s n (f + k)
end
end Go.Proofs.YtbkpbcmjgbdbkaaGreatDoor

/-! X1 -/
namespace Go.Proofs.YtbkpbcmjgbdbkaaGreatDoor
open Go.RowKit Go.Lib
set_option linter.unusedVariables false
set_option linter.unusedSimpArgs false
set_option maxRecDepth 100000
set_option pp.maxSteps 2500

theorem info82 : (Tryz.prog.info? 82).map (fun i => (i.zero, i.size, i.bytes)) = some (some (.agg #[.string ⟨#[]⟩, .int .i64 0]), 2, 24) := by kernel_rfl
/-- Lb is the line of s that begins at f. -/
structure LineOf (s : ByteArray) (f : Nat) (Lb : ByteArray) : Prop where
  fits : f + Lb.size ≤ s.size
  byte : ∀ i (h : i < Lb.size), ((Lb[i]'h).toNat : Int) = (byteAt s (f + i) : Int)
  cut : ∀ i k, i ≤ k → k ≤ Lb.size → Lb.extract i k = s.extract (f + i) (f + k)
theorem lineOf_extract (s : ByteArray) (f e : Nat) (hf : f ≤ e) (he : e ≤ s.size) : LineOf s f (s.extract f e) ∧ (s.extract f e).size = e - f := by
  have hsz : (s.extract f e).size = e - f := by rw [ByteArray.size_extract]; omega
  refine ⟨⟨by rw [hsz]; omega, fun i h => ?_, fun i k h1 h2 => ?_⟩, hsz⟩
  · obtain ⟨c, hc1, hc2⟩ := bytes_get (s.extract f e) i h
    rw [hc2]
    have hb : (s.extract f e).data.toList = (s.data.toList.drop f).take (e - f) := by
      rw [ByteArray.data_extract, Array.toList_extract]
    rw [hb, List.getElem?_take, if_pos (by omega), List.getElem?_drop] at hc1
    unfold byteAt
    rw [List.getD_eq_getElem?_getD, hc1, Option.getD_some]
  · rw [hsz] at h2
    apply ByteArray.ext
    apply Array.ext'
    rw [ByteArray.data_extract, ByteArray.data_extract, ByteArray.data_extract, Array.toList_extract, Array.toList_extract, Array.toList_extract]
    simp only [List.extract_eq_take_drop]
    rw [List.drop_take, List.take_take, List.drop_drop]
    congr 1
    omega
def WordsPost (s : ByteArray) (f n : Nat) (w : World) (e : Ending) (w' : World) : Prop :=
  ∃ v, e = .returned v ∧ w'.ownsRow w.heap.size 82 2 v (wordsAt s f n).length (wdCells (wordsAt s f n)) ∧ Turn (fun _ => False) w w'
set_option maxHeartbeats 4000000 in
theorem rwords_any (s Lb : ByteArray) (f : Nat) (hs : s.size ≤ 100000) (hL : LineOf s f Lb) (w : World) : Calls Tryz.prog 22 #[.string Lb, .int .i64 (f : Int)] w (WordsPost s f Lb.size w) := by
  obtain ⟨i0, hi0, hz0, hz1, hz2⟩ := info_parts info82
  have hfit := hL.fits
  have hsz : Lb.size ≤ 100000 := by omega
  have hf5 : f ≤ 100000 := by omega
  have HL := Lib.hid hL
  clear hL hfit hs
  go_enter Tryz.func22, Tryz.ntmps22
  go_wp2_with fail
  go_loopg [5, 6] Lb.size (fun g v t wr => ∃ (i : Nat) (L : List Wd), g = Lb.size - i ∧ t = .int .i64 (i : Int) ∧ i ≤ Lb.size ∧ L.length ≤ i ∧ Hid (wr.ownsRow w.heap.size 82 2 v L.length (wdCells L) ∧ Gath s f Lb.size i L ∧ Turn (fun _ => False) w wr))
  case atStart => exact ⟨0, [], rfl, rfl, Nat.zero_le _, Nat.le_refl _, Lib.hid ⟨World.ownsRow_nil _ _ _ _, Gath.start _ _ _, Turn.refl _ _⟩⟩
  case round =>
    obtain ⟨i, L, rfl, rfl, hi, hLi, HR⟩ := hrel
    have n1 : (0 : Int) ≤ (i : Int) := by omega
    by_cases hlt : i < Lb.size
    · have n2 : (i : Int) < (Lb.size : Int) := by omega
      obtain ⟨c, hci⟩ : ∃ c, Lb[i]'hlt = c := ⟨_, rfl⟩
      have hcb : (c.toNat : Int) = (byteAt s (f + i) : Int) := by rw [← hci]; exact HL.out.byte i hlt
      have HCB := Lib.hid hcb
      clear hcb
      by_cases h35 : c.toNat = 35
      · have b1 : ((c.toNat : Int) != 35) = false := by simp; omega
        have hw := HR.out.2.1.comment (by have := HCB.out; omega) hlt
        have HF := Lib.hid (And.intro hw HR.out)
        clear hw HR h35
        go_wp2_with fail
        go_ret
        exact ⟨_, rfl, by rw [HF.out.1]; exact HF.out.2.1, HF.out.2.2.2⟩
      · have b1 : ((c.toNat : Int) != 35) = true := by simp; omega
        by_cases h32 : c.toNat = 32
        · have b2 : ((c.toNat : Int) == 32) = true := by simp; omega
          have hg := HR.out.2.1.blank (by have := HCB.out; omega)
          have HF := Lib.hid (And.intro HR.out.1 (And.intro hg HR.out.2.2))
          clear hg HR h32 h35
          go_wp2_with fail
          go_roundg (Lb.size - (i + 1))
          case measure => omega
          case rel => exact ⟨i + 1, L, rfl, by go_num, by omega, by omega, HF⟩
        · have b2 : ((c.toNat : Int) == 32) = false := by simp; omega
          have hord : byteAt s (f + i) ≠ 32 ∧ byteAt s (f + i) ≠ 35 := by have := HCB.out; omega
          have HO := Lib.hid hord
          clear hord h32 h35
          go_wp2_with fail
          go_loopg [7] (Lb.size - i) (fun g t wq => ∃ k : Nat, g = Lb.size - k ∧ t = .int .i64 (k : Int) ∧ i ≤ k ∧ k ≤ Lb.size ∧ wq = wr ∧ Hid (∀ j, i ≤ j → j < k → byteAt s (f + j) ≠ 32 ∧ byteAt s (f + j) ≠ 35))
          case atStart => exact ⟨i, rfl, rfl, Nat.le_refl _, by omega, rfl, Lib.hid (fun j h1 h2 => by omega)⟩
          case round =>
            obtain ⟨k, rfl, rfl, hik, hk, rfl, HW⟩ := hrel
            clear b1 b2 hci
            have m1 : (0 : Int) ≤ (k : Int) := by omega
            have m3 : (i : Int) ≤ (k : Int) := by omega
            by_cases hlk : k < Lb.size
            · have m2 : (k : Int) < (Lb.size : Int) := by omega
              obtain ⟨d, hdi⟩ : ∃ d, Lb[k]'hlk = d := ⟨_, rfl⟩
              have hdb : (d.toNat : Int) = (byteAt s (f + k) : Int) := by rw [← hdi]; exact HL.out.byte k hlk
              have HDB := Lib.hid hdb
              clear hdb
              by_cases hstop : d.toNat = 32 ∨ d.toNat = 35
              · have hik2 : i < k := by
                  rcases Nat.lt_or_ge i k with h | h
                  · exact h
                  · have : i = k := by omega
                    subst this
                    have := HDB.out
                    have := HO.out
                    omega
                have hg := HR.out.2.1.word hlt hik2 hk HW.out (by have := HDB.out; omega)
                have hcut := HL.out.cut i k (by omega) hk
                have HF := Lib.hid (And.intro hg (And.intro hcut HR.out))
                have hR5 := HR.out.1.alloc (.cells #[.string (Lb.extract i k), .int .i64 ((f : Int) + (i : Int))] 82)
                clear hg hcut HR HW
                rcases hstop with h32 | h35
                · have b3 : ((d.toNat : Int) != 32) = false := by simp; omega
                  go_wp2_with (at_builtin; refine wpList_append_own_at _ rfl _ _ 69 rfl w.heap.size 82 i0 (.agg #[.string ⟨#[]⟩, .int .i64 0]) 2 24 Tryz.underlying69 hi0 hz0 hz1 hz2 rfl (by decide) _ _ _ rfl hR5 ⟨wr.heap.size, 0, none⟩ 1 1 [.string (Lb.extract i k), .int .i64 ((f : Int) + (i : Int))] rfl rfl (World.news_of_block (block_alloc_new _ _)) (by intro u hu; simp at hu; rcases hu with rfl | rfl <;> rfl) (by unfold maxLen; omega) (by omega) (by have := HF.out.2.2.2.2.size; simp; omega) ?_)
                  intro v' w' hown' hgrow _ _
                  have t2 : Turn (fun _ => False) w w' := (HF.out.2.2.2.2.alloc _).trans2 (turn_of_grown hgrow) (fun j hj e => by have := (hR5.lt j e).1; omega)
                  have hown2 : w'.ownsRow w.heap.size 82 2 v' (L ++ [(s.extract (f + i) (f + k), f + i)]).length (wdCells (L ++ [(s.extract (f + i) (f + k), f + i)])) := by
                    rw [List.length_append, wdCells_snoc, ← HF.out.2.1]
                    exact hown'
                  have HE := Lib.hid (And.intro hown2 (And.intro HF.out.1 t2))
                  clear hgrow hR5 hown' t2 hown2
                  go_wp2_with fail
                  go_roundg (Lb.size - k)
                  case measure => omega
                  case rel => exact ⟨k, _, rfl, rfl, hk, by simp only [List.length_append, List.length_singleton]; omega, HE⟩
                · have b3 : ((d.toNat : Int) != 32) = true := by simp; omega
                  have b4 : ((d.toNat : Int) != 35) = false := by simp; omega
                  go_wp2_with (at_builtin; refine wpList_append_own_at _ rfl _ _ 69 rfl w.heap.size 82 i0 (.agg #[.string ⟨#[]⟩, .int .i64 0]) 2 24 Tryz.underlying69 hi0 hz0 hz1 hz2 rfl (by decide) _ _ _ rfl hR5 ⟨wr.heap.size, 0, none⟩ 1 1 [.string (Lb.extract i k), .int .i64 ((f : Int) + (i : Int))] rfl rfl (World.news_of_block (block_alloc_new _ _)) (by intro u hu; simp at hu; rcases hu with rfl | rfl <;> rfl) (by unfold maxLen; omega) (by omega) (by have := HF.out.2.2.2.2.size; simp; omega) ?_)
                  intro v' w' hown' hgrow _ _
                  have t2 : Turn (fun _ => False) w w' := (HF.out.2.2.2.2.alloc _).trans2 (turn_of_grown hgrow) (fun j hj e => by have := (hR5.lt j e).1; omega)
                  have hown2 : w'.ownsRow w.heap.size 82 2 v' (L ++ [(s.extract (f + i) (f + k), f + i)]).length (wdCells (L ++ [(s.extract (f + i) (f + k), f + i)])) := by
                    rw [List.length_append, wdCells_snoc, ← HF.out.2.1]
                    exact hown'
                  have HE := Lib.hid (And.intro hown2 (And.intro HF.out.1 t2))
                  clear hgrow hR5 hown' t2 hown2
                  go_wp2_with fail
                  go_roundg (Lb.size - k)
                  case measure => omega
                  case rel => exact ⟨k, _, rfl, rfl, hk, by simp only [List.length_append, List.length_singleton]; omega, HE⟩
              · have b3 : ((d.toNat : Int) != 32) = true := by simp; omega
                have b4 : ((d.toNat : Int) != 35) = true := by simp; omega
                have hall : ∀ j, i ≤ j → j < k + 1 → byteAt s (f + j) ≠ 32 ∧ byteAt s (f + j) ≠ 35 := fun j h1 h2 => by
                  by_cases h : j < k
                  · exact HW.out j h1 h
                  · have : j = k := by omega
                    subst this
                    have := HDB.out
                    omega
                have HW2 := Lib.hid hall
                clear hall HW
                go_wp2_with fail
                go_roundg (Lb.size - (k + 1))
                case measure => omega
                case rel => exact ⟨k + 1, rfl, by go_num, by omega, by omega, rfl, HW2⟩
            · have m2 : ¬ (k : Int) < (Lb.size : Int) := by omega
              have hik2 : i < k := by omega
              have hg := HR.out.2.1.word hlt hik2 hk HW.out (by omega)
              have hcut := HL.out.cut i k (by omega) hk
              have HF := Lib.hid (And.intro hg (And.intro hcut HR.out))
              have hR5 := HR.out.1.alloc (.cells #[.string (Lb.extract i k), .int .i64 ((f : Int) + (i : Int))] 82)
              have m4 : (k : Int) ≤ (Lb.size : Int) := by omega
              clear hg hcut HR HW
              go_wp2_with (at_builtin; refine wpList_append_own_at _ rfl _ _ 69 rfl w.heap.size 82 i0 (.agg #[.string ⟨#[]⟩, .int .i64 0]) 2 24 Tryz.underlying69 hi0 hz0 hz1 hz2 rfl (by decide) _ _ _ rfl hR5 ⟨wr.heap.size, 0, none⟩ 1 1 [.string (Lb.extract i k), .int .i64 ((f : Int) + (i : Int))] rfl rfl (World.news_of_block (block_alloc_new _ _)) (by intro u hu; simp at hu; rcases hu with rfl | rfl <;> rfl) (by unfold maxLen; omega) (by omega) (by have := HF.out.2.2.2.2.size; simp; omega) ?_)
              intro v' w' hown' hgrow _ _
              have t2 : Turn (fun _ => False) w w' := (HF.out.2.2.2.2.alloc _).trans2 (turn_of_grown hgrow) (fun j hj e => by have := (hR5.lt j e).1; omega)
              have hown2 : w'.ownsRow w.heap.size 82 2 v' (L ++ [(s.extract (f + i) (f + k), f + i)]).length (wdCells (L ++ [(s.extract (f + i) (f + k), f + i)])) := by
                rw [List.length_append, wdCells_snoc, ← HF.out.2.1]
                exact hown'
              have HE := Lib.hid (And.intro hown2 (And.intro HF.out.1 t2))
              clear hgrow hR5 hown' t2 hown2
              go_wp2_with fail
              go_roundg (Lb.size - k)
              case measure => omega
              case rel => exact ⟨k, _, rfl, rfl, hk, by simp only [List.length_append, List.length_singleton]; omega, HE⟩
    · have n2 : ¬ (i : Int) < (Lb.size : Int) := by omega
      obtain rfl : i = Lb.size := by omega
      have hw := HR.out.2.1.words
      have HF := Lib.hid (And.intro hw HR.out)
      clear hw HR
      go_wp2_with fail
      go_ret
      exact ⟨_, rfl, by rw [HF.out.1]; exact HF.out.2.1, HF.out.2.2.2⟩
end Go.Proofs.YtbkpbcmjgbdbkaaGreatDoor
