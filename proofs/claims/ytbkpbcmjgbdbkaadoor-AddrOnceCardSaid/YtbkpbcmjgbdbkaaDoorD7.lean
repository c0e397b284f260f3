/- Addresses' texts: the plain laws. No program in sight. -/
import Derived.Test.YtbkpbcmjgbdbkaaDoorD5
namespace Go.Proofs.YtbkpbcmjgbdbkaaDoor
open Go.RowKit Go.Lib
set_option linter.unusedVariables false
set_option linter.unusedSimpArgs false

/-! ### numbers -/
theorem byte_of {c : UInt8} {n : Nat} (h : c.toNat = n) : c = UInt8.ofNat n := by
  apply UInt8.toNat_inj.1
  have := c.toNat_lt
  rw [UInt8.toNat_ofNat', h]
  omega
theorem byte_nat {n : Nat} (h : n < 256) : (UInt8.ofNat n).toNat = n := by
  rw [UInt8.toNat_ofNat']; omega
theorem numGo_append (most : Nat) (l r : List UInt8) (m : Nat) : numGo most (l ++ r) m = (numGo most l m).bind (numGo most r) := by
  induction l generalizing m with
  | nil => rfl
  | cons c l ih =>
    rw [List.cons_append]
    unfold numGo
    split
    · exact ih _
    · rfl
theorem numGo_one (most m d : Nat) (hd : d < 10) : numGo most [UInt8.ofNat (48 + d)] m = if 10 * m + d ≤ most then some (10 * m + d) else none := by
  have e := byte_nat (show 48 + d < 256 by omega)
  unfold numGo
  rw [e, show 48 + d - 48 = d by omega]
  by_cases h : 10 * m + d ≤ most
  · rw [if_pos ⟨by omega, by omega, h⟩, if_pos h]; rfl
  · rw [if_neg (fun q => h q.2.2), if_neg h]
theorem numGo_dec (most n : Nat) : numGo most (decL n) 0 = if n ≤ most then some n else none := by
  induction n using Nat.strongRecOn with
  | _ n ih =>
    by_cases h : n < 10
    · rw [decL_one h, numGo_one most 0 n h]
      simp
    · rw [decL_more h, numGo_append, ih (n / 10) (by omega)]
      by_cases h2 : n / 10 ≤ most
      · rw [if_pos h2]
        show numGo most _ (n / 10) = _
        rw [numGo_one most (n / 10) (n % 10) (by omega), show 10 * (n / 10) + n % 10 = n by omega]
      · rw [if_neg h2, if_neg (by omega)]; rfl
theorem decL_ne (n : Nat) : decL n ≠ [] := by
  by_cases h : n < 10
  · rw [decL_one h]; simp
  · rw [decL_more h]; simp
theorem decL_head (n : Nat) (h : 1 ≤ n) : (decL n).head? ≠ some 48 := by
  induction n using Nat.strongRecOn with
  | _ n ih =>
    by_cases h9 : n < 10
    · rw [decL_one h9]
      simp only [List.head?_cons, ne_eq, Option.some.injEq]
      intro e
      have := congrArg UInt8.toNat e
      rw [byte_nat (by omega)] at this
      have h48 : (48 : UInt8).toNat = 48 := rfl
      omega
    · have hne := decL_ne (n / 10)
      rw [decL_more h9, List.head?_append, List.head?_eq_some_head hne]
      have := ih (n / 10) (by omega) (by omega)
      rw [List.head?_eq_some_head hne] at this
      simpa using this
theorem decL_digits (n : Nat) : ∀ c ∈ decL n, 48 ≤ c.toNat ∧ c.toNat ≤ 57 := by
  induction n using Nat.strongRecOn with
  | _ n ih =>
    intro c hc
    by_cases h9 : n < 10
    · rw [decL_one h9, List.mem_singleton] at hc
      rw [hc, byte_nat (by omega)]; omega
    · rw [decL_more h9, List.mem_append, List.mem_singleton] at hc
      rcases hc with hc | hc
      · exact ih (n / 10) (by omega) c hc
      · rw [hc, byte_nat (by omega)]; omega
theorem decL_miss {c : UInt8} (h : c.toNat < 48 ∨ 57 < c.toNat) (n : Nat) : c ∉ decL n := fun hc => by
  have := decL_digits n c hc; omega
theorem numOf_dec (n most : Nat) : numOf (decL n) most = if n ≤ most then some n else none := by
  unfold numOf
  rw [if_neg, numGo_dec]
  rintro (e | ⟨e1, e2⟩)
  · exact decL_ne n e
  · by_cases h : 1 ≤ n
    · exact decL_head n h e2
    · rw [show n = 0 by omega, decL_one (by omega)] at e1; simp at e1
theorem numOf_nought_dec (n most : Nat) : numOf (48 :: decL n) most = none := by
  have := List.length_pos_iff.2 (decL_ne n)
  unfold numOf
  rw [if_pos (Or.inr ⟨by simp only [List.length_cons]; omega, rfl⟩)]
theorem numGo_read {most : Nat} {l : List UInt8} {m x : Nat} (hm : 1 ≤ m) (h : numGo most l m = some x) : decL x = decL m ++ l := by
  induction l generalizing m with
  | nil => simp only [numGo, Option.some.injEq] at h; rw [h]; simp
  | cons c l ih =>
    unfold numGo at h
    split at h
    · rename_i hc
      have hx := ih (by omega) h
      rw [hx, decL_more (by omega), show (10 * m + (c.toNat - 48)) / 10 = m by omega, show (10 * m + (c.toNat - 48)) % 10 = c.toNat - 48 by omega,
        show 48 + (c.toNat - 48) = c.toNat by omega, ← byte_of rfl]
      simp
    · cases h
theorem numGo_le {most : Nat} {l : List UInt8} {m x : Nat} (hm : m ≤ most) (h : numGo most l m = some x) : x ≤ most := by
  induction l generalizing m with
  | nil => simp only [numGo, Option.some.injEq] at h; omega
  | cons c l ih =>
    unfold numGo at h
    split at h
    · rename_i hc; exact ih hc.2.2 h
    · cases h
theorem numOf_le {most : Nat} {l : List UInt8} {x : Nat} (h : numOf l most = some x) : x ≤ most := by
  unfold numOf at h
  split at h
  · cases h
  · exact numGo_le (Nat.zero_le _) h
theorem numOf_read {most : Nat} {l : List UInt8} {x : Nat} (h : numOf l most = some x) : decL x = l := by
  unfold numOf at h
  split at h
  · cases h
  · rename_i hn
    match l, hn, h with
    | [], hn, _ => simp at hn
    | c :: r, hn, h =>
      unfold numGo at h
      split at h
      · rename_i hc
        by_cases hr : r = []
        · subst hr
          simp only [numGo, Option.some.injEq] at h
          rw [← h, decL_one (by omega), show 48 + (10 * 0 + (c.toNat - 48)) = c.toNat by omega, ← byte_of rfl]
        · have hc48 : c ≠ 48 := fun e => hn (Or.inr ⟨by have := List.length_pos_iff.2 hr; simp only [List.length_cons]; omega, by rw [e]; rfl⟩)
          have hc49 : c.toNat ≠ 48 := fun e => hc48 (UInt8.toNat_inj.1 e)
          have := numGo_read (show 1 ≤ 10 * 0 + (c.toNat - 48) by omega) h
          rw [this, decL_one (by omega), show 48 + (10 * 0 + (c.toNat - 48)) = c.toNat by omega, ← byte_of rfl]
          rfl
      · cases h

/-! ### parts and their joining -/
def joinL (c : UInt8) : List (List UInt8) → List UInt8
  | [] => []
  | [p] => p
  | p :: q :: r => p ++ c :: joinL c (q :: r)
theorem splitL_join {c : UInt8} (ps : List (List UInt8)) (hne : ps ≠ []) (h : ∀ p ∈ ps, c ∉ p) : splitL c (joinL c ps) = ps := by
  induction ps with
  | nil => exact absurd rfl hne
  | cons p ps ih =>
    match ps, ih, h with
    | [], _, h => exact splitL_miss (h p (by simp))
    | q :: r, ih, h =>
      show splitL c (p ++ c :: joinL c (q :: r)) = _
      rw [splitL_hit (h p (by simp)), ih (by simp) (fun x hx => h x (List.mem_cons_of_mem _ hx))]
theorem join_splitL (c : UInt8) (l : List UInt8) : joinL c (splitL c l) = l := by
  induction l with
  | nil => rfl
  | cons b l ih =>
    unfold splitL
    have hne := splitL_ne c l
    match hs : splitL c l with
    | [] => exact absurd hs hne
    | p :: ps =>
      rw [hs] at ih
      split
      · rename_i hb
        show ([] : List UInt8) ++ c :: joinL c (p :: ps) = b :: l
        rw [ih, hb]; rfl
      · match ps, ih with
        | [], ih => show b :: p = b :: l; rw [← ih]; rfl
        | q :: r, ih => show (b :: p) ++ c :: joinL c (q :: r) = b :: l; rw [← ih]; rfl
theorem splitL_len {c : UInt8} {l p : List UInt8} (h : p ∈ splitL c l) : p.length ≤ l.length := by
  induction l generalizing p with
  | nil => simp [splitL] at h; simp [h]
  | cons b l ih =>
    unfold splitL at h
    split at h
    · rcases List.mem_cons.1 h with h | h
      · rw [h]; simp
      · have := ih h; simp; omega
    · split at h
      · rw [List.mem_singleton] at h; rw [h]; simp
      · rename_i q qs hs
        rcases List.mem_cons.1 h with h | h
        · have := ih (p := q) (by rw [hs]; simp)
          rw [h]; simp; omega
        · have := ih (p := p) (by rw [hs]; simp [h])
          simp; omega

/-! ### addresses -/
def ipGo : List (List UInt8) → Nat → Option Nat
  | [], n => some n
  | p :: ps, n => match numOf p 255 with
    | some x => ipGo ps (n * 256 + x)
    | none => none
def ipOf (l : List UInt8) : Option Nat := if (splitL 46 l).length = 4 then ipGo (splitL 46 l) 0 else none
def ipText (n : Nat) : List UInt8 := joinL 46 [decL (n / 16777216), decL (n / 65536 % 256), decL (n / 256 % 256), decL (n % 256)]
theorem numOf_byte {n : Nat} (h : n < 256) : numOf (decL n) 255 = some n := by rw [numOf_dec, if_pos (by omega)]
theorem ipOf_text (n : Nat) (h : n < 4294967296) : ipOf (ipText n) = some n := by
  have e : splitL 46 (ipText n) = [decL (n / 16777216), decL (n / 65536 % 256), decL (n / 256 % 256), decL (n % 256)] :=
    splitL_join _ (by simp) (fun p hp => by
      simp only [List.mem_cons, List.not_mem_nil, or_false] at hp
      rcases hp with rfl | rfl | rfl | rfl <;> exact decL_miss (by decide) _)
  unfold ipOf
  rw [e, if_pos (by rfl)]
  simp only [ipGo]
  rw [numOf_byte (show n / 16777216 < 256 by omega), numOf_byte (show n / 65536 % 256 < 256 by omega), numOf_byte (show n / 256 % 256 < 256 by omega), numOf_byte (show n % 256 < 256 by omega)]
  simp only [ipGo, Option.some.injEq]
  omega
theorem ipOf_read {l : List UInt8} {n : Nat} (h : ipOf l = some n) : ipText n = l ∧ n < 4294967296 := by
  unfold ipOf at h
  split at h
  · rename_i h4
    have hj := join_splitL 46 l
    match hs : splitL 46 l, h4 with
    | [a, b, c, d], _ =>
      rw [hs] at h hj
      simp only [ipGo] at h
      split at h <;> try (cases h; done)
      rename_i x hx
      split at h <;> try (cases h; done)
      rename_i y hy
      split at h <;> try (cases h; done)
      rename_i z hz
      split at h <;> try (cases h; done)
      rename_i t ht
      simp only [Option.some.injEq] at h
      have h1 := numOf_le hx; have h2 := numOf_le hy; have h3 := numOf_le hz; have h4 := numOf_le ht
      have g1 := numOf_read hx; have g2 := numOf_read hy; have g3 := numOf_read hz; have g4 := numOf_read ht
      refine ⟨?_, by omega⟩
      rw [← hj]
      unfold ipText
      rw [show n / 16777216 = x by omega, show n / 65536 % 256 = y by omega, show n / 256 % 256 = z by omega, show n % 256 = t by omega, g1, g2, g3, g4]
  · cases h
theorem ipOf_lt {l : List UInt8} {n : Nat} (h : ipOf l = some n) : n < 4294967296 := (ipOf_read h).2

/-! ### bytes of two digits -/
def hexOf (c : UInt8) : Option Nat :=
  if 48 ≤ c.toNat ∧ c.toNat ≤ 57 then some (c.toNat - 48) else if 97 ≤ c.toNat ∧ c.toNat ≤ 102 then some (c.toNat - 87) else none
def pairsOf : List UInt8 → Option (List Nat)
  | [] => some []
  | [_] => none
  | a :: b :: r => match hexOf a, hexOf b, pairsOf r with
    | some x, some y, some l => some ((16 * x + y) :: l)
    | _, _, _ => none
def hexD (d : Nat) : UInt8 := UInt8.ofNat (if d < 10 then 48 + d else 87 + d)
def hexL (b : Nat) : List UInt8 := [hexD (b / 16), hexD (b % 16)]
def macGo : List (List UInt8) → Option (List Nat)
  | [] => some []
  | p :: ps => if p.length = 2 then match pairsOf p, macGo ps with
    | some [x], some l => some (x :: l)
    | _, _ => none
    else none
def macOf (l : List UInt8) : Option (List Nat) := if (splitL 58 l).length = 6 then macGo (splitL 58 l) else none
def keyOf (l : List UInt8) : Option (List Nat) := if l.length = 16 then pairsOf l else none
def macText (m : List Nat) : List UInt8 := joinL 58 (m.map hexL)
def keyText (k : List Nat) : List UInt8 := (k.map hexL).flatten
theorem hexOf_D {d : Nat} (h : d < 16) : hexOf (hexD d) = some d := by
  unfold hexOf hexD
  by_cases h9 : d < 10
  · rw [if_pos h9, byte_nat (by omega), if_pos (by omega), show 48 + d - 48 = d by omega]
  · rw [if_neg h9, byte_nat (by omega), if_neg (by omega), if_pos (by omega), show 87 + d - 87 = d by omega]
theorem hexOf_read {c : UInt8} {d : Nat} (h : hexOf c = some d) : hexD d = c ∧ d < 16 := by
  unfold hexOf at h
  split at h
  · simp only [Option.some.injEq] at h
    refine ⟨?_, by omega⟩
    unfold hexD
    rw [if_pos (by omega)]
    exact (byte_of (by omega)).symm
  · split at h
    · simp only [Option.some.injEq] at h
      refine ⟨?_, by omega⟩
      unfold hexD
      rw [if_neg (by omega)]
      exact (byte_of (by omega)).symm
    · cases h
theorem pairsOf_hex (l : List Nat) (h : ∀ b ∈ l, b < 256) : pairsOf (keyText l) = some l := by
  induction l with
  | nil => rfl
  | cons b l ih =>
    show pairsOf (hexD (b / 16) :: hexD (b % 16) :: keyText l) = _
    have hb := h b (by simp)
    rw [pairsOf, hexOf_D (by omega), hexOf_D (by omega), ih (fun x hx => h x (by simp [hx]))]
    show some _ = some _
    rw [show 16 * (b / 16) + b % 16 = b by omega]
theorem pairsOf_read : ∀ (p : List UInt8) {l : List Nat}, pairsOf p = some l → keyText l = p ∧ (∀ b ∈ l, b < 256) ∧ p.length = 2 * l.length
  | [], l, h => by simp only [pairsOf, Option.some.injEq] at h; subst h; exact ⟨rfl, by simp, rfl⟩
  | [_], l, h => by simp [pairsOf] at h
  | a :: b :: r, l, h => by
    rw [pairsOf] at h
    split at h
    · rename_i x y l' hx hy hl
      simp only [Option.some.injEq] at h
      obtain ⟨i1, i2, i3⟩ := pairsOf_read r hl
      have ha := hexOf_read hx
      have hb := hexOf_read hy
      subst h
      refine ⟨?_, ?_, by simp [i3]; omega⟩
      · show hexD ((16 * x + y) / 16) :: hexD ((16 * x + y) % 16) :: keyText l' = _
        rw [show (16 * x + y) / 16 = x by omega, show (16 * x + y) % 16 = y by omega, ha.1, hb.1, i1]
      · intro c hc
        rcases List.mem_cons.1 hc with rfl | hc
        · omega
        · exact i2 c hc
    · cases h
theorem keyText_len (l : List Nat) : (keyText l).length = 2 * l.length := by
  induction l with
  | nil => rfl
  | cons b l ih =>
    show (hexD (b / 16) :: hexD (b % 16) :: keyText l).length = _
    simp only [List.length_cons]; omega
theorem keyOf_text (l : List Nat) (h8 : l.length = 8) (h : ∀ b ∈ l, b < 256) : keyOf (keyText l) = some l := by
  unfold keyOf
  rw [if_pos (by rw [keyText_len]; omega), pairsOf_hex l h]
theorem keyOf_read {p : List UInt8} {l : List Nat} (h : keyOf p = some l) : keyText l = p ∧ l.length = 8 ∧ ∀ b ∈ l, b < 256 := by
  unfold keyOf at h
  split at h
  · obtain ⟨h1, h2, h3⟩ := pairsOf_read _ h
    exact ⟨h1, by omega, h2⟩
  · cases h
theorem hexL_one (b : Nat) : hexL b = keyText [b] := by simp [keyText]
theorem macGo_hex (l : List Nat) (h : ∀ b ∈ l, b < 256) : macGo (l.map hexL) = some l := by
  induction l with
  | nil => rfl
  | cons b l ih =>
    show macGo (hexL b :: l.map hexL) = _
    rw [macGo, if_pos (by rfl), hexL_one, pairsOf_hex [b] (by simpa using h b (by simp)), ih (fun x hx => h x (by simp [hx]))]
theorem macGo_read : ∀ {ps : List (List UInt8)} {l : List Nat}, macGo ps = some l → l.map hexL = ps ∧ (∀ b ∈ l, b < 256) ∧ l.length = ps.length := by
  intro ps
  induction ps with
  | nil => intro l h; simp only [macGo, Option.some.injEq] at h; subst h; exact ⟨rfl, by simp, rfl⟩
  | cons p ps ih =>
    intro l h
    rw [macGo] at h
    split at h
    · split at h
      · rename_i x l' hx hl
        simp only [Option.some.injEq] at h
        subst h
        obtain ⟨i1, i2, i3⟩ := ih hl
        obtain ⟨j1, j2, _⟩ := pairsOf_read _ hx
        refine ⟨?_, ?_, by simp [i3]⟩
        · rw [List.map_cons, i1, hexL_one, j1]
        · intro c hc
          rcases List.mem_cons.1 hc with rfl | hc
          · exact j2 c (by simp)
          · exact i2 c hc
      · cases h
    · cases h
theorem hexD_range {d : Nat} (h : d < 16) : (48 ≤ (hexD d).toNat ∧ (hexD d).toNat ≤ 57) ∨ (97 ≤ (hexD d).toNat ∧ (hexD d).toNat ≤ 102) := by
  unfold hexD
  by_cases h9 : d < 10
  · rw [if_pos h9, byte_nat (by omega)]; omega
  · rw [if_neg h9, byte_nat (by omega)]; omega
theorem hexL_miss {b : Nat} (hb : b < 256) : (58 : UInt8) ∉ hexL b := by
  intro hc
  have h58 : (58 : UInt8).toNat = 58 := rfl
  simp only [hexL, List.mem_cons, List.not_mem_nil, or_false] at hc
  rcases hc with hc | hc
  · have := hexD_range (show b / 16 < 16 by omega); rw [← hc] at this; omega
  · have := hexD_range (show b % 16 < 16 by omega); rw [← hc] at this; omega
theorem macOf_text (l : List Nat) (h6 : l.length = 6) (h : ∀ b ∈ l, b < 256) : macOf (macText l) = some l := by
  have e : splitL 58 (macText l) = l.map hexL := splitL_join _ (by intro e; rw [List.map_eq_nil_iff] at e; rw [e] at h6; cases h6) (fun p hp => by
    obtain ⟨b, hb, rfl⟩ := List.mem_map.1 hp
    exact hexL_miss (h b hb))
  unfold macOf
  rw [e, if_pos (by simp [h6]), macGo_hex l h]
theorem macOf_read {p : List UInt8} {l : List Nat} (h : macOf p = some l) : macText l = p ∧ l.length = 6 ∧ ∀ b ∈ l, b < 256 := by
  unfold macOf at h
  split at h
  · rename_i h6
    obtain ⟨h1, h2, h3⟩ := macGo_read h
    refine ⟨?_, by omega, h2⟩
    unfold macText
    rw [h1, join_splitL]
  · cases h
end Go.Proofs.YtbkpbcmjgbdbkaaDoor
