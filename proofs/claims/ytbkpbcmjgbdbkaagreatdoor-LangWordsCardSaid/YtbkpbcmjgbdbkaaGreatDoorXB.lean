/- The reference's Parse: its plain law; how the world stands in its loop. No condition. -/
import Derived.Test.YtbkpbcmjgbdbkaaGreatDoorMO
import Derived.Test.YtbkpbcmjgbdbkaaGreatDoorMH
namespace Go.Proofs.YtbkpbcmjgbdbkaaGreatDoor
open Go.RowKit Go.Lib
set_option linter.unusedVariables false
set_option linter.unusedSimpArgs false
set_option maxRecDepth 100000

theorem restP_snoc (X : List Wd × Nat) : ∀ (O : List (List Wd × Nat)) (c : Cfg), restP (O ++ [X]) c = match restP O c with | .error pl => .error pl | .ok c' => lineP c' X
  | [], c => by
    show restP [X] c = lineP c X
    unfold restP
    cases lineP c X <;> rfl
  | Y :: O, c => by
    show restP (Y :: (O ++ [X])) c = _
    unfold restP
    cases hY : lineP c Y with
    | error pl => rfl
    | ok c' => exact restP_snoc X O c'
theorem restP_err (t : List (List Wd × Nat)) (pl : Nat) : ∀ (O : List (List Wd × Nat)) (c : Cfg), restP O c = .error pl → restP (O ++ t) c = .error pl
  | [], c, h => by unfold restP at h; cases h
  | Y :: O, c, h => by
    show restP (Y :: (O ++ t)) c = _
    unfold restP at h ⊢
    cases hY : lineP c Y with
    | error p2 => rw [hY] at h; exact h
    | ok c' => rw [hY] at h; exact restP_err t pl O c' h
theorem fromP_ok {n : Nat} {Y : List Wd × Nat} {O : List (List Wd × Nat)} {c : Cfg} (h : headP Y = .ok c) : fromP n (Y :: O) = restP O c := by
  show (match headP Y with | .error pl => (Except.error pl : Except Nat Cfg) | .ok c => restP O c) = _
  rw [h]
theorem fromP_er {n pl : Nat} {Y : List Wd × Nat} {O : List (List Wd × Nat)} (h : headP Y = .error pl) : fromP n (Y :: O) = .error pl := by
  show (match headP Y with | .error pl => (Except.error pl : Except Nat Cfg) | .ok c => restP O c) = _
  rw [h]
theorem fromP_snoc {n : Nat} {O : List (List Wd × Nat)} {X : List Wd × Nat} {c : Cfg} (h0 : O ≠ []) (h : fromP n O = .ok c) : fromP n (O ++ [X]) = lineP c X := by
  cases O with
  | nil => exact absurd rfl h0
  | cons Y O =>
    rcases except_cases (headP Y) with ⟨pl, hY⟩ | ⟨c0, hY⟩
    · rw [fromP_er hY] at h; cases h
    · rw [fromP_ok hY] at h
      show fromP n (Y :: (O ++ [X])) = _
      rw [fromP_ok hY, restP_snoc, h]
theorem fromP_one (n : Nat) (X : List Wd × Nat) : fromP n [X] = headP X := by
  rcases except_cases (headP X) with ⟨pl, hX⟩ | ⟨c0, hX⟩
  · rw [fromP_er hX, hX]
  · rw [fromP_ok hX, hX]; rfl
theorem fromP_err {n pl : Nat} {O t : List (List Wd × Nat)} (h0 : O ≠ []) (h : fromP n O = .error pl) : fromP n (O ++ t) = .error pl := by
  cases O with
  | nil => exact absurd rfl h0
  | cons Y O =>
    show fromP n (Y :: (O ++ t)) = _
    rcases except_cases (headP Y) with ⟨p2, hY⟩ | ⟨c0, hY⟩
    · rw [fromP_er hY] at h ⊢; exact h
    · rw [fromP_ok hY] at h ⊢; exact restP_err t pl O c0 h
/-- A line read, and nothing left of it. -/
def resP (L : List Wd) : Except Nat (Cfg × Nat) → Except Nat Cfg
  | .error pl => .error pl
  | .ok (c, m) => match doneP L m with
    | .error pl => .error pl
    | .ok _ => .ok c
theorem lineP_res (c : Cfg) (L : List Wd) (en : Nat) : lineP c (L, en) = resP L (bodyR c L en) := by
  unfold lineP bodyR
  dsimp only
  cases h1 : nextP L en 0 with
  | error pl => rfl
  | ok x =>
    dsimp only
    cases h2 : bodyP c x.1 L en x.2 with
    | error pl => rfl
    | ok y => rfl
theorem headP_res (L : List Wd) (en : Nat) : headP (L, en) = resP L (gatewayP L en 0) := by
  unfold headP
  dsimp only
  cases h1 : gatewayP L en 0 with
  | error pl => rfl
  | ok x => rfl
/-- The first error is the text's. -/
theorem conf_err {s : ByteArray} {f k pl : Nat} {O : List (List Wd × Nat)} (hs : s.size ≤ 32768) (h0 : scan s f = ⟨O, [], none, false⟩) (hn : ∀ j, j < k → byteAt s (f + j) ≠ 10) (hW : 0 < (wordsAt s f k).length) (hk : (f + k < s.size ∧ byteAt s (f + k) = 10) ∨ f + k = s.size)
    (h : fromP s.size (O ++ [(wordsAt s f k, f + k)]) = .error pl) : configP s = .error pl := by
  unfold configP
  rw [if_neg (by omega)]
  rcases hk with ⟨h1, h2⟩ | h1
  · have h3 := scan_nl h0 hn h2
    rw [if_pos hW] at h3
    obtain ⟨t, ht⟩ := lines_prefix s (k := f + k + 1) (by omega)
    rw [ht, h3]
    exact fromP_err (by simp) h
  · rw [scan_last h0 hn h1, if_pos hW]
    exact h
theorem gwS_is {L : List Wd} {en : Nat} {s1 s2 s3 s4 s5 s6 s7 s8 : Except Nat Nat} {x d : Nat} {M1 M2 M3 K : List Nat}
    (e1 : s1 = mustS gwName (.ok 0) L en) (e2 : s2 = (readS ipOf s1 L en).map (·.2)) (v2 : ∀ a m, readS ipOf s1 L en = .ok (a, m) → a = x)
    (e3 : s3 = (readS macOf s2 L en).map (·.2)) (v3 : ∀ a m, readS macOf s2 L en = .ok (a, m) → a = M1)
    (e4 : s4 = (readS macOf s3 L en).map (·.2)) (v4 : ∀ a m, readS macOf s3 L en = .ok (a, m) → a = M2)
    (e5 : s5 = (readS macOf s4 L en).map (·.2)) (v5 : ∀ a m, readS macOf s4 L en = .ok (a, m) → a = M3)
    (e6 : s6 = (readS keyOf s5 L en).map (·.2)) (v6 : ∀ a m, readS keyOf s5 L en = .ok (a, m) → a = K)
    (e7 : s7 = mustS drName s6 L en) (e8 : s8 = (readS (fun l => numOf l 4294967295) s7 L en).map (·.2)) (v8 : ∀ a m, readS (fun l => numOf l 4294967295) s7 L en = .ok (a, m) → a = d) :
    s8 = (gatewayP L en 0).map (·.2) ∧ ∀ c m, gatewayP L en 0 = .ok (c, m) → c = ⟨x, M1, M2, M3, K, d, []⟩ := by
  have E : ∀ pl : Nat, gatewayP L en 0 = .error pl → s8 = .error pl → s8 = (gatewayP L en 0).map (·.2) ∧ ∀ c m, gatewayP L en 0 = .ok (c, m) → c = ⟨x, M1, M2, M3, K, d, []⟩ := fun pl h1 h2 => by
    rw [h1, h2]; exact ⟨rfl, fun t m h => by cases h⟩
  have e1 : s1 = mustP gwName L en 0 := e1
  rcases except_cases (mustP gwName L en 0) with ⟨pl, r1⟩ | ⟨n1, r1⟩
  · rw [r1] at e1
    refine E pl (by simp only [gatewayP, r1, bind, Except.bind]) ?_
    subst e1; subst e2; subst e3; subst e4; subst e5; subst e6; subst e7; subst e8
    rfl
  rw [r1] at e1
  subst e1
  have e2 : s2 = (readP ipOf L en n1).map (·.2) := e2
  have v2 : ∀ a m, readP ipOf L en n1 = .ok (a, m) → a = x := v2
  rcases except_cases (readP ipOf L en n1) with ⟨pl, r2⟩ | ⟨⟨a2, n2⟩, r2⟩
  · rw [r2] at e2
    refine E pl (by simp only [gatewayP, r1, r2, bind, Except.bind]) ?_
    subst e2; subst e3; subst e4; subst e5; subst e6; subst e7; subst e8
    rfl
  obtain rfl := v2 a2 n2 r2
  rw [r2] at e2
  subst e2
  have e3 : s3 = (readP macOf L en n2).map (·.2) := e3
  have v3 : ∀ a m, readP macOf L en n2 = .ok (a, m) → a = M1 := v3
  rcases except_cases (readP macOf L en n2) with ⟨pl, r3⟩ | ⟨⟨a3, n3⟩, r3⟩
  · rw [r3] at e3
    refine E pl (by simp only [gatewayP, r1, r2, r3, bind, Except.bind]) ?_
    subst e3; subst e4; subst e5; subst e6; subst e7; subst e8
    rfl
  obtain rfl := v3 a3 n3 r3
  rw [r3] at e3
  subst e3
  have e4 : s4 = (readP macOf L en n3).map (·.2) := e4
  have v4 : ∀ a m, readP macOf L en n3 = .ok (a, m) → a = M2 := v4
  rcases except_cases (readP macOf L en n3) with ⟨pl, r4⟩ | ⟨⟨a4, n4⟩, r4⟩
  · rw [r4] at e4
    refine E pl (by simp only [gatewayP, r1, r2, r3, r4, bind, Except.bind]) ?_
    subst e4; subst e5; subst e6; subst e7; subst e8
    rfl
  obtain rfl := v4 a4 n4 r4
  rw [r4] at e4
  subst e4
  have e5 : s5 = (readP macOf L en n4).map (·.2) := e5
  have v5 : ∀ a m, readP macOf L en n4 = .ok (a, m) → a = M3 := v5
  rcases except_cases (readP macOf L en n4) with ⟨pl, r5⟩ | ⟨⟨a5, n5⟩, r5⟩
  · rw [r5] at e5
    refine E pl (by simp only [gatewayP, r1, r2, r3, r4, r5, bind, Except.bind]) ?_
    subst e5; subst e6; subst e7; subst e8
    rfl
  obtain rfl := v5 a5 n5 r5
  rw [r5] at e5
  subst e5
  have e6 : s6 = (readP keyOf L en n5).map (·.2) := e6
  have v6 : ∀ a m, readP keyOf L en n5 = .ok (a, m) → a = K := v6
  rcases except_cases (readP keyOf L en n5) with ⟨pl, r6⟩ | ⟨⟨a6, n6⟩, r6⟩
  · rw [r6] at e6
    refine E pl (by simp only [gatewayP, r1, r2, r3, r4, r5, r6, bind, Except.bind]) ?_
    subst e6; subst e7; subst e8
    rfl
  obtain rfl := v6 a6 n6 r6
  rw [r6] at e6
  subst e6
  have e7 : s7 = mustP drName L en n6 := e7
  rcases except_cases (mustP drName L en n6) with ⟨pl, r7⟩ | ⟨n7, r7⟩
  · rw [r7] at e7
    refine E pl (by simp only [gatewayP, r1, r2, r3, r4, r5, r6, r7, bind, Except.bind]) ?_
    subst e7; subst e8
    rfl
  rw [r7] at e7
  subst e7
  have e8 : s8 = (readP (fun l => numOf l 4294967295) L en n7).map (·.2) := e8
  have v8 : ∀ a m, readP (fun l => numOf l 4294967295) L en n7 = .ok (a, m) → a = d := v8
  rcases except_cases (readP (fun l => numOf l 4294967295) L en n7) with ⟨pl, r8⟩ | ⟨⟨a8, n8⟩, r8⟩
  · rw [r8] at e8
    refine E pl (by simp only [gatewayP, r1, r2, r3, r4, r5, r6, r7, r8, bind, Except.bind]) ?_
    subst e8
    rfl
  obtain rfl := v8 a8 n8 r8
  have hR : gatewayP L en 0 = .ok (⟨a2, a3, a4, a5, a6, a8, []⟩, n8) := by simp only [gatewayP, r1, r2, r3, r4, r5, r6, r7, r8, bind, Except.bind]
  rw [hR, e8, r8]
  exact ⟨rfl, fun t m h => by cases h; rfl⟩
theorem bodyR_bnd {c u : Cfg} {L : List Wd} {en m N : Nat} (h : bodyR c L en = .ok (u, m)) (hb : Bnd N c) (hw : ∀ t ∈ c.tens, WfTen t) (hL : 0 < L.length) : Bnd (N + L.length) u ∧ u.tens.length ≤ c.tens.length + 1 := by
  unfold bodyR at h
  rcases except_cases (nextP L en 0) with ⟨pl, h1⟩ | ⟨⟨x, n⟩, h1⟩
  · rw [h1] at h; cases h
  · rw [h1] at h
    have h : bodyP c x L en n = .ok (u, m) := h
    unfold bodyP at h
    split at h
    · rcases except_cases (tenantP L en n) with ⟨pl, h2⟩ | ⟨⟨t, k⟩, h2⟩
      · rw [h2] at h; cases h
      · rw [h2] at h
        have hb2 := tenantP_bnd h2
        cases h
        refine ⟨fun y hy => ?_, by simp⟩
        rcases List.mem_append.1 hy with hy | hy
        · obtain ⟨q1, q2, q3⟩ := hb y hy; exact ⟨by omega, by omega, by omega⟩
        · rw [List.mem_singleton.1 hy]; exact ⟨by rw [hb2.1]; exact Nat.zero_le _, by rw [hb2.2.1]; exact Nat.zero_le _, by rw [hb2.2.2.1]; exact Nat.zero_le _⟩
    · rcases List.eq_nil_or_concat c.tens with h0 | ⟨ts, t, h0⟩
      · rw [h0] at h; cases h
      · rw [List.concat_eq_append] at h0
        rw [h0, List.getLast?_concat] at h
        have h : (fieldP x.1 x.2 L en n t).map (fun r => (({ c with tens := (ts ++ [t]).dropLast ++ [r.1] } : Cfg), r.2)) = .ok (u, m) := h
        rcases except_cases (fieldP x.1 x.2 L en n t) with ⟨pl, h2⟩ | ⟨⟨t2, k⟩, h2⟩
        · rw [h2] at h; cases h
        · rw [h2] at h
          have hb2 := fieldP_bnd h2 (hb t (by rw [h0]; simp)) (hw t (by rw [h0]; simp))
          cases h
          refine ⟨fun y hy => ?_, by rw [h0]; simp⟩
          rw [List.dropLast_concat] at hy
          rcases List.mem_append.1 hy with hy | hy
          · obtain ⟨q1, q2, q3⟩ := hb y (by rw [h0]; simp [hy]); exact ⟨by omega, by omega, by omega⟩
          · rw [List.mem_singleton.1 hy]; exact hb2.1
/-! ### how the world stands -/
def zc : Cfg := ⟨0, [0, 0, 0, 0, 0, 0], [0, 0, 0, 0, 0, 0], [0, 0, 0, 0, 0, 0], [0, 0, 0, 0, 0, 0, 0, 0], 0, []⟩
theorem zc_row : cfgRow zc (.slice none 0 0) = cfgZero 0 := rfl
/-- The loop: the text up to f was read, no line ends between f and i. -/
structure PSt (w : World) (s : ByteArray) (R C : Nat) (O : List (List Wd × Nat)) (c : Cfg) (tv : Value) (l : List TenM) (W : World) : Prop where
  cfg : (O = [] ∧ c = zc ∧ tv = .slice none 0 0 ∧ l = []) ∨ (O ≠ [] ∧ fromP s.size O = .ok c)
  cel : W.heap[C]? = some (.cells (cfgRow c tv) 29 (0, 0))
  rel : W.heap[R]? = some (.cells (cfgZero 0) 29 (0, 0))
  wfc : WfCfg c
  tens : TensAt W (C + 1) tv l
  eqt : l.map (·.1) = c.tens
  bnd : Bnd (tot O) c
  cnt : l.length ≤ tot O
  turn : Turn (fun _ => False) w W
  env : Env W
  Rw : w.heap.size ≤ R
  RC : R < C
theorem lines_cnt {s : ByteArray} {f : Nat} {O : List (List Wd × Nat)} (h : scan s f = ⟨O, [], none, false⟩) : tot O ≤ f := by
  have := scan_tot s f
  rw [h] at this
  unfold scTot at this
  simp at this
  exact this
section
variable {w W W' : World} {s : ByteArray} {R C : Nat} {O : List (List Wd × Nat)} {c : Cfg} {tv : Value} {l : List TenM}
theorem PSt.quiet (h : PSt w s R C O c tv l W) (t : Turn (fun _ => False) W W') : PSt w s R C O c tv l W' :=
  ⟨h.cfg, (t.block C (block_lt h.cel) (fun h => h)).trans h.cel, (t.block R (block_lt h.rel) (fun h => h)).trans h.rel, h.wfc, h.tens.turn t (fun _ _ h => h) (fun _ _ _ _ h => h), h.eqt, h.bnd, h.cnt, h.turn.trans t, h.env.keep t, h.Rw, h.RC⟩
end
end Go.Proofs.YtbkpbcmjgbdbkaaGreatDoor
