/- A word more behind a line that was read: the error's place. No condition. A word more at a line's end: the error's place. No condition. A text with a word more at a line's end: the error's place. No condition. Plain facts about a settings' text: its newlines, its first blank, no comment. No condition. A settings' text with a word more or less at a line's end: plain facts. No condition. -/
import Derived.Test.YtbkpbcmjgbdbkaaGreatDoorX3
import Derived.Test.YtbkpbcmjgbdbkaaGreatDoorXB
import Derived.Test.YtbkpbcmjgbdbkaaGreatDoorY3
/-! A7 -/
namespace Go.Proofs.YtbkpbcmjgbdbkaaGreatDoor
open Go.RowKit Go.Lib
set_option linter.unusedVariables false
set_option linter.unusedSimpArgs false
set_option maxRecDepth 100000

section
variable {L : List Wd} {en n m : Nat}
theorem next_ext {x : Wd} (h : nextP L en n = .ok (x, m)) : m ≤ L.length ∧ ∀ (z : Wd) (en' : Nat), nextP (L ++ [z]) en' n = .ok (x, m) := by
  obtain ⟨h1, h2⟩ := nextP_is h
  have hn := (List.getElem?_eq_some_iff.1 h1).1
  subst h2
  exact ⟨hn, fun z en' => nextP_some (by rw [List.getElem?_append_left hn]; exact h1)⟩
theorem must_ext {s : ByteArray} (h : mustP s L en n = .ok m) : m ≤ L.length ∧ ∀ (z : Wd) (en' : Nat), mustP s (L ++ [z]) en' n = .ok m := by
  unfold mustP at h
  cases hx : L[n]? with
  | none => rw [hx] at h; cases h
  | some x =>
    have hn := (List.getElem?_eq_some_iff.1 hx).1
    have e : ∀ z : Wd, (L ++ [z])[n]? = some x := fun z => by rw [List.getElem?_append_left hn]; exact hx
    rw [hx] at h
    refine ⟨?_, fun z en' => ?_⟩
    · dsimp only at h
      split at h
      · cases h; exact hn
      · cases h
    · unfold mustP
      rw [e z]
      exact h
theorem read_ext {α : Type} {f : List UInt8 → Option α} {v : α} (h : readP f L en n = .ok (v, m)) : m ≤ L.length ∧ ∀ (z : Wd) (en' : Nat), readP f (L ++ [z]) en' n = .ok (v, m) := by
  obtain ⟨rfl, hn⟩ := readP_n h
  refine ⟨hn, fun z en' => ?_⟩
  unfold readP at h ⊢
  rw [List.getElem?_append_left hn]
  cases hx : L[n]? with
  | none => rw [hx] at h; cases h
  | some x =>
    rw [hx] at h
    exact h
end
theorem gw_ext {L : List Wd} {en n m : Nat} {c : Cfg} (h : gatewayP L en n = .ok (c, m)) : m ≤ L.length ∧ ∀ (z : Wd) (en' : Nat), gatewayP (L ++ [z]) en' n = .ok (c, m) := by
  unfold gatewayP at h ⊢
  simp only [bind, Except.bind] at h ⊢
  rcases except_cases (mustP gwName L en n) with ⟨pl, r0⟩ | ⟨n0, r0⟩
  · rw [r0] at h; cases h
  rw [r0] at h
  have x0 := must_ext r0
  try dsimp only at h
  rcases except_cases (readP ipOf L en n0) with ⟨pl, r1⟩ | ⟨⟨v1, n1⟩, r1⟩
  · rw [r1] at h; cases h
  rw [r1] at h
  have x1 := read_ext r1
  try dsimp only at h
  rcases except_cases (readP macOf L en n1) with ⟨pl, r2⟩ | ⟨⟨v2, n2⟩, r2⟩
  · rw [r2] at h; cases h
  rw [r2] at h
  have x2 := read_ext r2
  try dsimp only at h
  rcases except_cases (readP macOf L en n2) with ⟨pl, r3⟩ | ⟨⟨v3, n3⟩, r3⟩
  · rw [r3] at h; cases h
  rw [r3] at h
  have x3 := read_ext r3
  try dsimp only at h
  rcases except_cases (readP macOf L en n3) with ⟨pl, r4⟩ | ⟨⟨v4, n4⟩, r4⟩
  · rw [r4] at h; cases h
  rw [r4] at h
  have x4 := read_ext r4
  try dsimp only at h
  rcases except_cases (readP keyOf L en n4) with ⟨pl, r5⟩ | ⟨⟨v5, n5⟩, r5⟩
  · rw [r5] at h; cases h
  rw [r5] at h
  have x5 := read_ext r5
  try dsimp only at h
  rcases except_cases (mustP drName L en n5) with ⟨pl, r6⟩ | ⟨n6, r6⟩
  · rw [r6] at h; cases h
  rw [r6] at h
  have x6 := must_ext r6
  try dsimp only at h
  rcases except_cases (readP (fun l => numOf l 4294967295) L en n6) with ⟨pl, r7⟩ | ⟨⟨v7, n7⟩, r7⟩
  · rw [r7] at h; cases h
  rw [r7] at h
  have x7 := read_ext r7
  try dsimp only at h
  cases h
  refine ⟨x7.1, fun z en' => ?_⟩
  rw [x0.2 z en']
  try dsimp only
  rw [x1.2 z en']
  try dsimp only
  rw [x2.2 z en']
  try dsimp only
  rw [x3.2 z en']
  try dsimp only
  rw [x4.2 z en']
  try dsimp only
  rw [x5.2 z en']
  try dsimp only
  rw [x6.2 z en']
  try dsimp only
  rw [x7.2 z en']
  all_goals rfl
theorem tenant_ext {L : List Wd} {en n m : Nat} {t : Ten} (h : tenantP L en n = .ok (t, m)) : m ≤ L.length ∧ ∀ (z : Wd) (en' : Nat), tenantP (L ++ [z]) en' n = .ok (t, m) := by
  unfold tenantP at h ⊢
  simp only [bind, Except.bind] at h ⊢
  rcases except_cases (nextP L en n) with ⟨pl, r0⟩ | ⟨⟨v0, n0⟩, r0⟩
  · rw [r0] at h; cases h
  rw [r0] at h
  have x0 := next_ext r0
  dsimp only at h
  cases hn : nameOf v0.1.data.toList with
  | false => rw [hn] at h; cases h
  | true =>
  rw [hn] at h
  try dsimp only at h
  rcases except_cases (mustP vniName L en n0) with ⟨pl, r1⟩ | ⟨n1, r1⟩
  · rw [r1] at h; cases h
  rw [r1] at h
  have x1 := must_ext r1
  try dsimp only at h
  rcases except_cases (readP (fun l => numOf l 16777215) L en n1) with ⟨pl, r2⟩ | ⟨⟨v2, n2⟩, r2⟩
  · rw [r2] at h; cases h
  rw [r2] at h
  have x2 := read_ext r2
  try dsimp only at h
  rcases except_cases (mustP keyName L en n2) with ⟨pl, r3⟩ | ⟨n3, r3⟩
  · rw [r3] at h; cases h
  rw [r3] at h
  have x3 := must_ext r3
  try dsimp only at h
  rcases except_cases (readP keyOf L en n3) with ⟨pl, r4⟩ | ⟨⟨v4, n4⟩, r4⟩
  · rw [r4] at h; cases h
  rw [r4] at h
  have x4 := read_ext r4
  try dsimp only at h
  rcases except_cases (mustP vtepName L en n4) with ⟨pl, r5⟩ | ⟨n5, r5⟩
  · rw [r5] at h; cases h
  rw [r5] at h
  have x5 := must_ext r5
  try dsimp only at h
  rcases except_cases (readP ipOf L en n5) with ⟨pl, r6⟩ | ⟨⟨v6, n6⟩, r6⟩
  · rw [r6] at h; cases h
  rw [r6] at h
  have x6 := read_ext r6
  try dsimp only at h
  rcases except_cases (readP macOf L en n6) with ⟨pl, r7⟩ | ⟨⟨v7, n7⟩, r7⟩
  · rw [r7] at h; cases h
  rw [r7] at h
  have x7 := read_ext r7
  try dsimp only at h
  rcases except_cases (mustP hostName L en n7) with ⟨pl, r8⟩ | ⟨n8, r8⟩
  · rw [r8] at h; cases h
  rw [r8] at h
  have x8 := must_ext r8
  try dsimp only at h
  rcases except_cases (readP macOf L en n8) with ⟨pl, r9⟩ | ⟨⟨v9, n9⟩, r9⟩
  · rw [r9] at h; cases h
  rw [r9] at h
  have x9 := read_ext r9
  try dsimp only at h
  cases h
  refine ⟨x9.1, fun z en' => ?_⟩
  rw [x0.2 z en']
  dsimp only
  rw [hn]
  try dsimp only
  rw [x1.2 z en']
  try dsimp only
  rw [x2.2 z en']
  try dsimp only
  rw [x3.2 z en']
  try dsimp only
  rw [x4.2 z en']
  try dsimp only
  rw [x5.2 z en']
  try dsimp only
  rw [x6.2 z en']
  try dsimp only
  rw [x7.2 z en']
  try dsimp only
  rw [x8.2 z en']
  try dsimp only
  rw [x9.2 z en']
  all_goals rfl
theorem ports_ext {L : List Wd} {en n m : Nat} {t t' : Ten} (h : portsP L en n t = .ok (t', m)) : m ≤ L.length ∧ ∀ (z : Wd) (en' : Nat), portsP (L ++ [z]) en' n t = .ok (t', m) := by
  unfold portsP at h ⊢
  unfold numP at h ⊢
  simp only [bind, Except.bind] at h ⊢
  rcases except_cases (readP (fun l => numOf l 65535) L en n) with ⟨pl, r0⟩ | ⟨⟨v0, n0⟩, r0⟩
  · rw [r0] at h; cases h
  rw [r0] at h
  have x0 := read_ext r0
  try dsimp only at h
  rcases except_cases (readP (fun l => numOf l 65535) L en n0) with ⟨pl, r1⟩ | ⟨⟨v1, n1⟩, r1⟩
  · rw [r1] at h; cases h
  rw [r1] at h
  have x1 := read_ext r1
  try dsimp only at h
  cases h
  refine ⟨x1.1, fun z en' => ?_⟩
  rw [x0.2 z en']
  try dsimp only
  rw [x1.2 z en']
  all_goals rfl
theorem quota_ext {L : List Wd} {en n m : Nat} {t t' : Ten} (h : quotaP L en n t = .ok (t', m)) : m ≤ L.length ∧ ∀ (z : Wd) (en' : Nat), quotaP (L ++ [z]) en' n t = .ok (t', m) := by
  unfold quotaP at h ⊢
  unfold numP at h ⊢
  simp only [bind, Except.bind] at h ⊢
  rcases except_cases (readP (fun l => numOf l 65535) L en n) with ⟨pl, r0⟩ | ⟨⟨v0, n0⟩, r0⟩
  · rw [r0] at h; cases h
  rw [r0] at h
  have x0 := read_ext r0
  try dsimp only at h
  rcases except_cases (readP (fun l => numOf l 65535) L en n0) with ⟨pl, r1⟩ | ⟨⟨v1, n1⟩, r1⟩
  · rw [r1] at h; cases h
  rw [r1] at h
  have x1 := read_ext r1
  try dsimp only at h
  cases h
  refine ⟨x1.1, fun z en' => ?_⟩
  rw [x0.2 z en']
  try dsimp only
  rw [x1.2 z en']
  all_goals rfl
theorem rate_ext {L : List Wd} {en n m : Nat} {t t' : Ten} (h : rateP L en n t = .ok (t', m)) : m ≤ L.length ∧ ∀ (z : Wd) (en' : Nat), rateP (L ++ [z]) en' n t = .ok (t', m) := by
  unfold rateP at h ⊢
  unfold numP at h ⊢
  simp only [bind, Except.bind] at h ⊢
  rcases except_cases (readP (fun l => numOf l 4294967295) L en n) with ⟨pl, r0⟩ | ⟨⟨v0, n0⟩, r0⟩
  · rw [r0] at h; cases h
  rw [r0] at h
  have x0 := read_ext r0
  try dsimp only at h
  rcases except_cases (readP (fun l => numOf l 4294967295) L en n0) with ⟨pl, r1⟩ | ⟨⟨v1, n1⟩, r1⟩
  · rw [r1] at h; cases h
  rw [r1] at h
  have x1 := read_ext r1
  try dsimp only at h
  cases h
  refine ⟨x1.1, fun z en' => ?_⟩
  rw [x0.2 z en']
  try dsimp only
  rw [x1.2 z en']
  all_goals rfl
theorem filt_ext {L : List Wd} {en n m : Nat} {t t' : Ten} (h : filtP L en n t = .ok (t', m)) : m ≤ L.length ∧ ∀ (z : Wd) (en' : Nat), filtP (L ++ [z]) en' n t = .ok (t', m) := by
  unfold filtP at h ⊢
  simp only [bind, Except.bind] at h ⊢
  rcases except_cases (readP filterOf L en n) with ⟨pl, r0⟩ | ⟨⟨v0, n0⟩, r0⟩
  · rw [r0] at h; cases h
  rw [r0] at h
  have x0 := read_ext r0
  try dsimp only at h
  cases h
  refine ⟨x0.1, fun z en' => ?_⟩
  rw [x0.2 z en']
  all_goals rfl
theorem stat_ext {L : List Wd} {en n m : Nat} {t t' : Ten} (h : statP L en n t = .ok (t', m)) : m ≤ L.length ∧ ∀ (z : Wd) (en' : Nat), statP (L ++ [z]) en' n t = .ok (t', m) := by
  unfold statP at h ⊢
  unfold pairP at h ⊢
  simp only [bind, Except.bind] at h ⊢
  rcases except_cases (readP ipOf L en n) with ⟨pl, r0⟩ | ⟨⟨v0, n0⟩, r0⟩
  · rw [r0] at h; cases h
  rw [r0] at h
  have x0 := read_ext r0
  try dsimp only at h
  rcases except_cases (readP ipOf L en n0) with ⟨pl, r1⟩ | ⟨⟨v1, n1⟩, r1⟩
  · rw [r1] at h; cases h
  rw [r1] at h
  have x1 := read_ext r1
  try dsimp only at h
  cases h
  refine ⟨x1.1, fun z en' => ?_⟩
  rw [x0.2 z en']
  try dsimp only
  rw [x1.2 z en']
  all_goals rfl
theorem twic_ext {L : List Wd} {en n m : Nat} {t t' : Ten} (h : twicP L en n t = .ok (t', m)) : m ≤ L.length ∧ ∀ (z : Wd) (en' : Nat), twicP (L ++ [z]) en' n t = .ok (t', m) := by
  unfold twicP at h ⊢
  unfold pairP at h ⊢
  simp only [bind, Except.bind] at h ⊢
  rcases except_cases (readP ipOf L en n) with ⟨pl, r0⟩ | ⟨⟨v0, n0⟩, r0⟩
  · rw [r0] at h; cases h
  rw [r0] at h
  have x0 := read_ext r0
  try dsimp only at h
  rcases except_cases (readP ipOf L en n0) with ⟨pl, r1⟩ | ⟨⟨v1, n1⟩, r1⟩
  · rw [r1] at h; cases h
  rw [r1] at h
  have x1 := read_ext r1
  try dsimp only at h
  cases h
  refine ⟨x1.1, fun z en' => ?_⟩
  rw [x0.2 z en']
  try dsimp only
  rw [x1.2 z en']
  all_goals rfl
theorem pool_ext {L : List Wd} {en : Nat} (z : Wd) (en' : Nat) (hz : ipOf z.1.data.toList = none) : ∀ (f n : Nat) (acc l : List Nat) (m : Nat), n + f = L.length → poolGo L en f n acc = .ok (l, m) → poolGo (L ++ [z]) en' (f + 1) n acc = .error z.2
  | 0, n, acc, l, m, hn, h => by
    have hz2 : (L ++ [z])[n]? = some (z.1, z.2) := by rw [show n = L.length by omega]; simp
    rw [poolGo, readP_bad hz2 hz]
  | f + 1, n, acc, l, m, hn, h => by
    rw [poolGo] at h
    rcases except_cases (readP ipOf L en n) with ⟨pl, h1⟩ | ⟨⟨x, k⟩, h1⟩
    · rw [h1] at h; cases h
    · rw [h1] at h
      have e := (read_ext h1).2 z en'
      obtain ⟨rfl, _⟩ := readP_n h1
      rw [poolGo, e]
      exact pool_ext z en' hz f (n + 1) (acc ++ [x]) l m (by omega) h
/-- A further line's fields, a word more. -/
theorem field_more {L : List Wd} {en m : Nat} {s : ByteArray} {a : Nat} {t t' : Ten} (z : Wd) (en' : Nat) (hz : ipOf z.1.data.toList = none) (hL : 1 ≤ L.length) (h : fieldP s a L en 1 t = .ok (t', m)) :
    fieldP s a (L ++ [z]) en' 1 t = .error z.2 ∨ (m ≤ L.length ∧ fieldP s a (L ++ [z]) en' 1 t = .ok (t', m)) := by
  unfold fieldP at h ⊢
  split at h
  · rename_i e
    rw [if_pos e]
    refine Or.inl ?_
    unfold poolP at h ⊢
    rcases except_cases (poolGo L en (L.length - 1) 1 t.pool) with ⟨pl, h1⟩ | ⟨⟨l, k⟩, h1⟩
    · rw [h1] at h; cases h
    · have := pool_ext z en' hz (L.length - 1) 1 t.pool l k (by omega) h1
      rw [show (L ++ [z]).length - 1 = L.length - 1 + 1 by simp; omega, this]
      rfl
  rename_i e0
  rw [if_neg e0]
  split at h
  · rename_i e; rw [if_pos e]; exact Or.inr ⟨(ports_ext h).1, (ports_ext h).2 z en'⟩
  rename_i e1
  rw [if_neg e1]
  split at h
  · rename_i e; rw [if_pos e]; exact Or.inr ⟨(filt_ext h).1, (filt_ext h).2 z en'⟩
  rename_i e2
  rw [if_neg e2]
  split at h
  · rename_i e; rw [if_pos e]; exact Or.inr ⟨(stat_ext h).1, (stat_ext h).2 z en'⟩
  rename_i e3
  rw [if_neg e3]
  split at h
  · rename_i e; rw [if_pos e]; exact Or.inr ⟨(twic_ext h).1, (twic_ext h).2 z en'⟩
  rename_i e4
  rw [if_neg e4]
  split at h
  · rename_i e; rw [if_pos e]; exact Or.inr ⟨(quota_ext h).1, (quota_ext h).2 z en'⟩
  rename_i e5
  rw [if_neg e5]
  split at h
  · rename_i e; rw [if_pos e]; exact Or.inr ⟨(rate_ext h).1, (rate_ext h).2 z en'⟩
  · cases h
end Go.Proofs.YtbkpbcmjgbdbkaaGreatDoor

/-! A8 -/
namespace Go.Proofs.YtbkpbcmjgbdbkaaGreatDoor
open Go.RowKit Go.Lib
set_option linter.unusedVariables false
set_option linter.unusedSimpArgs false
set_option maxRecDepth 100000

theorem done_is {L : List Wd} {m : Nat} {u : Unit} (h : doneP L m = .ok u) : L[m]? = none := by
  unfold doneP at h
  split at h
  · cases h
  · assumption
theorem done_more {L : List Wd} (z : Wd) : doneP (L ++ [z]) L.length = .error z.2 := by
  unfold doneP
  rw [show (L ++ [z])[L.length]? = some z by simp]
theorem body_more {c c1 : Cfg} {x : Wd} {L : List Wd} {en m : Nat} (z : Wd) (en' : Nat) (hz : ipOf z.1.data.toList = none) (hL : 1 ≤ L.length) (h : bodyP c x L en 1 = .ok (c1, m)) (hd : L[m]? = none) :
    bodyP c x (L ++ [z]) en' 1 = .error z.2 ∨ (m = L.length ∧ bodyP c x (L ++ [z]) en' 1 = .ok (c1, m)) := by
  have hm := List.getElem?_eq_none_iff.1 hd
  unfold bodyP at h ⊢
  split at h
  · rename_i e
    rw [if_pos e]
    rcases except_cases (tenantP L en 1) with ⟨pl, h1⟩ | ⟨⟨t, k⟩, h1⟩
    · rw [h1] at h; cases h
    · obtain ⟨q1, q2⟩ := tenant_ext h1
      rw [h1] at h
      cases h
      exact Or.inr ⟨by omega, by rw [q2 z en']; rfl⟩
  · rename_i e
    rw [if_neg e]
    cases hl : c.tens.getLast? with
    | none => rw [hl] at h; cases h
    | some t =>
      rw [hl] at h
      dsimp only at h ⊢
      rcases except_cases (fieldP x.1 x.2 L en 1 t) with ⟨pl, h1⟩ | ⟨⟨t2, k⟩, h1⟩
      · rw [h1] at h; cases h
      · rw [h1] at h
        cases h
        rcases field_more z en' hz hL h1 with h2 | ⟨h2, h3⟩
        · rw [h2]; exact Or.inl rfl
        · rw [h3]; exact Or.inr ⟨by omega, rfl⟩
theorem line_more {c c' : Cfg} {L : List Wd} {en : Nat} (z : Wd) (en' : Nat) (hz : ipOf z.1.data.toList = none) (h : lineP c (L, en) = .ok c') : lineP c (L ++ [z], en') = .error z.2 := by
  unfold lineP at h
  dsimp only at h
  rcases except_cases (nextP L en 0) with ⟨pl, h1⟩ | ⟨⟨x, n⟩, h1⟩
  · rw [h1] at h; cases h
  rw [h1] at h
  dsimp only at h
  have hx := next_ext h1
  obtain ⟨hx0, rfl⟩ := nextP_is h1
  rcases except_cases (bodyP c x L en (0 + 1)) with ⟨pl, h2⟩ | ⟨⟨c1, m⟩, h2⟩
  · rw [h2] at h; cases h
  rw [h2] at h
  dsimp only at h
  rcases except_cases (doneP L m) with ⟨pl, h3⟩ | ⟨u, h3⟩
  · rw [h3] at h; cases h
  have hd := done_is h3
  rcases body_more z en' hz hx.1 h2 hd with h4 | ⟨rfl, h4⟩
  · exact lineP_err (Y := (L ++ [z], en')) (hx.2 z en') h4
  · exact lineP_doneErr (Y := (L ++ [z], en')) (hx.2 z en') h4 (done_more z)
theorem head_more {c : Cfg} {L : List Wd} {en : Nat} (z : Wd) (en' : Nat) (h : headP (L, en) = .ok c) : headP (L ++ [z], en') = .error z.2 := by
  unfold headP at h ⊢
  dsimp only at h ⊢
  rcases except_cases (gatewayP L en 0) with ⟨pl, h1⟩ | ⟨⟨c1, m⟩, h1⟩
  · rw [h1] at h; cases h
  rw [h1] at h
  dsimp only at h
  rcases except_cases (doneP L m) with ⟨pl, h3⟩ | ⟨u, h3⟩
  · rw [h3] at h; cases h
  obtain ⟨q1, q2⟩ := gw_ext h1
  have hm := List.getElem?_eq_none_iff.1 (done_is h3)
  obtain rfl : m = L.length := by omega
  rw [q2 z en']
  dsimp only
  rw [done_more z]
end Go.Proofs.YtbkpbcmjgbdbkaaGreatDoor

/-! A9 -/
namespace Go.Proofs.YtbkpbcmjgbdbkaaGreatDoor
open Go.RowKit Go.Lib
set_option linter.unusedVariables false
set_option linter.unusedSimpArgs false
set_option maxRecDepth 100000

/-- Two texts whose first e bytes are alike. -/
def Like (s u : ByteArray) (e : Nat) : Prop := s.data.toList.take e = u.data.toList.take e
section
variable {s u : ByteArray} {e : Nat}
theorem Like.byte (h : Like s u e) {i : Nat} (hi : i < e) : byteAt s i = byteAt u i := by
  have h1 : (s.data.toList.take e)[i]? = (u.data.toList.take e)[i]? := by rw [h]
  rw [List.getElem?_take, List.getElem?_take, if_pos hi, if_pos hi] at h1
  unfold byteAt
  rw [List.getD_eq_getElem?_getD, List.getD_eq_getElem?_getD, h1]
theorem Like.cut (h : Like s u e) {n i : Nat} (hi : i ≤ e) : s.extract n i = u.extract n i := by
  rw [extract_part, extract_part]
  congr 2
  rw [← List.drop_take, ← List.drop_take] at *
  have h1 : s.data.toList.take i = u.data.toList.take i := by
    have := congrArg (List.take i) h
    rwa [List.take_take, List.take_take, Nat.min_eq_left hi] at this
  rw [h1]
theorem Like.word (h : Like s u e) {i : Nat} (hi : i ≤ e) (ws : List Wd) (bg : Option Nat) : wordEnd s ws bg i = wordEnd u ws bg i := by
  cases bg with
  | none => rfl
  | some n => show ws ++ [(s.extract n i, n)] = ws ++ [(u.extract n i, n)]; rw [h.cut hi]
theorem Like.scan (h : Like s u e) : ∀ k, k ≤ e → scan s k = scan u k
  | 0, _ => rfl
  | k + 1, hk => by
    have ih := h.scan k (by omega)
    show scStep s (Go.Proofs.YtbkpbcmjgbdbkaaGreatDoor.scan s k) k (byteAt s k) = scStep u (Go.Proofs.YtbkpbcmjgbdbkaaGreatDoor.scan u k) k (byteAt u k)
    rw [ih, h.byte (by omega)]
    generalize Go.Proofs.YtbkpbcmjgbdbkaaGreatDoor.scan u k = σ
    unfold scStep scEnd scWord
    rw [h.word (by omega : k ≤ e)]
theorem Like.ln (h : Like s u e) (f : Nat) : ∀ k, f + k ≤ e → lnScan s f k = lnScan u f k
  | 0, _ => rfl
  | k + 1, hk => by
    have ih := h.ln f k (by omega)
    show lnStep s (lnScan s f k) (f + k) (byteAt s (f + k)) = lnStep u (lnScan u f k) (f + k) (byteAt u (f + k))
    rw [ih, h.byte (by omega)]
    generalize lnScan u f k = σ
    unfold lnStep
    rw [h.word (by omega : f + k ≤ e)]
/-- The line that ends at e. -/
theorem line_before (s : ByteArray) : ∀ e, ∃ f O, f ≤ e ∧ scan s f = ⟨O, [], none, false⟩ ∧ ∀ j, j < e - f → byteAt s (f + j) ≠ 10
  | 0 => ⟨0, [], Nat.le_refl _, rfl, fun j hj => by omega⟩
  | e + 1 => by
    obtain ⟨f, O, h1, h2, h3⟩ := line_before s e
    by_cases hb : byteAt s e = 10
    · exact ⟨e + 1, _, Nat.le_refl _, by have := scan_nl h2 h3 (k := e - f) (by rw [show f + (e - f) = e by omega]; exact hb); rwa [show f + (e - f) + 1 = e + 1 by omega] at this, fun j hj => by omega⟩
    · exact ⟨f, O, by omega, h2, fun j hj => by
        by_cases hj2 : j < e - f
        · exact h3 j hj2
        · rw [show f + j = e by omega]; exact hb⟩
theorem ln_plain (s : ByteArray) (f : Nat) : ∀ k, (∀ j, j < k → byteAt s (f + j) ≠ 35) → (lnScan s f k).rest = false
  | 0, _ => rfl
  | k + 1, h => by
    have ih := ln_plain s f k (fun j hj => h j (by omega))
    have hk := h k (by omega)
    show (lnStep s (lnScan s f k) (f + k) (byteAt s (f + k))).rest = false
    generalize lnScan s f k = σ at *
    unfold lnStep
    rw [if_neg (by simp [ih]), if_neg hk]
    split
    · rfl
    · split
      · exact ih
      · exact ih
theorem fromP_any {n m : Nat} {O : List (List Wd × Nat)} (h : O ≠ []) : fromP n O = fromP m O := by
  cases O with
  | nil => exact absurd rfl h
  | cons Y O => rfl
end
def zzName : ByteArray := ⟨#[122, 122]⟩
theorem zz_ip : ipOf zzName.data.toList = none := by kernel_rfl
theorem zz_line (c : Cfg) (p en : Nat) : lineP c ([(zzName, p)], en) = .error p := by
  have h1 : nextP [(zzName, p)] en 0 = .ok ((zzName, p), 1) := rfl
  refine lineP_err (Y := ([(zzName, p)], en)) h1 ?_
  unfold bodyP
  rw [if_neg (show ¬ zzName = tenName by decide)]
  cases c.tens.getLast? with
  | none => rfl
  | some t =>
    dsimp only
    unfold fieldP
    rw [if_neg (show ¬ zzName = poolName by decide), if_neg (show ¬ zzName = portsName by decide), if_neg (show ¬ zzName = filtName by decide), if_neg (show ¬ zzName = statName by decide), if_neg (show ¬ zzName = twiceName by decide), if_neg (show ¬ zzName = quotaName by decide), if_neg (show ¬ zzName = rateName by decide)]
    rfl
theorem zz_head (p en : Nat) : headP ([(zzName, p)], en) = .error p := by
  unfold headP gatewayP mustP
  simp only [bind, Except.bind]
  rw [show ([(zzName, p)] : List Wd)[0]? = some (zzName, p) from rfl]
  dsimp only
  rw [if_neg (show ¬ zzName = gwName by decide)]
theorem more_err {s u : ByteArray} {c : Cfg} {e : Nat} (hc : configP s = .ok c) (hs : s.size ≤ 32768) (he : e < s.size) (h10 : byteAt s e = 10) (h35 : ∀ i, i < e → byteAt s i ≠ 35) (hu : u.size ≤ 32768) (hus : e + 3 < u.size)
    (hl : Like s u e) (b0 : byteAt u e = 32) (b1 : byteAt u (e + 1) = 122) (b2 : byteAt u (e + 2) = 122) (b3 : byteAt u (e + 3) = 10) (hz : u.extract (e + 1) (e + 3) = zzName) : configP u = .error (e + 1) := by
  obtain ⟨f, O, h1, h2, h3⟩ := line_before s e
  have hfe : f + (e - f) = e := by omega
  have hsc : scan u f = ⟨O, [], none, false⟩ := by rw [← hl.scan f h1]; exact h2
  have hln := hl.ln f (e - f) (by omega)
  have hr := ln_plain s f (e - f) (fun j hj => h35 _ (by omega))
  have hW : wordsAt u f (e - f + 3) = wordsAt s f (e - f) ++ [(zzName, e + 1)] := by
    have a1 : lnScan u f (e - f + 1) = ⟨wordsAt s f (e - f), none, false⟩ := by
      show lnStep u (lnScan u f (e - f)) (f + (e - f)) (byteAt u (f + (e - f))) = _
      rw [← hln, hfe, b0]
      unfold lnStep wordsAt
      rw [hr, if_neg (by simp), if_neg (by decide), if_pos rfl, hfe, hl.word (Nat.le_refl e)]
    have a2 : lnScan u f (e - f + 2) = ⟨wordsAt s f (e - f), some (e + 1), false⟩ := by
      show lnStep u (lnScan u f (e - f + 1)) (f + (e - f + 1)) (byteAt u (f + (e - f + 1))) = _
      rw [a1, show f + (e - f + 1) = e + 1 by omega, b1]
      rfl
    have a3 : lnScan u f (e - f + 3) = ⟨wordsAt s f (e - f), some (e + 1), false⟩ := by
      show lnStep u (lnScan u f (e - f + 2)) (f + (e - f + 2)) (byteAt u (f + (e - f + 2))) = _
      rw [a2, show f + (e - f + 2) = e + 2 by omega, b2]
      rfl
    unfold wordsAt at a3 ⊢
    rw [a3]
    show _ ++ [(u.extract (e + 1) (f + (e - f + 3)), e + 1)] = _
    rw [show f + (e - f + 3) = e + 3 by omega, hz]
  have hnl : ∀ j, j < e - f + 3 → byteAt u (f + j) ≠ 10 := fun j hj => by
    by_cases hj2 : j < e - f
    · rw [← hl.byte (by omega)]; exact h3 j hj2
    · rcases (by omega : f + j = e ∨ f + j = e + 1 ∨ f + j = e + 2) with h | h | h <;> rw [h] <;> omega
  refine conf_err hu hsc hnl (by rw [hW]; simp) (Or.inl ⟨by omega, by rw [show f + (e - f + 3) = e + 3 by omega]; exact b3⟩) ?_
  rw [hW, show f + (e - f + 3) = e + 3 by omega]
  -- the text that was read
  unfold configP at hc
  rw [if_neg (by omega)] at hc
  have hnl2 := scan_nl h2 h3 (by rw [hfe]; exact h10)
  obtain ⟨t, ht⟩ := lines_prefix s (k := f + (e - f) + 1) (by omega)
  rw [hnl2, hfe] at ht
  dsimp only at ht
  rw [ht] at hc
  by_cases hw0 : 0 < (wordsAt s f (e - f)).length
  · rw [if_pos hw0] at hc
    have hpre : ∃ c1, fromP s.size (O ++ [(wordsAt s f (e - f), e)]) = .ok c1 := by
      rcases except_cases (fromP s.size (O ++ [(wordsAt s f (e - f), e)])) with ⟨pl, h⟩ | ⟨c1, h⟩
      · rw [fromP_err (by simp) h] at hc; cases hc
      · exact ⟨c1, h⟩
    obtain ⟨c1, hpre⟩ := hpre
    by_cases hO : O = []
    · subst hO
      have h4 := (fromP_one s.size (wordsAt s f (e - f), e)).symm.trans hpre
      exact (fromP_one u.size _).trans (head_more (zzName, e + 1) (e + 3) h4)
    · rcases except_cases (fromP s.size O) with ⟨pl, h⟩ | ⟨c0, h⟩
      · rw [fromP_err hO h] at hpre; cases hpre
      · have h4 := (fromP_snoc hO h).symm.trans hpre
        rw [fromP_snoc hO ((fromP_any hO).trans h)]
        exact line_more (zzName, e + 1) (e + 3) zz_ip h4
  · have hw : wordsAt s f (e - f) = [] := List.eq_nil_of_length_eq_zero (by omega)
    rw [hw, List.nil_append]
    rw [if_neg hw0] at hc
    by_cases hO : O = []
    · subst hO
      exact (fromP_one u.size _).trans (zz_head (e + 1) (e + 3))
    · rcases except_cases (fromP s.size O) with ⟨pl, h⟩ | ⟨c0, h⟩
      · rw [fromP_err hO h] at hc; cases hc
      · rw [fromP_snoc hO ((fromP_any hO).trans h)]
        exact zz_line c0 (e + 1) (e + 3)
end Go.Proofs.YtbkpbcmjgbdbkaaGreatDoor

/-! B3 -/
namespace Go.Proofs.YtbkpbcmjgbdbkaaGreatDoor
open Go.RowKit Go.Lib
set_option linter.unusedVariables false
set_option linter.unusedSimpArgs false
set_option maxRecDepth 100000

theorem join_plain : ∀ (ps : List (List UInt8)), (∀ l ∈ ps, Good l) → ∀ b ∈ joinL 32 ps, b.toNat ≠ 35
  | [], _, b, hb => by simp [joinL] at hb
  | [l], h, b, hb => by
    have hb : b ∈ l := by simpa [joinL] using hb
    exact ((h l (by simp)).2 b hb).2.1
  | l :: m :: ps, h, b, hb => by
    have hb : b ∈ l ++ 32 :: joinL 32 (m :: ps) := by simpa [joinL] using hb
    rcases List.mem_append.1 hb with hb | hb
    · exact ((h l (by simp)).2 b hb).2.1
    · rcases List.mem_cons.1 hb with rfl | hb
      · decide
      · exact join_plain (m :: ps) (fun x hx => h x (List.mem_cons_of_mem _ hx)) b hb
theorem text_plain {c : Cfg} (h : OkCfg c) (hn : ∀ t ∈ c.tens, Good t.name.data.toList) : ∀ b ∈ textL c, b.toNat ≠ 35 := by
  intro b hb
  rw [textL_lines] at hb
  obtain ⟨ps, hps, hb⟩ := List.mem_flatMap.1 hb
  unfold lineL at hb
  rcases List.mem_append.1 hb with hb | hb
  · exact join_plain ps (words_good h hn ps hps) b hb
  · simp at hb; subst hb; decide
theorem text_head (c : Cfg) : ∃ t, textL c = gwB ++ 32 :: t := by
  unfold textL headL lineL
  exact ⟨_, by simp [joinL]; rfl⟩
/-- The places of the newlines among the first k bytes. -/
def nls (s : ByteArray) : Nat → List Nat
  | 0 => []
  | k + 1 => if byteAt s k = 10 then nls s k ++ [k] else nls s k
theorem nls_mem {s : ByteArray} : ∀ {k x : Nat}, x ∈ nls s k → x < k ∧ byteAt s x = 10
  | 0, x, h => by simp [nls] at h
  | k + 1, x, h => by
    unfold nls at h
    split at h
    · rename_i hb
      rcases List.mem_append.1 h with h | h
      · have := nls_mem h; exact ⟨by omega, this.2⟩
      · rw [List.mem_singleton.1 h]; exact ⟨by omega, hb⟩
    · have := nls_mem h; exact ⟨by omega, this.2⟩
theorem nls_len (s : ByteArray) : ∀ k, (nls s k).length ≤ k
  | 0 => Nat.le_refl _
  | k + 1 => by
    have := nls_len s k
    unfold nls
    split
    · rw [List.length_append]; simp; omega
    · omega
theorem nls_some {s : ByteArray} : ∀ {k x : Nat}, x < k → byteAt s x = 10 → nls s k ≠ []
  | 0, x, h, _ => by omega
  | k + 1, x, h, hb => by
    unfold nls
    by_cases hk : byteAt s k = 10
    · rw [if_pos hk]; simp
    · rw [if_neg hk]
      have hxk : x ≠ k := fun e => hk (e ▸ hb)
      exact nls_some (x := x) (by omega) hb
end Go.Proofs.YtbkpbcmjgbdbkaaGreatDoor

/-! B5 -/
namespace Go.Proofs.YtbkpbcmjgbdbkaaGreatDoor
open Go.RowKit Go.Lib
set_option linter.unusedVariables false
set_option linter.unusedSimpArgs false
set_option maxRecDepth 100000

theorem byteAt_is {s : ByteArray} {i : Nat} {c : UInt8} (h : s.data.toList[i]? = some c) : byteAt s i = c.toNat := by
  unfold byteAt
  rw [List.getD_eq_getElem?_getD, h]
  rfl
theorem byteAt_ne {s : ByteArray} {n : Nat} (hn : n ≠ 0) (h : ∀ b ∈ s.data.toList, b.toNat ≠ n) (i : Nat) : byteAt s i ≠ n := by
  unfold byteAt
  rw [List.getD_eq_getElem?_getD]
  cases hb : s.data.toList[i]? with
  | none => exact fun e => hn e.symm
  | some b => exact h b (List.mem_of_getElem? hb)
theorem cut_head {s : ByteArray} (e : Nat) : (s.extract 0 e).data.toList = s.data.toList.take e := by
  rw [extract_part]; simp
theorem cut_tail {s : ByteArray} (e : Nat) : (s.extract e s.size).data.toList = s.data.toList.drop e := by
  rw [extract_part]
  show ((s.data.toList.drop e).take (s.size - e)) = _
  rw [← bytes_len, List.take_of_length_le (by rw [List.length_drop]; exact Nat.le_refl _)]
def zzT : ByteArray := ⟨#[32, 122, 122]⟩
/-- A text with a word more behind place e. -/
theorem more_text {s : ByteArray} {c : Cfg} {e : Nat} (hc : configP s = .ok c) (hs : s.size ≤ 3000) (he : e < s.size) (h10 : byteAt s e = 10) (h35 : ∀ i, byteAt s i ≠ 35) :
    configP (s.extract 0 e ++ zzT ++ s.extract e s.size) = .error (e + 1) := by
  have hlen : s.data.toList.length = s.size := bytes_len s
  have hu : (s.extract 0 e ++ zzT ++ s.extract e s.size).data.toList = s.data.toList.take e ++ ([32, 122, 122] ++ s.data.toList.drop e) := by
    rw [ByteArray.data_append, Array.toList_append, ByteArray.data_append, Array.toList_append, cut_head, cut_tail, List.append_assoc]
    rfl
  generalize s.extract 0 e ++ zzT ++ s.extract e s.size = u at *
  have ht : (s.data.toList.take e).length = e := by rw [List.length_take]; omega
  have hus : u.size = s.size + 3 := by
    rw [← bytes_len, hu, List.length_append, List.length_append, List.length_drop, ht]
    simp only [List.length_cons, List.length_nil]
    omega
  have hg : ∀ j, u.data.toList[e + j]? = ([32, 122, 122] ++ s.data.toList.drop e)[j]? := fun j => by
    rw [hu, List.getElem?_append_right (by omega), ht, Nat.add_sub_cancel_left]
  obtain ⟨ch, hch⟩ : ∃ ch, s.data.toList[e]? = some ch := ⟨_, List.getElem?_eq_getElem (by omega)⟩
  have hch10 : ch.toNat = 10 := by rw [← byteAt_is hch]; exact h10
  refine more_err hc (by omega) he h10 (fun i _ => h35 i) (by omega) (by omega) ?_ ?_ ?_ ?_ ?_ ?_
  · unfold Like
    rw [hu]; exact (List.take_left' ht).symm
  · exact byteAt_is (c := 32) (by have := hg 0; simpa using this)
  · exact byteAt_is (c := 122) (by have := hg 1; simpa using this)
  · exact byteAt_is (c := 122) (by have := hg 2; simpa using this)
  · rw [← hch10]
    refine byteAt_is ?_
    have := hg 3
    rw [this]
    simp only [List.cons_append, List.nil_append, List.getElem?_cons_succ]
    rw [List.getElem?_drop]
    exact hch
  · rw [extract_part, hu, List.drop_append, ht, List.drop_eq_nil_of_le (by omega), List.nil_append, show e + 1 - e = 1 by omega, show e + 3 - (e + 1) = 2 by omega]
    rfl
/-- The text of the seat's settings. -/
theorem words_facts (x : Nat) (hx : x < 65536) : ∃ (c : Cfg) (T : ByteArray), seatCfg [x] 1 = c ∧ T = ⟨(textL c).toArray⟩ ∧ RngCfg c ∧ (textL c).length ≤ 2200 ∧ T.size ≤ 2200 ∧ configP T = .ok c ∧ SmallCfg c ∧ (∀ i, byteAt T i ≠ 35) ∧ (∀ i, i < 7 → byteAt T i ≠ 10) ∧ byteAt T 7 = 32 ∧ nls T T.size ≠ [] := by
  have hks : ∀ y ∈ [x], y < 65536 := by simpa using hx
  have hlen : (textL (seatCfg [x] 1)).length ≤ 2200 := seatText_len hks 1
  refine ⟨_, _, rfl, rfl, seatCfg_rng hks 1, hlen, ?_, back_ok [x] 1 hks, seat_small [x] 1 hks, ?_, ?_, ?_, ?_⟩
  · show (textL (seatCfg [x] 1)).toArray.size ≤ _
    simpa using hlen
  · refine byteAt_ne (by decide) ?_
    intro b hb
    exact text_plain (seatCfg_ok hks 1) (seatCfg_names hks 1) b (by simpa using hb)
  · intro i hi
    obtain ⟨t, ht⟩ := text_head (seatCfg [x] 1)
    rw [ht]
    rcases (by omega : i = 0 ∨ i = 1 ∨ i = 2 ∨ i = 3 ∨ i = 4 ∨ i = 5 ∨ i = 6) with rfl | rfl | rfl | rfl | rfl | rfl | rfl
    · rw [byteAt_is (c := 103) rfl]; decide
    · rw [byteAt_is (c := 97) rfl]; decide
    · rw [byteAt_is (c := 116) rfl]; decide
    · rw [byteAt_is (c := 101) rfl]; decide
    · rw [byteAt_is (c := 119) rfl]; decide
    · rw [byteAt_is (c := 97) rfl]; decide
    · rw [byteAt_is (c := 121) rfl]; decide
  · obtain ⟨t, ht⟩ := text_head (seatCfg [x] 1)
    rw [ht]
    rfl
  · obtain ⟨l, r, hl⟩ : ∃ l r, textL (seatCfg [x] 1) = l ++ 10 :: r := by
      unfold textL headL lineL
      exact ⟨_, _, by rw [List.append_assoc]; rfl⟩
    have h2 : (⟨(textL (seatCfg [x] 1)).toArray⟩ : ByteArray).size = l.length + (r.length + 1) := by
      show (textL (seatCfg [x] 1)).toArray.size = _
      rw [hl]; simp
    refine nls_some (x := l.length) (by omega) ?_
    refine byteAt_is (c := 10) ?_
    rw [hl]
    simp
end Go.Proofs.YtbkpbcmjgbdbkaaGreatDoor
