/- Settings that were read are small. No condition. -/
import Derived.Test.YtbkpbcmjgbdbkaaGreatDoorXB
import Derived.Test.YtbkpbcmjgbdbkaaGreatDoorY3
namespace Go.Proofs.YtbkpbcmjgbdbkaaGreatDoor
open Go.RowKit Go.Lib
set_option linter.unusedVariables false
set_option linter.unusedSimpArgs false
set_option maxRecDepth 100000

/-- A bound on the tenants' lists, on their number; each tenant whole. -/
def BW (N : Nat) (c : Cfg) : Prop := Bnd N c ∧ c.tens.length ≤ N ∧ ∀ t ∈ c.tens, WfTen t
theorem bodyR_wf {c u : Cfg} {L : List Wd} {en m N : Nat} (h : bodyR c L en = .ok (u, m)) (hb : Bnd N c) (hw : ∀ t ∈ c.tens, WfTen t) : ∀ t ∈ u.tens, WfTen t := by
  unfold bodyR at h
  rcases except_cases (nextP L en 0) with ⟨pl, h1⟩ | ⟨⟨x, n⟩, h1⟩
  · rw [h1] at h; cases h
  · rw [h1] at h
    have h : bodyP c x L en n = .ok (u, m) := h
    unfold bodyP at h
    split at h
    · rcases except_cases (tenantP L en n) with ⟨pl, h2⟩ | ⟨⟨t, k⟩, h2⟩
      · rw [h2] at h; cases h
      · rw [h2] at h
        have hb2 := tenantP_bnd h2
        cases h
        intro y hy
        rcases List.mem_append.1 hy with hy | hy
        · exact hw y hy
        · rw [List.mem_singleton.1 hy]; exact hb2.2.2.2
    · rcases List.eq_nil_or_concat c.tens with h0 | ⟨ts, t, h0⟩
      · rw [h0] at h; cases h
      · rw [List.concat_eq_append] at h0
        rw [h0, List.getLast?_concat] at h
        have h : (fieldP x.1 x.2 L en n t).map (fun r => (({ c with tens := (ts ++ [t]).dropLast ++ [r.1] } : Cfg), r.2)) = .ok (u, m) := h
        rcases except_cases (fieldP x.1 x.2 L en n t) with ⟨pl, h2⟩ | ⟨⟨t2, k⟩, h2⟩
        · rw [h2] at h; cases h
        · rw [h2] at h
          have hb2 := fieldP_bnd h2 (hb t (by rw [h0]; simp)) (hw t (by rw [h0]; simp))
          cases h
          intro y hy
          rw [List.dropLast_concat] at hy
          rcases List.mem_append.1 hy with hy | hy
          · exact hw y (by rw [h0]; simp [hy])
          · rw [List.mem_singleton.1 hy]; exact hb2.2
theorem line_bw {c u : Cfg} {X : List Wd × Nat} {N : Nat} (h : lineP c X = .ok u) (hb : BW N c) : BW (N + X.1.length) u := by
  obtain ⟨L, en⟩ := X
  rw [lineP_res] at h
  rcases except_cases (bodyR c L en) with ⟨pl, h1⟩ | ⟨⟨v, m⟩, h1⟩
  · rw [h1] at h; cases h
  · rw [h1] at h
    have hv : v = u := by
      have h : (match doneP L m with | .error pl => (Except.error pl : Except Nat Cfg) | .ok _ => .ok v) = .ok u := h
      cases hd : doneP L m with
      | error pl => rw [hd] at h; cases h
      | ok _ => rw [hd] at h; cases h; rfl
    subst hv
    have hL : 0 < L.length := by
      rcases Nat.eq_zero_or_pos L.length with h0 | h0
      · have := List.eq_nil_of_length_eq_zero h0
        subst this
        cases h1
      · exact h0
    obtain ⟨b1, b2⟩ := bodyR_bnd h1 hb.1 hb.2.2 hL
    exact ⟨b1, by have := hb.2.1; show v.tens.length ≤ N + L.length; omega, bodyR_wf h1 hb.1 hb.2.2⟩
theorem rest_bw : ∀ (O : List (List Wd × Nat)) (c u : Cfg) (N : Nat), restP O c = .ok u → BW N c → BW (N + tot O) u
  | [], c, u, N, h, hb => by
    have h : Except.ok c = (Except.ok u : Except Nat Cfg) := h
    cases h
    exact hb
  | X :: O, c, u, N, h, hb => by
    rcases except_cases (lineP c X) with ⟨pl, h1⟩ | ⟨v, h1⟩
    · have h : (match lineP c X with | .error pl => (Except.error pl : Except Nat Cfg) | .ok c' => restP O c') = .ok u := h
      rw [h1] at h; cases h
    · have h : (match lineP c X with | .error pl => (Except.error pl : Except Nat Cfg) | .ok c' => restP O c') = .ok u := h
      rw [h1] at h
      have := rest_bw O v u _ h (line_bw h1 hb)
      have e : tot (X :: O) = X.1.length + tot O := by simp [tot]
      rw [e, ← Nat.add_assoc]
      exact this
theorem gw_tens {L : List Wd} {en m : Nat} {c : Cfg} (h : gatewayP L en 0 = .ok (c, m)) : c.tens = [] := by
  unfold gatewayP at h
  simp only [bind, Except.bind] at h
  repeat' (split at h)
  all_goals first | (cases h; done) | (cases h; rfl)
theorem conf_small {s : ByteArray} {c : Cfg} (h : configP s = .ok c) : SmallCfg c := by
  unfold configP at h
  split at h
  · cases h
  rename_i hs
  have ht := lines_tot s
  generalize linesOf s = O at *
  cases O with
  | nil => cases h
  | cons Y O =>
    rcases except_cases (headP Y) with ⟨pl, hY⟩ | ⟨c0, hY⟩
    · rw [fromP_er hY] at h; cases h
    · rw [fromP_ok hY] at h
      have h0 : c0.tens = [] := by
        obtain ⟨L, en⟩ := Y
        rw [headP_res] at hY
        rcases except_cases (gatewayP L en 0) with ⟨pl, h1⟩ | ⟨⟨v, m⟩, h1⟩
        · rw [h1] at hY; cases hY
        · rw [h1] at hY
          have hY : (match doneP L m with | .error pl => (Except.error pl : Except Nat Cfg) | .ok _ => .ok v) = .ok c0 := hY
          cases hd : doneP L m with
          | error pl => rw [hd] at hY; cases hY
          | ok _ => rw [hd] at hY; cases hY; exact gw_tens h1
      have hb := rest_bw O c0 c 0 h ⟨(fun t ht => by rw [h0] at ht; cases ht), (by rw [h0]; exact Nat.le_refl _), (fun t ht => by rw [h0] at ht; cases ht)⟩
      have e : tot (Y :: O) = Y.1.length + tot O := by simp [tot]
      have hn : 0 + tot O ≤ 1000000 := by omega
      exact ⟨by have := hb.2.1; omega, fun t ht => by obtain ⟨q1, q2, q3⟩ := hb.1 t ht; exact ⟨by omega, by omega, by omega⟩⟩
end Go.Proofs.YtbkpbcmjgbdbkaaGreatDoor
