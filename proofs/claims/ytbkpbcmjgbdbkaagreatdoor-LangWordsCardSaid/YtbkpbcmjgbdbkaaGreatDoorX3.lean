/- The reference's line: how the world stands around it; the arms of numbers. Condition: Env. -/
import Derived.Test.YtbkpbcmjgbdbkaaGreatDoorX2
import Derived.Test.YtbkpbcmjgbdbkaaGreatDoorP3
import Derived.Deep.CutBlock
namespace Go.Proofs.YtbkpbcmjgbdbkaaGreatDoor
open Go.RowKit Go.Lib
set_option linter.unusedVariables false
set_option linter.unusedSimpArgs false
set_option maxRecDepth 100000
set_option pp.maxSteps 2500

/-- What the reference's line comes to. -/
def bodyR (c : Cfg) (L : List Wd) (en : Nat) : Except Nat (Cfg × Nat) := match nextP L en 0 with
  | .error pl => .error pl
  | .ok (x, n) => bodyP c x L en n
/-- The world around the reference's line: the line's block b, its words' row g, the settings' block C. -/
structure RLine (w : World) (lo b g cap : Nat) (L : List Wd) (en : Nat) (st : Except Nat Nat) (C : Nat) (c : Cfg) (tv : Value) (l : List TenM) : Prop where
  line : RefIs w b g cap L en st
  gty : ∃ cs, w.heap[g]? = some (.cells cs 82 (0, 0))
  env : Env w
  cel : w.heap[C]? = some (.cells (cfgRow c tv) 29 (0, 0))
  wfc : WfCfg c
  tens : TensAt w lo tv l
  eqt : l.map (·.1) = c.tens
  lo7 : 7 ≤ lo
  C7 : 7 ≤ C
  low : lo ≤ w.heap.size
  g7 : 7 ≤ g
theorem RefIs.bty {w : World} {b g cap : Nat} {L : List Wd} {en : Nat} {st : Except Nat Nat} (h : RefIs w b g cap L en st) : ∃ cs, w.heap[b]? = some (.cells cs 72 (0, 0)) := by
  obtain ⟨i, pl, bad, h⟩ := h.at_
  exact ⟨_, h.ex.1⟩
section
variable {w w' : World} {lo b g cap en C : Nat} {L : List Wd} {st : Except Nat Nat} {c : Cfg} {tv : Value} {l : List TenM}
theorem RLine.quiet (h : RLine w lo b g cap L en st C c tv l) (t : Turn (fun _ => False) w w') : RLine w' lo b g cap L en st C c tv l := by
  obtain ⟨cs, hg⟩ := h.gty
  exact ⟨h.line.turn t (fun h => h) (fun h => h), ⟨cs, (t.block g (block_lt hg) (fun h => h)).trans hg⟩, h.env.keep t, (t.block C (block_lt h.cel) (fun h => h)).trans h.cel, h.wfc, h.tens.turn t (fun _ _ h => h) (fun _ _ _ _ h => h), h.eqt, h.lo7, h.C7, Nat.le_trans h.low t.size, h.g7⟩
theorem RLine.call {st' : Except Nat Nat} (h : RLine w lo b g cap L en st C c tv l) (hl : RefIs w' b g cap L en st') (t : Turn (fun k => k = b) w w') : RLine w' lo b g cap L en st' C c tv l := by
  obtain ⟨cs, hg⟩ := h.gty
  obtain ⟨bs, hb⟩ := h.line.bty
  have hgb : g ≠ b := tag_ne hg hb (by decide)
  have hCb : C ≠ b := tag_ne h.cel hb (by decide)
  exact ⟨hl, ⟨cs, (t.block g (block_lt hg) hgb).trans hg⟩, h.env.line hl.low t, (t.block C (block_lt h.cel) hCb).trans h.cel, h.wfc, h.tens.turn t (fun k hk e => by subst e; obtain ⟨_, _, _, hne⟩ := own_form h.tens.row hb (by decide); exact hne hk) (fun x hx k hk e => by subst e; exact (h.tens.each x hx).not hb (by decide) (by decide) hk), h.eqt, h.lo7, h.C7, Nat.le_trans h.low t.size, h.g7⟩
theorem RLine.cell (h : RLine w lo b g cap L en st C c tv l) : w.cell? ⟨C, 28, none⟩ = some tv := (cell_of_block h.cel 28).trans (cfgRow_get h.wfc tv)
end
/-- What the reference's line leaves. -/
def RLinePost (w : World) (lo b g cap : Nat) (L : List Wd) (en C : Nat) (r : Except Nat (Cfg × Nat)) (e : Ending) (w' : World) : Prop :=
  e = .returned (.tuple #[]) ∧ ∃ c' tv' l', RLine w' lo b g cap L en (r.map (·.2)) C c' tv' l' ∧ Turn (fun k => k = b ∨ k = C ∨ lo ≤ k) w w' ∧ ∀ u m, r = .ok (u, m) → c' = u
/-- The last tenant updated. -/
theorem TensAt.upd72 {W W' : World} {lo G cap b : Nat} {cur cur' : Array Value} {l0 : List TenM} {x x' : TenM} {bc : Array Value} (h : TensAt W lo (.slice (some ⟨G, 0, none⟩) (l0.length + 1) cap) (l0 ++ [x])) (hb : W.heap[G]? = some (.cells cur 45 (0, 0)))
    (ht : TenAt W' lo G (l0.length * 33) cur' x'.1 x'.2.1 x'.2.2.1 x'.2.2.2) (hs : SameOff (l0.length * 33) cur cur') (tn : Turn (fun k => k = b ∨ k = G ∨ tmOwns x k) W W') (hbb : W.heap[b]? = some (.cells bc 72 (0, 0)))
    (hnew : ∀ k, tmOwns x' k → tmOwns x k ∨ W.heap.size ≤ k) : TensAt W' lo (.slice (some ⟨G, 0, none⟩) (l0.length + 1) cap) (l0 ++ [x']) := by
  have hx := h.each x (by simp)
  have hap := List.pairwise_append.1 h.apart
  have hx' : TenOwn W' lo x' := ⟨ht.pool, ht.stat, ht.twic, ht.apart, ht.wf⟩
  have hold : ∀ y ∈ l0, TenOwn W' lo y := fun y hy => (h.each y (by simp [hy])).turn tn (fun k hk e => by
    have hY := h.each y (by simp [hy])
    rcases e with e | e | e
    · subst e; exact hY.not hbb (by decide) (by decide) hk
    · subst e; exact hY.not hb (by decide) (by decide) hk
    · exact hap.2.2 y hy x (by simp) k hk e)
  have hall : ∀ y ∈ l0 ++ [x'], TenOwn W' lo y := fun y hy => by
    rcases List.mem_append.1 hy with hy | hy
    · exact hold y hy
    · rw [List.mem_singleton.1 hy]; exact hx'
  refine ⟨⟨?_, Or.inr ?_⟩, hall, ?_⟩
  · exact tensCells_len hall
  · rcases h.row.2 with ⟨_, h0⟩ | ⟨G', cap', cur0, hv, hlo, hb', hnc, hcm, hcs, htake⟩
    · simp at h0
    · simp only [Value.slice.injEq, Option.some.injEq, Addr.mk.injEq, and_true, true_and] at hv
      obtain ⟨rfl, hcap⟩ := hv
      have hcap : cap = cap' := hcap.2
      subst hcap
      rw [hb] at hb'
      cases hb'
      refine ⟨G, cap, cur', by simp, hlo, ht.blk, by simpa using hnc, hcm, hs.1.trans hcs, ?_⟩
      have hl1 := tensCells_len h.each
      have hl2 := tensCells_len hall
      have hcs' : cur'.size = cap * 33 := hs.1.trans hcs
      simp only [List.length_append, List.length_singleton] at hnc hl1 hl2 htake ⊢
      apply List.ext_getElem?
      intro i
      by_cases hi : i < l0.length * 33
      · have e1 : (tensCells (l0 ++ [x']))[i]? = (tensCells l0)[i]? := by
          rw [tensCells_snoc, List.getElem?_append_left (by rw [tensCells_len (fun y hy => hold y hy)]; exact hi)]
        have e2 : (tensCells (l0 ++ [x]))[i]? = (tensCells l0)[i]? := by
          rw [tensCells_snoc, List.getElem?_append_left (by rw [tensCells_len (fun y hy => hold y hy)]; exact hi)]
        rw [e1, ← e2, ← htake, List.getElem?_take, List.getElem?_take, if_pos (by omega), if_pos (by omega)]
        have := hs.2 i (Or.inl hi)
        simpa using this
      · by_cases hi2 : i < (l0.length + 1) * 33
        · obtain ⟨j, rfl⟩ : ∃ j, i = l0.length * 33 + j := ⟨i - l0.length * 33, by omega⟩
          have hj : j < 33 := by omega
          rw [tensCells_get hall (i := l0.length) (x := x') (by simp) hj, List.getElem?_take, if_pos (by omega)]
          have hjl : j < (tmRow x').toList.length := by have := tenRow_len hx'.wf x'.2.1 x'.2.2.1 x'.2.2.2; unfold tmRow; omega
          rw [List.getElem?_eq_getElem hjl]
          have := ht.row j _ (List.getElem?_eq_getElem hjl)
          simpa using this
        · rw [List.getElem?_take, if_neg (by omega)]; exact (List.getElem?_eq_none (by omega)).symm
  · refine List.pairwise_append.2 ⟨hap.1, by simp, fun y hy z hz k h1 h2 => ?_⟩
    rw [List.mem_singleton.1 hz] at h2
    rcases hnew k h2 with h3 | h3
    · exact hap.2.2 y hy x (by simp) k h1 h3
    · have := ((h.each y (by simp [hy])).tag h1).2.1; omega
section
variable {w w' W' : World} {lo b g cap en C G cp : Nat} {L : List Wd} {st st' : Except Nat Nat} {c : Cfg} {l0 : List TenM} {x : TenM} {cur cur' : Array Value} {t' : Ten} {p s q : Value}
theorem RLine.begin (h : RLine w lo b g cap L en st C c (.slice (some ⟨G, 0, none⟩) (l0.length + 1) cp) (l0 ++ [x])) (hlG : lo ≤ G) (hT : TenAt w lo G (l0.length * 33) cur x.1 x.2.1 x.2.2.1 x.2.2.2) : RSt w lo b g cap L en G (l0.length * 33) cur x.2.1 x.2.2.1 x.2.2.2 st cur x.1 x.2.1 x.2.2.1 x.2.2.2 w := by
  obtain ⟨gs, hg⟩ := h.gty
  obtain ⟨bs, hb⟩ := h.line.bty
  have hx := h.tens.each x (by simp)
  exact RSt.start h.line h.env hT (tag_ne hb hT.blk (by decide)) (tag_ne hg hT.blk (by decide)) (hx.not hb (by decide) (by decide)) (hx.not hg (by decide) (by decide)) h.low h.lo7 (Nat.le_trans h.lo7 hlG)
theorem RLine.field (h : RLine w lo b g cap L en st C c (.slice (some ⟨G, 0, none⟩) (l0.length + 1) cp) (l0 ++ [x])) (hlG : lo ≤ G) (hT : w.heap[G]? = some (.cells cur 45 (0, 0)))
    (hF : RSt w lo b g cap L en G (l0.length * 33) cur x.2.1 x.2.2.1 x.2.2.2 st' cur' t' p s q W') :
    RLine W' lo b g cap L en st' C { c with tens := l0.map (·.1) ++ [t'] } (.slice (some ⟨G, 0, none⟩) (l0.length + 1) cp) (l0 ++ [(t', p, s, q)]) ∧ Turn (fun k => k = b ∨ k = C ∨ lo ≤ k) w W' := by
  obtain ⟨gs, hg⟩ := h.gty
  obtain ⟨bs, hb⟩ := h.line.bty
  have hx := h.tens.each x (by simp)
  have hgn : ¬ (g = b ∨ g = G ∨ Owns x.2.1 x.2.2.1 x.2.2.2 g) := by
    rintro (e | e | e)
    · exact tag_ne hg hb (by decide) e
    · exact tag_ne hg hT (by decide) e
    · exact hx.not hg (by decide) (by decide) e
  have hCn : ¬ (C = b ∨ C = G ∨ Owns x.2.1 x.2.2.1 x.2.2.2 C) := by
    rintro (e | e | e)
    · exact tag_ne h.cel hb (by decide) e
    · exact tag_ne h.cel hT (by decide) e
    · exact hx.not h.cel (by decide) (by decide) e
  refine ⟨⟨hF.line, ⟨gs, (hF.turn.block g (block_lt hg) hgn).trans hg⟩, hF.env, (hF.turn.block C (block_lt h.cel) hCn).trans h.cel, h.wfc, h.tens.upd72 (x' := (t', p, s, q)) hT hF.ten hF.same hF.turn hb hF.old, by simp, h.lo7, h.C7, Nat.le_trans h.low hF.turn.size, h.g7⟩, hF.turn.mono (fun k _ e => ?_)⟩
  rcases e with e | e | e
  · exact Or.inl e
  · exact Or.inr (Or.inr (by omega))
  · exact Or.inr (Or.inr (hx.tag e).1)
/-- A further line's end. -/
theorem rline_close {w0 : World} {xw : ByteArray} {a0 : Nat} {F : Except Nat (Ten × Nat)} (t0 : Turn (fun k => k = b) w0 w) (h : RLine w lo b g cap L en st C c (.slice (some ⟨G, 0, none⟩) (l0.length + 1) cp) (l0 ++ [x])) (hlG : lo ≤ G) (hT : w.heap[G]? = some (.cells cur 45 (0, 0)))
    (hx : L[0]? = some (xw, a0)) (hne : ¬ xw = tenName) (hF : RSt w lo b g cap L en G (l0.length * 33) cur x.2.1 x.2.2.1 x.2.2.2 st' cur' t' p s q W') (hr : fieldP xw a0 L en 1 x.1 = F) (hst : st' = F.map (·.2)) (hv : ∀ u m, F = .ok (u, m) → t' = u) :
    RLinePost w0 lo b g cap L en C (bodyR c L en) (.returned (.tuple #[])) W' := by
  obtain ⟨k1, k2⟩ := h.field hlG hT hF
  have hct : c.tens = l0.map (·.1) ++ [x.1] := by rw [← h.eqt]; simp
  have hn : nextP L en 0 = .ok ((xw, a0), 1) := nextP_some hx
  refine ⟨rfl, { c with tens := l0.map (·.1) ++ [t'] }, .slice (some ⟨G, 0, none⟩) (l0.length + 1) cp, l0 ++ [(t', p, s, q)], ?_, (t0.mono (fun _ _ e => Or.inl e)).trans k2, fun u m hu => ?_⟩
  · have e : (bodyR c L en).map (·.2) = st' := by
      unfold bodyR
      rw [hn]
      dsimp only
      unfold bodyP
      rw [if_neg hne, hct, List.getLast?_concat]
      dsimp only
      rw [hr, hst]
      cases F <;> rfl
    rw [e]
    exact k1
  · unfold bodyR at hu
    rw [hn] at hu
    dsimp only at hu
    unfold bodyP at hu
    rw [if_neg hne, hct, List.getLast?_concat] at hu
    dsimp only at hu
    rw [hr] at hu
    cases hF' : F with
    | error pl => rw [hF'] at hu; cases hu
    | ok r =>
      obtain ⟨v, k⟩ := r
      rw [hF'] at hu
      have := hv v k hF'
      subst this
      simp only [Except.map, Except.ok.injEq, Prod.mk.injEq, List.dropLast_concat] at hu
      exact hu.1
end
end Go.Proofs.YtbkpbcmjgbdbkaaGreatDoor
