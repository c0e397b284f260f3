/- How the world stands in the midst of the reference's reading of a tenant's further line. No condition. -/
import Derived.Test.YtbkpbcmjgbdbkaaGreatDoorMF
import Derived.Test.YtbkpbcmjgbdbkaaGreatDoorI2
namespace Go.Proofs.YtbkpbcmjgbdbkaaGreatDoor
open Go.RowKit Go.Lib
set_option linter.unusedVariables false
set_option linter.unusedSimpArgs false
set_option maxRecDepth 100000

/-- The world in the midst of reading a tenant's further line: from the world w, the tenant's lists p0 s0 q0, its block's cells cur0. -/
structure RSt (w : World) (lo b g cap : Nat) (L : List Wd) (en G o : Nat) (cur0 : Array Value) (p0 s0 q0 : Value) (n : Except Nat Nat) (cur : Array Value) (t : Ten) (p s q : Value) (W : World) : Prop where
  line : RefIs W b g cap L en n
  env : Env W
  ten : TenAt W lo G o cur t p s q
  turn : Turn (fun k => k = b ∨ k = G ∨ Owns p0 s0 q0 k) w W
  old : ∀ k, Owns p s q k → Owns p0 s0 q0 k ∨ w.heap.size ≤ k
  same : SameOff o cur0 cur
  bG : b ≠ G
  gG : g ≠ G
  bO : ¬ Owns p s q b
  gO : ¬ Owns p s q g
  low : lo ≤ w.heap.size
  inb : b < w.heap.size
  inG : G < w.heap.size
  lo7 : 7 ≤ lo
  G7 : 7 ≤ G
section
variable {w W W' : World} {lo b g cap en G o : Nat} {n m : Except Nat Nat} {L : List Wd} {cur0 cur : Array Value} {p0 s0 q0 p s q : Value} {t : Ten}
theorem RSt.start (h : RefIs w b g cap L en n) (he : Env w) (ht : TenAt w lo G o cur t p s q) (hbG : b ≠ G) (hgG : g ≠ G) (hb : ¬ Owns p s q b) (hg : ¬ Owns p s q g) (hlo : lo ≤ w.heap.size) (h7 : 7 ≤ lo) (hG : 7 ≤ G) :
    RSt w lo b g cap L en G o cur p s q n cur t p s q w :=
  ⟨h, he, ht, Turn.refl _ _, fun k hk => Or.inl hk, SameOff.refl _ _, hbG, hgG, hb, hg, hlo, h.lt, block_lt ht.blk, h7, hG⟩
theorem RSt.call (h : RSt w lo b g cap L en G o cur0 p0 s0 q0 n cur t p s q W) (hl : RefIs W' b g cap L en m) (tn : Turn (fun k => k = b) W W') : RSt w lo b g cap L en G o cur0 p0 s0 q0 m cur t p s q W' :=
  ⟨hl, h.env.line hl.low tn, h.ten.turn tn (fun e => h.bG e.symm) (fun k hk e => h.bO (e ▸ hk)), h.turn.trans2 tn (fun k _ e => Or.inl e), h.old, h.same, h.bG, h.gG, h.bO, h.gO, h.low, h.inb, h.inG, h.lo7, h.G7⟩
theorem RSt.quiet (h : RSt w lo b g cap L en G o cur0 p0 s0 q0 n cur t p s q W) (tn : Turn (fun _ => False) W W') : RSt w lo b g cap L en G o cur0 p0 s0 q0 n cur t p s q W' :=
  h.call (h.line.turn tn (fun h => h) (fun h => h)) (tn.mono (fun _ _ h => h.elim))
/-- A field of one cell stored. -/
theorem RSt.put (h : RSt w lo b g cap L en G o cur0 p0 s0 q0 n cur t p s q W) {j : Nat} (hj : j < 33) (u : Value) (t' : Ten) (h1 : (tenRow t' p s q).toList = (tenRow t p s q).toList.set j u) (h2 : t'.pool = t.pool) (h3 : t'.statics = t.statics) (h4 : t'.twices = t.twices) (hw : WfTen t') :
    RSt w lo b g cap L en G o cur0 p0 s0 q0 n (cur.setIfInBounds (o + j) u) t' p s q (W.setCell ⟨G, o + j, none⟩ u) := by
  have tn : Turn (fun k => k = G) W (W.setCell ⟨G, o + j, none⟩ u) := (Turn.refl (fun k => k = G) W).setCell (p := ⟨G, o + j, none⟩) u (fun _ => rfl)
  have hx := h.ten
  have hne := hx.off
  have hl := tenRow_len hx.wf p s q
  refine ⟨h.line.turn tn h.bG h.gG, h.env.turn tn (fun k hk e => by have := h.G7; omega), ⟨block_setCell hx.blk _ _, fun i v hv => ?_, ?_, ?_, ?_, hx.apart, hw⟩, h.turn.trans2 tn (fun k _ e => Or.inr (Or.inl e)), h.old, h.same.set hj u, h.bG, h.gG, h.bO, h.gO, h.low, h.inb, h.inG, h.lo7, h.G7⟩
  · rw [h1, List.getElem?_set] at hv
    rw [Array.getElem?_setIfInBounds]
    by_cases e : j = i
    · subst e
      rw [if_pos rfl] at hv
      rw [if_pos rfl]
      rw [if_pos (by omega)] at hv
      have := hx.row j _ (List.getElem?_eq_getElem (by omega))
      rw [if_pos (Array.getElem?_eq_some_iff.1 this).1]
      exact hv
    · rw [if_neg e] at hv
      rw [if_neg (by omega)]
      exact hx.row i v hv
  · rw [h2]; exact ownsRow_turn hx.pool tn (fun g hg e => hne (Or.inl (e ▸ hg)))
  · rw [h3]; exact ownsRow_turn hx.stat tn (fun g hg e => hne (Or.inr (Or.inl (e ▸ hg))))
  · rw [h4]; exact ownsRow_turn hx.twic tn (fun g hg e => hne (Or.inr (Or.inr (e ▸ hg))))
theorem RSt.cellFree (h : RSt w lo b g cap L en G o cur0 p0 s0 q0 n cur t p s q W) (j : Nat) : W.frozen? ⟨G, o + j, none⟩ = false := free_of_block h.ten.blk _
end
section
variable {w W W' W'' : World} {lo b g cap en G o : Nat} {n m : Except Nat Nat} {L : List Wd} {cur0 cur : Array Value} {p0 s0 q0 p s q p' : Value} {t : Ten}
/-- An element laid behind a tenant's pool, then stored. -/
theorem RSt.poolPut (h : RSt w lo b g cap L en G o cur0 p0 s0 q0 n cur t p s q W) (x : Nat) (hown : W'.ownsRow lo 23 1 p' (t.pool.length + 1) (numCells t.pool ++ [.int .u32 (x : Int)])) (hgrow : Turn (fun k => p.ownBlock = some k) W W') (hat : p'.ownBlock = p.ownBlock ∨ p'.ownBlock = some W.heap.size) :
    RSt w lo b g cap L en G o cur0 p0 s0 q0 n (cur.setIfInBounds (o + 23) p') { t with pool := t.pool ++ [x] } p' s q (W'.setCell ⟨G, o + 23, none⟩ p') := by
  have hx := h.ten
  have hne := hx.off
  have hl := tenRow_len hx.wf p s q
  have hpG : p.ownBlock ≠ some G := fun e => hne (Or.inl e)
  have hd_stat : ∀ k, p.ownBlock = some k → s.ownBlock ≠ some k := fun k h1 h2 => own_apart hx.pool hx.stat (by decide) h1 h2
  have hd_twic : ∀ k, p.ownBlock = some k → q.ownBlock ≠ some k := fun k h1 h2 => own_apart hx.pool hx.twic (by decide) h1 h2
  have hblk : W'.heap[G]? = some (.cells cur 45 (0, 0)) := (hgrow.block G (block_lt hx.blk) hpG).trans hx.blk
  have hp'G : p'.ownBlock ≠ some G := by obtain ⟨_, _, _, hn⟩ := own_form hown hblk (by decide); exact hn
  have hnew : ∀ k, p'.ownBlock = some k → p.ownBlock = some k ∨ W.heap.size ≤ k := fun k hk => by
    rcases hat with e | e
    · exact Or.inl (e ▸ hk)
    · rw [e] at hk; injection hk with hk; omega
  have tn : Turn (fun k => k = G) W' (W'.setCell ⟨G, o + 23, none⟩ p') := (Turn.refl (fun k => k = G) W').setCell (p := ⟨G, o + 23, none⟩) _ (fun _ => rfl)
  have t2 : Turn (fun k => p.ownBlock = some k ∨ k = G) W (W'.setCell ⟨G, o + 23, none⟩ p') := (hgrow.mono (fun _ _ e => Or.inl e)).setCell (p := ⟨G, o + 23, none⟩) _ (fun _ => Or.inr rfl)
  have hsz := h.turn.size
  have hbl := h.line.lt
  have hgl := h.line.glt
  have hvo : ∀ k, p.ownBlock = some k → Owns p0 s0 q0 k ∨ w.heap.size ≤ k := fun k hk => h.old k (Or.inl hk)
  exact {
    line := h.line.turn t2 (fun e => by rcases e with e | e; exact h.bO (Or.inl e); exact h.bG e) (fun e => by rcases e with e | e; exact h.gO (Or.inl e); exact h.gG e)
    env := h.env.turn t2 (fun k hk e => by
      rcases e with e | e
      · have := own1_low hx.pool e; have := h.lo7; omega
      · have := h.G7; omega)
    ten := {
      blk := block_setCell hblk _ _
      row := fun i v hv => by
        rw [ten_set_pool t hx.wf p s q p' _, List.getElem?_set] at hv
        rw [Array.getElem?_setIfInBounds]
        by_cases e : 23 = i
        · subst e
          rw [if_pos rfl] at hv
          rw [if_pos rfl]
          rw [if_pos (by omega)] at hv
          have := hx.row 23 _ (List.getElem?_eq_getElem (by omega))
          rw [if_pos (Array.getElem?_eq_some_iff.1 this).1]
          exact hv
        · rw [if_neg e] at hv
          rw [if_neg (by omega)]
          exact hx.row i v hv
      pool := by
        show World.ownsRow _ lo 23 1 p' (t.pool ++ [x]).length (numCells (t.pool ++ [x]))
        rw [List.length_append, numCells_snoc]
        exact ownsRow_turn hown tn (fun g hg e => hp'G (e ▸ hg))
      stat := ownsRow_turn hx.stat t2 (fun g hg e => by rcases e with e | e; exact hd_stat g e hg; exact hne (Or.inr (Or.inl (e ▸ hg))))
      twic := ownsRow_turn hx.twic t2 (fun g hg e => by rcases e with e | e; exact hd_twic g e hg; exact hne (Or.inr (Or.inr (e ▸ hg))))
      apart := hx.apart
      wf := ⟨hx.wf.key, hx.wf.vmac, hx.wf.host⟩ }
    turn := h.turn.trans2 t2 (fun k hk e => by
      rcases e with e | e
      · rcases hvo k e with e2 | e2
        · exact Or.inr (Or.inr e2)
        · omega
      · exact Or.inr (Or.inl e))
    old := fun k hk => by
      rcases hk with hk | hk | hk
      · rcases hnew k hk with e | e
        · exact hvo k e
        · omega
      · exact h.old k (Or.inr (Or.inl hk))
      · exact h.old k (Or.inr (Or.inr hk))
    same := h.same.set (by omega) _
    bG := h.bG
    gG := h.gG
    bO := fun hk => by
      rcases hk with hk | hk | hk
      · rcases hnew b hk with e | e
        · exact h.bO (Or.inl e)
        · omega
      · exact h.bO (Or.inr (Or.inl hk))
      · exact h.bO (Or.inr (Or.inr hk))
    gO := fun hk => by
      rcases hk with hk | hk | hk
      · rcases hnew g hk with e | e
        · exact h.gO (Or.inl e)
        · omega
      · exact h.gO (Or.inr (Or.inl hk))
      · exact h.gO (Or.inr (Or.inr hk))
    low := h.low
    inb := h.inb
    inG := h.inG
    lo7 := h.lo7
    G7 := h.G7 }
/-- An element laid behind a tenant's statics, then stored. -/
theorem RSt.statPut (h : RSt w lo b g cap L en G o cur0 p0 s0 q0 n cur t p s q W) (x : Nat × Nat) (hown : W'.ownsRow lo 97 2 p' (t.statics.length + 1) (pairCells t.statics ++ [.int .u32 (x.1 : Int), .int .u32 (x.2 : Int)])) (hgrow : Turn (fun k => s.ownBlock = some k) W W') (hat : p'.ownBlock = s.ownBlock ∨ p'.ownBlock = some W.heap.size) :
    RSt w lo b g cap L en G o cur0 p0 s0 q0 n (cur.setIfInBounds (o + 27) p') { t with statics := t.statics ++ [x] } p p' q (W'.setCell ⟨G, o + 27, none⟩ p') := by
  have hx := h.ten
  have hne := hx.off
  have hl := tenRow_len hx.wf p s q
  have hpG : s.ownBlock ≠ some G := fun e => hne (Or.inr (Or.inl e))
  have hd_pool : ∀ k, s.ownBlock = some k → p.ownBlock ≠ some k := fun k h1 h2 => own_apart hx.stat hx.pool (by decide) h1 h2
  have hd_twic : ∀ k, s.ownBlock = some k → q.ownBlock ≠ some k := fun k h1 h2 => hx.apart k h1 h2
  have hblk : W'.heap[G]? = some (.cells cur 45 (0, 0)) := (hgrow.block G (block_lt hx.blk) hpG).trans hx.blk
  have hp'G : p'.ownBlock ≠ some G := by obtain ⟨_, _, _, hn⟩ := own_form hown hblk (by decide); exact hn
  have hnew : ∀ k, p'.ownBlock = some k → s.ownBlock = some k ∨ W.heap.size ≤ k := fun k hk => by
    rcases hat with e | e
    · exact Or.inl (e ▸ hk)
    · rw [e] at hk; injection hk with hk; omega
  have tn : Turn (fun k => k = G) W' (W'.setCell ⟨G, o + 27, none⟩ p') := (Turn.refl (fun k => k = G) W').setCell (p := ⟨G, o + 27, none⟩) _ (fun _ => rfl)
  have t2 : Turn (fun k => s.ownBlock = some k ∨ k = G) W (W'.setCell ⟨G, o + 27, none⟩ p') := (hgrow.mono (fun _ _ e => Or.inl e)).setCell (p := ⟨G, o + 27, none⟩) _ (fun _ => Or.inr rfl)
  have hsz := h.turn.size
  have hbl := h.line.lt
  have hgl := h.line.glt
  have hvo : ∀ k, s.ownBlock = some k → Owns p0 s0 q0 k ∨ w.heap.size ≤ k := fun k hk => h.old k (Or.inr (Or.inl hk))
  exact {
    line := h.line.turn t2 (fun e => by rcases e with e | e; exact h.bO (Or.inr (Or.inl e)); exact h.bG e) (fun e => by rcases e with e | e; exact h.gO (Or.inr (Or.inl e)); exact h.gG e)
    env := h.env.turn t2 (fun k hk e => by
      rcases e with e | e
      · have := own1_low hx.stat e; have := h.lo7; omega
      · have := h.G7; omega)
    ten := {
      blk := block_setCell hblk _ _
      row := fun i v hv => by
        rw [ten_set_stat t hx.wf p s q p' _, List.getElem?_set] at hv
        rw [Array.getElem?_setIfInBounds]
        by_cases e : 27 = i
        · subst e
          rw [if_pos rfl] at hv
          rw [if_pos rfl]
          rw [if_pos (by omega)] at hv
          have := hx.row 27 _ (List.getElem?_eq_getElem (by omega))
          rw [if_pos (Array.getElem?_eq_some_iff.1 this).1]
          exact hv
        · rw [if_neg e] at hv
          rw [if_neg (by omega)]
          exact hx.row i v hv
      pool := ownsRow_turn hx.pool t2 (fun g hg e => by rcases e with e | e; exact hd_pool g e hg; exact hne (Or.inl (e ▸ hg)))
      stat := by
        show World.ownsRow _ lo 97 2 p' (t.statics ++ [x]).length (pairCells (t.statics ++ [x]))
        rw [List.length_append, pairCells_snoc]
        exact ownsRow_turn hown tn (fun g hg e => hp'G (e ▸ hg))
      twic := ownsRow_turn hx.twic t2 (fun g hg e => by rcases e with e | e; exact hd_twic g e hg; exact hne (Or.inr (Or.inr (e ▸ hg))))
      apart := fun k h1 h2 => by
        rcases hnew k h1 with h3 | h3
        · exact hd_twic k h3 h2
        · have := (hx.twic.lt k h2).2; omega
      wf := ⟨hx.wf.key, hx.wf.vmac, hx.wf.host⟩ }
    turn := h.turn.trans2 t2 (fun k hk e => by
      rcases e with e | e
      · rcases hvo k e with e2 | e2
        · exact Or.inr (Or.inr e2)
        · omega
      · exact Or.inr (Or.inl e))
    old := fun k hk => by
      rcases hk with hk | hk | hk
      · exact h.old k (Or.inl hk)
      · rcases hnew k hk with e | e
        · exact hvo k e
        · omega
      · exact h.old k (Or.inr (Or.inr hk))
    same := h.same.set (by omega) _
    bG := h.bG
    gG := h.gG
    bO := fun hk => by
      rcases hk with hk | hk | hk
      · exact h.bO (Or.inl hk)
      · rcases hnew b hk with e | e
        · exact h.bO (Or.inr (Or.inl e))
        · omega
      · exact h.bO (Or.inr (Or.inr hk))
    gO := fun hk => by
      rcases hk with hk | hk | hk
      · exact h.gO (Or.inl hk)
      · rcases hnew g hk with e | e
        · exact h.gO (Or.inr (Or.inl e))
        · omega
      · exact h.gO (Or.inr (Or.inr hk))
    low := h.low
    inb := h.inb
    inG := h.inG
    lo7 := h.lo7
    G7 := h.G7 }
/-- An element laid behind a tenant's twices, then stored. -/
theorem RSt.twicPut (h : RSt w lo b g cap L en G o cur0 p0 s0 q0 n cur t p s q W) (x : Nat × Nat) (hown : W'.ownsRow lo 97 2 p' (t.twices.length + 1) (pairCells t.twices ++ [.int .u32 (x.1 : Int), .int .u32 (x.2 : Int)])) (hgrow : Turn (fun k => q.ownBlock = some k) W W') (hat : p'.ownBlock = q.ownBlock ∨ p'.ownBlock = some W.heap.size) :
    RSt w lo b g cap L en G o cur0 p0 s0 q0 n (cur.setIfInBounds (o + 28) p') { t with twices := t.twices ++ [x] } p s p' (W'.setCell ⟨G, o + 28, none⟩ p') := by
  have hx := h.ten
  have hne := hx.off
  have hl := tenRow_len hx.wf p s q
  have hpG : q.ownBlock ≠ some G := fun e => hne (Or.inr (Or.inr e))
  have hd_pool : ∀ k, q.ownBlock = some k → p.ownBlock ≠ some k := fun k h1 h2 => own_apart hx.twic hx.pool (by decide) h1 h2
  have hd_stat : ∀ k, q.ownBlock = some k → s.ownBlock ≠ some k := fun k h1 h2 => hx.apart k h2 h1
  have hblk : W'.heap[G]? = some (.cells cur 45 (0, 0)) := (hgrow.block G (block_lt hx.blk) hpG).trans hx.blk
  have hp'G : p'.ownBlock ≠ some G := by obtain ⟨_, _, _, hn⟩ := own_form hown hblk (by decide); exact hn
  have hnew : ∀ k, p'.ownBlock = some k → q.ownBlock = some k ∨ W.heap.size ≤ k := fun k hk => by
    rcases hat with e | e
    · exact Or.inl (e ▸ hk)
    · rw [e] at hk; injection hk with hk; omega
  have tn : Turn (fun k => k = G) W' (W'.setCell ⟨G, o + 28, none⟩ p') := (Turn.refl (fun k => k = G) W').setCell (p := ⟨G, o + 28, none⟩) _ (fun _ => rfl)
  have t2 : Turn (fun k => q.ownBlock = some k ∨ k = G) W (W'.setCell ⟨G, o + 28, none⟩ p') := (hgrow.mono (fun _ _ e => Or.inl e)).setCell (p := ⟨G, o + 28, none⟩) _ (fun _ => Or.inr rfl)
  have hsz := h.turn.size
  have hbl := h.line.lt
  have hgl := h.line.glt
  have hvo : ∀ k, q.ownBlock = some k → Owns p0 s0 q0 k ∨ w.heap.size ≤ k := fun k hk => h.old k (Or.inr (Or.inr hk))
  exact {
    line := h.line.turn t2 (fun e => by rcases e with e | e; exact h.bO (Or.inr (Or.inr e)); exact h.bG e) (fun e => by rcases e with e | e; exact h.gO (Or.inr (Or.inr e)); exact h.gG e)
    env := h.env.turn t2 (fun k hk e => by
      rcases e with e | e
      · have := own1_low hx.twic e; have := h.lo7; omega
      · have := h.G7; omega)
    ten := {
      blk := block_setCell hblk _ _
      row := fun i v hv => by
        rw [ten_set_twic t hx.wf p s q p' _, List.getElem?_set] at hv
        rw [Array.getElem?_setIfInBounds]
        by_cases e : 28 = i
        · subst e
          rw [if_pos rfl] at hv
          rw [if_pos rfl]
          rw [if_pos (by omega)] at hv
          have := hx.row 28 _ (List.getElem?_eq_getElem (by omega))
          rw [if_pos (Array.getElem?_eq_some_iff.1 this).1]
          exact hv
        · rw [if_neg e] at hv
          rw [if_neg (by omega)]
          exact hx.row i v hv
      pool := ownsRow_turn hx.pool t2 (fun g hg e => by rcases e with e | e; exact hd_pool g e hg; exact hne (Or.inl (e ▸ hg)))
      stat := ownsRow_turn hx.stat t2 (fun g hg e => by rcases e with e | e; exact hd_stat g e hg; exact hne (Or.inr (Or.inl (e ▸ hg))))
      twic := by
        show World.ownsRow _ lo 97 2 p' (t.twices ++ [x]).length (pairCells (t.twices ++ [x]))
        rw [List.length_append, pairCells_snoc]
        exact ownsRow_turn hown tn (fun g hg e => hp'G (e ▸ hg))
      apart := fun k h1 h2 => by
        rcases hnew k h2 with h3 | h3
        · exact hd_stat k h3 h1
        · have := (hx.stat.lt k h1).2; omega
      wf := ⟨hx.wf.key, hx.wf.vmac, hx.wf.host⟩ }
    turn := h.turn.trans2 t2 (fun k hk e => by
      rcases e with e | e
      · rcases hvo k e with e2 | e2
        · exact Or.inr (Or.inr e2)
        · omega
      · exact Or.inr (Or.inl e))
    old := fun k hk => by
      rcases hk with hk | hk | hk
      · exact h.old k (Or.inl hk)
      · exact h.old k (Or.inr (Or.inl hk))
      · rcases hnew k hk with e | e
        · exact hvo k e
        · omega
    same := h.same.set (by omega) _
    bG := h.bG
    gG := h.gG
    bO := fun hk => by
      rcases hk with hk | hk | hk
      · exact h.bO (Or.inl hk)
      · exact h.bO (Or.inr (Or.inl hk))
      · rcases hnew b hk with e | e
        · exact h.bO (Or.inr (Or.inr e))
        · omega
    gO := fun hk => by
      rcases hk with hk | hk | hk
      · exact h.gO (Or.inl hk)
      · exact h.gO (Or.inr (Or.inl hk))
      · rcases hnew g hk with e | e
        · exact h.gO (Or.inr (Or.inr e))
        · omega
    low := h.low
    inb := h.inb
    inG := h.inG
    lo7 := h.lo7
    G7 := h.G7 }
end
end Go.Proofs.YtbkpbcmjgbdbkaaGreatDoor
