/- Both ports side by side: the program's and the reference's. No condition but the numbers' bounds. -/
import Derived.Test.YtpnobcffglohnaaR4
namespace Go.Proofs.Ytpnobcffglohnaa
open Go.RowKit
set_option linter.unusedVariables false
set_option linter.unusedSimpArgs false

def hOf (L : List Mk) : Int → Int → Nat → Bool := fun a b c => decide ((a, b, c) ∈ L)
def Good (m : Mk) : Prop := W8 m.1 ∧ W32 m.2.1 ∧ m.2.2 < 65536
def holdL (L : List Mk) (m : Mk) : List Mk := if m ∈ L then L else L ++ [m]
def freeL (L : List Mk) (m : Mk) : List Mk := if m ∈ L then L.erase m else L
def holdV (L : List Mk) (m : Mk) : Value := .int .i64 (if m ∈ L then 121 else 0)
def freeV (L : List Mk) (m : Mk) : Value := .int .i64 (if m ∈ L then 0 else 121)

theorem hOf_add (L : List Mk) (pr ip : Int) (po : Nat) : hset (hOf L) pr ip po true = hOf (L ++ [(pr, ip, po)]) := by
  funext x y z
  unfold hset hOf
  by_cases h : x = pr ∧ y = ip ∧ z = po
  · obtain ⟨rfl, rfl, rfl⟩ := h; simp
  · rw [if_neg h]
    simp only [List.mem_append, List.mem_singleton, Prod.mk.injEq]
    simp [h]
theorem hOf_del (L : List Mk) (hn : L.Nodup) (pr ip : Int) (po : Nat) : hset (hOf L) pr ip po false = hOf (L.erase (pr, ip, po)) := by
  funext x y z
  unfold hset hOf
  simp only [hn.mem_erase_iff]
  by_cases h : x = pr ∧ y = ip ∧ z = po
  · obtain ⟨rfl, rfl, rfl⟩ := h; simp
  · rw [if_neg h]
    have : (x, y, z) ≠ (pr, ip, po) := fun e => h (by simpa using e)
    simp [this]
theorem erase_at {L : List Mk} (hn : L.Nodup) {i : Nat} {m : Mk} (h : L[i]? = some m) : L.take i ++ L.drop (i + 1) = L.erase m := by
  obtain ⟨hl, he⟩ := List.getElem?_eq_some_iff.1 h
  have e : L = L.take i ++ m :: L.drop (i + 1) := by rw [← he, List.getElem_cons_drop, List.take_append_drop]
  have hni : m ∉ L.take i := by
    intro hm
    have hn' := hn
    rw [e, List.nodup_append] at hn'
    exact hn'.2.2 _ hm _ (List.mem_cons_self ..) rfl
  have e2 : (L.take i ++ m :: L.drop (i + 1)).erase m = L.take i ++ L.drop (i + 1) := by rw [List.erase_append_right _ hni, List.erase_cons_head]
  rw [← e] at e2
  exact e2.symm

theorem good_hold {L : List Mk} {m : Mk} (hL : ∀ x ∈ L, Good x) (hm : Good m) : ∀ x ∈ holdL L m, Good x := by
  unfold holdL
  split
  · exact hL
  · intro x hx
    rcases List.mem_append.1 hx with h | h
    · exact hL x h
    · rw [List.mem_singleton.1 h]; exact hm
theorem nodup_hold {L : List Mk} {m : Mk} (hL : L.Nodup) : (holdL L m).Nodup := by
  unfold holdL
  split
  · exact hL
  · rename_i h
    rw [List.nodup_append]
    exact ⟨hL, by simp, fun a ha b hb e => by rw [List.mem_singleton.1 hb] at e; exact h (e ▸ ha)⟩
theorem good_free {L : List Mk} {m : Mk} (hL : ∀ x ∈ L, Good x) : ∀ x ∈ freeL L m, Good x := by
  unfold freeL
  split
  · intro x hx; exact hL x (List.mem_of_mem_erase hx)
  · exact hL
theorem nodup_free {L : List Mk} {m : Mk} (hL : L.Nodup) : (freeL L m).Nodup := by
  unfold freeL
  split
  · exact hL.erase _
  · exact hL
theorem len_hold (L : List Mk) (m : Mk) : (holdL L m).length ≤ L.length + 1 := by unfold holdL; split <;> simp
theorem len_free (L : List Mk) (m : Mk) : (freeL L m).length ≤ L.length := by
  unfold freeL; split
  · exact List.length_erase_le
  · exact Nat.le_refl _

/-- Both ports, alike. -/
structure Both (B : Nat) (w : World) (bp bm : Nat) (F G : Nat → Prop) (L : List Mk) : Prop where
  p : PortsIs w bp F (hOf L) L.length
  r : RefIs w bm G L
  nd : L.Nodup
  ok : ∀ m ∈ L, Good m
  dis : ∀ k, F k → ¬ G k ∧ k ≠ bm
  lo : ∀ k, F k ∨ G k ∨ k = bm → B ≤ k

theorem Both.fresh {B : Nat} {w : World} {bp bm : Nat} {F G : Nat → Prop} {L : List Mk} (b : Both B w bp bm F G L) {X : Nat} (hX : w.heap.size ≤ X) : ¬ F X ∧ ¬ G X ∧ X ≠ bm := by
  obtain ⟨v, q⟩ := b.r
  refine ⟨b.p.nF hX, fun h => ?_, fun e => ?_⟩
  · have := q.2.2.2 _ h; omega
  · have := block_lt q.1; omega
theorem Both.turn {B : Nat} {w w' : World} {bp bm : Nat} {F G Q : Nat → Prop} {L : List Mk} (b : Both B w bp bm F G L) (t : Turn Q w w') (hQ : ∀ k, Q k → ¬ F k ∧ ¬ G k ∧ k ≠ bm) : Both B w' bp bm F G L :=
  ⟨b.p.turn t (fun k _ hf hq => (hQ k hq).1 hf), b.r.turn t (fun k hq => (hQ k hq).2), b.nd, b.ok, b.dis, b.lo⟩
theorem Both.alloc {B : Nat} {w : World} {bp bm : Nat} {F G : Nat → Prop} {L : List Mk} (b : Both B w bp bm F G L) (o : Obj) : Both B (w.alloc o) bp bm F G L :=
  b.turn ((Turn.refl (fun _ => False) w).alloc _) (fun _ h => h.elim)

/-- Behind the program's call. -/
def Half (w w1 : World) (bp : Nat) (F F' : Nat → Prop) (L' : List Mk) : Prop :=
  PortsIs w1 bp F' (hOf L') L'.length ∧ Turn F w w1 ∧ ∀ k, F' k → F k ∨ w.heap.size ≤ k
/-- Behind the reference's call. -/
def Half2 (w w1 : World) (bm : Nat) (G G' : Nat → Prop) (L' : List Mk) : Prop :=
  RefIs w1 bm G' L' ∧ Turn (fun k => G k ∨ k = bm) w w1 ∧ ∀ k, G' k → G k ∨ w.heap.size ≤ k

theorem Both.ref {B : Nat} {w w1 : World} {bp bm : Nat} {F G F' : Nat → Prop} {L L' : List Mk} (b : Both B w bp bm F G L) (h : Half w w1 bp F F' L') : RefIs w1 bm G L := b.r.turn h.2.1 b.dis
theorem Both.step {B : Nat} {w w1 w2 : World} {bp bm : Nat} {F G F' G' : Nat → Prop} {L L' : List Mk} (b : Both B w bp bm F G L) (hB : B ≤ w.heap.size) (h : Half w w1 bp F F' L') (k : Half2 w1 w2 bm G G' L') (nd : L'.Nodup) (ok : ∀ m ∈ L', Good m) :
    Both B w2 bp bm F' G' L' ∧ Turn (fun k => F k ∨ G k ∨ k = bm) w w2 := by
  have hs := h.2.1.size
  obtain ⟨v, q⟩ := b.r
  have hbm := block_lt q.1
  have e1 : ∀ k, F' k → ¬ G k ∧ k ≠ bm := fun k hk => by
    rcases h.2.2 k hk with f | f
    · exact b.dis k f
    · exact (b.fresh f).2
  refine ⟨⟨h.1.turn k.2.1 (fun i _ hf hg => by
      rcases hg with g | g
      · exact (e1 i hf).1 g
      · exact (e1 i hf).2 g), k.1, nd, ok, fun i hf => ⟨fun hg => ?_, (e1 i hf).2⟩, fun i hi => ?_⟩, ?_⟩
  · rcases k.2.2 i hg with g | g
    · exact (e1 i hf).1 g
    · exact h.1.nF g hf
  · rcases hi with f | f | f
    · rcases h.2.2 i f with g | g
      · exact b.lo i (Or.inl g)
      · omega
    · rcases k.2.2 i f with g | g
      · exact b.lo i (Or.inr (Or.inl g))
      · omega
    · exact b.lo i (Or.inr (Or.inr f))
  · exact (h.2.1.mono (fun _ _ f => Or.inl f)).trans (k.2.1.mono (fun _ _ f => Or.inr f))

def HoldPost (w : World) (bp : Nat) (F : Nat → Prop) (v : Value) (L' : List Mk) (e : Ending) (w' : World) : Prop := e = .returned v ∧ ∃ F', Half w w' bp F F' L'
def HoldPost2 (w : World) (bm : Nat) (G : Nat → Prop) (v : Value) (L' : List Mk) (e : Ending) (w' : World) : Prop := e = .returned v ∧ ∃ G', Half2 w w' bm G G' L'

theorem half_same {w w1 : World} {bp : Nat} {F : Nat → Prop} {L : List Mk} (p : PortsIs w bp F (hOf L) L.length) (t : Turn (fun _ => False) w w1) : Half w w1 bp F F L :=
  ⟨p.turn t (fun _ _ _ h => h), t.mono (fun _ _ h => h.elim), fun _ h => Or.inl h⟩
theorem half2_same {w w1 : World} {bm : Nat} {G : Nat → Prop} {L : List Mk} (r : RefIs w bm G L) (t : Turn (fun _ => False) w w1) : Half2 w w1 bm G G L :=
  ⟨r.turn t (fun _ h => h.elim), t.mono (fun _ _ h => h.elim), fun _ h => Or.inl h⟩

theorem phold_both (bp : Nat) (F : Nat → Prop) (L : List Mk) (pr ip : Int) (po : Nat) (w : World) (p : PortsIs w bp F (hOf L) L.length) (hg : Good (pr, ip, po)) (hL : L.length ≤ 1000) :
    Calls Try.prog 22 #[.pointer (some ⟨bp, 0, none⟩), .int .u8 pr, .agg #[.int .u32 ip, .int .u16 (po : Int)]] w (HoldPost w bp F (holdV L (pr, ip, po)) (holdL L (pr, ip, po))) := by
  obtain ⟨h1, h2, h3⟩ := hg
  unfold holdV holdL
  by_cases hm : (pr, ip, po) ∈ L
  · rw [if_pos hm, if_pos hm]
    refine (hold_held bp F (hOf L) _ pr ip po w p h1 h2 h3 (decide_eq_true hm)).mono ?_
    rintro e w1 ⟨rfl, t⟩
    exact ⟨rfl, F, half_same p t⟩
  · rw [if_neg hm, if_neg hm]
    refine (hold_free bp F (hOf L) _ pr ip po w p h1 h2 h3 (decide_eq_false hm) (by omega) (by omega)).mono ?_
    rintro e w1 ⟨rfl, F', p1, t, n⟩
    refine ⟨rfl, F', ?_, t, n⟩
    rw [hOf_add] at p1
    rw [List.length_append]
    exact p1
theorem mhold_both (bm : Nat) (G : Nat → Prop) (L : List Mk) (pr ip : Int) (po : Nat) (w : World) (r : RefIs w bm G L) (hL : L.length ≤ 1000) :
    Calls Try.prog 26 #[.pointer (some ⟨bm, 0, none⟩), .int .u8 pr, .agg #[.int .u32 ip, .int .u16 (po : Int)]] w (HoldPost2 w bm G (holdV L (pr, ip, po)) (holdL L (pr, ip, po))) := by
  unfold holdV holdL
  by_cases hm : (pr, ip, po) ∈ L
  · rw [if_pos hm, if_pos hm]
    refine (mhold_held bm G L pr ip po w r hL hm).mono ?_
    rintro e w1 ⟨rfl, t⟩
    exact ⟨rfl, G, half2_same r t⟩
  · rw [if_neg hm, if_neg hm]
    refine (mhold_free bm G L pr ip po w r hL hm).mono ?_
    rintro e w1 ⟨rfl, G', h⟩
    exact ⟨rfl, G', h⟩
theorem pfree_both (bp : Nat) (F : Nat → Prop) (L : List Mk) (pr ip : Int) (po : Nat) (w : World) (p : PortsIs w bp F (hOf L) L.length) (hn : L.Nodup) (hg : Good (pr, ip, po)) (hL : L.length ≤ 1000) :
    Calls Try.prog 27 #[.pointer (some ⟨bp, 0, none⟩), .int .u8 pr, .agg #[.int .u32 ip, .int .u16 (po : Int)]] w (HoldPost w bp F (freeV L (pr, ip, po)) (freeL L (pr, ip, po))) := by
  obtain ⟨h1, h2, h3⟩ := hg
  unfold freeV freeL
  by_cases hm : (pr, ip, po) ∈ L
  · rw [if_pos hm, if_pos hm]
    refine (free_yes bp F (hOf L) _ pr ip po w p h1 h2 h3 (decide_eq_true hm) (by omega) (by omega)).mono ?_
    rintro e w1 ⟨rfl, F', p1, t, n⟩
    refine ⟨rfl, F', ?_, t, n⟩
    rw [hOf_del L hn] at p1
    have e := List.length_erase_of_mem hm
    have := List.length_pos_of_mem hm
    rw [e]
    rw [show ((L.length - 1 : Nat) : Int) = (L.length : Int) - 1 by omega]
    exact p1
  · rw [if_neg hm, if_neg hm]
    refine (free_no bp F (hOf L) _ pr ip po w p h1 h2 h3 (decide_eq_false hm)).mono ?_
    rintro e w1 ⟨rfl, t⟩
    exact ⟨rfl, F, half_same p t⟩
theorem mfree_both (bm : Nat) (G : Nat → Prop) (L : List Mk) (pr ip : Int) (po : Nat) (w : World) (r : RefIs w bm G L) (hn : L.Nodup) (hL : L.length ≤ 1000) :
    Calls Try.prog 28 #[.pointer (some ⟨bm, 0, none⟩), .int .u8 pr, .agg #[.int .u32 ip, .int .u16 (po : Int)]] w (HoldPost2 w bm G (freeV L (pr, ip, po)) (freeL L (pr, ip, po))) := by
  unfold freeV freeL
  by_cases hm : (pr, ip, po) ∈ L
  · rw [if_pos hm, if_pos hm]
    refine (mfree_some bm G L pr ip po w r hL hm).mono ?_
    rintro e w1 ⟨i, hi, rfl, G', h⟩
    rw [erase_at hn hi] at h
    exact ⟨rfl, G', h⟩
  · rw [if_neg hm, if_neg hm]
    refine (mfree_none bm G L pr ip po w r hL hm).mono ?_
    rintro e w1 ⟨rfl, t⟩
    exact ⟨rfl, G, half2_same r t⟩

/-- What Take finds. -/
def TakesIs (L : List Mk) (pr : Int) (len : Nat) (P : Nat → Int) (a b : Nat) : Option (Int × Nat) → Prop
  | some (ip, p) => ∃ i, i < len ∧ P i = ip ∧ a ≤ p ∧ p ≤ b ∧ p % 2 = a % 2 ∧ (pr, P i, p) ∉ L ∧ (∀ j q, j < i → a ≤ q → q ≤ b → q % 2 = a % 2 → (pr, P j, q) ∈ L) ∧ (∀ q, a ≤ q → q < p → q % 2 = a % 2 → (pr, P i, q) ∈ L)
  | none => ∀ j q, j < len → a ≤ q → q ≤ b → q % 2 = a % 2 → (pr, P j, q) ∈ L
theorem TakesIs.one {L : List Mk} {pr : Int} {len : Nat} {P : Nat → Int} {a b : Nat} {o o' : Option (Int × Nat)} (h : TakesIs L pr len P a b o) (h' : TakesIs L pr len P a b o') : o = o' := by
  rcases o with _ | ⟨ip, p⟩ <;> rcases o' with _ | ⟨ip', p'⟩
  · rfl
  · obtain ⟨i, s0, s1, s2, s3, s4, s5, s6, s7⟩ := h'
    exact absurd (h i p' s0 s2 s3 s4) s5
  · obtain ⟨i, s0, s1, s2, s3, s4, s5, s6, s7⟩ := h
    exact absurd (h' i p s0 s2 s3 s4) s5
  · obtain ⟨i, s0, s1, s2, s3, s4, s5, s6, s7⟩ := h
    obtain ⟨i', t0, t1, t2, t3, t4, t5, t6, t7⟩ := h'
    have e1 : i = i' := by
      by_cases c1 : i < i'
      · exact absurd (t6 i p c1 s2 s3 s4) s5
      · by_cases c2 : i' < i
        · exact absurd (s6 i' p' c2 t2 t3 t4) t5
        · omega
    subst e1
    have e2 : p = p' := by
      by_cases c1 : p < p'
      · exact absurd (t7 p s2 c1 s4) s5
      · by_cases c2 : p' < p
        · exact absurd (s7 p' t2 c2 t4) t5
        · omega
    rw [← s1, ← t1, e2]
def takeV : Option (Int × Nat) → Value
  | some (ip, p) => .tuple #[.agg #[.int .u32 ip, .int .u16 (p : Int)], .int .i64 0]
  | none => .tuple #[.agg #[.int .u32 0, .int .u16 0], .int .i64 120]
def takeL (L : List Mk) (pr : Int) : Option (Int × Nat) → List Mk
  | some (ip, p) => L ++ [(pr, ip, p)]
  | none => L
def TakePost (w : World) (bp : Nat) (F : Nat → Prop) (L : List Mk) (pr : Int) (len : Nat) (P : Nat → Int) (a b : Nat) (e : Ending) (w' : World) : Prop :=
  ∃ o, TakesIs L pr len P a b o ∧ e = .returned (takeV o) ∧ ∃ F', Half w w' bp F F' (takeL L pr o)

theorem take_len (L : List Mk) (pr : Int) (o : Option (Int × Nat)) : (takeL L pr o).length ≤ L.length + 1 := by
  rcases o with _ | ⟨ip, p⟩
  · exact Nat.le_succ _
  · show (L ++ [_]).length ≤ _; simp
theorem take_good {L : List Mk} {pr : Int} {len : Nat} {P : Nat → Int} {a b : Nat} {o : Option (Int × Nat)} (h : TakesIs L pr len P a b o) (hP : ∀ i, i < len → W32 (P i)) (h1 : W8 pr) (hb : b < 65536) (nd : L.Nodup) (ok : ∀ m ∈ L, Good m) :
    (takeL L pr o).Nodup ∧ ∀ m ∈ takeL L pr o, Good m := by
  rcases o with _ | ⟨ip, p⟩
  · exact ⟨nd, ok⟩
  · obtain ⟨i, s0, rfl, s2, s3, s4, s5, s6, s7⟩ := h
    have e : takeL L pr (some (P i, p)) = holdL L (pr, P i, p) := by unfold holdL; rw [if_neg s5]; rfl
    rw [e]
    exact ⟨nodup_hold nd, good_hold ok ⟨h1, hP i s0, by show p < 65536; omega⟩⟩

theorem ptake_both (bp : Nat) (F : Nat → Prop) (L : List Mk) (pr : Int) (ao : Option Addr) (len cap : Nat) (P : Nat → Int) (lo hi want : Nat) (w : World) (p : PortsIs w bp F (hOf L) L.length) (h1 : W8 pr)
    (hlo : lo < 65536) (hhi : hi < 65536) (hwant : want < 65536) (hL : L.length ≤ 1000) (hlen : len ≤ 1000) (hP : PoolIs w F ao len P) :
    Calls Try.prog 21 #[.pointer (some ⟨bp, 0, none⟩), .int .u8 pr, .slice ao len cap, .int .u16 (lo : Int), .int .u16 (hi : Int), .int .u16 (want : Int)] w (TakePost w bp F L pr len P (tkLo lo want) (tkHi hi want)) := by
  refine (ptake_any bp F (hOf L) L.length pr ao len cap P lo hi want w p h1 hlo hhi hwant (by omega) (by omega) (by omega) hP.1 hP.2).mono ?_
  have dt : ∀ m : Mk, hOf L m.1 m.2.1 m.2.2 = true → m ∈ L := fun m h => of_decide_eq_true h
  have df : ∀ m : Mk, hOf L m.1 m.2.1 m.2.2 = false → m ∉ L := fun m h => of_decide_eq_false h
  rintro e w' (⟨i', r, s0, s1, s2, s3, s4, s5, s6, rfl, F', p1, t, n⟩ | ⟨s, rfl, s2, s3⟩)
  · refine ⟨some (P i', r), ⟨i', s0, rfl, s1, s2, s3, df (pr, P i', r) s4, fun j q a b c d => dt (pr, P j, q) (s5 j q a b c d), fun q a b c => dt (pr, P i', q) (s6 q a b c)⟩, rfl, F', ?_, t, n⟩
    rw [hOf_add] at p1
    show PortsIs w' bp F' (hOf (L ++ [(pr, P i', r)])) _
    rw [show ((takeL L pr (some (P i', r))).length : Int) = (L.length : Int) + 1 by show ((L ++ [_]).length : Int) = _; simp]
    exact p1
  · exact ⟨none, fun j q a b c d => dt (pr, P j, q) (s j q a b c d), rfl, F, s2, s3, fun _ h => Or.inl h⟩
theorem mtake_both (bm : Nat) (G : Nat → Prop) (L : List Mk) (pr : Int) (ao : Option Addr) (len cap : Nat) (P : Nat → Int) (lo hi want : Nat) (w : World) (r : RefIs w bm G L) (hL : L.length ≤ 1000)
    (hlo : lo < 65536) (hhi : hi < 65536) (hwant : want < 65536) (hlen : len ≤ 1000)
    (hP : ∀ i, i < len → ∃ b off, ao = some ⟨b, off, none⟩ ∧ w.cell? ⟨b, off + i, none⟩ = some (.int .u32 (P i))) (o : Option (Int × Nat)) (ho : TakesIs L pr len P (tkLo lo want) (tkHi hi want) o) :
    Calls Try.prog 25 #[.pointer (some ⟨bm, 0, none⟩), .int .u8 pr, .slice ao len cap, .int .u16 (lo : Int), .int .u16 (hi : Int), .int .u16 (want : Int)] w (HoldPost2 w bm G (takeV o) (takeL L pr o)) := by
  refine (mtake_any bm G L pr ao len cap P lo hi want w r hL hlo hhi hwant (by omega) hP).mono ?_
  rintro e w' (⟨i', p, s0, s1, s2, s3, s4, s5, s6, rfl, G', h⟩ | ⟨s, rfl, s2, s3⟩)
  · have e : TakesIs L pr len P (tkLo lo want) (tkHi hi want) (some (P i', p)) := ⟨i', s0, rfl, s1, s2, s3, s4, s5, s6⟩
    rw [ho.one e]
    exact ⟨rfl, G', h⟩
  · have e : TakesIs L pr len P (tkLo lo want) (tkHi hi want) none := s
    rw [ho.one e]
    exact ⟨rfl, G, half2_same r s3⟩
end Go.Proofs.Ytpnobcffglohnaa
