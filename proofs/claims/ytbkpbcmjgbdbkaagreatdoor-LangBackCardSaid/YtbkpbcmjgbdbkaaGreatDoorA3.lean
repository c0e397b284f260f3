/- Blanks, comments and empty lines laid into a text: its lines' words stay. No condition. -/
import Derived.Test.YtbkpbcmjgbdbkaaGreatDoorY2
namespace Go.Proofs.YtbkpbcmjgbdbkaaGreatDoor
open Go.RowKit Go.Lib
set_option linter.unusedVariables false
set_option linter.unusedSimpArgs false
set_option maxRecDepth 100000

/-- A line's end with a comment and empty lines. -/
def endB : List UInt8 := [32, 35, 32, 112, 111, 111, 108, 32, 49, 46, 50, 46, 51, 46, 52, 10, 10, 32, 32, 10]
/-- Is it a place where something may be laid? -/
def gapB (c : UInt8) : Bool := c == 32 || c == 10
def kindOf (B : List Nat) (k : Nat) (c : UInt8) : Nat := if gapB c = true then (match B[k]? with | some b => b % 4 | none => 0) else 0
def pieceOf (x : Nat) (c : UInt8) : List UInt8 := if x = 1 then (if c = 32 then [32, 32, 32] else endB) else if x = 2 ∧ c = 10 then [35, 120, 10] else [c]
def nextK (c : UInt8) (k : Nat) : Nat := if gapB c = true then k + 1 else k
def spreadGo (B : List Nat) : List UInt8 → Nat → List UInt8
  | [], _ => []
  | c :: l, k => pieceOf (kindOf B k c) c ++ spreadGo B l (nextK c k)
theorem spreadGo_cons (B : List Nat) (c : UInt8) (l : List UInt8) (k : Nat) : spreadGo B (c :: l) k = pieceOf (kindOf B k c) c ++ spreadGo B l (nextK c k) := rfl
theorem gap_plain {c : UInt8} (h : c.toNat ≠ 10 ∧ c.toNat ≠ 35 ∧ c.toNat ≠ 32) : gapB c = false := by
  unfold gapB
  have h1 : c ≠ 32 := fun e => by rw [e] at h; exact h.2.2 rfl
  have h2 : c ≠ 10 := fun e => by rw [e] at h; exact h.1 rfl
  simp [h1, h2]
theorem spread_word (B : List Nat) (r : List UInt8) : ∀ (l : List UInt8) (k : Nat), Plain l → spreadGo B (l ++ r) k = l ++ spreadGo B r k
  | [], k, _ => rfl
  | c :: l, k, h => by
    have hc := gap_plain (h c (List.mem_cons_self ..))
    rw [List.cons_append, spreadGo_cons]
    have e1 : kindOf B k c = 0 := by unfold kindOf; rw [hc]; rfl
    have e2 : nextK c k = k := by unfold nextK; rw [hc]; rfl
    rw [e1, e2, spread_word B r l k (fun x hx => h x (List.mem_cons_of_mem _ hx))]
    rfl
theorem piece_blank (x : Nat) : ∃ n, pieceOf x 32 = 32 :: List.replicate n 32 := by
  unfold pieceOf
  by_cases h : x = 1
  · exact ⟨2, by rw [if_pos h]; rfl⟩
  · refine ⟨0, ?_⟩
    rw [if_neg h, if_neg (fun e => absurd e.2 (by decide))]
    rfl
theorem piece_end (x : Nat) : Ends (pieceOf x 10) := by
  unfold pieceOf
  by_cases h : x = 1
  · rw [if_pos h, if_neg (by decide)]
    exact Or.inr (Or.inr rfl)
  · rw [if_neg h]
    by_cases h2 : x = 2
    · rw [if_pos ⟨h2, rfl⟩]
      exact Or.inr (Or.inl rfl)
    · rw [if_neg (fun e => h2 e.1)]
      exact Or.inl rfl
theorem spread_line (B : List Nat) (r : List UInt8) : ∀ (ps : List (List UInt8)), ps ≠ [] → (∀ l ∈ ps, Good l) → ∀ k, ∃ t m, SpL ps t ∧ spreadGo B (lineL ps ++ r) k = t ++ spreadGo B r m
  | [], h, _, _ => absurd rfl h
  | [p], _, hg, k => by
    have hp := hg p (by simp)
    refine ⟨p ++ pieceOf (kindOf B k 10) 10, nextK 10 k, .last p _ (piece_end _), ?_⟩
    have e : lineL [p] ++ r = p ++ (10 :: r) := by simp [lineL, joinL]
    rw [e, spread_word B _ p k hp.2, spreadGo_cons, List.append_assoc]
  | p :: q :: ps, _, hg, k => by
    have hp := hg p (by simp)
    have e : lineL (p :: q :: ps) ++ r = p ++ (32 :: (lineL (q :: ps) ++ r)) := by
      unfold lineL
      show ((p ++ 32 :: joinL 32 (q :: ps)) ++ [10]) ++ r = _
      simp
    obtain ⟨t, m, h1, h2⟩ := spread_line B r (q :: ps) (by simp) (fun x hx => hg x (List.mem_cons_of_mem _ hx)) (nextK 32 k)
    obtain ⟨n, hn⟩ := piece_blank (kindOf B k 32)
    refine ⟨(p ++ 32 :: List.replicate n 32) ++ t, m, .more p n (q :: ps) t h1, ?_⟩
    rw [e, spread_word B _ p k hp.2, spreadGo_cons, h2, hn]
    simp
theorem spread_lines (B : List Nat) : ∀ (Ls : List (List (List UInt8))), (∀ ps ∈ Ls, ps ≠ []) → (∀ ps ∈ Ls, ∀ l ∈ ps, Good l) → ∀ k, SpT Ls (spreadGo B (Ls.flatMap lineL) k)
  | [], _, _, k => .nil
  | ps :: Ls, h, hg, k => by
    rw [List.flatMap_cons]
    obtain ⟨t, m, h1, h2⟩ := spread_line B (Ls.flatMap lineL) ps (h ps (by simp)) (hg ps (by simp)) k
    rw [h2]
    exact .cons _ _ _ _ h1 (spread_lines B Ls (fun x hx => h x (List.mem_cons_of_mem _ hx)) (fun x hx => hg x (List.mem_cons_of_mem _ hx)) m)
theorem piece_len (x : Nat) (c : UInt8) : (pieceOf x c).length ≤ 20 := by
  unfold pieceOf endB
  split
  · split <;> simp
  · split <;> simp
theorem piece_zero (c : UInt8) : pieceOf 0 c = [c] := by
  unfold pieceOf
  rw [if_neg (by omega), if_neg (fun e => absurd e.1 (by omega))]
theorem spread_len (B : List Nat) : ∀ (l : List UInt8) (k : Nat), (spreadGo B l k).length ≤ l.length + 20 * (B.length - k)
  | [], k => by simp [spreadGo]
  | c :: l, k => by
    rw [spreadGo_cons, List.length_append, List.length_cons]
    have ih := spread_len B l (nextK c k)
    by_cases hg : gapB c = true
    · have e2 : nextK c k = k + 1 := by unfold nextK; rw [if_pos hg]
      rw [e2] at ih ⊢
      by_cases hk : k < B.length
      · have := piece_len (kindOf B k c) c
        omega
      · have e1 : kindOf B k c = 0 := by unfold kindOf; rw [if_pos hg, List.getElem?_eq_none (by omega)]
        rw [e1, piece_zero]
        simp only [List.length_singleton]
        omega
    · have e1 : kindOf B k c = 0 := by unfold kindOf; rw [if_neg hg]
      have e2 : nextK c k = k := by unfold nextK; rw [if_neg hg]
      rw [e1, e2, piece_zero]
      rw [e2] at ih
      simp only [List.length_singleton]
      omega
theorem spread_back (ks : List Nat) (d : Nat) (hk : ∀ x ∈ ks, x < 65536) (B : List Nat) (hB : B.length ≤ 200) : configP ⟨(spreadGo B (textL (seatCfg ks d)) 0).toArray⟩ = .ok (seatCfg ks d) ∧ (spreadGo B (textL (seatCfg ks d)) 0).length ≤ 6200 := by
  have h1 := spread_len B (textL (seatCfg ks d)) 0
  have h2 := seatText_len hk d
  have h3 : (spreadGo B (textL (seatCfg ks d)) 0).length ≤ 6200 := by omega
  refine ⟨configP_spread (seatCfg_ok hk d) (seatCfg_names hk d) ?_ ?_, h3⟩
  · show SpT _ (spreadGo B (textL (seatCfg ks d)) 0)
    rw [textL_lines]
    exact spread_lines B _ (lines_ne _) (words_good (seatCfg_ok hk d) (seatCfg_names hk d)) 0
  · show (spreadGo B (textL (seatCfg ks d)) 0).toArray.size ≤ _
    simp only [List.size_toArray]; omega
end Go.Proofs.YtbkpbcmjgbdbkaaGreatDoor
