/- MacText of both. No condition but the bytes' bound. -/
import Derived.Test.YtbkpbcmjgbdbkaaDoorE8
import Derived.Maps.AppendAt
namespace Go.Proofs.YtbkpbcmjgbdbkaaDoor
open Go.RowKit Go.Lib
set_option linter.unusedVariables false
set_option linter.unusedSimpArgs false

theorem joinL_snoc {c : UInt8} (ps : List (List UInt8)) (q : List UInt8) (h : ps ≠ []) : joinL c (ps ++ [q]) = joinL c ps ++ c :: q := by
  induction ps with
  | nil => exact absurd rfl h
  | cons p ps ih =>
    match ps, ih with
    | [], _ => rfl
    | r :: rs, ih =>
      show p ++ c :: joinL c ((r :: rs) ++ [q]) = _
      rw [ih (by simp)]
      show _ = (p ++ c :: joinL c (r :: rs)) ++ c :: q
      simp
theorem join_joinL (c : UInt8) (ps : List (List UInt8)) : Lib.join ps [c] = joinL c ps := by
  match ps with
  | [] => rfl
  | p :: ps =>
    rw [Lib.join_cons]
    induction ps generalizing p with
    | nil => simp [Lib.joinTail, joinL]
    | cons q r ih =>
      show p ++ Lib.joinTail [c] (q :: r) = p ++ c :: joinL c (q :: r)
      rw [← ih q]
      simp [Lib.joinTail]
def macAt (M : List Nat) (k : Nat) : List UInt8 := joinL 58 ((M.take k).map hexL)
theorem macAt_next {M : List Nat} {k y : Nat} (h0 : 1 ≤ k) (hk : k ≤ M.length) (hy : M[k]? = some y) : macAt M (k + 1) = macAt M k ++ 58 :: hexL y := by
  unfold macAt
  rw [List.take_add_one, hy, List.map_append]
  exact joinL_snoc _ _ (by intro e; rw [List.map_eq_nil_iff] at e; have := congrArg List.length e; rw [List.length_take, List.length_nil] at this; omega)
theorem hexL_len (b : Nat) : (hexL b).length = 2 := rfl
theorem macAt_len (M : List Nat) (k : Nat) : (macAt M k).length ≤ 3 * k := by
  unfold macAt
  have key : ∀ l : List Nat, (joinL 58 (l.map hexL)).length ≤ 3 * l.length := by
    intro l
    induction l with
    | nil => simp [joinL]
    | cons a l ih =>
      match l, ih with
      | [], _ => simp [joinL, hexL_len]
      | b :: r, ih =>
        show (hexL a ++ 58 :: joinL 58 ((b :: r).map hexL)).length ≤ _
        rw [List.length_append, hexL_len, List.length_cons]
        have h2 : (a :: b :: r).length = (b :: r).length + 1 := rfl
        omega
  have := key (M.take k)
  rw [List.length_take] at this
  omega

set_option maxRecDepth 100000 in
set_option maxHeartbeats 2000000 in
theorem rmacText_any (M : List Nat) (h6 : M.length = 6) (hM : ∀ b ∈ M, b < 256) (w : World) : Calls Tryd.prog 24 #[.agg (u8row M)] w (TextPost (macText M) w) := by
  obtain ⟨a0, a1, a2, a3, a4, a5, he⟩ : ∃ a0 a1 a2 a3 a4 a5 : Nat, M = [a0, a1, a2, a3, a4, a5] := by
    match M, h6 with
    | [a0, a1, a2, a3, a4, a5], _ => exact ⟨_, _, _, _, _, _, rfl⟩
  have hr : u8row M = #[.int .u8 (a0 : Int), .int .u8 (a1 : Int), .int .u8 (a2 : Int), .int .u8 (a3 : Int), .int .u8 (a4 : Int), .int .u8 (a5 : Int)] := by rw [he]; rfl
  have hnew := block_alloc_new w (.cells (u8row M) 36)
  have hsz : w.heap.size < (w.alloc (.cells (u8row M) 36)).heap.size := by simp
  have t0 : Turn (fun _ => False) w (w.alloc (.cells (u8row M) 36)) := (Turn.refl _ _).alloc _
  have call0 := hexes_any a0 (hM a0 (by rw [he]; simp))
  have hm0 : macAt M 1 = hexL a0 := by rw [he]; rfl
  have HK := Lib.hid (And.intro h6 (And.intro hM (And.intro hnew (And.intro hsz t0))))
  have HR := Lib.hid (And.intro hr (And.intro call0 hm0))
  rw [hr]
  clear h6 hM hnew hsz t0 hr he call0 hm0
  go_enter Tryd.func24, Tryd.ntmps24
  go_wp2_with fail
  refine (HR.out.2.1 _).mono ?_
  rintro e w1 ⟨rfl, t1⟩
  rw [← HR.out.1] at t1
  rw [← HR.out.2.2]
  have t0 := HK.out.2.2.2.2.trans t1
  have hsz : w.heap.size < w1.heap.size := Nat.lt_of_lt_of_le HK.out.2.2.2.1 t1.size
  have hnw := (t1.block w.heap.size HK.out.2.2.2.1 (fun h => h)).trans HK.out.2.2.1
  generalize w.heap.size = B at *
  have HN := Lib.hid (And.intro hnw (And.intro t0 hsz))
  clear hnw t1 t0 hsz
  go_wp2_with fail
  go_loopw [3, 4] (fun o i wr => ∃ k : Nat, 1 ≤ k ∧ k ≤ 6 ∧ i = .int .i64 k ∧ o = .string ⟨(macAt M k).toArray⟩ ∧ Turn (fun _ => False) w1 wr) (fun _ i _ => 6 - (RowKit.intOf i).toNat)
  case atStart => exact ⟨1, by omega, by omega, rfl, rfl, Turn.refl _ _⟩
  case round =>
    obtain ⟨k, hk1, hk, rfl, rfl, ht⟩ := hrel
    by_cases hlt : k < 6
    · obtain ⟨y, hy⟩ : ∃ y, M[k]? = some y := ⟨_, List.getElem?_eq_getElem (by have := HK.out.1; omega)⟩
      have hcell : wr.cell? ⟨B, k, none⟩ = some (.int .u8 (y : Int)) := (World.cell?_of_block (ht.block B HN.out.2.2 (fun h => h))).trans (by
        rw [cell_of_block HN.out.1]
        unfold u8row
        rw [List.getElem?_toArray, List.getElem?_map, hy]; rfl)
      have hix := idx36 B k hlt
      have call := hexes_any y (HK.out.2.1 y (List.mem_of_getElem? hy))
      have hkt := macAt_next hk1 (by have := HK.out.1; omega) hy
      obtain ⟨A, hA⟩ : ∃ A : ByteArray, A = ⟨(macAt M k).toArray⟩ := ⟨_, rfl⟩
      obtain ⟨C, hC⟩ : ∃ C : ByteArray, C = ⟨(macAt M k ++ [58]).toArray⟩ := ⟨_, rfl⟩
      obtain ⟨D, hD⟩ : ∃ D : ByteArray, D = ⟨(hexL y).toArray⟩ := ⟨_, rfl⟩
      have hs1 : A.size ≤ 18 := by rw [hA]; show (macAt M k).toArray.size ≤ _; rw [List.size_toArray]; have := macAt_len M k; omega
      have hs2 : D.size = 2 := by rw [hD]; rfl
      have hsC : C.size ≤ 19 := by rw [hC]; show (macAt M k ++ [58]).toArray.size ≤ _; rw [List.size_toArray, List.length_append]; have := macAt_len M k; simp; omega
      have hs3 : ¬ (C.size + D.size > 9223372036854775807) := by omega
      have hAC : A ++ ⟨#[58]⟩ = C := by rw [hA, hC]; exact str_append _ [58]
      have hCD : C ++ D = ⟨(macAt M (k + 1)).toArray⟩ := by rw [hkt, hC, hD, str_append]; simp
      rw [← hA]
      rw [← hD] at call
      have E := Lib.hid (And.intro call hCD)
      clear call hCD hA hD hC hkt hs2 hy
      go_wp2_with fail
      refine (E.out.1 _).mono ?_
      rintro e w2 ⟨rfl, t2⟩
      go_wp2_with fail
      all_goals first
        | (exfalso; omega)
        | (go_roundw
           case rel => exact ⟨k + 1, by omega, by omega, by go_num, by rw [E.out.2], ht.trans t2⟩
           case measure => simp [RowKit.intOf]; omega)
    · obtain rfl : k = 6 := by omega
      have hf : macAt M 6 = macText M := by unfold macAt macText; rw [List.take_of_length_le (by have := HK.out.1; omega)]
      rw [hf]
      clear hf
      go_wp2_with fail
      go_ret
      exact ⟨rfl, HN.out.2.1.trans ht⟩

def strAt (M : List Nat) (k : Nat) : List Value := strCells ((M.take k).map hexL)
/-- strings.Join at a sign of one byte, of a row of the call's own. -/
theorem pjoin {w : World} {base : Nat} {v : Value} {ps : List (List UInt8)} {n : Nat} (c : UInt8) (h : w.ownsRow base 9 1 v n (strCells ps)) (hn : ps.length = n) (h0 : 0 < n) (hlen : (joinL c ps).length ≤ 140737488355328) (hps : n ≤ 1000000) :
    Calls Tryd.prog 33 #[v, .string ⟨#[c]⟩] w (TextPost (joinL c ps) w) := by
  obtain ⟨g, cap, rfl, _, hg⟩ := World.ownsRow.form h h0
  have hcap : n ≤ cap := by
    rcases h.2 with ⟨h1, _⟩ | ⟨g', cap', cur, h1, _, _, h3, _⟩
    · cases h1
    · injection h1 with h1 h2 h4; subst h4; exact h3
  have hd : (ps.map fun l => (⟨l.toArray⟩ : ByteArray)).map (·.data.toList) = ps := by rw [List.map_map]; exact List.map_id _
  have := Tryd.strings_Join g 0 cap (ps.map fun l => ⟨l.toArray⟩) ⟨#[c]⟩ w (fun j x hx => by
    have hj : j < n := by rw [← hn]; have := (List.getElem?_eq_some_iff.1 hx).1; simpa using this
    rw [Nat.zero_add, h.cellAt j (by omega)]
    unfold strCells
    rw [List.getElem?_map] at hx ⊢
    cases hp : ps[j]? with
    | none => rw [hp] at hx; cases hx
    | some l => rw [hp] at hx; simp only [Option.map_some, Option.some.injEq] at hx; subst hx; rfl) hg (by simp; omega) (by simp; omega) (by rw [hd]; show (Lib.join ps [c]).length ≤ _; rw [join_joinL]; exact hlen)
  rw [hd] at this
  rw [List.length_map, hn] at this
  refine this.mono fun e w' ⟨he, hb⟩ => ⟨?_, turn_of_below hb⟩
  rw [he]
  show Ending.returned (.string ⟨(Lib.join ps [c]).toArray⟩) = _
  rw [join_joinL]

set_option maxRecDepth 100000 in
set_option maxHeartbeats 2000000 in
theorem pmacText_any (M : List Nat) (h6 : M.length = 6) (hM : ∀ b ∈ M, b < 256) (w : World) : Calls Tryd.prog 21 #[.agg (u8row M)] w (TextPost (macText M) w) := by
  obtain ⟨i0, hi, hz0, hz1, hz2⟩ := info_parts info9
  obtain ⟨a0, a1, a2, a3, a4, a5, he⟩ : ∃ a0 a1 a2 a3 a4 a5 : Nat, M = [a0, a1, a2, a3, a4, a5] := by
    match M, h6 with
    | [a0, a1, a2, a3, a4, a5], _ => exact ⟨_, _, _, _, _, _, rfl⟩
  have hr : u8row M = #[.int .u8 (a0 : Int), .int .u8 (a1 : Int), .int .u8 (a2 : Int), .int .u8 (a3 : Int), .int .u8 (a4 : Int), .int .u8 (a5 : Int)] := by rw [he]; rfl
  have hnew := block_alloc_new w (.cells (u8row M) 36)
  have hsz : w.heap.size < (w.alloc (.cells (u8row M) 36)).heap.size := by simp
  have t0 : Turn (fun _ => False) w (w.alloc (.cells (u8row M) 36)) := (Turn.refl _ _).alloc _
  have HK := Lib.hid (And.intro h6 (And.intro hM (And.intro hnew (And.intro hsz t0))))
  have HR := Lib.hid hr
  rw [hr]
  clear h6 hM hnew hsz t0 hr he
  go_enter Tryd.func21, Tryd.ntmps21
  go_wp2_with fail
  rw [← HR.out]
  have t0 := HK.out.2.2.2.2
  have hsz := HK.out.2.2.2.1
  have hnw := HK.out.2.2.1
  generalize w.alloc (.cells (u8row M) 36) = w1 at *
  generalize w.heap.size = B at *
  have HN := Lib.hid (And.intro hnw (And.intro t0 hsz))
  clear hnw t0 hsz
  go_loopw [3, 5] (fun v i wr => ∃ k : Nat, k ≤ 6 ∧ i = .int .i64 k ∧ wr.ownsRow w1.heap.size 9 1 v k (strAt M k) ∧ Turn (fun _ => False) w1 wr) (fun _ i _ => 6 - (RowKit.intOf i).toNat)
  case atStart => exact ⟨0, by omega, rfl, World.ownsRow_nil _ _ _ _, Turn.refl _ _⟩
  case round =>
    obtain ⟨k, hk, rfl, hown, ht⟩ := hrel
    by_cases hlt : k < 6
    · obtain ⟨y, hy⟩ : ∃ y, M[k]? = some y := ⟨_, List.getElem?_eq_getElem (by have := HK.out.1; omega)⟩
      have hcell : wr.cell? ⟨B, k, none⟩ = some (.int .u8 (y : Int)) := (World.cell?_of_block (ht.block B HN.out.2.2 (fun h => h))).trans (by
        rw [cell_of_block HN.out.1]
        unfold u8row
        rw [List.getElem?_toArray, List.getElem?_map, hy]; rfl)
      have hsl := slice36 B k hlt
      have call : Calls Tryd.prog 34 #[.slice (some ⟨B, k, none⟩) 1 (6 - k)] wr _ := digitsText_any [y] (fun b hb => by simp at hb; subst hb; exact HK.out.2.1 b (List.mem_of_getElem? hy)) (by simp) (by simp) B k (6 - k) 36 wr (fun i x hx => by
        match i, hx with
        | 0, hx => simp at hx; subst hx; exact hcell
        | i + 1, hx => simp at hx) (Nat.lt_of_lt_of_le HN.out.2.2 ht.size)
      rw [← hexL_one] at call
      have hst : strAt M (k + 1) = strAt M k ++ [.string ⟨(hexL y).toArray⟩] := by unfold strAt; rw [List.take_add_one, hy, List.map_append]; exact strCells_snoc _ _
      have E := Lib.hid (And.intro call hst)
      clear call hst hy hcell
      go_wp2_with fail
      refine E.out.1.mono ?_
      rintro e w2 ⟨rfl, t2⟩
      have hown1 := ownsRow_turn hown t2 (fun _ _ h => h)
      have t3 := ht.trans t2
      have o5 := hown1.alloc (.cells #[.string ⟨(hexL y).toArray⟩] 9)
      clear hown hown1 t2 ht
      go_wp2_with (at_builtin; refine wpList_append_own_at _ rfl _ _ 54 rfl w1.heap.size 9 i0 (.string ⟨#[]⟩) 1 16 Tryd.underlying54 hi hz0 hz1 hz2 rfl (by decide) u3 _ _ rfl o5 ⟨w2.heap.size, 0, none⟩ 1 1 [.string ⟨(hexL y).toArray⟩] rfl rfl ?c1 ?c2 ?c3 ?c4 ?c5 ?_)
      case c1 => exact cell_one_new _ _ _
      case c2 => first | rfl | (intro u hu; simp at hu; rw [hu]; rfl)
      case c3 => unfold maxLen; omega
      case c4 => omega
      case c5 => have := t3.size; simp; omega
      intro v' w' hown' hgrow _ _
      have t4 : Turn (fun _ => False) w1 w' := (t3.alloc _).trans2 (turn_of_grown hgrow) (fun i hi e => by have := (o5.lt i e).1; omega)
      rw [← E.out.2] at hown'
      clear hgrow o5 t3
      go_wp2_with fail
      go_roundw
      case rel => exact ⟨k + 1, by omega, by go_num, hown', t4⟩
      case measure => simp [RowKit.intOf]; omega
    · obtain rfl : k = 6 := by omega
      have hown2 : wr.ownsRow w1.heap.size 9 1 u3 6 (strCells (M.map hexL)) := by unfold strAt at hown; rw [List.take_of_length_le (by have := HK.out.1; omega)] at hown; exact hown
      have hml := macAt_len M 6
      have call := pjoin 58 hown2 (by rw [List.length_map]; exact HK.out.1) (by omega) (by
        have e : macAt M 6 = joinL 58 (M.map hexL) := by unfold macAt; rw [List.take_of_length_le (by have := HK.out.1; omega)]
        rw [← e]; omega) (by omega)
      have E := Lib.hid call
      clear call hown hown2 hml
      go_wp2_with fail
      refine E.out.mono ?_
      rintro e w2 ⟨rfl, t2⟩
      go_wp2_with fail
      go_ret
      exact ⟨rfl, HN.out.2.1.trans (ht.trans t2)⟩
end Go.Proofs.YtbkpbcmjgbdbkaaDoor
