/- The reference's parts: the walk. No condition but the text's length. -/
import Derived.Test.YtbkpbcmjgbdbkaaDoorD5
import Derived.Maps.AppendAt
import Derived.Deep.AppendLies
namespace Go.Proofs.YtbkpbcmjgbdbkaaDoor
open Go.RowKit Go.Lib
set_option linter.unusedVariables false
set_option linter.unusedSimpArgs false

theorem info9 : (Tryd.prog.info? 9).map (fun i => (i.zero, i.size, i.bytes)) = some (some (.string ⟨#[]⟩), 1, 16) := by kernel_rfl
def strCells (L : List (List UInt8)) : List Value := L.map fun l => .string ⟨l.toArray⟩
theorem strCells_snoc (L : List (List UInt8)) (l : List UInt8) : strCells (L ++ [l]) = strCells L ++ [.string ⟨l.toArray⟩] := by simp [strCells]
theorem own_snoc {w : World} {base : Nat} {v : Value} {done : List (List UInt8)} {s : ByteArray} {f k : Nat} (h : w.ownsRow base 9 1 v (done.length + 1) (strCells done ++ [.string (s.extract f k)])) :
    w.ownsRow base 9 1 v (done ++ [(s.data.toList.drop f).take (k - f)]).length (strCells (done ++ [(s.data.toList.drop f).take (k - f)])) := by
  have e : s.extract f k = ⟨((s.data.toList.drop f).take (k - f)).toArray⟩ := by
    apply ByteArray.ext
    apply Array.ext'
    rw [ByteArray.data_extract, Array.toList_extract]
  rw [List.length_append, List.length_singleton, strCells_snoc, ← e]
  exact h
theorem ownsRow_turn {w w' : World} {base : Nat} {e : TypeId} {size : Nat} {v : Value} {n : Nat} {xs : List Value} {F : Nat → Prop} (h : w.ownsRow base e size v n xs) (t : Turn F w w') (hF : ∀ g, v.ownBlock = some g → ¬ F g) : w'.ownsRow base e size v n xs := by
  obtain ⟨h1, h2 | ⟨g, cap, cur, rfl, h3, h4, h5⟩⟩ := h
  · exact ⟨h1, Or.inl h2⟩
  · exact ⟨h1, Or.inr ⟨g, cap, cur, rfl, h3, (t.block g (block_lt h4) (hF g rfl)).trans h4, h5⟩⟩
theorem turn_of_grown {w w' : World} {row : Option Nat} (h : w.grownBy w' row) : Turn (fun k => row = some k) w w' :=
  ⟨h.os, h.tape, h.output, h.size, fun k hk hne => h.block k hk (fun e => hne e.symm)⟩
theorem extract_part (s : ByteArray) (f k : Nat) : s.extract f k = ⟨((s.data.toList.drop f).take (k - f)).toArray⟩ := by
  apply ByteArray.ext
  apply Array.ext'
  rw [ByteArray.data_extract, Array.toList_extract]

/-- What parts leaves: the parts, in an array of its own. -/
def PartsPost (s : ByteArray) (c : UInt8) (w : World) (e : Ending) (w' : World) : Prop :=
  ∃ g cap, e = .returned (.slice (some ⟨g, 0, none⟩) (partsOf s c).length cap) ∧ (∀ i (p : ByteArray), (partsOf s c)[i]? = some p → w'.cell? ⟨g, i, none⟩ = some (.string p)) ∧ g < w'.heap.size ∧ Turn (fun _ => False) w w'

theorem parts_shut {s : ByteArray} {c : UInt8} {w wr : World} {v : Value} {done : List (List UInt8)} (hd : done = splitL c s.data.toList) (h : wr.ownsRow w.heap.size 9 1 v done.length (strCells done)) (ht : Turn (fun _ => False) w wr) :
    PartsPost s c w (.returned v) wr := by
  have hl : done.length = (partsOf s c).length := by rw [hd]; simp [partsOf]
  have hne : 0 < done.length := by rw [hd]; exact List.length_pos_iff.2 (splitL_ne _ _)
  have hc : strCells done = (partsOf s c).map Value.string := by rw [hd]; simp [strCells, partsOf]
  obtain ⟨g, cap, rfl, _, hg⟩ := World.ownsRow.form h hne
  refine ⟨g, cap, by rw [hl], fun i p hp => ?_, hg, ht⟩
  have hi : i < (partsOf s c).length := (List.getElem?_eq_some_iff.1 hp).1
  rw [h.cellAt i (by omega), hc, List.getElem?_map, hp]
  rfl

set_option maxRecDepth 100000 in
set_option maxHeartbeats 2000000 in
theorem parts_any (s : ByteArray) (c : UInt8) (hs : s.size ≤ 1000000) (w : World) :
    Calls Tryd.prog 29 #[.string s, .int .u8 (c.toNat : Int)] w (PartsPost s c w) := by
  obtain ⟨i0, hi, hz0, hz1, hz2⟩ := info_parts info9
  have hlen := bytes_len s
  go_enter Tryd.func29, Tryd.ntmps29
  go_wp2_with fail
  go_loopg [5, 6, 7] (s.size + 1) (fun g v f i wr => ∃ (k fr : Nat) (done : List (List UInt8)), g = s.size + 1 - k ∧ k ≤ s.size + 1 ∧ fr ≤ k ∧ f = .int .i64 fr ∧ i = .int .i64 k ∧ wr.ownsRow w.heap.size 9 1 v done.length (strCells done) ∧ done.length ≤ k ∧ Turn (fun _ => False) w wr ∧ Hid (PartsAt c s.data.toList k fr done))
  case atStart => exact ⟨0, 0, [], rfl, Nat.zero_le _, Nat.le_refl _, rfl, rfl, World.ownsRow_nil _ _ _ _, Nat.zero_le _, Turn.refl _ _, PartsAt.start _ _⟩
  case round =>
    obtain ⟨k, fr, done, rfl, hk, hfr, rfl, rfl, hown, hdl, ht, hP⟩ := hrel
    by_cases hlt : k < s.size
    · obtain ⟨b, hb1, hb2⟩ := bytes_get s k hlt
      by_cases hb : b = c
      · have hbe : c = b := hb.symm
        subst hbe
        have hP' : PartsAt c s.data.toList (k + 1) (k + 1) (done ++ [(s.data.toList.drop fr).take (k - fr)]) := (hP.out).hit (by rw [hlen]; exact hlt) hb1
        have hp2 := extract_part s fr k
        have HH := Lib.hid (And.intro hP' (And.intro hp2 (And.intro ht hown)))
        have o5 := hown.alloc (.cells #[.string (s.extract fr k)] 9)
        have hf1 : (0 : Int) ≤ (fr : Int) := by omega
        have hf2 : (fr : Int) ≤ (k : Int) := by omega
        clear hP hP' hp2 hown
        go_wp2_with (at_builtin; refine wpList_append_own_at _ rfl _ _ 54 rfl w.heap.size 9 i0 (.string ⟨#[]⟩) 1 16 Tryd.underlying54 hi hz0 hz1 hz2 rfl (by decide) u5 _ _ rfl o5 ⟨wr.heap.size, 0, none⟩ 1 1 [.string (s.extract fr k)] rfl rfl ?c1 ?c2 ?c3 ?c4 ?c5 ?_)
        case c2 => first | rfl | (intro u hu; simp at hu; rw [hu]; rfl)
        case c3 => unfold maxLen; omega
        case c4 => omega
        case c5 => have := ht.size; simp; omega
        intro v' w' hown' hgrow _ _
        have t2 : Turn (fun _ => False) w w' := (ht.alloc _).trans2 (turn_of_grown hgrow) (fun i hi e => by have := (o5.lt i e).1; omega)
        have hown2 := own_snoc hown'
        clear hgrow o5 ht hown'
        go_wp2_with fail
        go_roundg (s.size + 1 - (k + 1))
        case measure => omega
        case rel => exact ⟨k + 1, k + 1, _, rfl, by omega, by omega, by go_num, by go_num, hown2, by simp only [List.length_append, List.length_singleton]; omega, t2, HH.out.1⟩
      · have hP' := (hP.out).miss (by rw [hlen]; exact hlt) hb1 hb
        have hbc : ((b.toNat : Int) == (c.toNat : Int)) = false := by
          rw [beq_eq_false_iff_ne]; intro e; exact hb (UInt8.toNat_inj.1 (by omega))
        have hks : ((k : Int) == (s.size : Int)) = false := by rw [beq_eq_false_iff_ne]; omega
        have HH := Lib.hid hP'
        clear hP hP'
        go_wp2_with fail
        go_roundg (s.size + 1 - (k + 1))
        case measure => omega
        case rel => exact ⟨k + 1, fr, done, rfl, by omega, by omega, rfl, by go_num, hown, by omega, ht, HH.out⟩
    · by_cases hke : k = s.size
      · subst hke
        have hP' := hP.out
        rw [← hlen] at hP'
        have hP2 := hP'.last
        rw [hlen] at hP2
        have HH := Lib.hid (And.intro hP2 ht)
        have o5 := hown.alloc (.cells #[.string (s.extract fr s.size)] 9)
        have hf1 : (0 : Int) ≤ (fr : Int) := by omega
        have hf2 : (fr : Int) ≤ (s.size : Int) := by omega
        clear hP hP' hP2 hown hlen
        go_wp2_with (at_builtin; refine wpList_append_own_at _ rfl _ _ 54 rfl w.heap.size 9 i0 (.string ⟨#[]⟩) 1 16 Tryd.underlying54 hi hz0 hz1 hz2 rfl (by decide) u5 _ _ rfl o5 ⟨wr.heap.size, 0, none⟩ 1 1 [.string (s.extract fr s.size)] rfl rfl ?e1 ?e2 ?e3 ?e4 ?e5 ?_)
        case e1 => exact cell_one_new _ _ _
        case e2 => first | rfl | (intro u hu; simp at hu; rw [hu]; rfl)
        case e3 => unfold maxLen; omega
        case e4 => omega
        case e5 => have := ht.size; simp; omega
        intro v' w' hown' hgrow _ _
        have t2 : Turn (fun _ => False) w w' := (ht.alloc _).trans2 (turn_of_grown hgrow) (fun i hi e => by have := (o5.lt i e).1; omega)
        have hown2 := own_snoc hown'
        clear hgrow o5 ht hown'
        go_wp2_with fail
        go_roundg 0
        case measure => omega
        case rel => exact ⟨s.size + 1, s.size + 1, _, by omega, by omega, by omega, by go_num, by go_num, hown2, by simp only [List.length_append, List.length_singleton]; omega, t2, HH.out.1⟩
      · obtain rfl : k = s.size + 1 := by omega
        have hd : done = splitL c s.data.toList := by
          rcases hP.out with ⟨h1, _⟩ | ⟨_, _, h⟩
          · omega
          · exact h
        have hex := parts_shut hd hown ht
        have HEX := Lib.hid hex
        clear hP hd hex hown ht
        go_wp2_with fail
        go_ret
        exact HEX.out
end Go.Proofs.YtbkpbcmjgbdbkaaDoor
