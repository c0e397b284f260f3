/- addr.Name. Conditions: the text's length; the library's tables (Env). -/
import Derived.Test.YtbkpbcmjgbdbkaaGreatDoorMC
namespace Go.Proofs.YtbkpbcmjgbdbkaaGreatDoor
open Go.RowKit Go.Lib
set_option linter.unusedVariables false
set_option linter.unusedSimpArgs false

def BoolPost (b : Bool) (w : World) (e : Ending) (w' : World) : Prop := e = .returned (.bool b) ∧ Turn (fun _ => False) w w'
theorem valid_any (s : ByteArray) (hs : s.size ≤ 1000000) (w : World) (h : Env w) : Calls Tryz.prog 103 #[.string s] w (BoolPost (Lib.validD s.data.toList) w) :=
  (Tryz.utf8_ValidString s w (by omega) h.utf8).mono fun e w' ⟨he, hb⟩ => ⟨he, turn_of_below hb⟩
theorem runs_go {f : Bool} {l : List UInt8} {x y : Nat} (hne : l ≠ []) (hd : decodeL l = (x, y)) (h : cls f x = true) : runs f l = runs false (l.drop y) := by
  rw [runs_step f l hne, hd, if_pos h]
theorem runs_stop {f : Bool} {l : List UInt8} {x y : Nat} (hne : l ≠ []) (hd : decodeL l = (x, y)) (h : cls f x = false) : runs f l = false := by
  rw [runs_step f l hne, hd]
  simp [h]

theorem name_round {L : List UInt8} {k y : Nat} (h : runs true L = runs false ((L.drop k).drop y)) (hy : 1 ≤ y) : Hid (runs true L = runs (decide (k + y = 0)) (L.drop (k + y))) := by
  show _ = _
  rw [h, List.drop_drop, decide_eq_false (by omega)]
theorem name_round0 {L : List UInt8} {y : Nat} (h : runs true L = runs false ((L.drop 0).drop y)) (hy : 1 ≤ y) : Hid (runs true L = runs (decide (y = 0)) (L.drop y)) := by
  have := name_round h hy
  rw [Nat.zero_add] at this
  exact this

set_option maxRecDepth 100000 in
set_option maxHeartbeats 8000000 in
theorem pname_any (s : ByteArray) (hs : s.size ≤ 1000000) (w : World) (he : Env w) : Calls Tryz.prog 83 #[.string s] w (BoolPost (nameOf s.data.toList) w) := by
  have hlen := bytes_len s
  have H0 := Lib.hid (And.intro hlen he)
  clear hlen he
  go_enter Tryz.func83, Tryz.ntmps83
  go_wp2_with fail
  go_loopw [] (fun wr => ∃ k : Nat, wr = w.iter s k ∧ Hid (runs true s.data.toList = runs (decide (k = 0)) (s.data.toList.drop k))) (fun wr => s.size - wr.iterPos w.heap.size)
  case atStart => exact ⟨0, rfl, rfl⟩
  case round =>
    obtain ⟨k, rfl, hgo⟩ := hrel
    by_cases hlt : k < s.size
    · have hne : s.data.toList.drop k ≠ [] := by
        intro e
        have := congrArg List.length e
        rw [List.length_drop, H0.out.1] at this
        simp at this
        omega
      have hdl := decodeL_drop s k
      have hw1 := decodeL_width (s.data.toList.drop k)
      have hw2 := decodeL_rune (s.data.toList.drop k)
      have hnx : ∀ ty, (Instr.next (.pointer (some ⟨w.heap.size, 0, none⟩)) true ty).run Tryz.prog (w.iter s k) = _ := fun ty => run_next_any w s k ty hlt
      rw [hdl] at hw1 hw2
      have hg := hgo.out
      generalize Utf8.decode s k = dd at *
      obtain ⟨x, y⟩ := dd
      have hy : 1 ≤ y := hw1
      have hx : x ≤ 1114111 := hw2
      have HH := Lib.hid (And.intro hne (And.intro hdl hg))
      clear hw1 hw2 hne hdl hg hgo
      rcases (show k = 0 ∨ 0 < k by omega) with hk | hk
      · subst hk
        have hk0 : (((0 : Nat) : Int) == 0) = true := rfl
        by_cases hc : (97 ≤ x ∧ x ≤ 122) ∨ 128 ≤ x
        · have hcl := (cls_iff true x).2 (by omega)
          have HR := Lib.hid (HH.out.2.2.trans (runs_go HH.out.1 HH.out.2.1 hcl))
          have h45 : ((x : Int) == 45) = false := by rw [beq_eq_false_iff_ne]; omega
          clear hcl
          rcases hc with ⟨h1, h2⟩ | h1
          all_goals
            go_wp2_with fail
            go_roundw
            case rel => exact ⟨y, rfl, name_round0 HR.out hy⟩
            case measure => simp; omega
        · have hcl : cls true x = false := (cls_false true x).2 (by simp; omega)
          have HR := Lib.hid (nameOf_runs (HH.out.2.2.trans (runs_stop HH.out.1 HH.out.2.1 hcl)))
          have h45 : ((x : Int) == 45) = true ∨ ((x : Int) == 45) = false := by cases ((x : Int) == 45) <;> simp
          clear hcl
          rcases (show x < 48 ∨ (48 ≤ x ∧ x ≤ 57) ∨ (57 < x ∧ x < 97) ∨ (122 < x ∧ x < 128) by omega) with h1 | ⟨h1, h2⟩ | ⟨h1, h2⟩ | ⟨h1, h2⟩
          all_goals
            clear hc
            rcases h45 with h45 | h45
            all_goals
              go_wp2_with fail
              go_ret
              exact ⟨by rw [HR.out]; rfl, (Turn.refl _ _).iter _ _⟩
      · have hk0 : ((k : Int) == 0) = false := by rw [beq_eq_false_iff_ne]; omega
        have hdk : decide (k = 0) = false := decide_eq_false (by omega)
        rw [hdk] at HH
        clear hdk
        by_cases hc : (97 ≤ x ∧ x ≤ 122) ∨ 128 ≤ x ∨ (48 ≤ x ∧ x ≤ 57) ∨ x = 45
        · have hcl := (cls_iff false x).2 (by simp; omega)
          have HR := Lib.hid (HH.out.2.2.trans (runs_go HH.out.1 HH.out.2.1 hcl))
          clear hcl
          rcases hc with ⟨h1, h2⟩ | h1 | ⟨h1, h2⟩ | h1
          · have h45 : ((x : Int) == 45) = false := by rw [beq_eq_false_iff_ne]; omega
            go_wp2_with fail
            go_roundw
            case rel => exact ⟨k + y, rfl, name_round HR.out hy⟩
            case measure => simp; omega
          · have h45 : ((x : Int) == 45) = false := by rw [beq_eq_false_iff_ne]; omega
            go_wp2_with fail
            go_roundw
            case rel => exact ⟨k + y, rfl, name_round HR.out hy⟩
            case measure => simp; omega
          · have h45 : ((x : Int) == 45) = false := by rw [beq_eq_false_iff_ne]; omega
            go_wp2_with fail
            go_roundw
            case rel => exact ⟨k + y, rfl, name_round HR.out hy⟩
            case measure => simp; omega
          · subst h1
            go_wp2_with fail
            go_roundw
            case rel => exact ⟨k + y, rfl, name_round HR.out hy⟩
            case measure => simp; omega
        · have hcl : cls false x = false := (cls_false false x).2 (by simp; omega)
          have HR := Lib.hid (nameOf_runs (HH.out.2.2.trans (runs_stop HH.out.1 HH.out.2.1 hcl)))
          have h45 : ((x : Int) == 45) = false := by rw [beq_eq_false_iff_ne]; omega
          clear hcl
          rcases (show x < 48 ∨ (57 < x ∧ x < 97) ∨ (122 < x ∧ x < 128) by omega) with h1 | ⟨h1, h2⟩ | ⟨h1, h2⟩
          all_goals
            clear hc
            go_wp2_with fail
            go_ret
            exact ⟨by rw [HR.out]; rfl, (Turn.refl _ _).iter _ _⟩
    · have hnx : ∀ ty, (Instr.next (.pointer (some ⟨w.heap.size, 0, none⟩)) true ty).run Tryz.prog (w.iter s k) = _ := fun ty => run_next_end w s k ty hlt
      have hall : runs true s.data.toList = true := by
        rw [hgo.out, List.drop_eq_nil_of_le (by have := H0.out.1; omega)]; rfl
      have HA := Lib.hid hall
      clear hall hgo
      by_cases h0 : s.size = 0
      · have hem : s.toList.isEmpty = true := by
          have he : s = ⟨#[]⟩ := by
            obtain ⟨a⟩ := s
            have : a.size = 0 := h0
            rw [Array.eq_empty_of_size_eq_zero this]
          rw [Go.ByteArray.toList_eq, he]; rfl
        have hno : nameOf s.data.toList = false := nameOf_no (Or.inl (List.eq_nil_of_length_eq_zero (by have := H0.out.1; omega)))
        have HN := Lib.hid hno
        clear hno
        go_wp2_with fail
        go_ret
        exact ⟨by rw [HN.out]; rfl, (Turn.refl _ _).iter _ _⟩
      · have hem := toList_cons s (by omega)
        have hne : s.data.toList ≠ [] := fun e => by have := congrArg List.length e; rw [H0.out.1, List.length_nil] at this; omega
        by_cases h32 : s.size ≤ 32
        · have hval := nameOf_valid HA.out hne (by rw [H0.out.1]; exact h32)
          have call := valid_any s hs (w.iter s k) (H0.out.2.turn ((Turn.refl (fun _ => False) _).iter _ _) (fun _ _ h => h))
          have HV := Lib.hid (And.intro hval call)
          clear hval call hne
          go_wp2_with fail
          refine HV.out.2.mono ?_
          rintro e w2 ⟨rfl, t2⟩
          go_wp2_with fail
          go_ret
          exact ⟨by rw [HV.out.1]; rfl, ((Turn.refl _ _).iter _ _).trans t2⟩
        · have hno : nameOf s.data.toList = false := nameOf_no (Or.inr (by rw [H0.out.1]; omega))
          have HN := Lib.hid hno
          clear hno hne
          go_wp2_with fail
          go_ret
          exact ⟨by rw [HN.out]; rfl, (Turn.refl _ _).iter _ _⟩
end Go.Proofs.YtbkpbcmjgbdbkaaGreatDoor
