/- The reference's Name. Conditions: the text's length; the library's tables (Env). -/
import Derived.Test.YtbkpbcmjgbdbkaaGreatDoorMC
namespace Go.Proofs.YtbkpbcmjgbdbkaaGreatDoor
open Go.RowKit Go.Lib
set_option linter.unusedVariables false
set_option linter.unusedSimpArgs false

def RBoolPost (b : Bool) (w : World) (e : Ending) (w' : World) : Prop := e = .returned (.bool b) ∧ Turn (fun _ => False) w w'
theorem rv_next {L : List UInt8} {k y : Nat} {f : Bool} (h : rv true L = rv f (L.drop k)) (h2 : rv f (L.drop k) = rv false ((L.drop k).drop y)) (hy : 1 ≤ y) : Hid (rv true L = rv (decide (k + y = 0)) (L.drop (k + y))) := by
  show _ = _
  rw [h, h2, List.drop_drop, decide_eq_false (by omega)]
theorem decode_any (s : ByteArray) (k : Nat) (hk : k < s.size) (w : World) (h : Env w) {x y : Nat} (hd : decodeL (s.data.toList.drop k) = (x, y)) :
    Calls Tryz.prog 92 #[.string (s.extract k s.size)] w fun e w' => e = .returned (.tuple #[.int .i32 (x : Int), .int .i64 (y : Int)]) ∧ Turn (fun _ => False) w w' := by
  have he : s.extract k s.size = ⟨(s.data.toList.drop k).toArray⟩ := by
    rw [extract_part, List.take_of_length_le]
    rw [List.length_drop, bytes_len]; omega
  have hg : Lib.decodeGo (s.extract k s.size) = (x, y) := by
    unfold Lib.decodeGo
    rw [if_neg, he]
    · exact hd
    · rw [he]
      show ¬ (s.data.toList.drop k).toArray.size = 0
      rw [List.size_toArray, List.length_drop, bytes_len]; omega
  refine (Tryz.utf8_DecodeRuneInString (s.extract k s.size) w h.utf8).mono fun e w' ⟨he, hb⟩ => ⟨?_, turn_of_below hb⟩
  rw [he, hg]

set_option maxRecDepth 100000 in
set_option maxHeartbeats 8000000 in
theorem rname_any (s : ByteArray) (hs : s.size ≤ 1000000) (w : World) (he : Env w) : Calls Tryz.prog 63 #[.string s] w (RBoolPost (nameOf s.data.toList) w) := by
  have hlen := bytes_len s
  by_cases h0 : s.size = 0
  · have hem : s.toList.isEmpty = true := by
      have he : s = ⟨#[]⟩ := by
        obtain ⟨a⟩ := s
        have : a.size = 0 := h0
        rw [Array.eq_empty_of_size_eq_zero this]
      rw [Go.ByteArray.toList_eq, he]; rfl
    have hno : nameOf s.data.toList = false := nameOf_no (Or.inl (List.eq_nil_of_length_eq_zero (by omega)))
    have HN := Lib.hid hno
    clear hno hlen
    go_enter Tryz.func63, Tryz.ntmps63
    go_wp2_with fail
    go_ret
    exact ⟨by rw [HN.out]; rfl, Turn.refl _ _⟩
  · have hem := toList_cons s (by omega)
    by_cases h32 : s.size ≤ 32
    · have hno : nameOf s.data.toList = rv true s.data.toList := nameOf_some (fun e => by have := congrArg List.length e; rw [hlen, List.length_nil] at this; omega) (by omega)
      have HN := Lib.hid (And.intro hno (And.intro hlen he))
      clear hno hlen he
      go_enter Tryz.func63, Tryz.ntmps63
      go_wp2_with fail
      clear hem
      go_loopw [3] (fun i wr => ∃ k : Nat, i = .int .i64 k ∧ k ≤ s.size ∧ Turn (fun _ => False) w wr ∧ Hid (rv true s.data.toList = rv (decide (k = 0)) (s.data.toList.drop k))) (fun i _ => s.size - (RowKit.intOf i).toNat)
      case atStart => exact ⟨0, rfl, Nat.zero_le _, Turn.refl _ _, rfl⟩
      case round =>
        obtain ⟨k, rfl, hks, ht, hgo⟩ := hrel
        by_cases hlt : k < s.size
        · obtain ⟨c, hc1, hc2⟩ := bytes_get s k hlt
          have hd : s.data.toList.drop k = c :: s.data.toList.drop (k + 1) := by
            rw [List.drop_eq_getElem_cons (by rw [bytes_len]; exact hlt)]
            first
            | done
            | rw [(List.getElem?_eq_some_iff.1 hc1).2]
          have hc3 := c.toNat_lt
          have hg := hgo.out
          clear hgo hc1
          by_cases ha : c.toNat < 128
          · have hl := fun f => rv_low f c (s.data.toList.drop (k + 1)) ha
            rw [← hd] at hl
            have h45 : ((c.toNat : Int) == 45) = true ∨ ((c.toNat : Int) == 45) = false := by cases ((c.toNat : Int) == 45) <;> simp
            rcases (show k = 0 ∨ 0 < k by omega) with hk | hk
            · subst hk
              by_cases hc : 97 ≤ c.toNat ∧ c.toNat ≤ 122
              · have hcl := (cls_iff true c.toNat).2 (by omega)
                have h2 := hl true
                rw [hcl, if_pos rfl] at h2
                have HR := Lib.hid (rv_next (k := 0) (y := 1) hg (by rw [show decide (0 = 0) = true from rfl, h2, List.drop_drop]) (by omega))
                obtain ⟨c1, c2⟩ := hc
                clear hcl h2 hl hd hg h45
                go_wp2_with fail
                go_roundw
                case rel => exact ⟨1, rfl, by omega, ht, HR.out⟩
                case measure => simp [RowKit.intOf]; omega
              · have hcl : cls true c.toNat = false := (cls_false true c.toNat).2 (by simp; omega)
                have h2 := hl true
                rw [hcl] at h2
                have HR := Lib.hid (hg.trans h2)
                clear hcl h2 hl hd hg h45
                have hb : (c.toNat < 97) ∨ ((97 ≤ c.toNat) ∧ decide ((c.toNat : Int) ≤ 122) = false) := by
                  rcases (show c.toNat < 97 ∨ (97 ≤ c.toNat ∧ 122 < c.toNat) by omega) with c1 | ⟨c1, c2⟩
                  · exact Or.inl c1
                  · exact Or.inr ⟨c1, by rw [decide_eq_false_iff_not]; omega⟩
                rcases hb with c1 | ⟨c1, c2⟩
                all_goals
                  clear hc
                  go_wp2_with fail
                  go_ret
                  exact ⟨by rw [HN.out.1, HR.out]; rfl, ht⟩
            · have hk0 : (0 : Int) < (k : Int) := by omega
              have hdk : decide (k = 0) = false := decide_eq_false (by omega)
              rw [hdk] at hg
              clear hdk
              have h2 := hl false
              by_cases hc : (97 ≤ c.toNat ∧ c.toNat ≤ 122) ∨ (48 ≤ c.toNat ∧ c.toNat ≤ 57) ∨ c.toNat = 45
              · have hcl := (cls_iff false c.toNat).2 (by simp; omega)
                rw [hcl, if_pos rfl] at h2
                have HR := Lib.hid (rv_next (k := k) (y := 1) hg (by rw [h2, List.drop_drop]) (by omega))
                clear hcl h2 hl hd hg h45
                rcases hc with ⟨c1, c2⟩ | ⟨c1, c2⟩ | c1
                · go_wp2_with fail
                  go_roundw
                  case rel => exact ⟨k + 1, by go_num, by omega, ht, HR.out⟩
                  case measure => simp [RowKit.intOf]; omega
                · go_wp2_with fail
                  go_roundw
                  case rel => exact ⟨k + 1, by go_num, by omega, ht, HR.out⟩
                  case measure => simp [RowKit.intOf]; omega
                · have c45 : ((c.toNat : Int) == 45) = true := by rw [beq_iff_eq]; omega
                  have c3 : c.toNat < 48 := by omega
                  clear c1
                  go_wp2_with fail
                  go_roundw
                  case rel => exact ⟨k + 1, by go_num, by omega, ht, HR.out⟩
                  case measure => simp [RowKit.intOf]; omega
              · have hcl : cls false c.toNat = false := (cls_false false c.toNat).2 (by simp; omega)
                rw [hcl] at h2
                have HR := Lib.hid (hg.trans h2)
                have c45 : ((c.toNat : Int) == 45) = false := by rw [beq_eq_false_iff_ne]; omega
                clear hcl h2 hl hd hg h45
                have hb : (c.toNat < 48) ∨ ((48 ≤ c.toNat ∧ decide ((c.toNat : Int) ≤ 57) = false) ∧ c.toNat < 97) ∨ ((97 ≤ c.toNat ∧ decide ((c.toNat : Int) ≤ 57) = false) ∧ decide ((c.toNat : Int) ≤ 122) = false) := by
                  rcases (show c.toNat < 48 ∨ (57 < c.toNat ∧ c.toNat < 97) ∨ (122 < c.toNat ∧ c.toNat < 128) by omega) with c1 | ⟨c1, c2⟩ | ⟨c1, c2⟩
                  · exact Or.inl c1
                  · exact Or.inr (Or.inl ⟨⟨by omega, by rw [decide_eq_false_iff_not]; omega⟩, c2⟩)
                  · exact Or.inr (Or.inr ⟨⟨by omega, by rw [decide_eq_false_iff_not]; omega⟩, by rw [decide_eq_false_iff_not]; omega⟩)
                rcases hb with c1 | ⟨⟨c1, c2⟩, c3⟩ | ⟨⟨c1, c2⟩, c3⟩
                all_goals
                  clear hc
                  go_wp2_with fail
                  go_ret
                  exact ⟨by rw [HN.out.1, HR.out]; rfl, ht⟩
          · have hne : s.data.toList.drop k ≠ [] := by rw [hd]; simp
            have hdl := decodeL_drop s k
            have hhi := decode_high s k hlt (by rw [hc2]; omega)
            have hle := decodeL_le (s.data.toList.drop k) hne
            have hru := decodeL_rune (s.data.toList.drop k)
            have hwi := decodeL_width (s.data.toList.drop k)
            obtain ⟨x, y, hxy⟩ : ∃ x y, decodeL (s.data.toList.drop k) = (x, y) := ⟨_, _, rfl⟩
            rw [← hdl, hxy] at hhi
            rw [hxy] at hle hru hwi
            have x1 : 128 ≤ x := hhi.1
            have y1 : 1 ≤ y := hwi
            have x2 : x ≤ 1114111 := hru
            have y2 : k + y ≤ s.size := by
              have h1 : y ≤ (s.data.toList.drop k).length := hle
              rw [List.length_drop, HN.out.2.1] at h1; omega
            have call := decode_any s k hlt wr (HN.out.2.2.turn ht (fun _ _ h => h)) hxy
            have CALL := Lib.hid call
            clear hle hru hwi hhi hdl call hd
            by_cases hbad : x = 65533 ∧ y = 1
            · have HR := Lib.hid (hg.trans (rv_bad _ _ hne (by rw [hxy]; exact hbad)))
              obtain ⟨b1, rfl⟩ := hbad
              have b2 : ((x : Int) == 65533) = true := by rw [beq_iff_eq]; omega
              clear b1 hg hxy hne
              go_wp2_with fail
              refine CALL.out.mono ?_
              rintro e w2 ⟨rfl, t2⟩
              go_wp2_with fail
              go_ret
              exact ⟨by rw [HN.out.1, HR.out]; rfl, ht.trans t2⟩
            · have h2 := rv_high (decide (k = 0)) _ hne (by rw [hxy]; exact x1) (by rw [hxy]; exact hbad)
              rw [hxy] at h2
              have HR := Lib.hid (rv_next hg h2 y1)
              have hcs : ((x : Int) == 65533) = false ∨ (((x : Int) == 65533) = true ∧ 1 < y) := by
                by_cases e : x = 65533
                · exact Or.inr ⟨by rw [beq_iff_eq]; omega, by omega⟩
                · exact Or.inl (by rw [beq_eq_false_iff_ne]; omega)
              clear hbad hg hxy hne h2
              rcases hcs with b2 | ⟨b2, b3⟩
              all_goals
                go_wp2_with fail
                refine CALL.out.mono ?_
                rintro e w2 ⟨rfl, t2⟩
                go_wp2_with fail
                go_roundw
                case rel => exact ⟨k + y, by go_num, y2, ht.trans t2, HR.out⟩
                case measure => simp [RowKit.intOf]; omega
        · have hk : k = s.size := by omega
          have htr : rv true s.data.toList = true := by
            rw [hgo.out, List.drop_eq_nil_of_le (by have := HN.out.2.1; omega)]; rfl
          have HT := Lib.hid htr
          clear htr hgo
          go_wp2_with fail
          go_ret
          exact ⟨by rw [HN.out.1, HT.out]; rfl, ht⟩
    · have hno : nameOf s.data.toList = false := nameOf_no (Or.inr (by omega))
      have HN := Lib.hid hno
      clear hno hlen
      go_enter Tryz.func63, Tryz.ntmps63
      go_wp2_with fail
      go_ret
      exact ⟨by rw [HN.out]; rfl, Turn.refl _ _⟩
end Go.Proofs.YtbkpbcmjgbdbkaaGreatDoor
