/- Numbers' texts: the reference's Num. No condition but the numbers' bounds. -/
import Derived.Test.YtbkpbcmjgbdbkaaDoorD0
import Derived.Laws.Strings
namespace Go.Proofs.YtbkpbcmjgbdbkaaDoor
open Go.RowKit
set_option linter.unusedVariables false
set_option linter.unusedSimpArgs false

def numGo (most : Nat) : List UInt8 → Nat → Option Nat
  | [], n => some n
  | c :: r, n => if 48 ≤ c.toNat ∧ c.toNat ≤ 57 ∧ 10 * n + (c.toNat - 48) ≤ most then numGo most r (10 * n + (c.toNat - 48)) else none
def numOf (s : List UInt8) (most : Nat) : Option Nat := if s = [] ∨ (1 < s.length ∧ s.head? = some 48) then none else numGo most s 0
def numV : Option Nat → Value
  | some n => .tuple #[.int .u32 (n : Int), .int .i64 0]
  | none => .tuple #[.int .u32 0, .int .i64 60]

theorem numGo_ok {most : Nat} {c : UInt8} {r : List UInt8} {m : Nat} (h : 48 ≤ c.toNat ∧ c.toNat ≤ 57 ∧ 10 * m + (c.toNat - 48) ≤ most) : numGo most (c :: r) m = numGo most r (10 * m + (c.toNat - 48)) := by
  rw [numGo, if_pos h]
theorem numGo_bad {most : Nat} {c : UInt8} {r : List UInt8} {m : Nat} (h : ¬ (48 ≤ c.toNat ∧ c.toNat ≤ 57 ∧ 10 * m + (c.toNat - 48) ≤ most)) : numGo most (c :: r) m = none := by
  rw [numGo, if_neg h]

set_option maxRecDepth 100000 in
theorem bytes_len (s : ByteArray) : s.data.toList.length = s.size := by rw [Array.length_toList]; rfl
theorem bytes_get (s : ByteArray) (k : Nat) (h : k < s.size) : ∃ c, s.data.toList[k]? = some c ∧ s[k]'h = c :=
  ⟨s[k]'h, by rw [List.getElem?_eq_getElem (by rw [bytes_len]; exact h)]; rfl, rfl⟩

set_option maxRecDepth 100000 in
set_option maxHeartbeats 1000000 in
theorem rnum_loop (s : ByteArray) (most : Nat) (hm : most < 4294967296) (hs : s.size ≤ 9223372036854775807) (w : World) (h0 : s.toList.isEmpty = false) (h1 : 0 < s.size) (hz : 1 < s.size → ∃ c, s[0]'h1 = c ∧ ((c.toNat : Int) == 48) = false) :
    Calls Tryd.prog 19 #[.string s, .int .u32 (most : Int)] w fun e w' => e = .returned (numV (numGo most s.data.toList 0)) ∧ w = w' := by
  by_cases h2 : 1 < s.size
  · obtain ⟨c, hc, hne⟩ := hz h2
    clear hz
    go_enter Tryd.func19, Tryd.ntmps19
    go_wp2_with fail
    clear hc hne h0
    go_loopw [6, 7] (fun n i wr => ∃ (k m : Nat), k ≤ s.size ∧ i = .int .i64 k ∧ n = .int .u64 (m : Int) ∧ w = wr ∧ m ≤ most ∧ Hid (numGo most (s.data.toList.drop k) m = numGo most s.data.toList 0)) (fun _ i _ => s.size - (intOf i).toNat)
    case atStart => exact ⟨0, 0, Nat.zero_le _, rfl, rfl, by trivial, Nat.zero_le _, rfl⟩
    case round =>
      obtain ⟨k, m, hk, rfl, rfl, rfl, hmm, hgo⟩ := hrel
      by_cases hlt : k < s.size
      · have _ := hlt
        obtain ⟨c, hc1, hc2⟩ := bytes_get s k hlt
        have hd : s.data.toList.drop k = c :: s.data.toList.drop (k + 1) := by
          rw [List.drop_eq_getElem_cons (by rw [bytes_len]; exact hlt)]
          first
          | done
          | rw [(List.getElem?_eq_some_iff.1 hc1).2]
        have hg := hgo.out
        rw [hd] at hg
        have hc3 := c.toNat_lt
        clear hgo hd hc1
        by_cases hdig : 48 ≤ c.toNat ∧ c.toNat ≤ 57
        · by_cases hn : 10 * m + (c.toNat - 48) ≤ most
          · rw [numGo_ok ⟨hdig.1, hdig.2, hn⟩] at hg
            have HG := Lib.hid hg
            clear hg
            have d1 : ¬ ((c.toNat : Int) < 48) := by omega
            have d2 : ¬ ((57 : Int) < (c.toNat : Int)) := by omega
            have d3 : ¬ ((most : Int) < 10 * (m : Int) + ((c.toNat : Int) - 48)) := by omega
            go_wp2_with fail
            go_roundw
            case rel => exact ⟨k + 1, 10 * m + (c.toNat - 48), by omega, by go_num, by congr 1; omega, by trivial, hn, HG.out⟩
            case measure => simp [intOf]; omega
          · rw [numGo_bad (fun h => hn h.2.2)] at hg
            have HG := Lib.hid hg
            clear hg
            have d1 : ¬ ((c.toNat : Int) < 48) := by omega
            have d2 : ¬ ((57 : Int) < (c.toNat : Int)) := by omega
            have d3 : (most : Int) < 10 * (m : Int) + ((c.toNat : Int) - 48) := by omega
            go_wp2_with fail
            go_ret2
            exact ⟨by rw [← HG.out]; rfl, rfl⟩
        · rw [numGo_bad (fun h => hdig ⟨h.1, h.2.1⟩)] at hg
          have HG := Lib.hid hg
          clear hg
          go_wp2_with fail
          all_goals first
            | (exfalso; omega)
            | (go_ret2; exact ⟨by rw [← HG.out]; rfl, rfl⟩)
      · go_wp2_with fail
        go_ret2
        have := hgo.out
        rw [List.drop_eq_nil_of_le (by rw [bytes_len]; omega)] at this
        refine ⟨?_, rfl⟩
        rw [← this]
        rfl
  · clear hz
    go_enter Tryd.func19, Tryd.ntmps19
    go_wp2_with fail
    clear h0
    go_loopw [6, 7] (fun n i wr => ∃ (k m : Nat), k ≤ s.size ∧ i = .int .i64 k ∧ n = .int .u64 (m : Int) ∧ w = wr ∧ m ≤ most ∧ Hid (numGo most (s.data.toList.drop k) m = numGo most s.data.toList 0)) (fun _ i _ => s.size - (intOf i).toNat)
    case atStart => exact ⟨0, 0, Nat.zero_le _, rfl, rfl, by trivial, Nat.zero_le _, rfl⟩
    case round =>
      obtain ⟨k, m, hk, rfl, rfl, rfl, hmm, hgo⟩ := hrel
      by_cases hlt : k < s.size
      · have _ := hlt
        obtain ⟨c, hc1, hc2⟩ := bytes_get s k hlt
        have hd : s.data.toList.drop k = c :: s.data.toList.drop (k + 1) := by
          rw [List.drop_eq_getElem_cons (by rw [bytes_len]; exact hlt)]
          first
          | done
          | rw [(List.getElem?_eq_some_iff.1 hc1).2]
        have hg := hgo.out
        rw [hd] at hg
        have hc3 := c.toNat_lt
        clear hgo hd hc1
        by_cases hdig : 48 ≤ c.toNat ∧ c.toNat ≤ 57
        · by_cases hn : 10 * m + (c.toNat - 48) ≤ most
          · rw [numGo_ok ⟨hdig.1, hdig.2, hn⟩] at hg
            have HG := Lib.hid hg
            clear hg
            have d1 : ¬ ((c.toNat : Int) < 48) := by omega
            have d2 : ¬ ((57 : Int) < (c.toNat : Int)) := by omega
            have d3 : ¬ ((most : Int) < 10 * (m : Int) + ((c.toNat : Int) - 48)) := by omega
            go_wp2_with fail
            go_roundw
            case rel => exact ⟨k + 1, 10 * m + (c.toNat - 48), by omega, by go_num, by congr 1; omega, by trivial, hn, HG.out⟩
            case measure => simp [intOf]; omega
          · rw [numGo_bad (fun h => hn h.2.2)] at hg
            have HG := Lib.hid hg
            clear hg
            have d1 : ¬ ((c.toNat : Int) < 48) := by omega
            have d2 : ¬ ((57 : Int) < (c.toNat : Int)) := by omega
            have d3 : (most : Int) < 10 * (m : Int) + ((c.toNat : Int) - 48) := by omega
            go_wp2_with fail
            go_ret2
            exact ⟨by rw [← HG.out]; rfl, rfl⟩
        · rw [numGo_bad (fun h => hdig ⟨h.1, h.2.1⟩)] at hg
          have HG := Lib.hid hg
          clear hg
          go_wp2_with fail
          all_goals first
            | (exfalso; omega)
            | (go_ret2; exact ⟨by rw [← HG.out]; rfl, rfl⟩)
      · go_wp2_with fail
        go_ret2
        have := hgo.out
        rw [List.drop_eq_nil_of_le (by rw [bytes_len]; omega)] at this
        refine ⟨?_, rfl⟩
        rw [← this]
        rfl

theorem toList_cons (s : ByteArray) (h : 0 < s.size) : s.toList.isEmpty = false := by
  have hl : s.toList = s.data.toList := Go.ByteArray.toList_eq s
  rw [hl]
  cases hd : s.data.toList with
  | nil => have := bytes_len s; rw [hd] at this; simp at this; omega
  | cons a l => rfl

set_option maxRecDepth 100000 in
set_option maxHeartbeats 1000000 in
theorem rnum_any (s : ByteArray) (most : Nat) (hm : most < 4294967296) (hs : s.size ≤ 9223372036854775807) (w : World) :
    Calls Tryd.prog 19 #[.string s, .int .u32 (most : Int)] w fun e w' => e = .returned (numV (numOf s.data.toList most)) ∧ w = w' := by
  by_cases h0 : s.size = 0
  · have he : s = ⟨#[]⟩ := by
      obtain ⟨a⟩ := s
      have : a.size = 0 := h0
      rw [Array.eq_empty_of_size_eq_zero this]
    subst he
    go_enter Tryd.func19, Tryd.ntmps19
    go_wp2_with fail
    go_ret2
    exact ⟨rfl, rfl⟩
  · have h1 : 0 < s.size := by omega
    obtain ⟨c, hc1, hc2⟩ := bytes_get s 0 h1
    have hne : s.data.toList ≠ [] := fun e => by rw [e] at hc1; simp at hc1
    have hh : s.data.toList.head? = some c := by rw [List.head?_eq_getElem?, hc1]
    have hemp := toList_cons s h1
    by_cases hz : 1 < s.size ∧ c = 48
    · have hv : numOf s.data.toList most = none := by
        unfold numOf
        rw [if_pos (Or.inr ⟨by rw [bytes_len]; exact hz.1, by rw [hh, hz.2]⟩)]
      have HV := Lib.hid hv
      obtain ⟨h2, rfl⟩ := hz
      clear hv hh hne hc1
      go_enter Tryd.func19, Tryd.ntmps19
      go_wp2_with fail
      go_ret2
      exact ⟨by rw [HV.out]; rfl, rfl⟩
    · have hv : numOf s.data.toList most = numGo most s.data.toList 0 := by
        unfold numOf
        rw [if_neg]
        rintro (e | ⟨e1, e2⟩)
        · exact hne e
        · rw [hh] at e2; exact hz ⟨by rw [bytes_len] at e1; exact e1, by simpa using e2⟩
      rw [hv]
      refine rnum_loop s most hm hs w hemp h1 (fun h2 => ⟨c, hc2, ?_⟩)
      rw [beq_eq_false_iff_ne]
      intro e
      exact hz ⟨h2, UInt8.toNat_inj.1 (by have : c.toNat = 48 := by omega
                                          exact this)⟩
end Go.Proofs.YtbkpbcmjgbdbkaaDoor
