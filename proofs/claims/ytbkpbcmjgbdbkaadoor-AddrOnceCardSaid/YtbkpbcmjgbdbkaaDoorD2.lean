/- addr.Num. No condition but the numbers' bounds. -/
import Derived.Test.YtbkpbcmjgbdbkaaDoorD1
import Derived.Laws.RangeAny
import Derived.LoopTactic
namespace Go.Proofs.YtbkpbcmjgbdbkaaDoor
open Go.RowKit
set_option linter.unusedVariables false
set_option linter.unusedSimpArgs false

theorem numOf_go {s : ByteArray} {most : Nat} {c0 : UInt8} (h1 : 0 < s.size) (h : s.data.toList.head? = some c0) (hz : 1 < s.size → c0 ≠ 48) : numOf s.data.toList most = numGo most s.data.toList 0 := by
  unfold numOf
  rw [if_neg]
  rintro (e | ⟨e1, e2⟩)
  · rw [e] at h; cases h
  · rw [h] at e2
    rw [bytes_len] at e1
    exact hz e1 (by simpa using e2)
theorem numOf_nought {s : ByteArray} {most : Nat} (h : s.data.toList.head? = some 48) (h1 : 1 < s.size) : numOf s.data.toList most = none := by
  unfold numOf
  rw [if_pos (Or.inr ⟨by rw [bytes_len]; exact h1, h⟩)]

theorem numOf_none {l : List UInt8} {most : Nat} (h : numGo most l 0 = none) : numOf l most = none := by
  unfold numOf
  split
  · rfl
  · exact h

set_option maxRecDepth 100000 in
set_option maxHeartbeats 2000000 in
theorem pnum_some (s : ByteArray) (most : Nat) (hm : most < 4294967296) (hs : s.size ≤ 9223372036854775807) (w : World) (h1 : 0 < s.size) (c0 : UInt8) (hc0 : s[0]'h1 = c0) (hh : s.data.toList.head? = some c0) :
    Calls Tryd.prog 12 #[.string s, .int .u32 (most : Int)] w fun e w' => e = .returned (numV (numOf s.data.toList most)) ∧ ∃ p, w' = w.iter s p := by
  have hemp := toList_cons s h1
  have HH := Lib.hid hh
  clear hh
  go_enter Tryd.func12, Tryd.ntmps12
  go_wp2_with fail
  go_loopw [6] (fun n wr => ∃ (k m : Nat), k ≤ s.size ∧ n = .int .u64 (m : Int) ∧ wr = w.iter s k ∧ m ≤ most ∧ Hid (numGo most (s.data.toList.drop k) m = numGo most s.data.toList 0) ∧ Hid (2 ≤ k → c0 ≠ 48)) (fun _ wr => s.size - wr.iterPos w.heap.size)
  case atStart => exact ⟨0, 0, Nat.zero_le _, rfl, rfl, Nat.zero_le _, rfl, fun h => by omega⟩
  case round =>
    obtain ⟨k, m, hk, rfl, rfl, hmm, hgo, hz⟩ := hrel
    by_cases hlt : k < s.size
    · obtain ⟨c, hc1, hc2⟩ := bytes_get s k hlt
      have hd : s.data.toList.drop k = c :: s.data.toList.drop (k + 1) := by
        rw [List.drop_eq_getElem_cons (by rw [bytes_len]; exact hlt)]
        first
        | done
        | rw [(List.getElem?_eq_some_iff.1 hc1).2]
      have hg := hgo.out
      rw [hd] at hg
      have hc3 := c.toNat_lt
      have hk0 : k = 0 → c = c0 := fun e => by subst e; rw [← hc2, hc0]
      clear hgo hd hc1
      by_cases hz1 : k = 1 ∧ c0 = 48
      · obtain ⟨rfl, rfl⟩ := hz1
        have HV := Lib.hid (numOf_nought HH.out hlt (most := most))
        clear hg hz hk0
        have hnx : ∀ ty, (Instr.next (.pointer (some ⟨w.heap.size, 0, none⟩)) true ty).run Tryd.prog (w.iter s 1) = _ := fun ty => run_next_any w s 1 ty hlt
        go_wp2_with fail
        all_goals first
          | (exfalso; omega)
          | (go_ret2; exact ⟨by rw [HV.out]; rfl, _, rfl⟩)
      · by_cases ha : c.toNat < 128
        · have hdec := decode_ascii s k hlt (by rw [hc2]; exact ha)
          rw [hc2] at hdec
          have hnx : ∀ ty, (Instr.next (.pointer (some ⟨w.heap.size, 0, none⟩)) true ty).run Tryd.prog (w.iter s k) = _ := fun ty => run_next_any w s k ty hlt
          rw [hdec] at hnx
          clear hdec
          have hz2 : 1 < s.size → c0 ≠ 48 ∨ k = 0 := fun h => by
            by_cases h1 : k = 1
            · exact Or.inl (fun e => hz1 ⟨h1, e⟩)
            · by_cases h0 : k = 0
              · exact Or.inr h0
              · exact Or.inl (hz.out (by omega))
          have HZ := Lib.hid (And.intro hz.out (And.intro hz2 hk0))
          clear hz hz2 hk0
          have hn1 : k = 1 → ((c0.toNat : Int) == 48) = false := fun e => by
            rw [beq_eq_false_iff_ne]; intro h
            have h48 : (48 : UInt8).toNat = 48 := rfl
            exact hz1 ⟨e, UInt8.toNat_inj.1 (by omega)⟩
          have hk1 : (((k : Int) == 1) = true ∧ ((c0.toNat : Int) == 48) = false) ∨ ((k : Int) == 1) = false := by
            by_cases e : k = 1
            · exact Or.inl ⟨by rw [beq_iff_eq]; omega, hn1 e⟩
            · exact Or.inr (by rw [beq_eq_false_iff_ne]; omega)
          clear hn1
          by_cases hdig : 48 ≤ c.toNat ∧ c.toNat ≤ 57
          · have d1 : ¬ ((c.toNat : Int) < 48) := by omega
            have d2 : ¬ ((57 : Int) < (c.toNat : Int)) := by omega
            by_cases hn : 10 * m + (c.toNat - 48) ≤ most
            · rw [numGo_ok ⟨hdig.1, hdig.2, hn⟩] at hg
              have HG := Lib.hid hg
              clear hg
              have d3 : ¬ ((most : Int) < 10 * (m : Int) + ((c.toNat : Int) - 48)) := by omega
              rcases hk1 with ⟨k1, k2⟩ | k1
              all_goals
                go_wp2_with fail
                go_roundw
                case rel => exact ⟨k + 1, 10 * m + (c.toNat - 48), by omega, by congr 1; omega, rfl, hn, HG.out, fun h => by rcases HZ.out.2.1 (by omega) with q | q; exact q; omega⟩
                case measure => simp; omega
            · rw [numGo_bad (fun h => hn h.2.2)] at hg
              have HG := Lib.hid (numOf_none hg.symm)
              clear hg
              have d3 : (most : Int) < 10 * (m : Int) + ((c.toNat : Int) - 48) := by omega
              rcases hk1 with ⟨k1, k2⟩ | k1
              all_goals
                go_wp2_with fail
                go_ret2
                exact ⟨by rw [HG.out]; rfl, _, rfl⟩
          · rw [numGo_bad (fun h => hdig ⟨h.1, h.2.1⟩)] at hg
            have HG := Lib.hid (numOf_none hg.symm)
            clear hg
            rcases hk1 with ⟨k1, k2⟩ | k1
            all_goals
              go_wp2_with fail
              all_goals first
                | (exfalso; omega)
                | (go_ret2; exact ⟨by rw [HG.out]; rfl, _, rfl⟩)
        · rw [numGo_bad (fun h => by omega)] at hg
          have HG := Lib.hid (numOf_none hg.symm)
          clear hg hz hk0
          have hdec := decode_high s k hlt (by rw [hc2]; omega)
          have hle := decode_le s k
          have hnx : ∀ ty, (Instr.next (.pointer (some ⟨w.heap.size, 0, none⟩)) true ty).run Tryd.prog (w.iter s k) = _ := fun ty => run_next_any w s k ty hlt
          generalize Utf8.decode s k = dd at *
          obtain ⟨x, y⟩ := dd
          have hdec1 : 128 ≤ x := hdec.1
          have hle1 : x ≤ 2147483647 := hle
          clear hdec hle
          have d1 : ¬ ((x : Int) < 48) := by omega
          have d2 : (57 : Int) < (x : Int) := by omega
          go_wp2_with fail
          all_goals first
            | (exfalso; omega)
            | (go_ret2; exact ⟨by rw [HG.out]; rfl, _, rfl⟩)
    · have hnx : ∀ ty, (Instr.next (.pointer (some ⟨w.heap.size, 0, none⟩)) true ty).run Tryd.prog (w.iter s k) = _ := fun ty => run_next_end w s k ty hlt
      go_wp2_with fail
      go_ret2
      have := hgo.out
      rw [List.drop_eq_nil_of_le (by rw [bytes_len]; omega)] at this
      refine ⟨?_, _, rfl⟩
      rw [numOf_go h1 HH.out (fun h => hz.out (by omega)), ← this]
      rfl

set_option maxRecDepth 100000 in
set_option maxHeartbeats 1000000 in
theorem pnum_any (s : ByteArray) (most : Nat) (hm : most < 4294967296) (hs : s.size ≤ 9223372036854775807) (w : World) :
    Calls Tryd.prog 12 #[.string s, .int .u32 (most : Int)] w fun e w' => e = .returned (numV (numOf s.data.toList most)) ∧ ∃ p, w' = w.iter s p := by
  by_cases h0 : s.size = 0
  · have he : s = ⟨#[]⟩ := by
      obtain ⟨a⟩ := s
      have : a.size = 0 := h0
      rw [Array.eq_empty_of_size_eq_zero this]
    subst he
    have hnx : ∀ ty, (Instr.next (.pointer (some ⟨w.heap.size, 0, none⟩)) true ty).run Tryd.prog (w.iter ⟨#[]⟩ 0) = _ := fun ty => run_next_end w ⟨#[]⟩ 0 ty (by decide)
    go_enter Tryd.func12, Tryd.ntmps12
    go_wp2_with fail
    refine wp_loop_rounds 1 ?_; rw [rounds_succ]
    go_wp2_with fail
    go_ret2
    exact ⟨rfl, _, rfl⟩
  · have h1 : 0 < s.size := by omega
    obtain ⟨c, hc1, hc2⟩ := bytes_get s 0 h1
    exact pnum_some s most hm hs w h1 c hc2 (by rw [List.head?_eq_getElem?, hc1])
end Go.Proofs.YtbkpbcmjgbdbkaaDoor
