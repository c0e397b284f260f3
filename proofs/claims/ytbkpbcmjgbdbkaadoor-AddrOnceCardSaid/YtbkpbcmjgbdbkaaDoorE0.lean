/- addr.Ip and the reference's Ip. Condition: that the split's contract holds there. -/
import Derived.Test.YtbkpbcmjgbdbkaaDoorD6
import Derived.Test.YtbkpbcmjgbdbkaaDoorD8
namespace Go.Proofs.YtbkpbcmjgbdbkaaDoor
open Go.RowKit Go.Lib
set_option linter.unusedVariables false
set_option linter.unusedSimpArgs false

theorem Turn.iter {F : Nat → Prop} {a b : World} (h : Turn F a b) (s : ByteArray) (p : Nat) : Turn F a (b.iter s p) := h.alloc _
theorem pnum_ok {s : ByteArray} {most x : Nat} (hm : most < 4294967296) (hs : s.size ≤ 9223372036854775807) (hn : numOf s.data.toList most = some x) (w : World) :
    Calls Tryd.prog 12 #[.string s, .int .u32 (most : Int)] w fun e w' => e = .returned (.tuple #[.int .u32 (x : Int), .int .i64 0]) ∧ Turn (fun _ => False) w w' :=
  (pnum_any s most hm hs w).mono fun e w' ⟨he, p, hp⟩ => ⟨by rw [he, hn]; rfl, by rw [hp]; exact (Turn.refl _ _).iter _ _⟩
theorem pnum_no {s : ByteArray} {most : Nat} (hm : most < 4294967296) (hs : s.size ≤ 9223372036854775807) (hn : numOf s.data.toList most = none) (w : World) :
    Calls Tryd.prog 12 #[.string s, .int .u32 (most : Int)] w fun e w' => e = .returned (.tuple #[.int .u32 0, .int .i64 60]) ∧ Turn (fun _ => False) w w' :=
  (pnum_any s most hm hs w).mono fun e w' ⟨he, p, hp⟩ => ⟨by rw [he, hn]; rfl, by rw [hp]; exact (Turn.refl _ _).iter _ _⟩
def IpPost (s : ByteArray) (w : World) (e : Ending) (w' : World) : Prop := e = .returned (numV (ipOf s.data.toList)) ∧ Turn (fun _ => False) w w'
theorem or_byte {n x : Nat} (hn : n < 16777216) (hx : x < 256) : bits .or .u32 ((n : Int) * 256) (x : Int) = ((n * 256 + x : Nat) : Int) := by
  have e : (n : Int) * 256 = ((n * 256 : Nat) : Int) := by omega
  rw [e, u32_or_nat _ _ (by omega) (by omega), nat_join 8 (n * 256) x (by omega) (by omega)]
theorem part_size {s : ByteArray} {c : UInt8} {p : ByteArray} (h : p ∈ partsOf s c) : p.size ≤ s.size := by
  obtain ⟨l, hl, rfl⟩ := List.mem_map.1 h
  have := splitL_len hl
  rw [bytes_len] at this
  show l.toArray.size ≤ _
  simpa using this

theorem pow_step {k n x : Nat} (hn : n < 256 ^ k) (hx : x ≤ 255) : n * 256 + x < 256 ^ (k + 1) := by
  rw [Nat.pow_succ]; omega

set_option maxRecDepth 100000 in
set_option maxHeartbeats 2000000 in
theorem pip_any (s : ByteArray) (hs : s.size ≤ 1000000) (w : World) (hsp : Calls Tryd.prog 28 #[.string s, .string ⟨#[46]⟩] w (PartsPost s 46 w)) :
    Calls Tryd.prog 13 #[.string s] w (IpPost s w) := by
  have HSP := Lib.hid hsp
  clear hsp
  have hpl : (partsOf s 46).length = (splitL 46 s.data.toList).length := by simp [partsOf]
  by_cases h4 : (partsOf s 46).length = 4
  · have hip : ipOf s.data.toList = ipGo (splitL 46 s.data.toList) 0 := by unfold ipOf; rw [if_pos (by omega)]
    have HIP := Lib.hid hip
    have hps : ∀ p ∈ partsOf s 46, p.size ≤ 1000000 := fun p hp => Nat.le_trans (part_size hp) hs
    have hgo : (partsOf s 46).map (·.data.toList) = splitL 46 s.data.toList := by unfold partsOf; rw [List.map_map]; exact List.map_id _
    have HPS := Lib.hid (And.intro hps hgo)
    clear hip hps hgo hpl
    go_enter Tryd.func13, Tryd.ntmps13
    go_wp2_with fail
    refine HSP.out.mono ?_
    rintro e w1 ⟨g, cap, rfl, hcells, hg, ht⟩
    rw [h4]
    have HC := Lib.hid hcells
    have H4 := Lib.hid h4
    clear hcells h4
    go_wp2_with fail
    go_loopw [5, 17] (fun o i wr => ∃ (k n : Nat), k ≤ 4 ∧ i = .int .i64 k ∧ o = .int .u32 (n : Int) ∧ n < 256 ^ k ∧ Turn (fun _ => False) w1 wr ∧ Hid (ipGo ((splitL 46 s.data.toList).drop k) n = ipGo (splitL 46 s.data.toList) 0)) (fun _ i _ => 4 - (intOf i).toNat)
    case atStart => exact ⟨0, 0, by omega, rfl, rfl, by omega, Turn.refl _ _, rfl⟩
    case round =>
      obtain ⟨k, n, hk, rfl, rfl, hn, ht1, hgo⟩ := hrel
      by_cases hlt : k < 4
      · obtain ⟨p, hp⟩ : ∃ p, (partsOf s 46)[k]? = some p := ⟨_, List.getElem?_eq_getElem (by rw [H4.out]; exact hlt)⟩
        have hcell : wr.cell? ⟨g, k, none⟩ = some (.string p) := (World.cell?_of_block (ht1.block g hg (fun h => h))).trans (HC.out k p hp)
        have hps := HPS.out.1 p (List.mem_of_getElem? hp)
        have hd : (splitL 46 s.data.toList).drop k = p.data.toList :: (splitL 46 s.data.toList).drop (k + 1) := by
          have h1 := HPS.out.2
          have h2 : (splitL 46 s.data.toList)[k]? = some p.data.toList := by rw [← h1, List.getElem?_map, hp]; rfl
          obtain ⟨h3, h5⟩ := List.getElem?_eq_some_iff.1 h2
          rw [List.drop_eq_getElem_cons h3, h5]
        have hg1 := hgo.out
        rw [hd] at hg1
        have hn2 : n < 16777216 := by
          match k, hlt, hn with
          | 0, _, hn => omega
          | 1, _, hn => omega
          | 2, _, hn => omega
          | 3, _, hn => omega
        have HP := Lib.hid hp
        clear hp hd hgo
        cases hx : numOf p.data.toList 255 with
        | none =>
          have hg2 : ipGo (splitL 46 s.data.toList) 0 = none := by rw [← hg1, ipGo, hx]
          have CALL := Lib.hid (pnum_no (show 255 < 4294967296 by omega) (show p.size ≤ 9223372036854775807 by omega) hx)
          have HG := Lib.hid hg2
          clear hg1 hg2 hx
          go_wp2_with fail
          refine (CALL.out _).mono ?_
          rintro e w2 ⟨rfl, t2⟩
          go_wp2_with fail
          go_ret2
          exact ⟨by rw [HIP.out, HG.out]; rfl, ht.trans (ht1.trans t2)⟩
        | some x =>
          have hg2 : ipGo ((splitL 46 s.data.toList).drop (k + 1)) (n * 256 + x) = ipGo (splitL 46 s.data.toList) 0 := by rw [← hg1, ipGo, hx]
          have hxl := numOf_le hx
          have CALL := Lib.hid (pnum_ok (show 255 < 4294967296 by omega) (show p.size ≤ 9223372036854775807 by omega) hx)
          have HG := Lib.hid hg2
          clear hg1 hg2 hx
          go_wp2_with fail
          refine (CALL.out _).mono ?_
          rintro e w2 ⟨rfl, t2⟩
          go_wp2_with fail
          go_roundw
          case rel => exact ⟨k + 1, n * 256 + x, by omega, by go_num, by rw [or_byte hn2 (by omega)], pow_step hn hxl, ht1.trans t2, HG.out⟩
          case measure => simp [intOf]; omega
      · have hk4 : k = 4 := by omega
        subst hk4
        have hg1 := hgo.out
        have hl : (splitL 46 s.data.toList).length = 4 := by have h1 := HPS.out.2; have h2 := H4.out; rw [← h1, List.length_map]; exact h2
        rw [List.drop_eq_nil_of_le (by omega), ipGo] at hg1
        have HG := Lib.hid hg1
        clear hg1 hgo hl
        go_wp2_with fail
        go_ret2
        exact ⟨by rw [HIP.out, ← HG.out]; rfl, ht.trans ht1⟩
  · have hip : ipOf s.data.toList = none := by unfold ipOf; rw [if_neg (by omega)]
    have HIP := Lib.hid hip
    have h4b : (((partsOf s 46).length : Int) != 4) = true := by rw [bne_iff_ne]; omega
    clear hip hpl h4
    go_enter Tryd.func13, Tryd.ntmps13
    go_wp2_with fail
    refine HSP.out.mono ?_
    rintro e w1 ⟨g, cap, rfl, hcells, hg, ht⟩
    clear hcells
    go_wp2_with fail
    go_ret2
    exact ⟨by rw [HIP.out]; rfl, ht⟩
end Go.Proofs.YtbkpbcmjgbdbkaaDoor
