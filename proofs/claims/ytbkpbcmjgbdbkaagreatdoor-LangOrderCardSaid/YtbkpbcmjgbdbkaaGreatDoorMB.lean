/- addr.Ip and the reference's Ip. Condition: that the split's contract holds there. The reference's Ip, hex, two. No condition but the text's length. addr.digits: bytes of two digits each, read into a row of bytes. No condition but the text's length. addr.Mac. Condition: that the split's contract holds. The reference's Mac. No condition but the text's length. Key of both. No condition but the text's length. The reference's Key. No condition but the text's length. -/
import Derived.Test.YtbkpbcmjgbdbkaaGreatDoorMA
import Derived.Laws.Rows
/-! E0 -/
namespace Go.Proofs.YtbkpbcmjgbdbkaaGreatDoor
open Go.RowKit Go.Lib
set_option linter.unusedVariables false
set_option linter.unusedSimpArgs false

theorem Turn.iter {F : Nat → Prop} {a b : World} (h : Turn F a b) (s : ByteArray) (p : Nat) : Turn F a (b.iter s p) := h.alloc _
theorem pnum_ok {s : ByteArray} {most x : Nat} (hm : most < 4294967296) (hs : s.size ≤ 9223372036854775807) (hn : numOf s.data.toList most = some x) (w : World) :
    Calls Tryz.prog 100 #[.string s, .int .u32 (most : Int)] w fun e w' => e = .returned (.tuple #[.int .u32 (x : Int), .int .i64 0]) ∧ Turn (fun _ => False) w w' :=
  (pnum_any s most hm hs w).mono fun e w' ⟨he, p, hp⟩ => ⟨by rw [he, hn]; rfl, by rw [hp]; exact (Turn.refl _ _).iter _ _⟩
theorem pnum_no {s : ByteArray} {most : Nat} (hm : most < 4294967296) (hs : s.size ≤ 9223372036854775807) (hn : numOf s.data.toList most = none) (w : World) :
    Calls Tryz.prog 100 #[.string s, .int .u32 (most : Int)] w fun e w' => e = .returned (.tuple #[.int .u32 0, .int .i64 60]) ∧ Turn (fun _ => False) w w' :=
  (pnum_any s most hm hs w).mono fun e w' ⟨he, p, hp⟩ => ⟨by rw [he, hn]; rfl, by rw [hp]; exact (Turn.refl _ _).iter _ _⟩
def IpPost (s : ByteArray) (w : World) (e : Ending) (w' : World) : Prop := e = .returned (numV (ipOf s.data.toList)) ∧ Turn (fun _ => False) w w'
theorem or_byte {n x : Nat} (hn : n < 16777216) (hx : x < 256) : bits .or .u32 ((n : Int) * 256) (x : Int) = ((n * 256 + x : Nat) : Int) := by
  have e : (n : Int) * 256 = ((n * 256 : Nat) : Int) := by omega
  rw [e, u32_or_nat _ _ (by omega) (by omega), nat_join 8 (n * 256) x (by omega) (by omega)]
theorem part_size {s : ByteArray} {c : UInt8} {p : ByteArray} (h : p ∈ partsOf s c) : p.size ≤ s.size := by
  obtain ⟨l, hl, rfl⟩ := List.mem_map.1 h
  have := splitL_len hl
  rw [bytes_len] at this
  show l.toArray.size ≤ _
  simpa using this

theorem pow_step {k n x : Nat} (hn : n < 256 ^ k) (hx : x ≤ 255) : n * 256 + x < 256 ^ (k + 1) := by
  rw [Nat.pow_succ]; omega

set_option maxRecDepth 100000 in
set_option maxHeartbeats 2000000 in
theorem pip_any (s : ByteArray) (hs : s.size ≤ 1000000) (w : World) (hsp : Calls Tryz.prog 99 #[.string s, .string ⟨#[46]⟩] w (PartsPost s 46 w)) :
    Calls Tryz.prog 77 #[.string s] w (IpPost s w) := by
  have HSP := Lib.hid hsp
  clear hsp
  have hpl : (partsOf s 46).length = (splitL 46 s.data.toList).length := by simp [partsOf]
  by_cases h4 : (partsOf s 46).length = 4
  · have hip : ipOf s.data.toList = ipGo (splitL 46 s.data.toList) 0 := by unfold ipOf; rw [if_pos (by omega)]
    have HIP := Lib.hid hip
    have hps : ∀ p ∈ partsOf s 46, p.size ≤ 1000000 := fun p hp => Nat.le_trans (part_size hp) hs
    have hgo : (partsOf s 46).map (·.data.toList) = splitL 46 s.data.toList := by unfold partsOf; rw [List.map_map]; exact List.map_id _
    have HPS := Lib.hid (And.intro hps hgo)
    clear hip hps hgo hpl
    go_enter Tryz.func77, Tryz.ntmps77
    go_wp2_with fail
    refine HSP.out.mono ?_
    rintro e w1 ⟨g, cap, rfl, hcells, hg, ht⟩
    rw [h4]
    have HC := Lib.hid hcells
    have H4 := Lib.hid h4
    clear hcells h4
    go_wp2_with fail
    go_loopw [5, 17] (fun o i wr => ∃ (k n : Nat), k ≤ 4 ∧ i = .int .i64 k ∧ o = .int .u32 (n : Int) ∧ n < 256 ^ k ∧ Turn (fun _ => False) w1 wr ∧ Hid (ipGo ((splitL 46 s.data.toList).drop k) n = ipGo (splitL 46 s.data.toList) 0)) (fun _ i _ => 4 - (intOf i).toNat)
    case atStart => exact ⟨0, 0, by omega, rfl, rfl, by omega, Turn.refl _ _, rfl⟩
    case round =>
      obtain ⟨k, n, hk, rfl, rfl, hn, ht1, hgo⟩ := hrel
      by_cases hlt : k < 4
      · obtain ⟨p, hp⟩ : ∃ p, (partsOf s 46)[k]? = some p := ⟨_, List.getElem?_eq_getElem (by rw [H4.out]; exact hlt)⟩
        have hcell : wr.cell? ⟨g, k, none⟩ = some (.string p) := (World.cell?_of_block (ht1.block g hg (fun h => h))).trans (HC.out k p hp)
        have hps := HPS.out.1 p (List.mem_of_getElem? hp)
        have hd : (splitL 46 s.data.toList).drop k = p.data.toList :: (splitL 46 s.data.toList).drop (k + 1) := by
          have h1 := HPS.out.2
          have h2 : (splitL 46 s.data.toList)[k]? = some p.data.toList := by rw [← h1, List.getElem?_map, hp]; rfl
          obtain ⟨h3, h5⟩ := List.getElem?_eq_some_iff.1 h2
          rw [List.drop_eq_getElem_cons h3, h5]
        have hg1 := hgo.out
        rw [hd] at hg1
        have hn2 : n < 16777216 := by
          match k, hlt, hn with
          | 0, _, hn => omega
          | 1, _, hn => omega
          | 2, _, hn => omega
          | 3, _, hn => omega
        have HP := Lib.hid hp
        clear hp hd hgo
        cases hx : numOf p.data.toList 255 with
        | none =>
          have hg2 : ipGo (splitL 46 s.data.toList) 0 = none := by rw [← hg1, ipGo, hx]
          have CALL := Lib.hid (pnum_no (show 255 < 4294967296 by omega) (show p.size ≤ 9223372036854775807 by omega) hx)
          have HG := Lib.hid hg2
          clear hg1 hg2 hx
          go_wp2_with fail
          refine (CALL.out _).mono ?_
          rintro e w2 ⟨rfl, t2⟩
          go_wp2_with fail
          go_ret2
          exact ⟨by rw [HIP.out, HG.out]; rfl, ht.trans (ht1.trans t2)⟩
        | some x =>
          have hg2 : ipGo ((splitL 46 s.data.toList).drop (k + 1)) (n * 256 + x) = ipGo (splitL 46 s.data.toList) 0 := by rw [← hg1, ipGo, hx]
          have hxl := numOf_le hx
          have CALL := Lib.hid (pnum_ok (show 255 < 4294967296 by omega) (show p.size ≤ 9223372036854775807 by omega) hx)
          have HG := Lib.hid hg2
          clear hg1 hg2 hx
          go_wp2_with fail
          refine (CALL.out _).mono ?_
          rintro e w2 ⟨rfl, t2⟩
          go_wp2_with fail
          go_roundw
          case rel => exact ⟨k + 1, n * 256 + x, by omega, by go_num, by rw [or_byte hn2 (by omega)], pow_step hn hxl, ht1.trans t2, HG.out⟩
          case measure => simp [intOf]; omega
      · have hk4 : k = 4 := by omega
        subst hk4
        have hg1 := hgo.out
        have hl : (splitL 46 s.data.toList).length = 4 := by have h1 := HPS.out.2; have h2 := H4.out; rw [← h1, List.length_map]; exact h2
        rw [List.drop_eq_nil_of_le (by omega), ipGo] at hg1
        have HG := Lib.hid hg1
        clear hg1 hgo hl
        go_wp2_with fail
        go_ret2
        exact ⟨by rw [HIP.out, ← HG.out]; rfl, ht.trans ht1⟩
  · have hip : ipOf s.data.toList = none := by unfold ipOf; rw [if_neg (by omega)]
    have HIP := Lib.hid hip
    have h4b : (((partsOf s 46).length : Int) != 4) = true := by rw [bne_iff_ne]; omega
    clear hip hpl h4
    go_enter Tryz.func77, Tryz.ntmps77
    go_wp2_with fail
    refine HSP.out.mono ?_
    rintro e w1 ⟨g, cap, rfl, hcells, hg, ht⟩
    clear hcells
    go_wp2_with fail
    go_ret2
    exact ⟨by rw [HIP.out]; rfl, ht⟩
end Go.Proofs.YtbkpbcmjgbdbkaaGreatDoor

/-! E1 -/
namespace Go.Proofs.YtbkpbcmjgbdbkaaGreatDoor
open Go.RowKit Go.Lib
set_option linter.unusedVariables false
set_option linter.unusedSimpArgs false

theorem rnum_ok {s : ByteArray} {most x : Nat} (hm : most < 4294967296) (hs : s.size ≤ 9223372036854775807) (hn : numOf s.data.toList most = some x) (w : World) :
    Calls Tryz.prog 62 #[.string s, .int .u32 (most : Int)] w fun e w' => e = .returned (.tuple #[.int .u32 (x : Int), .int .i64 0]) ∧ w = w' :=
  (rnum_any s most hm hs w).mono fun e w' ⟨he, hw⟩ => ⟨by rw [he, hn]; rfl, hw⟩
theorem rnum_no {s : ByteArray} {most : Nat} (hm : most < 4294967296) (hs : s.size ≤ 9223372036854775807) (hn : numOf s.data.toList most = none) (w : World) :
    Calls Tryz.prog 62 #[.string s, .int .u32 (most : Int)] w fun e w' => e = .returned (.tuple #[.int .u32 0, .int .i64 60]) ∧ w = w' :=
  (rnum_any s most hm hs w).mono fun e w' ⟨he, hw⟩ => ⟨by rw [he, hn]; rfl, hw⟩
def RIpPost (s : ByteArray) (w : World) (e : Ending) (w' : World) : Prop := e = .returned (numV (ipOf s.data.toList)) ∧ Turn (fun _ => False) w w'

set_option maxRecDepth 100000 in
set_option maxHeartbeats 2000000 in
theorem rip_any (s : ByteArray) (hs : s.size ≤ 1000000) (w : World) :
    Calls Tryz.prog 59 #[.string s] w (RIpPost s w) := by
  have hsp : Calls Tryz.prog 90 #[.string s, .int .u8 46] w (PartsPost s 46 w) := parts_any s 46 hs w
  have HSP := Lib.hid hsp
  clear hsp
  have hpl : (partsOf s 46).length = (splitL 46 s.data.toList).length := by simp [partsOf]
  by_cases h4 : (partsOf s 46).length = 4
  · have hip : ipOf s.data.toList = ipGo (splitL 46 s.data.toList) 0 := by unfold ipOf; rw [if_pos (by omega)]
    have HIP := Lib.hid hip
    have hps : ∀ p ∈ partsOf s 46, p.size ≤ 1000000 := fun p hp => Nat.le_trans (part_size hp) hs
    have hgo : (partsOf s 46).map (·.data.toList) = splitL 46 s.data.toList := by unfold partsOf; rw [List.map_map]; exact List.map_id _
    have HPS := Lib.hid (And.intro hps hgo)
    clear hip hps hgo hpl
    go_enter Tryz.func59, Tryz.ntmps59
    go_wp2_with fail
    refine HSP.out.mono ?_
    rintro e w1 ⟨g, cap, rfl, hcells, hg, ht⟩
    rw [h4]
    have HC := Lib.hid hcells
    have H4 := Lib.hid h4
    clear hcells h4
    go_wp2_with fail
    go_loopw [5, 6] (fun o i wr => ∃ (k n : Nat), k ≤ 4 ∧ i = .int .i64 k ∧ o = .int .u32 (n : Int) ∧ n < 256 ^ k ∧ Turn (fun _ => False) w1 wr ∧ Hid (ipGo ((splitL 46 s.data.toList).drop k) n = ipGo (splitL 46 s.data.toList) 0)) (fun _ i _ => 4 - (intOf i).toNat)
    case atStart => exact ⟨0, 0, by omega, rfl, rfl, by omega, Turn.refl _ _, rfl⟩
    case round =>
      obtain ⟨k, n, hk, rfl, rfl, hn, ht1, hgo⟩ := hrel
      by_cases hlt : k < 4
      · obtain ⟨p, hp⟩ : ∃ p, (partsOf s 46)[k]? = some p := ⟨_, List.getElem?_eq_getElem (by rw [H4.out]; exact hlt)⟩
        have hcell : wr.cell? ⟨g, k, none⟩ = some (.string p) := (World.cell?_of_block (ht1.block g hg (fun h => h))).trans (HC.out k p hp)
        have hps := HPS.out.1 p (List.mem_of_getElem? hp)
        have hd : (splitL 46 s.data.toList).drop k = p.data.toList :: (splitL 46 s.data.toList).drop (k + 1) := by
          have h1 := HPS.out.2
          have h2 : (splitL 46 s.data.toList)[k]? = some p.data.toList := by rw [← h1, List.getElem?_map, hp]; rfl
          obtain ⟨h3, h5⟩ := List.getElem?_eq_some_iff.1 h2
          rw [List.drop_eq_getElem_cons h3, h5]
        have hg1 := hgo.out
        rw [hd] at hg1
        have hn2 : n < 16777216 := by
          match k, hlt, hn with
          | 0, _, hn => omega
          | 1, _, hn => omega
          | 2, _, hn => omega
          | 3, _, hn => omega
        have HP := Lib.hid hp
        clear hp hd hgo
        cases hx : numOf p.data.toList 255 with
        | none =>
          have hg2 : ipGo (splitL 46 s.data.toList) 0 = none := by rw [← hg1, ipGo, hx]
          have CALL := Lib.hid (rnum_no (show 255 < 4294967296 by omega) (show p.size ≤ 9223372036854775807 by omega) hx)
          have HG := Lib.hid hg2
          clear hg1 hg2 hx
          go_wp2_with fail
          refine (CALL.out _).mono ?_
          rintro e w2 ⟨rfl, rfl⟩
          go_wp2_with fail
          go_ret2
          exact ⟨by rw [HIP.out, HG.out]; rfl, ht.trans ht1⟩
        | some x =>
          have hg2 : ipGo ((splitL 46 s.data.toList).drop (k + 1)) (n * 256 + x) = ipGo (splitL 46 s.data.toList) 0 := by rw [← hg1, ipGo, hx]
          have hxl := numOf_le hx
          have CALL := Lib.hid (rnum_ok (show 255 < 4294967296 by omega) (show p.size ≤ 9223372036854775807 by omega) hx)
          have HG := Lib.hid hg2
          clear hg1 hg2 hx
          go_wp2_with fail
          refine (CALL.out _).mono ?_
          rintro e w2 ⟨rfl, rfl⟩
          go_wp2_with fail
          go_roundw
          case rel => exact ⟨k + 1, n * 256 + x, by omega, by go_num, by rw [or_byte hn2 (by omega)], pow_step hn hxl, ht1, HG.out⟩
          case measure => simp [intOf]; omega
      · have hk4 : k = 4 := by omega
        subst hk4
        have hg1 := hgo.out
        have hl : (splitL 46 s.data.toList).length = 4 := by have h1 := HPS.out.2; have h2 := H4.out; rw [← h1, List.length_map]; exact h2
        rw [List.drop_eq_nil_of_le (by omega), ipGo] at hg1
        have HG := Lib.hid hg1
        clear hg1 hgo hl
        go_wp2_with fail
        go_ret2
        exact ⟨by rw [HIP.out, ← HG.out]; rfl, ht.trans ht1⟩
  · have hip : ipOf s.data.toList = none := by unfold ipOf; rw [if_neg (by omega)]
    have HIP := Lib.hid hip
    have h4b : (((partsOf s 46).length : Int) != 4) = true := by rw [bne_iff_ne]; omega
    clear hip hpl h4
    go_enter Tryz.func59, Tryz.ntmps59
    go_wp2_with fail
    refine HSP.out.mono ?_
    rintro e w1 ⟨g, cap, rfl, hcells, hg, ht⟩
    clear hcells
    go_wp2_with fail
    go_ret2
    exact ⟨by rw [HIP.out]; rfl, ht⟩

/-! ### hex, two -/
def hexV : Option Nat → Value
  | some d => .tuple #[.int .u8 (d : Int), .bool true]
  | none => .tuple #[.int .u8 0, .bool false]
set_option maxRecDepth 100000 in
set_option maxHeartbeats 1000000 in
theorem hex_any (c : UInt8) (w : World) : Calls Tryz.prog 104 #[.int .u8 (c.toNat : Int)] w fun e w' => e = .returned (hexV (hexOf c)) ∧ w = w' := by
  have hc3 := c.toNat_lt
  by_cases h1 : 48 ≤ c.toNat ∧ c.toNat ≤ 57
  · have hx : hexOf c = some (c.toNat - 48) := by unfold hexOf; rw [if_pos h1]
    have HX := Lib.hid hx
    clear hx
    obtain ⟨a1, a2⟩ := h1
    go_enter Tryz.func104, Tryz.ntmps104
    go_wp2_with fail
    go_ret2
    refine ⟨?_, rfl⟩
    rw [HX.out]
    unfold hexV
    rw [show ((c.toNat : Int) - 48) = ((c.toNat - 48 : Nat) : Int) by omega]
    rfl
  · by_cases h2 : 97 ≤ c.toNat ∧ c.toNat ≤ 102
    · have hx : hexOf c = some (c.toNat - 87) := by unfold hexOf; rw [if_neg h1, if_pos h2]
      have HX := Lib.hid hx
      clear hx h1
      obtain ⟨a1, a2⟩ := h2
      go_enter Tryz.func104, Tryz.ntmps104
      go_wp2_with fail
      go_ret2
      refine ⟨?_, rfl⟩
      rw [HX.out]
      unfold hexV
      rw [show ((c.toNat : Int) - 97 + 10) = ((c.toNat - 87 : Nat) : Int) by omega]
      rfl
    · have hx : hexOf c = none := by unfold hexOf; rw [if_neg h1, if_neg h2]
      have HX := Lib.hid hx
      clear hx
      go_enter Tryz.func104, Tryz.ntmps104
      go_wp2_with fail
      all_goals first
        | (exfalso; omega)
        | (go_ret2; exact ⟨by rw [HX.out]; rfl, rfl⟩)
theorem hex_ok {c : UInt8} {d : Nat} (h : hexOf c = some d) (w : World) : Calls Tryz.prog 104 #[.int .u8 (c.toNat : Int)] w fun e w' => e = .returned (.tuple #[.int .u8 (d : Int), .bool true]) ∧ w = w' :=
  (hex_any c w).mono fun e w' ⟨he, hw⟩ => ⟨by rw [he, h]; rfl, hw⟩
theorem hex_no {c : UInt8} (h : hexOf c = none) (w : World) : Calls Tryz.prog 104 #[.int .u8 (c.toNat : Int)] w fun e w' => e = .returned (.tuple #[.int .u8 0, .bool false]) ∧ w = w' :=
  (hex_any c w).mono fun e w' ⟨he, hw⟩ => ⟨by rw [he, h]; rfl, hw⟩

def twoOf (l : List UInt8) : Option Nat := if l.length = 2 then match pairsOf l with
  | some [x] => some x
  | _ => none
  else none
theorem or_nib {v x : Nat} (hv : v < 16) (hx : x < 16) : bits .or .u8 ((v : Int) * 16) (x : Int) = ((16 * v + x : Nat) : Int) := by
  have e : (v : Int) * 16 = ((v * 16 : Nat) : Int) := by omega
  rw [e, u8_or_nat _ _ (by omega) (by omega), nat_join 4 (v * 16) x (by omega) (by omega), Nat.mul_comm]
theorem hex_split (c : UInt8) : ∃ (v : Nat) (p : Bool), v < 16 ∧ (hexOf c = if p = true then some v else none) ∧ ∀ w, Calls Tryz.prog 104 #[.int .u8 (c.toNat : Int)] w fun e w' => e = .returned (.tuple #[.int .u8 (v : Int), .bool p]) ∧ w = w' := by
  cases h : hexOf c with
  | none => exact ⟨0, false, by omega, rfl, hex_no h⟩
  | some d => exact ⟨d, true, (hexOf_read h).2, rfl, hex_ok h⟩
theorem ret_byte {a b : Int} (h : a = b) : Ending.returned (.tuple #[.int .u8 a, .bool true]) = .returned (.tuple #[.int .u8 b, .bool true]) := by rw [h]
def TwoPost (s : ByteArray) (w : World) (e : Ending) (w' : World) : Prop :=
  w = w' ∧ match twoOf s.data.toList with
  | some x => e = .returned (.tuple #[.int .u8 (x : Int), .bool true])
  | none => ∃ v : Int, e = .returned (.tuple #[.int .u8 v, .bool false])
set_option maxRecDepth 100000 in
set_option maxHeartbeats 1000000 in
theorem two_any (s : ByteArray) (w : World) : Calls Tryz.prog 91 #[.string s] w (TwoPost s w) := by
  have hlen := bytes_len s
  by_cases h2 : s.size = 2
  · obtain ⟨a, ha1, ha2⟩ := bytes_get s 0 (by omega)
    obtain ⟨b, hb1, hb2⟩ := bytes_get s 1 (by omega)
    have hl : s.data.toList = [a, b] := by
      match hd : s.data.toList with
      | [] => rw [hd] at hlen; simp at hlen; omega
      | [x] => rw [hd] at hlen; simp at hlen; omega
      | [x, y] => rw [hd] at ha1 hb1; simp at ha1 hb1; rw [ha1, hb1]
      | x :: y :: z :: r => rw [hd] at hlen; simp at hlen; omega
    have htw : twoOf s.data.toList = match hexOf a, hexOf b with
        | some x, some y => some (16 * x + y)
        | _, _ => none := by
      rw [hl]
      unfold twoOf
      rw [if_pos (by rfl), pairsOf]
      cases hexOf a <;> cases hexOf b <;> rfl
    have HT := Lib.hid htw
    have h1 : (1 : Int) < (s.size : Int) := by omega
    have h0 : (0 : Int) < (s.size : Int) := by omega
    clear htw hl ha1 hb1 hlen
    obtain ⟨x, p, hx, hxa, ca⟩ := hex_split a
    obtain ⟨y, q, hy, hyb, cb⟩ := hex_split b
    have CA := Lib.hid (And.intro hxa ca)
    have CB := Lib.hid (And.intro hyb cb)
    clear hxa hyb ca cb
    cases p <;> cases q
    all_goals
      go_enter Tryz.func91, Tryz.ntmps91
      go_wp2_with fail
      refine (CA.out.2 _).mono ?_
      rintro e w1 ⟨rfl, rfl⟩
      go_wp2_with fail
      refine (CB.out.2 _).mono ?_
      rintro e w1 ⟨rfl, rfl⟩
      go_wp2_with fail
      go_ret2
      refine ⟨rfl, ?_⟩
      rw [HT.out, CA.out.1, CB.out.1]
      first
      | exact ⟨_, rfl⟩
      | exact ret_byte (or_nib hx hy)
  · have htw : twoOf s.data.toList = none := by unfold twoOf; rw [if_neg (by omega)]
    have HT := Lib.hid htw
    have h2b : ((s.size : Int) != 2) = true := by rw [bne_iff_ne]; omega
    clear htw h2 hlen
    go_enter Tryz.func91, Tryz.ntmps91
    go_wp2_with fail
    go_ret2
    refine ⟨rfl, ?_⟩
    rw [HT.out]
    exact ⟨_, rfl⟩
theorem two_ok {s : ByteArray} {x : Nat} (h : twoOf s.data.toList = some x) (w : World) : Calls Tryz.prog 91 #[.string s] w fun e w' => e = .returned (.tuple #[.int .u8 (x : Int), .bool true]) ∧ w = w' :=
  (two_any s w).mono fun e w' ⟨hw, he⟩ => by
    rw [h] at he
    exact ⟨he, hw⟩
theorem two_no {s : ByteArray} (h : twoOf s.data.toList = none) (w : World) : Calls Tryz.prog 91 #[.string s] w fun e w' => (∃ v : Int, e = .returned (.tuple #[.int .u8 v, .bool false])) ∧ w = w' :=
  (two_any s w).mono fun e w' ⟨hw, he⟩ => by
    rw [h] at he
    exact ⟨he, hw⟩
end Go.Proofs.YtbkpbcmjgbdbkaaGreatDoor

/-! E2 -/
namespace Go.Proofs.YtbkpbcmjgbdbkaaGreatDoor
open Go.RowKit Go.Lib
set_option linter.unusedVariables false
set_option linter.unusedSimpArgs false

/-! ### a string's iterator in any world -/
def itSet (w : World) (k : Nat) (s : ByteArray) (p : Nat) : World := { w with heap := w.heap.setIfInBounds k (.stringIter s p) }
theorem itSet_other {w : World} {k j : Nat} {s : ByteArray} {p : Nat} (h : j ≠ k) : (itSet w k s p).heap[j]? = w.heap[j]? := by
  unfold itSet
  show (w.heap.setIfInBounds k _)[j]? = _
  rw [Array.getElem?_setIfInBounds, if_neg (fun e => h e.symm)]
theorem itSet_same {w : World} {k : Nat} {s : ByteArray} {p : Nat} (h : k < w.heap.size) : (itSet w k s p).heap[k]? = some (.stringIter s p) := by
  unfold itSet
  show (w.heap.setIfInBounds k _)[k]? = _
  rw [Array.getElem?_setIfInBounds, if_pos rfl, if_pos h]
theorem itSet_size (w : World) (k : Nat) (s : ByteArray) (p : Nat) : (itSet w k s p).heap.size = w.heap.size := by
  unfold itSet; simp
theorem Turn.itSet {F : Nat → Prop} {a b : World} (h : Turn F a b) {k : Nat} (hk : k < a.heap.size → F k) (s : ByteArray) (p : Nat) : Turn F a (itSet b k s p) :=
  ⟨h.os, h.tape, h.output, by rw [itSet_size]; exact h.size, fun i hi hF => by
    rw [itSet_other (fun e => hF (by subst e; exact hk hi))]; exact h.block i hi hF⟩
theorem cell_itSet {w : World} {k : Nat} {s : ByteArray} {p : Nat} {a : Addr} (h : a.block ≠ k) : (itSet w k s p).cell? a = w.cell? a := World.cell?_of_block (itSet_other h)
theorem frozen_of_block {w w' : World} {a : Addr} (h : w'.heap[a.block]? = w.heap[a.block]?) : w'.frozen? a = w.frozen? a := by
  simp [World.frozen?, h]
theorem frozen_itSet {w : World} {k : Nat} {s : ByteArray} {p : Nat} {a : Addr} (h : a.block ≠ k) : (itSet w k s p).frozen? a = w.frozen? a := frozen_of_block (itSet_other h)
theorem run_next_at {P : Program} {w : World} {k : Nat} {s : ByteArray} {pos : Nat} (hw : w.heap[k]? = some (.stringIter s pos)) (ty : TypeId) (h : pos < s.size) :
    (Instr.next (.pointer (some ⟨k, 0, none⟩)) true ty).run P w = .ok (.tuple #[.bool true, .int .i64 pos, .int .i32 (Utf8.decode s pos).1]) (itSet w k s (pos + (Utf8.decode s pos).2)) := by
  simp only [Instr.next, getObj, setObj, Sem.run_bind, Sem.run, hw, Result.andThen, h, if_true]
  simp [goInt, itSet]
theorem run_next_at_end {P : Program} {w : World} {k : Nat} {s : ByteArray} {pos : Nat} (hw : w.heap[k]? = some (.stringIter s pos)) (ty : TypeId) (h : ¬ pos < s.size) :
    (Instr.next (.pointer (some ⟨k, 0, none⟩)) true ty).run P w = .ok (.tuple #[.bool false]) w := by
  simp [Instr.next, getObj, Sem.run, hw, h]

/-! ### the row of bytes under way -/
def hx (c : UInt8) : Nat := (hexOf c).getD 0
def cellAt (l : List UInt8) (k j : Nat) : Nat := if 2 * j + 1 < k then 16 * hx (l.getD (2 * j) 0) + hx (l.getD (2 * j + 1) 0) else if 2 * j < k then hx (l.getD (2 * j) 0) else 0
theorem hx_lt (c : UInt8) : hx c < 16 := by
  unfold hx
  cases h : hexOf c with
  | none => simp
  | some d => have := hexOf_read h; simp; omega
theorem cellAt_lt (l : List UInt8) (k : Nat) : cellAt l k (k / 2) < 16 := by
  unfold cellAt
  rw [if_neg (by omega)]
  split
  · exact hx_lt _
  · omega
theorem cellAt_step (l : List UInt8) (k : Nat) : cellAt l (k + 1) (k / 2) = 16 * cellAt l k (k / 2) + hx (l.getD k 0) := by
  unfold cellAt
  by_cases h : 2 * (k / 2) + 1 < k + 1
  · rw [if_pos h, if_neg (by omega), if_pos (by omega), show 2 * (k / 2) + 1 = k by omega]
  · rw [if_neg h, if_pos (by omega), if_neg (by omega), if_neg (by omega), show 2 * (k / 2) = k by omega]; omega
theorem cellAt_other {l : List UInt8} {k j : Nat} (h : j ≠ k / 2) : cellAt l (k + 1) j = cellAt l k j := by
  unfold cellAt
  by_cases h1 : 2 * j + 1 < k
  · rw [if_pos h1, if_pos (by omega)]
  · rw [if_neg h1, if_neg (by omega)]
    by_cases h2 : 2 * j < k
    · omega
    · rw [if_neg h2, if_neg (by omega)]
def u8row (m : List Nat) : Array Value := (m.map fun (b : Nat) => Value.int .u8 (b : Int)).toArray
def nums (m : List Nat) (o n : Nat) (l : List UInt8) (k : Nat) : List Nat := (List.range m.length).map fun i => if o ≤ i ∧ i < o + n then cellAt l k (i - o) else m.getD i 0
theorem nums_len (m : List Nat) (o n : Nat) (l : List UInt8) (k : Nat) : (nums m o n l k).length = m.length := by simp [nums]
theorem nums_get {m : List Nat} {o n : Nat} {l : List UInt8} {k i : Nat} (h : i < m.length) : (nums m o n l k)[i]? = some (if o ≤ i ∧ i < o + n then cellAt l k (i - o) else m.getD i 0) := by
  simp [nums, h]
theorem nums_zero {m : List Nat} {o n : Nat} {l : List UInt8} (hz : ∀ i, o ≤ i → i < o + n → m.getD i 0 = 0) : nums m o n l 0 = m := by
  apply List.ext_getElem?
  intro i
  by_cases hi : i < m.length
  · rw [nums_get hi]
    by_cases hc : o ≤ i ∧ i < o + n
    · rw [if_pos hc]
      have := hz i hc.1 hc.2
      have e : m.getD i 0 = m[i] := by simp [List.getD, hi]
      rw [List.getElem?_eq_getElem hi, ← e, this]
      simp [cellAt]
    · rw [if_neg hc, List.getElem?_eq_getElem hi]
      simp [List.getD, hi]
  · rw [List.getElem?_eq_none (by rw [nums_len]; omega), List.getElem?_eq_none (by omega)]
theorem u8row_set {m : List Nat} {o n : Nat} {l : List UInt8} {k : Nat} (hon : o + n ≤ m.length) (hk : k / 2 < n) :
    (u8row (nums m o n l k)).setIfInBounds (o + k / 2) (.int .u8 ((cellAt l (k + 1) (k / 2) : Nat) : Int)) = u8row (nums m o n l (k + 1)) := by
  apply Array.ext'
  apply List.ext_getElem?
  intro i
  rw [Array.toList_setIfInBounds]
  unfold u8row
  simp only [List.getElem?_set, List.length_map, List.getElem?_map, nums_len]
  by_cases hi : i < m.length
  · rw [nums_get hi, nums_get hi]
    by_cases he : o + k / 2 = i
    · subst he
      rw [if_pos rfl, if_pos hi, if_pos ⟨by omega, by omega⟩, show o + k / 2 - o = k / 2 by omega]; rfl
    · rw [if_neg he]
      by_cases hc : o ≤ i ∧ i < o + n
      · rw [if_pos hc, if_pos hc, cellAt_other (by omega)]
      · rw [if_neg hc, if_neg hc]
  · have e1 : (nums m o n l k)[i]? = none := List.getElem?_eq_none (by rw [nums_len]; omega)
    have e2 : (nums m o n l (k + 1))[i]? = none := List.getElem?_eq_none (by rw [nums_len]; omega)
    rw [e1, e2, if_neg (by omega)]
theorem u8row_cell {m : List Nat} {o n : Nat} {l : List UInt8} {k : Nat} (hon : o + n ≤ m.length) (hk : k / 2 < n) :
    (u8row (nums m o n l k))[o + k / 2]? = some (.int .u8 ((cellAt l k (k / 2) : Nat) : Int)) := by
  unfold u8row
  rw [List.getElem?_toArray, List.getElem?_map, nums_get (by omega), if_pos ⟨by omega, by omega⟩, show o + k / 2 - o = k / 2 by omega]; rfl
/-- The list L laid into m from place o on. -/
def put (m : List Nat) (o : Nat) (L : List Nat) : List Nat := (List.range m.length).map fun i => if o ≤ i ∧ i < o + L.length then L.getD (i - o) 0 else m.getD i 0
theorem pairs_cells : ∀ (l : List UInt8) {L : List Nat}, pairsOf l = some L → ∀ j, j < L.length → L.getD j 0 = 16 * hx (l.getD (2 * j) 0) + hx (l.getD (2 * j + 1) 0)
  | [], L, h, j, hj => by simp only [pairsOf, Option.some.injEq] at h; subst h; simp at hj
  | [_], L, h, _, _ => by simp [pairsOf] at h
  | a :: b :: r, L, h, j, hj => by
    rw [pairsOf] at h
    split at h
    · rename_i x y l' h1 h2 h3
      simp only [Option.some.injEq] at h
      subst h
      cases j with
      | zero => simp [hx, h1, h2]
      | succ j =>
        have := pairs_cells r h3 j (by simpa using hj)
        simp only [List.getD_cons_succ, show 2 * (j + 1) = 2 * j + 1 + 1 by omega]
        exact this
    · cases h
theorem nums_end {m : List Nat} {o n : Nat} {l : List UInt8} {L : List Nat} (h : pairsOf l = some L) (hl : l.length = 2 * n) : nums m o n l (2 * n) = put m o L := by
  have hL := (pairsOf_read _ h).2.2
  unfold nums put
  apply List.map_congr_left
  intro i hi
  rw [show o + n = o + L.length by omega]
  by_cases hc : o ≤ i ∧ i < o + L.length
  · rw [if_pos hc, if_pos hc, pairs_cells l h _ (by omega)]
    unfold cellAt
    rw [if_pos (by omega)]
  · rw [if_neg hc, if_neg hc]
theorem pairs_hex : ∀ (l : List UInt8) {L : List Nat}, pairsOf l = some L → ∀ (k : Nat) (c : UInt8), l[k]? = some c → (hexOf c).isSome = true
  | [], L, h, k, c, hk => by simp at hk
  | [_], L, h, _, _, _ => by simp [pairsOf] at h
  | a :: b :: r, L, h, k, c, hk => by
    rw [pairsOf] at h
    split at h
    · rename_i x y l' h1 h2 h3
      match k, hk with
      | 0, hk => simp at hk; subst hk; simp [h1]
      | 1, hk => simp at hk; subst hk; simp [h2]
      | k + 2, hk => exact pairs_hex r h3 k c (by simpa using hk)
    · cases h
theorem pairs_all : ∀ (l : List UInt8) (n : Nat), l.length = 2 * n → (∀ (k : Nat) (c : UInt8), l[k]? = some c → (hexOf c).isSome = true) → ∃ L, pairsOf l = some L
  | [], _, _, _ => ⟨[], rfl⟩
  | [_], n, h, _ => by simp at h; omega
  | a :: b :: r, n, h, hh => by
    obtain ⟨x, hx⟩ := Option.isSome_iff_exists.1 (hh 0 a rfl)
    obtain ⟨y, hy⟩ := Option.isSome_iff_exists.1 (hh 1 b rfl)
    obtain ⟨L, hL⟩ := pairs_all r (n - 1) (by simp at h; omega) (fun k c hk => hh (k + 2) c (by simpa using hk))
    exact ⟨_, by rw [pairsOf, hx, hy, hL]⟩

def DigitsPost (l : List UInt8) (b o n : Nat) (m : List Nat) (T : TypeId) (w : World) (e : Ending) (w' : World) : Prop :=
  Turn (fun k => k = b) w w' ∧ ((e = .returned (.int .i64 60) ∧ (l.length = 2 * n → pairsOf l = none)) ∨
    (e = .returned (.int .i64 0) ∧ ∃ L, l.length = 2 * n ∧ pairsOf l = some L ∧ w'.heap[b]? = some (.cells (u8row (put m o L)) T (0, 0))))

theorem digits_keep {w W1 : World} {b B o j v d x : Nat} {T : TypeId} {s : ByteArray} {p : Nat} {r r' : Array Value} (hbn : b ≠ B) (h1 : W1.heap[b]? = some (.cells r T (0, 0))) (h2 : W1.heap[B]? = some (.stringIter s p))
    (h3 : Turn (fun k => k = b) w W1) (h4 : r.setIfInBounds (o + j) (.int .u8 (x : Int)) = r') (h5 : x = 16 * v + d) :
    (W1.setCell ⟨b, o + j, none⟩ (.int .u8 ((16 * v + d : Nat) : Int))).heap[b]? = some (.cells r' T (0, 0)) ∧
    (W1.setCell ⟨b, o + j, none⟩ (.int .u8 ((16 * v + d : Nat) : Int))).heap[B]? = some (.stringIter s p) ∧
    Turn (fun k => k = b) w (W1.setCell ⟨b, o + j, none⟩ (.int .u8 ((16 * v + d : Nat) : Int))) := by
  subst h5
  exact ⟨by rw [block_setCell h1, h4], (Below.heap_setCell _ _ _ _ (fun e => hbn e.symm)).trans h2, h3.setCell _ (fun _ => rfl)⟩

set_option maxRecDepth 100000 in
set_option maxHeartbeats 4000000 in
theorem digits_any (s : ByteArray) (hs : s.size ≤ 1000000) (b o n c : Nat) (m : List Nat) (T : TypeId) (w : World) (hb : w.heap[b]? = some (.cells (u8row m) T (0, 0))) (hon : o + n ≤ m.length) (hn : n ≤ 1000000)
    (hz : ∀ i, o ≤ i → i < o + n → m.getD i 0 = 0) (hnc : n ≤ c) :
    Calls Tryz.prog 101 #[.string s, .slice (some ⟨b, o, none⟩) n c] w (DigitsPost s.data.toList b o n m T w) := by
  have hlen := bytes_len s
  have hbs := block_lt hb
  by_cases h2 : s.size = 2 * n
  · have h2b : ((s.size : Int) != 2 * (n : Int)) = false := by rw [bne_eq_false_iff_eq]; omega
    have H0 := Lib.hid (And.intro hb (And.intro hz (And.intro h2 hlen)))
    have hbn : b ≠ w.heap.size := by omega
    clear hb hz h2 hlen
    go_enter Tryz.func101, Tryz.ntmps101
    go_wp2_with fail
    clear h2b
    have hst : nums m o n s.data.toList 0 = m := nums_zero H0.out.2.1
    have HST := Lib.hid hst
    clear hst
    have hw0 : (w.iter s 0).heap[b]? = some (.cells (u8row (nums m o n s.data.toList 0)) T (0, 0)) := by rw [HST.out]; exact block_alloc_old H0.out.1
    have hw1 := World.iter_heap w s 0
    have hw2 : Turn (fun k => k = b) w (w.iter s 0) := (Turn.refl _ _).iter s 0
    obtain ⟨B, hB⟩ : ∃ B, B = w.heap.size := ⟨_, rfl⟩
    rw [← hB] at hw1 hbn
    rw [← hB]
    have HB := Lib.hid hB
    clear hB
    go_loopg [] (s.size + 1) (fun g wr => ∃ k : Nat, g = s.size + 1 - k ∧ k ≤ s.size ∧ wr.heap[B]? = some (.stringIter s k) ∧ wr.heap[b]? = some (.cells (u8row (nums m o n s.data.toList k)) T (0, 0)) ∧ Turn (fun k => k = b) w wr ∧
      Hid (∀ (j : Nat) (c : UInt8), j < k → s.data.toList[j]? = some c → (hexOf c).isSome = true))
    case atStart => exact ⟨0, rfl, Nat.zero_le _, hw1, hw0, hw2, fun j c hj => by omega⟩
    case round =>
      clear hw0 hw1 hw2
      obtain ⟨k, rfl, hk, hit, hrow, ht, hall⟩ := hrel
      by_cases hlt : k < s.size
      · obtain ⟨ch, hc1, hc2⟩ := bytes_get s k hlt
        obtain ⟨j, hj⟩ : ∃ j, j = k / 2 := ⟨_, rfl⟩
        have hjn : j < n := by have := H0.out.2.2.1; omega
        have hdiv : ((k : Int) / 2) = (j : Int) := by omega
        have hjn2 : (j : Int) < (n : Int) := by omega
        have hj0 : (0 : Int) ≤ (j : Int) := by omega
        have hv := cellAt_lt s.data.toList k
        have hcel := u8row_cell (l := s.data.toList) (k := k) hon (by omega : k / 2 < n)
        have hset := u8row_set (l := s.data.toList) (k := k) hon (by omega : k / 2 < n)
        rw [← hj] at hv hcel hset
        have hgd : s.data.toList.getD k 0 = ch := by rw [List.getD_eq_getElem?_getD, hc1]; rfl
        have hstep := cellAt_step s.data.toList k
        rw [← hj, hgd] at hstep
        obtain ⟨v, hvv⟩ : ∃ v, v = cellAt s.data.toList k j := ⟨_, rfl⟩
        rw [← hvv] at hv hcel hstep
        have hcx := ch.toNat_lt
        have HH := Lib.hid (And.intro hrow (And.intro hit (And.intro hset (And.intro hstep hc1))))
        cases hxd : hexOf ch with
        | none =>
          have hno : pairsOf s.data.toList = none := by
            cases hp : pairsOf s.data.toList with
            | none => rfl
            | some L => have := pairs_hex _ hp k ch hc1; rw [hxd] at this; cases this
          have h1 : ¬ (48 ≤ ch.toNat ∧ ch.toNat ≤ 57) ∧ ¬ (97 ≤ ch.toNat ∧ ch.toNat ≤ 102) := by
            unfold hexOf at hxd
            split at hxd
            · cases hxd
            · split at hxd
              · cases hxd
              · exact ⟨by assumption, by assumption⟩
          have HNO := Lib.hid hno
          by_cases ha : ch.toNat < 128
          · have hdec := decode_ascii s k hlt (by rw [hc2]; exact ha)
            rw [hc2] at hdec
            have hnx : ∀ ty, (Instr.next (.pointer (some ⟨B, 0, none⟩)) true ty).run Tryz.prog wr = _ := fun ty => run_next_at hit ty hlt
            rw [hdec] at hnx
            have t2 := ht.itSet (k := B) (fun h => by have := HB.out; omega) s (k + 1)
            clear hdec hno hxd hc1 hc2 hgd hstep hset hcel hrow hit hvv hj hdiv
            go_wp2_with fail
            all_goals first
              | (exfalso; omega)
              | (go_ret; exact ⟨t2, Or.inl ⟨rfl, fun _ => HNO.out⟩⟩)
          · have hdec := decode_high s k hlt (by rw [hc2]; omega)
            have hle := decode_le s k
            have hnx : ∀ ty, (Instr.next (.pointer (some ⟨B, 0, none⟩)) true ty).run Tryz.prog wr = _ := fun ty => run_next_at hit ty hlt
            generalize Utf8.decode s k = dd at *
            obtain ⟨x, y⟩ := dd
            have hdec1 : 128 ≤ x := hdec.1
            have hle1 : x ≤ 2147483647 := hle
            have t2 := ht.itSet (k := B) (fun h => by have := HB.out; omega) s (k + y)
            clear hdec hle hno hxd hc1 hc2 hgd hstep hset hcel hrow hit hvv hj hdiv
            go_wp2_with fail
            all_goals first
              | (exfalso; omega)
              | (go_ret; exact ⟨t2, Or.inl ⟨rfl, fun _ => HNO.out⟩⟩)
        | some d =>
          have hd := hexOf_read hxd
          have hall2 : ∀ (i : Nat) (c : UInt8), i < k + 1 → s.data.toList[i]? = some c → (hexOf c).isSome = true := fun i c hi hc => by
            by_cases e : i = k
            · subst e; rw [hc1] at hc; injection hc with hc; subst hc; rw [hxd]; rfl
            · exact hall.out i c (by omega) hc
          have hx1 : hx ch = d := by unfold hx; rw [hxd]; rfl
          have hcase : (48 ≤ ch.toNat ∧ ch.toNat ≤ 57 ∧ d = ch.toNat - 48) ∨ (97 ≤ ch.toNat ∧ ch.toNat ≤ 102 ∧ d = ch.toNat - 87) := by
            unfold hexOf at hxd
            split at hxd
            · injection hxd with hxd; omega
            · split at hxd
              · injection hxd with hxd; omega
              · cases hxd
          have ha : ch.toNat < 128 := by omega
          have hdec := decode_ascii s k hlt (by rw [hc2]; exact ha)
          rw [hc2] at hdec
          have hnx : ∀ ty, (Instr.next (.pointer (some ⟨B, 0, none⟩)) true ty).run Tryz.prog wr = _ := fun ty => run_next_at hit ty hlt
          rw [hdec] at hnx
          have t2 := ht.itSet (k := B) (fun h => by have := HB.out; omega) s (k + 1)
          have hrow2 : (itSet wr B s (k + 1)).heap[b]? = some (.cells (u8row (nums m o n s.data.toList k)) T (0, 0)) := (itSet_other hbn).trans hrow
          have hit2 := itSet_same (s := s) (p := k + 1) (block_lt hit)
          have hcell : (itSet wr B s (k + 1)).cell? ⟨b, o + j, none⟩ = some (.int .u8 (v : Int)) := (cell_of_block hrow2 _).trans hcel
          have hfree : (itSet wr B s (k + 1)).frozen? ⟨b, o + j, none⟩ = false := free_of_block hrow2 _
          have H2 := Lib.hid (And.intro hrow2 (And.intro hit2 (And.intro t2 (And.intro hall2 hx1))))
          have hd16 := hd.2
          clear hall2 hx1 hd hxd hdec hc1 hc2 hgd hstep hset hcel hrow hit hvv hj hrow2 hit2 t2
          generalize itSet wr B s (k + 1) = W1 at *
          rcases hcase with ⟨c1, c2, c3⟩ | ⟨c1, c2, c3⟩
          all_goals
            have HD := Lib.hid c3
            clear c3
            go_wp2_with fail
          · have e : bits .or .u8 ((v : Int) * 16) ((ch.toNat : Int) - 48) = ((16 * v + d : Nat) : Int) := by
              rw [show ((ch.toNat : Int) - 48) = (d : Int) by have := HD.out; omega]; exact or_nib hv hd16
            rw [e]
            obtain ⟨r1, r2, r3⟩ := digits_keep (W1 := W1) (v := v) (d := d) hbn H2.out.1 H2.out.2.1 H2.out.2.2.1 HH.out.2.2.1 (by rw [HH.out.2.2.2.1, H2.out.2.2.2.2])
            clear e
            go_roundg (s.size + 1 - (k + 1))
            case measure => omega
            case rel => exact ⟨k + 1, rfl, by omega, r2, r1, r3, H2.out.2.2.2.1⟩
          · have e : bits .or .u8 ((v : Int) * 16) ((ch.toNat : Int) - 97 + 10) = ((16 * v + d : Nat) : Int) := by
              rw [show ((ch.toNat : Int) - 97 + 10) = (d : Int) by have := HD.out; omega]; exact or_nib hv hd16
            rw [e]
            obtain ⟨r1, r2, r3⟩ := digits_keep (W1 := W1) (v := v) (d := d) hbn H2.out.1 H2.out.2.1 H2.out.2.2.1 HH.out.2.2.1 (by rw [HH.out.2.2.2.1, H2.out.2.2.2.2])
            clear e
            go_roundg (s.size + 1 - (k + 1))
            case measure => omega
            case rel => exact ⟨k + 1, rfl, by omega, r2, r1, r3, H2.out.2.2.2.1⟩
      · have hnx : ∀ ty, (Instr.next (.pointer (some ⟨B, 0, none⟩)) true ty).run Tryz.prog wr = _ := fun ty => run_next_at_end hit ty hlt
        have hke : k = 2 * n := by have := H0.out.2.2.1; omega
        subst hke
        have HR := Lib.hid (And.intro hit hrow)
        clear hit hrow
        go_wp2_with fail
        go_ret
        obtain ⟨L, hL⟩ := pairs_all s.data.toList n (by have := H0.out.2.2; omega) (fun j c hj => hall.out j c (by have := (List.getElem?_eq_some_iff.1 hj).1; have := H0.out.2.2; omega) hj)
        have hl : s.data.toList.length = 2 * n := by have := H0.out.2.2; omega
        exact ⟨ht, Or.inr ⟨rfl, L, hl, hL, by rw [← nums_end hL hl]; exact HR.out.2⟩⟩
  · have h2b : ((s.size : Int) != 2 * (n : Int)) = true := by rw [bne_iff_ne]; omega
    have H0 := Lib.hid (And.intro h2 hlen)
    clear hb hz h2 hlen
    go_enter Tryz.func101, Tryz.ntmps101
    go_wp2_with fail
    go_ret
    exact ⟨Turn.refl _ _, Or.inl ⟨rfl, fun h => absurd h (by have := H0.out; omega)⟩⟩
end Go.Proofs.YtbkpbcmjgbdbkaaGreatDoor

/-! E3 -/
namespace Go.Proofs.YtbkpbcmjgbdbkaaGreatDoor
open Go.RowKit Go.Lib
set_option linter.unusedVariables false
set_option linter.unusedSimpArgs false

def rowV (L : List Nat) (e : Int) : Value := .tuple #[.agg (u8row L), .int .i64 e]
def rowOr (n : Nat) : Option (List Nat) → Value
  | some L => rowV L 0
  | none => rowV (List.replicate n 0) 60
def RowPost (n : Nat) (o : Option (List Nat)) (w : World) (e : Ending) (w' : World) : Prop := e = .returned (rowOr n o) ∧ Turn (fun _ => False) w w'

theorem row_facts {w : World} {b : Nat} {cs : Array Value} {T : TypeId} (h : w.heap[b]? = some (.cells cs T (0, 0))) : (∀ i, w.cell? ⟨b, i, none⟩ = cs[i]?) ∧ ∀ i, w.frozen? ⟨b, i, none⟩ = false :=
  ⟨cell_of_block h, free_of_block h⟩

theorem turn_row6 {F : Nat → Prop} {a b : World} {R : Nat} (hR : R < a.heap.size → F R) (h : Turn F a b) (v0 v1 v2 v3 v4 v5 : Value) :
    Turn F a ((((((b.setCell ⟨R, 0, none⟩ v0).setCell ⟨R, 1, none⟩ v1).setCell ⟨R, 2, none⟩ v2).setCell ⟨R, 3, none⟩ v3).setCell ⟨R, 4, none⟩ v4).setCell ⟨R, 5, none⟩ v5) :=
  (((((h.setCell _ hR).setCell _ hR).setCell _ hR).setCell _ hR).setCell _ hR).setCell _ hR
theorem slice36 (b k : Nat) (h : k < 6) (W : World) : (Instr.sliceAt 25 (.pointer (some ⟨b, 0, none⟩)) (some (.int .i64 (k : Int))) (some (.int .i64 ((k : Int) + 1))) none).run Tryz.prog W = .ok (.slice (some ⟨b, k, none⟩) 1 (6 - k)) W := by
  have h6 : Tryz.prog.arrayLen 25 = 6 := by kernel_rfl
  have ht : Tryz.prog.underlying 25 = some (.array (Tryz.prog.arrayLen 25) (Tryz.prog.elem 25)) := by kernel_rfl
  have hs : (sizeOf (Tryz.prog.elem 25)).run Tryz.prog W = .ok 1 W := by kernel_rfl
  rw [run_sliceAt_array_lh W 25 ⟨b, 0, none⟩ ht .i64 .i64 (k : Int) ((k : Int) + 1) (by omega) (by omega) (by rw [h6]; omega), hs, h6]
  simp only [Result.andThen_ok, slicedAt, Int.toNat_natCast]
  rw [show ((k : Int) + 1).toNat = k + 1 by omega, if_neg (by omega), show k + 1 - k = 1 by omega]
  simp only [Addr.add, Nat.mul_one, Nat.zero_add]
  by_cases h0 : k = 0
  · subst h0; rfl
  · simp [h0]
theorem put_next {done : List Nat} {k : Nat} {x : Nat} (hd : done.length = k) (hk : k < 6) : put (done ++ List.replicate (6 - k) 0) k [x] = (done ++ [x]) ++ List.replicate (6 - (k + 1)) 0 := by
  subst hd
  apply List.ext_getElem?
  intro i
  unfold put
  by_cases hi : i < 6
  · rw [List.getElem?_map, List.getElem?_range (by simp; omega)]
    simp only [Option.map_some, List.length_singleton]
    by_cases h1 : i < done.length
    · rw [if_neg (by omega), List.getElem?_append_left (by simp; omega), List.getElem?_append_left h1, List.getD_eq_getElem?_getD, List.getElem?_append_left h1, List.getElem?_eq_getElem h1]; rfl
    · by_cases h2 : i = done.length
      · subst h2
        rw [if_pos (by omega), List.getElem?_append_left (by simp), List.getElem?_append_right (by omega)]
        simp
      · rw [if_neg (by omega), List.getD_eq_getElem?_getD, List.getElem?_append_right (by omega), List.getElem?_append_right (by simp; omega), List.getElem?_replicate, List.getElem?_replicate]
        rw [if_pos (by omega), if_pos (by simp; omega)]; rfl
  · rw [List.getElem?_eq_none (by simp; omega), List.getElem?_eq_none (by simp; omega)]
theorem macGo_bad {p : List UInt8} {ps : List (List UInt8)} (h : p.length = 2 * 1 → pairsOf p = none) : macGo (p :: ps) = none := by
  rw [macGo]
  split
  · rename_i h2
    rw [h (by omega)]
  · rfl
theorem macGo_good {p : List UInt8} {ps : List (List UInt8)} {x : Nat} (h2 : p.length = 2) (h : pairsOf p = some [x]) : macGo (p :: ps) = (macGo ps).map (x :: ·) := by
  rw [macGo, if_pos h2, h]
  cases macGo ps <;> rfl

set_option maxRecDepth 100000 in
set_option maxHeartbeats 2000000 in
theorem pmac_any (s : ByteArray) (hs : s.size ≤ 1000000) (w : World) (hsp : ∀ W, Turn (fun _ => False) w W → Calls Tryz.prog 99 #[.string s, .string ⟨#[58]⟩] W (PartsPost s 58 W)) :
    Calls Tryz.prog 79 #[.string s] w (RowPost 6 (macOf s.data.toList) w) := by
  have HSP := Lib.hid hsp
  clear hsp
  have hpl : (partsOf s 58).length = (splitL 58 s.data.toList).length := by simp [partsOf]
  by_cases h6 : (partsOf s 58).length = 6
  · have hip : macOf s.data.toList = macGo (splitL 58 s.data.toList) := by unfold macOf; rw [if_pos (by omega)]
    have HIP := Lib.hid hip
    have hps : ∀ p ∈ partsOf s 58, p.size ≤ 1000000 := fun p hp => Nat.le_trans (part_size hp) hs
    have hgo : (partsOf s 58).map (·.data.toList) = splitL 58 s.data.toList := by unfold partsOf; rw [List.map_map]; exact List.map_id _
    have HPS := Lib.hid (And.intro hps hgo)
    clear hip hps hgo hpl
    go_enter Tryz.func79, Tryz.ntmps79
    go_wp2_with fail
    refine (HSP.out _ (((Turn.refl _ _).alloc _).alloc _)).mono ?_
    rintro e w1 ⟨g, cap, rfl, hcells, hg, ht⟩
    rw [h6]
    have hblk := (ht.block w.heap.size (by simp; omega) (fun h => h)).trans (heap_alloc2_old w _ _)
    have hblm := (ht.block (w.heap.size + 1) (by simp) (fun h => h)).trans (heap_alloc2_new w _ _)
    have t0 : Turn (fun _ => False) w w1 := (((Turn.refl _ w).alloc _).alloc _).trans ht
    have hsz : w.heap.size + 2 ≤ w1.heap.size := by have := ht.size; simpa using this
    have hgM : ∀ i p, (partsOf s 58)[i]? = some p → g ≠ w.heap.size + 1 := fun i p hp e => by
      have h1 := hcells i p hp
      rw [e, cell_of_block hblm] at h1
      match i, h1 with
      | 0, h1 => cases h1
      | 1, h1 => cases h1
      | 2, h1 => cases h1
      | 3, h1 => cases h1
      | 4, h1 => cases h1
      | 5, h1 => cases h1
      | i + 6, h1 => simp at h1
    generalize hR : w.heap.size = R at *
    have HC := Lib.hid (And.intro hcells (And.intro h6 (And.intro hR (And.intro hblk hgM))))
    have hgM2 : g ≠ R + 1 := hgM 0 _ (List.getElem?_eq_getElem (by omega))
    clear hcells h6 hR hblk hgM ht
    go_wp2_with fail
    go_loopw [17] (fun i wr => ∃ (k : Nat) (done : List Nat), k ≤ 6 ∧ i = .int .i64 k ∧ done.length = k ∧ wr.heap[R + 1]? = some (.cells (u8row (done ++ List.replicate (6 - k) 0)) 25 (0, 0)) ∧ Turn (fun x => x = R + 1) w1 wr ∧
      Hid (macGo (splitL 58 s.data.toList) = (macGo ((splitL 58 s.data.toList).drop k)).map (done ++ ·))) (fun i _ => 6 - (intOf i).toNat)
    case atStart => exact ⟨0, [], by omega, rfl, rfl, hblm, Turn.refl _ _, by show _ = _; rw [List.drop_zero]; cases macGo (splitL 58 s.data.toList) <;> rfl⟩
    case round =>
      clear hblm
      obtain ⟨k, done, hk, rfl, hd, hrow, ht, hgo⟩ := hrel
      by_cases hlt : k < 6
      · obtain ⟨p, hp⟩ : ∃ p, (partsOf s 58)[k]? = some p := ⟨_, List.getElem?_eq_getElem (by rw [HC.out.2.1]; exact hlt)⟩
        have hcell : wr.cell? ⟨g, k, none⟩ = some (.string p) := (World.cell?_of_block (ht.block g hg hgM2)).trans (HC.out.1 k p hp)
        have hps := HPS.out.1 p (List.mem_of_getElem? hp)
        have hdr : (splitL 58 s.data.toList).drop k = p.data.toList :: (splitL 58 s.data.toList).drop (k + 1) := by
          have h1 := HPS.out.2
          have h2 : (splitL 58 s.data.toList)[k]? = some p.data.toList := by rw [← h1, List.getElem?_map, hp]; rfl
          obtain ⟨h3, h5⟩ := List.getElem?_eq_some_iff.1 h2
          rw [List.drop_eq_getElem_cons h3, h5]
        have hg1 := hgo.out
        rw [hdr] at hg1
        have call := digits_any p hps (R + 1) k 1 (6 - k) (done ++ List.replicate (6 - k) 0) 25 wr hrow (by simp; omega) (by omega) (fun i h1 h2 => by
          have : i = k := by omega
          subst this
          rw [List.getD_eq_getElem?_getD, List.getElem?_append_right (by omega), List.getElem?_replicate]
          split <;> rfl) (by omega)
        have CALL := Lib.hid (And.intro call (And.intro hg1 (And.intro hd hrow)))
        have k0 : (0 : Int) ≤ (k : Int) := by omega
        have k6 : (k : Int) + 1 ≤ 6 := by omega
        have hsl := slice36 (R + 1) k hlt
        clear call hg1 hdr hgo hrow hd hp
        go_wp2_with fail
        refine CALL.out.1.mono ?_
        rintro e w2 ⟨t2, ⟨rfl, hno⟩ | ⟨rfl, L, h2, hL, hrow2⟩⟩
        · have hblk := (t2.block R (by have := ht.size; omega) (by omega)).trans ((ht.block R (by omega) (by omega)).trans HC.out.2.2.2.1)
          obtain ⟨hce, hfr⟩ := row_facts hblk
          have hnone : macOf s.data.toList = none := by rw [HIP.out, CALL.out.2.1, macGo_bad hno]; rfl
          have HN := Lib.hid hnone
          have t3 : Turn (fun x => x = R + 1) w w2 := (t0.mono (fun _ _ h => h.elim)).trans (ht.trans t2)
          clear hblk hnone hno CALL hsl
          go_wp2_with fail
          exact bodyPost_ret (v := rowV (List.replicate 6 0) 60) (by simp [results, Tryz.results79, go_sem, rowV, u8row, List.replicate, hce, hfr]) rfl ⟨by rw [HN.out]; rfl,
            (turn_row6 (F := fun x => x = R + 1 ∨ x = R) (fun _ => Or.inr rfl) (t3.mono (fun _ _ h => Or.inl h)) _ _ _ _ _ _).mono (fun i hi h => by have := HC.out.2.2.1; omega)⟩
        · obtain ⟨x, rfl⟩ : ∃ x, L = [x] := by
            have := (pairsOf_read _ hL).2.2
            rw [h2] at this
            match L, this with
            | [x], _ => exact ⟨x, rfl⟩
            | [], this => exact absurd this (by simp)
            | a :: b :: r, this => exact absurd this (by simp only [List.length_cons]; omega)
          have hg2 := CALL.out.2.1
          rw [macGo_good (by omega) hL] at hg2
          rw [put_next CALL.out.2.2.1 hlt] at hrow2
          have H2 := Lib.hid (And.intro hg2 (And.intro hrow2 CALL.out.2.2.1))
          clear hg2 hrow2 hL h2 CALL hsl
          go_wp2_with fail
          go_roundw
          case rel => exact ⟨k + 1, done ++ [x], by omega, by go_num, by rw [List.length_append, H2.out.2.2]; rfl, H2.out.2.1, ht.trans t2, by
            show _ = _
            rw [H2.out.1, Option.map_map]
            cases macGo ((splitL 58 s.data.toList).drop (k + 1)) <;> simp⟩
          case measure => simp [intOf]; omega
      · have hk6 : k = 6 := by omega
        subst hk6
        have hl : (splitL 58 s.data.toList).length = 6 := by have h1 := HPS.out.2; have h2 := HC.out.2.1; rw [← h1, List.length_map]; exact h2
        have hg1 := hgo.out
        rw [List.drop_eq_nil_of_le (by omega)] at hg1
        simp only [macGo, Option.map_some, List.append_nil] at hg1
        match done, hd, hrow, hg1 with
        | [a0, a1, a2, a3, a4, a5], hd, hrow, hg1 =>
          have hsome : macOf s.data.toList = some [a0, a1, a2, a3, a4, a5] := by rw [HIP.out, hg1]
          have hrow1 : wr.heap[R + 1]? = some (.cells #[.int .u8 (a0 : Int), .int .u8 (a1 : Int), .int .u8 (a2 : Int), .int .u8 (a3 : Int), .int .u8 (a4 : Int), .int .u8 (a5 : Int)] 25 (0, 0)) := hrow
          obtain ⟨hcm, hfm⟩ := row_facts hrow1
          have hblk := (ht.block R (by omega) (by omega)).trans HC.out.2.2.2.1
          obtain ⟨hce, hfr⟩ := row_facts hblk
          have HN := Lib.hid hsome
          have t3 : Turn (fun x => x = R + 1) w wr := (t0.mono (fun _ _ h => h.elim)).trans ht
          clear hblk hsome hrow1 hrow hg1 hgo hl hd
          go_wp2_with fail
          exact bodyPost_ret (v := rowV [a0, a1, a2, a3, a4, a5] 0) (by simp [results, Tryz.results79, go_sem, rowV, u8row, hce, hfr, hcm, hfm]) rfl ⟨by rw [HN.out]; rfl,
            (turn_row6 (F := fun x => x = R + 1 ∨ x = R) (fun _ => Or.inr rfl) (t3.mono (fun _ _ h => Or.inl h)) _ _ _ _ _ _).mono (fun i hi h => by have := HC.out.2.2.1; omega)⟩
  · have hip : macOf s.data.toList = none := by unfold macOf; rw [if_neg (by omega)]
    have HIP := Lib.hid hip
    have h6b : (((partsOf s 58).length : Int) != 6) = true := by rw [bne_iff_ne]; omega
    clear hip hpl h6
    go_enter Tryz.func79, Tryz.ntmps79
    go_wp2_with fail
    refine (HSP.out _ (((Turn.refl _ _).alloc _).alloc _)).mono ?_
    rintro e w1 ⟨g, cap, rfl, hcells, hg, ht⟩
    clear hcells
    have hblk : w1.heap[w.heap.size]? = _ := (ht.block w.heap.size (by simp; omega) (fun h => h)).trans (block_alloc_old (block_alloc_new w _))
    obtain ⟨hce, hfr⟩ := row_facts hblk
    clear hblk
    generalize hR : w.heap.size = R at *
    have t0 : Turn (fun _ => False) w w1 := (((Turn.refl _ w).alloc _).alloc _).trans ht
    have HR := Lib.hid hR
    clear hR
    go_wp2_with fail
    exact bodyPost_ret (v := rowV (List.replicate 6 0) 60) (by simp [results, Tryz.results79, go_sem, rowV, u8row, List.replicate, hce, hfr]) rfl ⟨by rw [HIP.out]; rfl, turn_row6 (fun h => by have := HR.out; omega) t0 _ _ _ _ _ _⟩
end Go.Proofs.YtbkpbcmjgbdbkaaGreatDoor

/-! E4 -/
namespace Go.Proofs.YtbkpbcmjgbdbkaaGreatDoor
open Go.RowKit Go.Lib
set_option linter.unusedVariables false
set_option linter.unusedSimpArgs false

theorem two_pairs {p : List UInt8} {x : Nat} (h : twoOf p = some x) : p.length = 2 ∧ pairsOf p = some [x] := by
  unfold twoOf at h
  split at h
  · rename_i h2
    split at h
    · rename_i y hy
      injection h with h
      subst h
      exact ⟨h2, hy⟩
    · cases h
  · cases h
theorem two_none {p : List UInt8} (h : twoOf p = none) : p.length = 2 * 1 → pairsOf p = none := fun h2 => by
  cases hp : pairsOf p with
  | none => rfl
  | some L =>
    have := (pairsOf_read _ hp).2.2
    rw [h2] at this
    match L, this, hp with
    | [x], _, hp =>
      unfold twoOf at h
      rw [if_pos (by omega), hp] at h
      cases h
    | [], this, _ => exact absurd this (by simp)
    | a :: b :: r, this, _ => exact absurd this (by simp only [List.length_cons]; omega)
theorem macGo_two_no {p : List UInt8} {ps : List (List UInt8)} (h : twoOf p = none) : macGo (p :: ps) = none := macGo_bad (two_none h)
theorem macGo_two_ok {p : List UInt8} {ps : List (List UInt8)} {x : Nat} (h : twoOf p = some x) : macGo (p :: ps) = (macGo ps).map (x :: ·) := macGo_good (two_pairs h).1 (two_pairs h).2
theorem idx36 (b k : Nat) (h : k < 6) (W : World) : (Instr.indexAt 25 (.pointer (some ⟨b, 0, none⟩)) (.int .i64 (k : Int))).run Tryz.prog W = .ok (.pointer (some ⟨b, k, none⟩)) W := by
  rcases k with _ | _ | _ | _ | _ | _ | k
  case succ.succ.succ.succ.succ.succ => omega
  all_goals kernel_rfl
theorem row_next {done : List Nat} {k n : Nat} (hd : done.length = k) (hk : k < n) : (u8row (done ++ List.replicate (n - k) 0))[k]? = some (.int .u8 0) := by
  unfold u8row
  rw [List.getElem?_toArray, List.getElem?_map, List.getElem?_append_right (by omega), List.getElem?_replicate, if_pos (by omega)]; rfl
theorem row_set {done : List Nat} {k n x : Nat} (hd : done.length = k) (hk : k < n) : (u8row (done ++ List.replicate (n - k) 0)).setIfInBounds k (.int .u8 (x : Int)) = u8row ((done ++ [x]) ++ List.replicate (n - (k + 1)) 0) := by
  apply Array.ext'
  unfold u8row
  rw [Array.toList_setIfInBounds, show n - k = (n - (k + 1)) + 1 by omega, List.replicate_succ]
  subst hd
  simp [List.set_append]

set_option maxRecDepth 100000 in
set_option maxHeartbeats 2000000 in
theorem rmac_any (s : ByteArray) (hs : s.size ≤ 1000000) (w : World) :
    Calls Tryz.prog 60 #[.string s] w (RowPost 6 (macOf s.data.toList) w) := by
  have hsp : ∀ W, Turn (fun _ => False) w W → Calls Tryz.prog 90 #[.string s, .int .u8 58] W (PartsPost s 58 W) := fun W _ => parts_any s 58 hs W
  have HSP := Lib.hid hsp
  clear hsp
  have hpl : (partsOf s 58).length = (splitL 58 s.data.toList).length := by simp [partsOf]
  by_cases h6 : (partsOf s 58).length = 6
  · have hip : macOf s.data.toList = macGo (splitL 58 s.data.toList) := by unfold macOf; rw [if_pos (by omega)]
    have HIP := Lib.hid hip
    have hps : ∀ p ∈ partsOf s 58, p.size ≤ 1000000 := fun p hp => Nat.le_trans (part_size hp) hs
    have hgo : (partsOf s 58).map (·.data.toList) = splitL 58 s.data.toList := by unfold partsOf; rw [List.map_map]; exact List.map_id _
    have HPS := Lib.hid (And.intro hps hgo)
    clear hip hps hgo hpl
    go_enter Tryz.func60, Tryz.ntmps60
    go_wp2_with fail
    refine (HSP.out _ (((Turn.refl _ _).alloc _).alloc _)).mono ?_
    rintro e w1 ⟨g, cap, rfl, hcells, hg, ht⟩
    rw [h6]
    have hblk := (ht.block w.heap.size (by simp; omega) (fun h => h)).trans (heap_alloc2_old w _ _)
    have hblm := (ht.block (w.heap.size + 1) (by simp) (fun h => h)).trans (heap_alloc2_new w _ _)
    have t0 : Turn (fun _ => False) w w1 := (((Turn.refl _ w).alloc _).alloc _).trans ht
    have hsz : w.heap.size + 2 ≤ w1.heap.size := by have := ht.size; simpa using this
    have hgM : ∀ i p, (partsOf s 58)[i]? = some p → g ≠ w.heap.size + 1 := fun i p hp e => by
      have h1 := hcells i p hp
      rw [e, cell_of_block hblm] at h1
      match i, h1 with
      | 0, h1 => cases h1
      | 1, h1 => cases h1
      | 2, h1 => cases h1
      | 3, h1 => cases h1
      | 4, h1 => cases h1
      | 5, h1 => cases h1
      | i + 6, h1 => simp at h1
    generalize hR : w.heap.size = R at *
    have HC := Lib.hid (And.intro hcells (And.intro h6 (And.intro hR (And.intro hblk hgM))))
    have hgM2 : g ≠ R + 1 := hgM 0 _ (List.getElem?_eq_getElem (by omega))
    clear hcells h6 hR hblk hgM ht
    go_wp2_with fail
    go_loopw [6] (fun i wr => ∃ (k : Nat) (done : List Nat), k ≤ 6 ∧ i = .int .i64 k ∧ done.length = k ∧ wr.heap[R + 1]? = some (.cells (u8row (done ++ List.replicate (6 - k) 0)) 25 (0, 0)) ∧ Turn (fun x => x = R + 1) w1 wr ∧
      Hid (macGo (splitL 58 s.data.toList) = (macGo ((splitL 58 s.data.toList).drop k)).map (done ++ ·))) (fun i _ => 6 - (intOf i).toNat)
    case atStart => exact ⟨0, [], by omega, rfl, rfl, hblm, Turn.refl _ _, by show _ = _; rw [List.drop_zero]; cases macGo (splitL 58 s.data.toList) <;> rfl⟩
    case round =>
      clear hblm
      obtain ⟨k, done, hk, rfl, hd, hrow, ht, hgo⟩ := hrel
      by_cases hlt : k < 6
      · obtain ⟨p, hp⟩ : ∃ p, (partsOf s 58)[k]? = some p := ⟨_, List.getElem?_eq_getElem (by rw [HC.out.2.1]; exact hlt)⟩
        have hcell : wr.cell? ⟨g, k, none⟩ = some (.string p) := (World.cell?_of_block (ht.block g hg hgM2)).trans (HC.out.1 k p hp)
        have hps := HPS.out.1 p (List.mem_of_getElem? hp)
        have hdr : (splitL 58 s.data.toList).drop k = p.data.toList :: (splitL 58 s.data.toList).drop (k + 1) := by
          have h1 := HPS.out.2
          have h2 : (splitL 58 s.data.toList)[k]? = some p.data.toList := by rw [← h1, List.getElem?_map, hp]; rfl
          obtain ⟨h3, h5⟩ := List.getElem?_eq_some_iff.1 h2
          rw [List.drop_eq_getElem_cons h3, h5]
        have hg1 := hgo.out
        rw [hdr] at hg1
        have k0 : (0 : Int) ≤ (k : Int) := by omega
        have k6 : (k : Int) < 6 := by omega
        have hix := idx36 (R + 1) k hlt
        have hcm := cell_of_block hrow k
        have hfm := free_of_block hrow k
        rw [row_next hd hlt] at hcm
        have H1 := Lib.hid (And.intro hg1 (And.intro hrow hd))
        clear hg1 hdr hgo hrow hd hp
        cases htw : twoOf p.data.toList with
        | none =>
          have CALL := Lib.hid (two_no htw)
          have hnone : macOf s.data.toList = none := by rw [HIP.out, H1.out.1, macGo_two_no htw]; rfl
          have HN := Lib.hid hnone
          have hblk := (ht.block R (by omega) (by omega)).trans HC.out.2.2.2.1
          obtain ⟨hce, hfr⟩ := row_facts hblk
          have t3 : Turn (fun x => x = R + 1) w wr := (t0.mono (fun _ _ h => h.elim)).trans ht
          clear hblk hnone htw hix hcm hfm
          go_wp2_with fail
          refine (CALL.out _).mono ?_
          rintro e w2 ⟨⟨v, rfl⟩, rfl⟩
          go_wp2_with fail
          exact bodyPost_ret (v := rowV (List.replicate 6 0) 60) (by simp [results, Tryz.results60, go_sem, rowV, u8row, List.replicate, hce, hfr]) rfl ⟨by rw [HN.out]; rfl,
            (turn_row6 (F := fun x => x = R + 1 ∨ x = R) (fun _ => Or.inr rfl) (t3.mono (fun _ _ h => Or.inl h)) _ _ _ _ _ _).mono (fun i hi h => by have := HC.out.2.2.1; omega)⟩
        | some x =>
          have CALL := Lib.hid (two_ok htw)
          have hg2 := H1.out.1
          rw [macGo_two_ok htw] at hg2
          have hset := row_set (x := x) H1.out.2.2 hlt
          have H2 := Lib.hid (And.intro hg2 hset)
          clear hg2 hset htw
          go_wp2_with fail
          refine (CALL.out _).mono ?_
          rintro e w2 ⟨rfl, rfl⟩
          go_wp2_with fail
          go_roundw
          case rel => exact ⟨k + 1, done ++ [x], by omega, by go_num, by rw [List.length_append, H1.out.2.2]; rfl, by rw [block_setCell H1.out.2.1, H2.out.2], ht.setCell _ (fun _ => rfl), by
            show _ = _
            rw [H2.out.1, Option.map_map]
            cases macGo ((splitL 58 s.data.toList).drop (k + 1)) <;> simp⟩
          case measure => simp [intOf]; omega
      · have hk6 : k = 6 := by omega
        subst hk6
        have hl : (splitL 58 s.data.toList).length = 6 := by have h1 := HPS.out.2; have h2 := HC.out.2.1; rw [← h1, List.length_map]; exact h2
        have hg1 := hgo.out
        rw [List.drop_eq_nil_of_le (by omega)] at hg1
        simp only [macGo, Option.map_some, List.append_nil] at hg1
        match done, hd, hrow, hg1 with
        | [a0, a1, a2, a3, a4, a5], hd, hrow, hg1 =>
          have hsome : macOf s.data.toList = some [a0, a1, a2, a3, a4, a5] := by rw [HIP.out, hg1]
          have hrow1 : wr.heap[R + 1]? = some (.cells #[.int .u8 (a0 : Int), .int .u8 (a1 : Int), .int .u8 (a2 : Int), .int .u8 (a3 : Int), .int .u8 (a4 : Int), .int .u8 (a5 : Int)] 25 (0, 0)) := hrow
          obtain ⟨hcm, hfm⟩ := row_facts hrow1
          have hblk := (ht.block R (by omega) (by omega)).trans HC.out.2.2.2.1
          obtain ⟨hce, hfr⟩ := row_facts hblk
          have HN := Lib.hid hsome
          have t3 : Turn (fun x => x = R + 1) w wr := (t0.mono (fun _ _ h => h.elim)).trans ht
          clear hblk hsome hrow1 hrow hg1 hgo hl hd
          go_wp2_with fail
          exact bodyPost_ret (v := rowV [a0, a1, a2, a3, a4, a5] 0) (by simp [results, Tryz.results60, go_sem, rowV, u8row, hce, hfr, hcm, hfm]) rfl ⟨by rw [HN.out]; rfl,
            (turn_row6 (F := fun x => x = R + 1 ∨ x = R) (fun _ => Or.inr rfl) (t3.mono (fun _ _ h => Or.inl h)) _ _ _ _ _ _).mono (fun i hi h => by have := HC.out.2.2.1; omega)⟩
  · have hip : macOf s.data.toList = none := by unfold macOf; rw [if_neg (by omega)]
    have HIP := Lib.hid hip
    have h6b : (((partsOf s 58).length : Int) != 6) = true := by rw [bne_iff_ne]; omega
    clear hip hpl h6
    go_enter Tryz.func60, Tryz.ntmps60
    go_wp2_with fail
    refine (HSP.out _ (((Turn.refl _ _).alloc _).alloc _)).mono ?_
    rintro e w1 ⟨g, cap, rfl, hcells, hg, ht⟩
    clear hcells
    have hblk : w1.heap[w.heap.size]? = _ := (ht.block w.heap.size (by simp; omega) (fun h => h)).trans (block_alloc_old (block_alloc_new w _))
    obtain ⟨hce, hfr⟩ := row_facts hblk
    clear hblk
    generalize hR : w.heap.size = R at *
    have t0 : Turn (fun _ => False) w w1 := (((Turn.refl _ w).alloc _).alloc _).trans ht
    have HR := Lib.hid hR
    clear hR
    go_wp2_with fail
    exact bodyPost_ret (v := rowV (List.replicate 6 0) 60) (by simp [results, Tryz.results60, go_sem, rowV, u8row, List.replicate, hce, hfr]) rfl ⟨by rw [HIP.out]; rfl, turn_row6 (fun h => by have := HR.out; omega) t0 _ _ _ _ _ _⟩
end Go.Proofs.YtbkpbcmjgbdbkaaGreatDoor

/-! E5 -/
namespace Go.Proofs.YtbkpbcmjgbdbkaaGreatDoor
open Go.RowKit Go.Lib
set_option linter.unusedVariables false
set_option linter.unusedSimpArgs false

theorem turn_row8 {F : Nat → Prop} {a b : World} {R : Nat} (hR : R < a.heap.size → F R) (h : Turn F a b) (v0 v1 v2 v3 v4 v5 v6 v7 : Value) :
    Turn F a ((((((((b.setCell ⟨R, 0, none⟩ v0).setCell ⟨R, 1, none⟩ v1).setCell ⟨R, 2, none⟩ v2).setCell ⟨R, 3, none⟩ v3).setCell ⟨R, 4, none⟩ v4).setCell ⟨R, 5, none⟩ v5).setCell ⟨R, 6, none⟩ v6).setCell ⟨R, 7, none⟩ v7) :=
  (((((((h.setCell _ hR).setCell _ hR).setCell _ hR).setCell _ hR).setCell _ hR).setCell _ hR).setCell _ hR).setCell _ hR
theorem put_all {L : List Nat} (h : L.length = 8) : put (List.replicate 8 0) 0 L = L := by
  apply List.ext_getElem?
  intro i
  unfold put
  by_cases hi : i < 8
  · rw [List.getElem?_map, List.getElem?_range (by simpa using hi)]
    simp only [Option.map_some]
    rw [if_pos (by omega), List.getD_eq_getElem?_getD, List.getElem?_eq_getElem (by omega)]
    simp
  · rw [List.getElem?_eq_none (by simp; omega), List.getElem?_eq_none (by omega)]
theorem idx41 (b k : Nat) (h : k < 8) (W : World) : (Instr.indexAt 26 (.pointer (some ⟨b, 0, none⟩)) (.int .i64 (k : Int))).run Tryz.prog W = .ok (.pointer (some ⟨b, k, none⟩)) W := by
  rcases k with _ | _ | _ | _ | _ | _ | _ | _ | k
  case succ.succ.succ.succ.succ.succ.succ.succ => omega
  all_goals kernel_rfl

set_option maxRecDepth 100000 in
set_option maxHeartbeats 2000000 in
theorem pkey_any (s : ByteArray) (hs : s.size ≤ 1000000) (w : World) : Calls Tryz.prog 81 #[.string s] w (RowPost 8 (keyOf s.data.toList) w) := by
  go_enter Tryz.func81, Tryz.ntmps81
  have hblk := heap_alloc2_old w (.cells #[.int .u8 0, .int .u8 0, .int .u8 0, .int .u8 0, .int .u8 0, .int .u8 0, .int .u8 0, .int .u8 0] 26) (.cells #[.int .u8 0, .int .u8 0, .int .u8 0, .int .u8 0, .int .u8 0, .int .u8 0, .int .u8 0, .int .u8 0] 26)
  have hblm := heap_alloc2_new w (.cells #[.int .u8 0, .int .u8 0, .int .u8 0, .int .u8 0, .int .u8 0, .int .u8 0, .int .u8 0, .int .u8 0] 26) (.cells #[.int .u8 0, .int .u8 0, .int .u8 0, .int .u8 0, .int .u8 0, .int .u8 0, .int .u8 0, .int .u8 0] 26)
  have call := digits_any s hs (w.heap.size + 1) 0 8 8 (List.replicate 8 0) 26 _ hblm (by simp) (by omega) (fun i h1 h2 => by rw [List.getD_eq_getElem?_getD, List.getElem?_replicate]; split <;> rfl) (by omega)
  have t0 : Turn (fun _ => False) w ((w.alloc (.cells #[.int .u8 0, .int .u8 0, .int .u8 0, .int .u8 0, .int .u8 0, .int .u8 0, .int .u8 0, .int .u8 0] 26)).alloc (.cells #[.int .u8 0, .int .u8 0, .int .u8 0, .int .u8 0, .int .u8 0, .int .u8 0, .int .u8 0, .int .u8 0] 26)) := ((Turn.refl _ w).alloc _).alloc _
  have CALL := Lib.hid (And.intro call hblk)
  clear hblm call hblk
  go_wp2_with fail
  refine CALL.out.1.mono ?_
  rintro e w2 ⟨t2, harm⟩
  have hblk := (t2.block w.heap.size (by simp; omega) (by omega)).trans CALL.out.2
  obtain ⟨hce, hfr⟩ := row_facts hblk
  have t3 : Turn (fun x => x = w.heap.size + 1) w w2 := (t0.mono (fun _ _ h => h.elim)).trans t2
  clear hblk CALL t2 t0
  generalize hR : w.heap.size = R at *
  have HR := Lib.hid hR
  clear hR
  rcases harm with ⟨rfl, hno⟩ | ⟨rfl, L, h2, hL, hrow2⟩
  · have hnone : keyOf s.data.toList = none := by
      unfold keyOf
      split
      · exact hno (by omega)
      · rfl
    have HN := Lib.hid hnone
    clear hnone hno
    go_wp2_with fail
    exact bodyPost_ret (v := rowV (List.replicate 8 0) 60) (by simp [results, Tryz.results81, go_sem, rowV, u8row, List.replicate, hce, hfr]) rfl ⟨by rw [HN.out]; rfl,
      (turn_row8 (F := fun x => x = R + 1 ∨ x = R) (fun _ => Or.inr rfl) (t3.mono (fun _ _ h => Or.inl h)) _ _ _ _ _ _ _ _).mono (fun i hi h => by have := HR.out; omega)⟩
  · have hsome : keyOf s.data.toList = some L := by unfold keyOf; rw [if_pos (by omega), hL]
    have hl8 : L.length = 8 := by have := (pairsOf_read _ hL).2.2; omega
    rw [put_all hl8] at hrow2
    match L, hl8, hrow2, hsome with
    | [a0, a1, a2, a3, a4, a5, a6, a7], _, hrow2, hsome =>
      have hrow1 : w2.heap[R + 1]? = some (.cells #[.int .u8 (a0 : Int), .int .u8 (a1 : Int), .int .u8 (a2 : Int), .int .u8 (a3 : Int), .int .u8 (a4 : Int), .int .u8 (a5 : Int), .int .u8 (a6 : Int), .int .u8 (a7 : Int)] 26 (0, 0)) := hrow2
      obtain ⟨hcm, hfm⟩ := row_facts hrow1
      have HN := Lib.hid hsome
      clear hsome hrow1 hrow2 hL h2
      go_wp2_with fail
      exact bodyPost_ret (v := rowV [a0, a1, a2, a3, a4, a5, a6, a7] 0) (by simp [results, Tryz.results81, go_sem, rowV, u8row, hce, hfr, hcm, hfm]) rfl ⟨by rw [HN.out]; rfl,
        (turn_row8 (F := fun x => x = R + 1 ∨ x = R) (fun _ => Or.inr rfl) (t3.mono (fun _ _ h => Or.inl h)) _ _ _ _ _ _ _ _).mono (fun i hi h => by have := HR.out; omega)⟩
end Go.Proofs.YtbkpbcmjgbdbkaaGreatDoor

/-! E6 -/
namespace Go.Proofs.YtbkpbcmjgbdbkaaGreatDoor
open Go.RowKit Go.Lib
set_option linter.unusedVariables false
set_option linter.unusedSimpArgs false

theorem pairs_two_no {l : List UInt8} (h2 : 2 ≤ l.length) (h : twoOf (l.take 2) = none) : pairsOf l = none := by
  match l, h2, h with
  | a :: b :: r, _, h =>
    have := two_none h (by rfl)
    simp only [List.take_succ_cons, List.take_zero, pairsOf] at this
    rw [pairsOf]
    split
    · rename_i x y l' h1 h3 h4
      rw [h1, h3] at this; cases this
    · rfl
theorem pairs_two_ok {l : List UInt8} {x : Nat} (h2 : 2 ≤ l.length) (h : twoOf (l.take 2) = some x) : pairsOf l = (pairsOf (l.drop 2)).map (x :: ·) := by
  match l, h2, h with
  | a :: b :: r, _, h =>
    have := (two_pairs h).2
    simp only [List.take_succ_cons, List.take_zero, pairsOf] at this
    rw [pairsOf]
    cases ha : hexOf a with
    | none => rw [ha] at this; cases this
    | some y =>
      cases hb : hexOf b with
      | none => rw [ha, hb] at this; cases this
      | some z =>
        rw [ha, hb] at this
        simp only [Option.some.injEq, List.cons.injEq, and_true] at this
        subst this
        show _ = (pairsOf r).map _
        cases pairsOf r <;> rfl

set_option maxRecDepth 100000 in
set_option maxHeartbeats 2000000 in
theorem rkey_any (s : ByteArray) (hs : s.size ≤ 1000000) (w : World) : Calls Tryz.prog 61 #[.string s] w (RowPost 8 (keyOf s.data.toList) w) := by
  have hlen := bytes_len s
  have hblk := heap_alloc2_old w (.cells #[.int .u8 0, .int .u8 0, .int .u8 0, .int .u8 0, .int .u8 0, .int .u8 0, .int .u8 0, .int .u8 0] 26) (.cells #[.int .u8 0, .int .u8 0, .int .u8 0, .int .u8 0, .int .u8 0, .int .u8 0, .int .u8 0, .int .u8 0] 26)
  have hblm := heap_alloc2_new w (.cells #[.int .u8 0, .int .u8 0, .int .u8 0, .int .u8 0, .int .u8 0, .int .u8 0, .int .u8 0, .int .u8 0] 26) (.cells #[.int .u8 0, .int .u8 0, .int .u8 0, .int .u8 0, .int .u8 0, .int .u8 0, .int .u8 0, .int .u8 0] 26)
  have t0 : Turn (fun _ => False) w ((w.alloc (.cells #[.int .u8 0, .int .u8 0, .int .u8 0, .int .u8 0, .int .u8 0, .int .u8 0, .int .u8 0, .int .u8 0] 26)).alloc (.cells #[.int .u8 0, .int .u8 0, .int .u8 0, .int .u8 0, .int .u8 0, .int .u8 0, .int .u8 0, .int .u8 0] 26)) := ((Turn.refl _ w).alloc _).alloc _
  have hsz : w.heap.size + 2 ≤ ((w.alloc (.cells #[.int .u8 0, .int .u8 0, .int .u8 0, .int .u8 0, .int .u8 0, .int .u8 0, .int .u8 0, .int .u8 0] 26)).alloc (.cells #[.int .u8 0, .int .u8 0, .int .u8 0, .int .u8 0, .int .u8 0, .int .u8 0, .int .u8 0, .int .u8 0] 26)).heap.size := by simp
  by_cases h16 : s.size = 16
  · have hk : keyOf s.data.toList = pairsOf s.data.toList := by unfold keyOf; rw [if_pos (by omega)]
    have h16b : ((s.size : Int) != 16) = false := by rw [bne_eq_false_iff_eq]; omega
    have HK := Lib.hid (And.intro hk (And.intro h16 (And.intro hlen hblk)))
    have h16c : (16 : Int) ≤ (s.size : Int) := by omega
    have h16d : s.size ≤ 16 := by omega
    have hlen16 : s.data.toList.length = 16 := by omega
    have HL := Lib.hid hlen16
    clear hk h16 hlen hlen16
    go_enter Tryz.func61, Tryz.ntmps61
    go_wp2_with fail
    obtain ⟨w1, hw1⟩ : ∃ w1, w1 = (w.alloc (.cells #[.int .u8 0, .int .u8 0, .int .u8 0, .int .u8 0, .int .u8 0, .int .u8 0, .int .u8 0, .int .u8 0] 26)).alloc (.cells #[.int .u8 0, .int .u8 0, .int .u8 0, .int .u8 0, .int .u8 0, .int .u8 0, .int .u8 0, .int .u8 0] 26) := ⟨_, rfl⟩
    rw [← hw1] at t0 hsz hblm hblk ⊢
    generalize hR : w.heap.size = R at *
    have HC := Lib.hid (And.intro hblk hR)
    clear hR hblk hw1
    go_loopw [5] (fun i wr => ∃ (k : Nat) (done : List Nat), k ≤ 8 ∧ i = .int .i64 k ∧ done.length = k ∧ wr.heap[R + 1]? = some (.cells (u8row (done ++ List.replicate (8 - k) 0)) 26 (0, 0)) ∧ Turn (fun x => x = R + 1) w1 wr ∧
      Hid (pairsOf s.data.toList = (pairsOf (s.data.toList.drop (2 * k))).map (done ++ ·))) (fun i _ => 8 - (intOf i).toNat)
    case atStart => exact ⟨0, [], by omega, rfl, rfl, hblm, Turn.refl _ _, by show _ = _; rw [List.drop_zero]; cases pairsOf s.data.toList <;> rfl⟩
    case round =>
      clear hblm
      obtain ⟨k, done, hk, rfl, hd, hrow, ht, hgo⟩ := hrel
      by_cases hlt : k < 8
      · have k0 : (0 : Int) ≤ (k : Int) := by omega
        have k6 : (k : Int) < 8 := by omega
        have hix := idx41 (R + 1) k hlt
        have hcm := cell_of_block hrow k
        have hfm := free_of_block hrow k
        rw [row_next hd hlt] at hcm
        have hex : (s.extract (2 * k) (2 * k + 2)).data.toList = (s.data.toList.drop (2 * k)).take 2 := by
          rw [extract_part]
          simp
        have h2l : 2 ≤ (s.data.toList.drop (2 * k)).length := by have := HL.out; rw [List.length_drop]; omega
        have H1 := Lib.hid (And.intro hgo.out (And.intro hrow (And.intro hd hex)))
        clear hgo hrow hd
        cases htw : twoOf ((s.data.toList.drop (2 * k)).take 2) with
        | none =>
          have hnone : keyOf s.data.toList = none := by rw [HK.out.1, H1.out.1, pairs_two_no h2l htw]; rfl
          rw [← hex] at htw
          have CALL := Lib.hid (two_no htw)
          have HN := Lib.hid hnone
          have hblk := (ht.block R (by omega) (by omega)).trans HC.out.1
          obtain ⟨hce, hfr⟩ := row_facts hblk
          have t3 : Turn (fun x => x = R + 1) w wr := (t0.mono (fun _ _ h => h.elim)).trans ht
          clear hblk hnone htw hix hcm hfm hex
          go_wp2_with fail
          refine (CALL.out _).mono ?_
          rintro e w2 ⟨⟨v, rfl⟩, rfl⟩
          go_wp2_with fail
          exact bodyPost_ret (v := rowV (List.replicate 8 0) 60) (by simp [results, Tryz.results61, go_sem, rowV, u8row, List.replicate, hce, hfr]) rfl ⟨by rw [HN.out]; rfl,
            (turn_row8 (F := fun x => x = R + 1 ∨ x = R) (fun _ => Or.inr rfl) (t3.mono (fun _ _ h => Or.inl h)) _ _ _ _ _ _ _ _).mono (fun i hi h => by have := HC.out.2; omega)⟩
        | some x =>
          have hg2 := H1.out.1
          rw [pairs_two_ok h2l htw] at hg2
          rw [← hex] at htw
          have CALL := Lib.hid (two_ok htw)
          have hset := row_set (x := x) H1.out.2.2.1 hlt
          have H2 := Lib.hid (And.intro hg2 hset)
          clear hg2 hset htw hex
          go_wp2_with fail
          refine (CALL.out _).mono ?_
          rintro e w2 ⟨rfl, rfl⟩
          go_wp2_with fail
          go_roundw
          case rel => exact ⟨k + 1, done ++ [x], by omega, by go_num, by rw [List.length_append, H1.out.2.2.1]; rfl, by rw [block_setCell H1.out.2.1, H2.out.2], ht.setCell _ (fun _ => rfl), by
            show _ = _
            rw [H2.out.1, Option.map_map, List.drop_drop, show 2 * k + 2 = 2 * (k + 1) by omega]
            cases pairsOf (s.data.toList.drop (2 * (k + 1))) <;> simp⟩
          case measure => simp [intOf]; omega
      · have hk8 : k = 8 := by omega
        subst hk8
        have hg1 := hgo.out
        rw [List.drop_eq_nil_of_le (by have := HL.out; omega)] at hg1
        simp only [pairsOf, Option.map_some, List.append_nil] at hg1
        match done, hd, hrow, hg1 with
        | [a0, a1, a2, a3, a4, a5, a6, a7], hd, hrow, hg1 =>
          have hsome : keyOf s.data.toList = some [a0, a1, a2, a3, a4, a5, a6, a7] := by rw [HK.out.1, hg1]
          have hrow1 : wr.heap[R + 1]? = some (.cells #[.int .u8 (a0 : Int), .int .u8 (a1 : Int), .int .u8 (a2 : Int), .int .u8 (a3 : Int), .int .u8 (a4 : Int), .int .u8 (a5 : Int), .int .u8 (a6 : Int), .int .u8 (a7 : Int)] 26 (0, 0)) := hrow
          obtain ⟨hcm, hfm⟩ := row_facts hrow1
          have hblk := (ht.block R (by omega) (by omega)).trans HC.out.1
          obtain ⟨hce, hfr⟩ := row_facts hblk
          have HN := Lib.hid hsome
          have t3 : Turn (fun x => x = R + 1) w wr := (t0.mono (fun _ _ h => h.elim)).trans ht
          clear hblk hsome hrow1 hrow hg1 hgo hd
          go_wp2_with fail
          exact bodyPost_ret (v := rowV [a0, a1, a2, a3, a4, a5, a6, a7] 0) (by simp [results, Tryz.results61, go_sem, rowV, u8row, hce, hfr, hcm, hfm]) rfl ⟨by rw [HN.out]; rfl,
            (turn_row8 (F := fun x => x = R + 1 ∨ x = R) (fun _ => Or.inr rfl) (t3.mono (fun _ _ h => Or.inl h)) _ _ _ _ _ _ _ _).mono (fun i hi h => by have := HC.out.2; omega)⟩
  · have hnone : keyOf s.data.toList = none := by unfold keyOf; rw [if_neg (by omega)]
    have h16b : ((s.size : Int) != 16) = true := by rw [bne_iff_ne]; omega
    have HN := Lib.hid (And.intro hnone h16)
    clear hnone h16 hlen hsz
    go_enter Tryz.func61, Tryz.ntmps61
    go_wp2_with fail
    exact bodyPost_ret (v := rowV (List.replicate 8 0) 60) (by simp [results, Tryz.results61, go_sem, rowV, u8row, List.replicate]) rfl ⟨by rw [HN.out.1]; rfl, ((Turn.refl _ w).alloc _).alloc _⟩
end Go.Proofs.YtbkpbcmjgbdbkaaGreatDoor
