/- The reference's Ip, hex, two. No condition but the text's length. -/
import Derived.Test.YtbkpbcmjgbdbkaaDoorE0
namespace Go.Proofs.YtbkpbcmjgbdbkaaDoor
open Go.RowKit Go.Lib
set_option linter.unusedVariables false
set_option linter.unusedSimpArgs false

theorem rnum_ok {s : ByteArray} {most x : Nat} (hm : most < 4294967296) (hs : s.size ≤ 9223372036854775807) (hn : numOf s.data.toList most = some x) (w : World) :
    Calls Tryd.prog 19 #[.string s, .int .u32 (most : Int)] w fun e w' => e = .returned (.tuple #[.int .u32 (x : Int), .int .i64 0]) ∧ w = w' :=
  (rnum_any s most hm hs w).mono fun e w' ⟨he, hw⟩ => ⟨by rw [he, hn]; rfl, hw⟩
theorem rnum_no {s : ByteArray} {most : Nat} (hm : most < 4294967296) (hs : s.size ≤ 9223372036854775807) (hn : numOf s.data.toList most = none) (w : World) :
    Calls Tryd.prog 19 #[.string s, .int .u32 (most : Int)] w fun e w' => e = .returned (.tuple #[.int .u32 0, .int .i64 60]) ∧ w = w' :=
  (rnum_any s most hm hs w).mono fun e w' ⟨he, hw⟩ => ⟨by rw [he, hn]; rfl, hw⟩
def RIpPost (s : ByteArray) (w : World) (e : Ending) (w' : World) : Prop := e = .returned (numV (ipOf s.data.toList)) ∧ Turn (fun _ => False) w w'

set_option maxRecDepth 100000 in
set_option maxHeartbeats 2000000 in
theorem rip_any (s : ByteArray) (hs : s.size ≤ 1000000) (w : World) :
    Calls Tryd.prog 14 #[.string s] w (RIpPost s w) := by
  have hsp : Calls Tryd.prog 29 #[.string s, .int .u8 46] w (PartsPost s 46 w) := parts_any s 46 hs w
  have HSP := Lib.hid hsp
  clear hsp
  have hpl : (partsOf s 46).length = (splitL 46 s.data.toList).length := by simp [partsOf]
  by_cases h4 : (partsOf s 46).length = 4
  · have hip : ipOf s.data.toList = ipGo (splitL 46 s.data.toList) 0 := by unfold ipOf; rw [if_pos (by omega)]
    have HIP := Lib.hid hip
    have hps : ∀ p ∈ partsOf s 46, p.size ≤ 1000000 := fun p hp => Nat.le_trans (part_size hp) hs
    have hgo : (partsOf s 46).map (·.data.toList) = splitL 46 s.data.toList := by unfold partsOf; rw [List.map_map]; exact List.map_id _
    have HPS := Lib.hid (And.intro hps hgo)
    clear hip hps hgo hpl
    go_enter Tryd.func14, Tryd.ntmps14
    go_wp2_with fail
    refine HSP.out.mono ?_
    rintro e w1 ⟨g, cap, rfl, hcells, hg, ht⟩
    rw [h4]
    have HC := Lib.hid hcells
    have H4 := Lib.hid h4
    clear hcells h4
    go_wp2_with fail
    go_loopw [5, 6] (fun o i wr => ∃ (k n : Nat), k ≤ 4 ∧ i = .int .i64 k ∧ o = .int .u32 (n : Int) ∧ n < 256 ^ k ∧ Turn (fun _ => False) w1 wr ∧ Hid (ipGo ((splitL 46 s.data.toList).drop k) n = ipGo (splitL 46 s.data.toList) 0)) (fun _ i _ => 4 - (intOf i).toNat)
    case atStart => exact ⟨0, 0, by omega, rfl, rfl, by omega, Turn.refl _ _, rfl⟩
    case round =>
      obtain ⟨k, n, hk, rfl, rfl, hn, ht1, hgo⟩ := hrel
      by_cases hlt : k < 4
      · obtain ⟨p, hp⟩ : ∃ p, (partsOf s 46)[k]? = some p := ⟨_, List.getElem?_eq_getElem (by rw [H4.out]; exact hlt)⟩
        have hcell : wr.cell? ⟨g, k, none⟩ = some (.string p) := (World.cell?_of_block (ht1.block g hg (fun h => h))).trans (HC.out k p hp)
        have hps := HPS.out.1 p (List.mem_of_getElem? hp)
        have hd : (splitL 46 s.data.toList).drop k = p.data.toList :: (splitL 46 s.data.toList).drop (k + 1) := by
          have h1 := HPS.out.2
          have h2 : (splitL 46 s.data.toList)[k]? = some p.data.toList := by rw [← h1, List.getElem?_map, hp]; rfl
          obtain ⟨h3, h5⟩ := List.getElem?_eq_some_iff.1 h2
          rw [List.drop_eq_getElem_cons h3, h5]
        have hg1 := hgo.out
        rw [hd] at hg1
        have hn2 : n < 16777216 := by
          match k, hlt, hn with
          | 0, _, hn => omega
          | 1, _, hn => omega
          | 2, _, hn => omega
          | 3, _, hn => omega
        have HP := Lib.hid hp
        clear hp hd hgo
        cases hx : numOf p.data.toList 255 with
        | none =>
          have hg2 : ipGo (splitL 46 s.data.toList) 0 = none := by rw [← hg1, ipGo, hx]
          have CALL := Lib.hid (rnum_no (show 255 < 4294967296 by omega) (show p.size ≤ 9223372036854775807 by omega) hx)
          have HG := Lib.hid hg2
          clear hg1 hg2 hx
          go_wp2_with fail
          refine (CALL.out _).mono ?_
          rintro e w2 ⟨rfl, rfl⟩
          go_wp2_with fail
          go_ret2
          exact ⟨by rw [HIP.out, HG.out]; rfl, ht.trans ht1⟩
        | some x =>
          have hg2 : ipGo ((splitL 46 s.data.toList).drop (k + 1)) (n * 256 + x) = ipGo (splitL 46 s.data.toList) 0 := by rw [← hg1, ipGo, hx]
          have hxl := numOf_le hx
          have CALL := Lib.hid (rnum_ok (show 255 < 4294967296 by omega) (show p.size ≤ 9223372036854775807 by omega) hx)
          have HG := Lib.hid hg2
          clear hg1 hg2 hx
          go_wp2_with fail
          refine (CALL.out _).mono ?_
          rintro e w2 ⟨rfl, rfl⟩
          go_wp2_with fail
          go_roundw
          case rel => exact ⟨k + 1, n * 256 + x, by omega, by go_num, by rw [or_byte hn2 (by omega)], pow_step hn hxl, ht1, HG.out⟩
          case measure => simp [intOf]; omega
      · have hk4 : k = 4 := by omega
        subst hk4
        have hg1 := hgo.out
        have hl : (splitL 46 s.data.toList).length = 4 := by have h1 := HPS.out.2; have h2 := H4.out; rw [← h1, List.length_map]; exact h2
        rw [List.drop_eq_nil_of_le (by omega), ipGo] at hg1
        have HG := Lib.hid hg1
        clear hg1 hgo hl
        go_wp2_with fail
        go_ret2
        exact ⟨by rw [HIP.out, ← HG.out]; rfl, ht.trans ht1⟩
  · have hip : ipOf s.data.toList = none := by unfold ipOf; rw [if_neg (by omega)]
    have HIP := Lib.hid hip
    have h4b : (((partsOf s 46).length : Int) != 4) = true := by rw [bne_iff_ne]; omega
    clear hip hpl h4
    go_enter Tryd.func14, Tryd.ntmps14
    go_wp2_with fail
    refine HSP.out.mono ?_
    rintro e w1 ⟨g, cap, rfl, hcells, hg, ht⟩
    clear hcells
    go_wp2_with fail
    go_ret2
    exact ⟨by rw [HIP.out]; rfl, ht⟩

/-! ### hex, two -/
def hexV : Option Nat → Value
  | some d => .tuple #[.int .u8 (d : Int), .bool true]
  | none => .tuple #[.int .u8 0, .bool false]
set_option maxRecDepth 100000 in
set_option maxHeartbeats 1000000 in
theorem hex_any (c : UInt8) (w : World) : Calls Tryd.prog 39 #[.int .u8 (c.toNat : Int)] w fun e w' => e = .returned (hexV (hexOf c)) ∧ w = w' := by
  have hc3 := c.toNat_lt
  by_cases h1 : 48 ≤ c.toNat ∧ c.toNat ≤ 57
  · have hx : hexOf c = some (c.toNat - 48) := by unfold hexOf; rw [if_pos h1]
    have HX := Lib.hid hx
    clear hx
    obtain ⟨a1, a2⟩ := h1
    go_enter Tryd.func39, Tryd.ntmps39
    go_wp2_with fail
    go_ret2
    refine ⟨?_, rfl⟩
    rw [HX.out]
    unfold hexV
    rw [show ((c.toNat : Int) - 48) = ((c.toNat - 48 : Nat) : Int) by omega]
    rfl
  · by_cases h2 : 97 ≤ c.toNat ∧ c.toNat ≤ 102
    · have hx : hexOf c = some (c.toNat - 87) := by unfold hexOf; rw [if_neg h1, if_pos h2]
      have HX := Lib.hid hx
      clear hx h1
      obtain ⟨a1, a2⟩ := h2
      go_enter Tryd.func39, Tryd.ntmps39
      go_wp2_with fail
      go_ret2
      refine ⟨?_, rfl⟩
      rw [HX.out]
      unfold hexV
      rw [show ((c.toNat : Int) - 97 + 10) = ((c.toNat - 87 : Nat) : Int) by omega]
      rfl
    · have hx : hexOf c = none := by unfold hexOf; rw [if_neg h1, if_neg h2]
      have HX := Lib.hid hx
      clear hx
      go_enter Tryd.func39, Tryd.ntmps39
      go_wp2_with fail
      all_goals first
        | (exfalso; omega)
        | (go_ret2; exact ⟨by rw [HX.out]; rfl, rfl⟩)
theorem hex_ok {c : UInt8} {d : Nat} (h : hexOf c = some d) (w : World) : Calls Tryd.prog 39 #[.int .u8 (c.toNat : Int)] w fun e w' => e = .returned (.tuple #[.int .u8 (d : Int), .bool true]) ∧ w = w' :=
  (hex_any c w).mono fun e w' ⟨he, hw⟩ => ⟨by rw [he, h]; rfl, hw⟩
theorem hex_no {c : UInt8} (h : hexOf c = none) (w : World) : Calls Tryd.prog 39 #[.int .u8 (c.toNat : Int)] w fun e w' => e = .returned (.tuple #[.int .u8 0, .bool false]) ∧ w = w' :=
  (hex_any c w).mono fun e w' ⟨he, hw⟩ => ⟨by rw [he, h]; rfl, hw⟩

def twoOf (l : List UInt8) : Option Nat := if l.length = 2 then match pairsOf l with
  | some [x] => some x
  | _ => none
  else none
theorem or_nib {v x : Nat} (hv : v < 16) (hx : x < 16) : bits .or .u8 ((v : Int) * 16) (x : Int) = ((16 * v + x : Nat) : Int) := by
  have e : (v : Int) * 16 = ((v * 16 : Nat) : Int) := by omega
  rw [e, u8_or_nat _ _ (by omega) (by omega), nat_join 4 (v * 16) x (by omega) (by omega), Nat.mul_comm]
theorem hex_split (c : UInt8) : ∃ (v : Nat) (p : Bool), v < 16 ∧ (hexOf c = if p = true then some v else none) ∧ ∀ w, Calls Tryd.prog 39 #[.int .u8 (c.toNat : Int)] w fun e w' => e = .returned (.tuple #[.int .u8 (v : Int), .bool p]) ∧ w = w' := by
  cases h : hexOf c with
  | none => exact ⟨0, false, by omega, rfl, hex_no h⟩
  | some d => exact ⟨d, true, (hexOf_read h).2, rfl, hex_ok h⟩
theorem ret_byte {a b : Int} (h : a = b) : Ending.returned (.tuple #[.int .u8 a, .bool true]) = .returned (.tuple #[.int .u8 b, .bool true]) := by rw [h]
def TwoPost (s : ByteArray) (w : World) (e : Ending) (w' : World) : Prop :=
  w = w' ∧ match twoOf s.data.toList with
  | some x => e = .returned (.tuple #[.int .u8 (x : Int), .bool true])
  | none => ∃ v : Int, e = .returned (.tuple #[.int .u8 v, .bool false])
set_option maxRecDepth 100000 in
set_option maxHeartbeats 1000000 in
theorem two_any (s : ByteArray) (w : World) : Calls Tryd.prog 31 #[.string s] w (TwoPost s w) := by
  have hlen := bytes_len s
  by_cases h2 : s.size = 2
  · obtain ⟨a, ha1, ha2⟩ := bytes_get s 0 (by omega)
    obtain ⟨b, hb1, hb2⟩ := bytes_get s 1 (by omega)
    have hl : s.data.toList = [a, b] := by
      match hd : s.data.toList with
      | [] => rw [hd] at hlen; simp at hlen; omega
      | [x] => rw [hd] at hlen; simp at hlen; omega
      | [x, y] => rw [hd] at ha1 hb1; simp at ha1 hb1; rw [ha1, hb1]
      | x :: y :: z :: r => rw [hd] at hlen; simp at hlen; omega
    have htw : twoOf s.data.toList = match hexOf a, hexOf b with
        | some x, some y => some (16 * x + y)
        | _, _ => none := by
      rw [hl]
      unfold twoOf
      rw [if_pos (by rfl), pairsOf]
      cases hexOf a <;> cases hexOf b <;> rfl
    have HT := Lib.hid htw
    have h1 : (1 : Int) < (s.size : Int) := by omega
    have h0 : (0 : Int) < (s.size : Int) := by omega
    clear htw hl ha1 hb1 hlen
    obtain ⟨x, p, hx, hxa, ca⟩ := hex_split a
    obtain ⟨y, q, hy, hyb, cb⟩ := hex_split b
    have CA := Lib.hid (And.intro hxa ca)
    have CB := Lib.hid (And.intro hyb cb)
    clear hxa hyb ca cb
    cases p <;> cases q
    all_goals
      go_enter Tryd.func31, Tryd.ntmps31
      go_wp2_with fail
      refine (CA.out.2 _).mono ?_
      rintro e w1 ⟨rfl, rfl⟩
      go_wp2_with fail
      refine (CB.out.2 _).mono ?_
      rintro e w1 ⟨rfl, rfl⟩
      go_wp2_with fail
      go_ret2
      refine ⟨rfl, ?_⟩
      rw [HT.out, CA.out.1, CB.out.1]
      first
      | exact ⟨_, rfl⟩
      | exact ret_byte (or_nib hx hy)
  · have htw : twoOf s.data.toList = none := by unfold twoOf; rw [if_neg (by omega)]
    have HT := Lib.hid htw
    have h2b : ((s.size : Int) != 2) = true := by rw [bne_iff_ne]; omega
    clear htw h2 hlen
    go_enter Tryd.func31, Tryd.ntmps31
    go_wp2_with fail
    go_ret2
    refine ⟨rfl, ?_⟩
    rw [HT.out]
    exact ⟨_, rfl⟩
theorem two_ok {s : ByteArray} {x : Nat} (h : twoOf s.data.toList = some x) (w : World) : Calls Tryd.prog 31 #[.string s] w fun e w' => e = .returned (.tuple #[.int .u8 (x : Int), .bool true]) ∧ w = w' :=
  (two_any s w).mono fun e w' ⟨hw, he⟩ => by
    rw [h] at he
    exact ⟨he, hw⟩
theorem two_no {s : ByteArray} (h : twoOf s.data.toList = none) (w : World) : Calls Tryd.prog 31 #[.string s] w fun e w' => (∃ v : Int, e = .returned (.tuple #[.int .u8 v, .bool false])) ∧ w = w' :=
  (two_any s w).mono fun e w' ⟨hw, he⟩ => by
    rw [h] at he
    exact ⟨he, hw⟩
end Go.Proofs.YtbkpbcmjgbdbkaaDoor
