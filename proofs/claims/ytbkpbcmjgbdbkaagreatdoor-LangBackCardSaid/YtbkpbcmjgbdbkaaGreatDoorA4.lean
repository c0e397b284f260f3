/- LangBack: the walk. Conditions: Env, ErrType. -/
import Derived.Test.YtbkpbcmjgbdbkaaGreatDoorA1
import Derived.Test.YtbkpbcmjgbdbkaaGreatDoorA3
namespace Go.Proofs.YtbkpbcmjgbdbkaaGreatDoor
open Go.RowKit Go.Lib
set_option linter.unusedVariables false
set_option linter.unusedSimpArgs false
set_option maxRecDepth 100000
set_option pp.maxSteps 2500

def HwsAny (w : World) (v : Value) (l : List Nat) : Prop :=
  ∃ ao cap, v = .slice ao l.length cap ∧ l.length ≤ maxLen ∧ ∀ (i x : Nat), l[i]? = some x → x < 65536 ∧ ∃ b off, ao = some ⟨b, off, none⟩ ∧ b < w.heap.size ∧ w.cell? ⟨b, off + i, none⟩ = some (.int .u16 (x : Int))
def BytesAny (w : World) (v : Value) (l : List Nat) : Prop :=
  ∃ ao cap, v = .slice ao l.length cap ∧ l.length ≤ maxLen ∧ ∀ (i x : Nat), l[i]? = some x → x < 256 ∧ ∃ b off, ao = some ⟨b, off, none⟩ ∧ b < w.heap.size ∧ w.cell? ⟨b, off + i, none⟩ = some (.int .u8 (x : Int))
theorem HwsAny.in_ {w : World} {v : Value} {l : List Nat} (h : HwsAny w v l) (hl : l.length ≤ 1000000000) : HwsIn w v l := by
  obtain ⟨ao, cap, h1, h2, h3⟩ := h
  refine ⟨ao, cap, h1, hl, fun x hx => ?_, fun i x hx => (h3 i x hx).2⟩
  obtain ⟨i, hi⟩ := List.mem_iff_getElem?.1 hx
  exact (h3 i x hi).1
section
variable {H : Type} {enc : TypeId × Value → H} {w : World} {base : Nat} {spare : Nat → Bool} {held : Bool}
theorem hws_open {ao : Option Addr} {len cap : Nat} {d : DataW H} {ps : List MemPlace} (hT : DataW.Trod enc Tryz.prog w base spare held 48 (.slice ao len cap) d ps) : ∃ l, HwsAny w (.slice ao len cap) l := by
  have hl := slice_len Tryz.underlying48 hT
  by_cases h0 : 0 < len
  · obtain ⟨b, off, rfl, hb, _, _, hi⟩ := open_elems Tryz.underlying48 (C := 1) (by kernel_rfl) (by decide) hT h0
    obtain ⟨l, hll, hR⟩ := list_choose (len := len) (R := fun i (x : Nat) => x < 65536 ∧ w.cell? ⟨b, off + i, none⟩ = some (.int .u16 (x : Int))) (fun i hlt => by
      obtain ⟨cs', m, z, hlen, ht, hc'⟩ := hi i hlt
      obtain ⟨x, h1, _, h3⟩ := DataW.trod_int Tryz.underlying42 ht
      obtain ⟨k, rfl, hk⟩ := nat_u16 h3
      have := hc' 0 (.int .u16 (k : Int)) (by rw [h1]; rfl)
      exact ⟨k, hk, by simpa using this⟩)
    subst hll
    exact ⟨l, _, _, rfl, hl, fun i x hx => ⟨(hR i x hx).1, b, off, rfl, hb, (hR i x hx).2⟩⟩
  · obtain rfl : len = 0 := by omega
    exact ⟨[], _, _, rfl, by simp, fun i x hx => by simp at hx⟩
theorem bytesA_open {ao : Option Addr} {len cap : Nat} {d : DataW H} {ps : List MemPlace} (hT : DataW.Trod enc Tryz.prog w base spare held 49 (.slice ao len cap) d ps) : ∃ l, BytesAny w (.slice ao len cap) l := by
  have hl := slice_len Tryz.underlying49 hT
  by_cases h0 : 0 < len
  · obtain ⟨b, off, rfl, hb, _, _, hi⟩ := open_elems Tryz.underlying49 (C := 1) (by kernel_rfl) (by decide) hT h0
    obtain ⟨l, hll, hR⟩ := list_choose (len := len) (R := fun i (x : Nat) => x < 256 ∧ w.cell? ⟨b, off + i, none⟩ = some (.int .u8 (x : Int))) (fun i hlt => by
      obtain ⟨cs', m, z, hlen, ht, hc'⟩ := hi i hlt
      obtain ⟨x, h1, _, h3⟩ := DataW.trod_int Tryz.underlying5 ht
      obtain ⟨k, rfl, hk⟩ := nat_u8 h3
      have := hc' 0 (.int .u8 (k : Int)) (by rw [h1]; rfl)
      exact ⟨k, hk, by simpa using this⟩)
    subst hll
    exact ⟨l, _, _, rfl, hl, fun i x hx => ⟨(hR i x hx).1, b, off, rfl, hb, (hR i x hx).2⟩⟩
  · obtain rfl : len = 0 := by omega
    exact ⟨[], _, _, rfl, by simp, fun i x hx => by simp at hx⟩
end
theorem back_step {O X : ByteArray} {p r S : List UInt8} (h : O.data.toList ++ (p ++ r) = S) (hx : X.data.toList = p) : (O ++ X).data.toList ++ r = S := by
  rw [ByteArray.data_append, Array.toList_append, hx, List.append_assoc]
  exact h
theorem back_size {O : ByteArray} {r S : List UInt8} (h : O.data.toList ++ r = S) (hS : S.length ≤ 6200) : O.size ≤ 6200 := by
  have := congrArg List.length h
  rw [List.length_append, bytes_len] at this
  omega
theorem extract_one {s : ByteArray} {i : Nat} {c : UInt8} (h : s.data.toList[i]? = some c) : (s.extract i (i + 1)).data.toList = [c] := by
  have hh : HoldsAt s i [c] := by
    unfold HoldsAt
    obtain ⟨hl, rfl⟩ := List.getElem?_eq_some_iff.1 h
    rw [List.drop_eq_getElem_cons hl]
    rfl
  exact hh.cut
theorem back_open {Tb : ByteArray} {B : List Nat} {O : ByteArray} {S : List UInt8} {i k : Nat} {ch : UInt8} (h : O.data.toList ++ spreadGo B (Tb.data.toList.drop i) k = S) (hc : Tb.data.toList[i]? = some ch) :
    O.data.toList ++ (pieceOf (kindOf B k ch) ch ++ spreadGo B (Tb.data.toList.drop (i + 1)) (nextK ch k)) = S := by
  obtain ⟨hl, rfl⟩ := List.getElem?_eq_some_iff.1 hc
  rw [List.drop_eq_getElem_cons hl] at h
  exact h
theorem kind_in {B : List Nat} {k x : Nat} {ch : UInt8} (hg : gapB ch = true) (hx : B[k]? = some x) : kindOf B k ch = x % 4 := by unfold kindOf; rw [if_pos hg, hx]
theorem kind_out {B : List Nat} {k : Nat} {ch : UInt8} (hk : B.length ≤ k) : kindOf B k ch = 0 := by
  unfold kindOf
  rw [List.getElem?_eq_none hk]
  split <;> rfl
theorem kind_no {B : List Nat} {k : Nat} {ch : UInt8} (hg : gapB ch = false) : kindOf B k ch = 0 := by
  unfold kindOf
  rw [hg]
  rfl
theorem HwsIn.lt {w : World} {v : Value} {l : List Nat} (h : HwsIn w v l) : ∀ x ∈ l, x < 65536 := by
  obtain ⟨ao, cap, h1, h2, h3, h4⟩ := h
  exact h3
set_option maxHeartbeats 8000000 in
theorem back_walk (ks B : List Nat) (d : Nat) (hd : d < 256) (kv bv : Value) (w : World) (he : Env w) (hg : ErrType w) (hk : HwsAny w kv ks) (hb : BytesAny w bv B) : Calls Tryz.prog 5 #[kv, .int .u8 (d : Int), bv] w (BoolPost true w) := by
  have hkn := known_any w he hg
  have HK := Lib.hid hk
  have HB := Lib.hid hb
  obtain ⟨ao, cap, rfl, hl1, _⟩ := hk
  obtain ⟨bo, cb, rfl, hl2, _⟩ := hb
  unfold maxLen at hl1 hl2
  have HE := Lib.hid (And.intro he hg)
  clear he hg
  go_enter Tryz.func5, Tryz.ntmps5
  go_wp2_with fail
  refine hkn.mono ?_
  rintro e w1 ⟨rfl, t1⟩
  clear hkn
  by_cases h4 : 4 < ks.length
  · have h4' : (4 : Int) < (ks.length : Int) := by omega
    go_wp2_with fail
    go_ret
    exact ⟨rfl, t1⟩
  · have h4' : ¬ (4 : Int) < (ks.length : Int) := by omega
    by_cases h2 : 200 < B.length
    · have h2' : (200 : Int) < (B.length : Int) := by omega
      go_wp2_with fail
      go_ret
      exact ⟨rfl, t1⟩
    · have h2' : ¬ (200 : Int) < (B.length : Int) := by omega
      have hin := HK.out.in_ (by omega)
      have hks := hin.lt
      have h17 := seat_cfg ks d hd hks _ w1 (hin.turn t1)
      have hrng : RngCfg (seatCfg ks d) := seatCfg_rng hks d
      have htl : (textL (seatCfg ks d)).length ≤ 2200 := seatText_len hks d
      have hback : configP ⟨(textL (seatCfg ks d)).toArray⟩ = .ok (seatCfg ks d) := back_ok ks d hks
      have hsm : SmallCfg (seatCfg ks d) := seat_small ks d hks
      have hsp := spread_back ks d hks B (by omega)
      generalize seatCfg ks d = c at *
      have HP := Lib.hid (And.intro hrng (And.intro htl (And.intro hback (And.intro hsm hsp))))
      have HT := Lib.hid t1
      clear hrng htl hback hsm hsp hin hks t1
      go_wp2_with fail
      refine h17.mono ?_
      rintro e w2 ⟨v1, rfl, hc1, t2⟩
      have t2 := HT.out.trans t2
      obtain ⟨row1, rfl, z1, o1⟩ := hc1.row
      obtain ⟨W1, st1, k1, s1⟩ := keep_cfg (w := w2) z1 o1
      have q1 := t2.trans s1
      have hc1 := hc1.turn s1
      have H1 := Lib.hid (And.intro hc1 (And.intro q1 k1))
      have i1 : (Tryz.prog.info? 29).map (·.size) = some row1.size := by rw [z1]; kernel_rfl
      have l1 := load_cfg z1 k1
      have h15 := text_cfg hc1 (HE.out.1.keep q1) HP.out.1 (by have := HP.out.2.1; omega)
      clear h17 hc1 t2 s1 q1 k1 o1
      go_wp2_with (first | (refine wpList_store_put rfl 29 _ _ rfl w2.heap.size 0 row1 rfl rfl i1 W1 st1 ?_) | (refine wpList_load_run rfl 29 _ rfl (.agg row1) l1 ?_))
      clear st1 l1 i1
      refine h15.mono ?_
      rintro e w3 ⟨rfl, t3⟩
      have q2 := H1.out.2.1.trans t3
      have h10 := parse_ok (c := c) (s := ⟨(textL c).toArray⟩) (by show (textL c).toArray.size ≤ _; simp only [List.size_toArray]; have := HP.out.2.1; omega) w3 (HE.out.1.keep q2) HP.out.2.2.1 HP.out.2.2.2.1
      have H2 := Lib.hid (And.intro t3 q2)
      clear h15 t3 q2
      go_wp2_with fail
      refine h10.mono ?_
      rintro e w4 ⟨v2, rfl, hc2, t4⟩
      have q3 := H2.out.1.trans t4
      obtain ⟨row2, rfl, z2, o2⟩ := hc2.row
      obtain ⟨W4, st2, k2, s2⟩ := keep_cfg (w := w4) z2 o2
      have p3 := q3.trans s2
      have i2 : (Tryz.prog.info? 29).map (·.size) = some row2.size := by rw [z2]; kernel_rfl
      have hc1 := H1.out.1.turn p3
      have hc2 := hc2.turn s2
      have r3 := H1.out.2.1.trans p3
      have k1 := (p3.block _ (block_lt H1.out.2.2) (fun h => h)).trans H1.out.2.2
      have H3 := Lib.hid (And.intro hc1 (And.intro hc2 (And.intro r3 (And.intro k1 k2))))
      clear h10 t4 q3 o2 hc2 s2 p3 r3 k1 k2 hc1 H1 H2
      go_wp2_with (first | (refine wpList_store_put rfl 29 _ _ rfl w4.heap.size 0 row2 rfl rfl i2 W4 st2 ?_))
      clear st2 i2
      obtain ⟨Tb, hTb⟩ : ∃ Tb : ByteArray, Tb = ⟨(textL c).toArray⟩ := ⟨_, rfl⟩
      obtain ⟨S, hS⟩ : ∃ S, S = spreadGo B (textL c) 0 := ⟨_, rfl⟩
      have hTd : Tb.data.toList = textL c := by rw [hTb]
      have hTs : Tb.size ≤ 2200 := by rw [← bytes_len, hTd]; exact HP.out.2.1
      have hSl : S.length ≤ 6200 := by rw [hS]; exact HP.out.2.2.2.2.2
      have hS0 : spreadGo B (Tb.data.toList.drop 0) 0 = S := by rw [hS, List.drop_zero, hTd]
      have hSc : configP ⟨S.toArray⟩ = .ok c := by rw [hS]; exact HP.out.2.2.2.2.1
      rw [← hTb]
      have HQ := Lib.hid (And.intro hS0 (And.intro hSc (And.intro hSl HP.out.2.2.2.1)))
      clear hTb hS hTd hSl hS0 hSc HP
      go_wp2_with fail
      go_loopg [11, 12, 13] Tb.size (fun g o k i wr => ∃ (i' k' : Nat) (O : ByteArray), g = Tb.size - i' ∧ i = .int .i64 (i' : Int) ∧ k = .int .i64 (k' : Int) ∧ o = .string O ∧ i' ≤ Tb.size ∧ k' ≤ i' ∧ wr = W4 ∧ Hid (O.data.toList ++ spreadGo B (Tb.data.toList.drop i') k' = S))
      case atStart => exact ⟨0, 0, ⟨#[]⟩, rfl, rfl, rfl, rfl, by omega, by omega, rfl, Lib.hid HQ.out.1⟩
      case round =>
        obtain ⟨i, k, O, rfl, rfl, rfl, rfl, hi, hki, rfl, HS⟩ := hrel
        have hO := back_size HS.out HQ.out.2.2.1
        have n1 : (0 : Int) ≤ (i : Int) := by omega
        have n2 : (0 : Int) ≤ (k : Int) := by omega
        by_cases hlt : i < Tb.size
        · have n3 : (i : Int) < (Tb.size : Int) := by omega
          obtain ⟨ch, hch, hci⟩ := bytes_get Tb i hlt
          have HS2 := Lib.hid (And.intro (back_open HS.out hch) (extract_one hch))
          clear HS hch
          have hk1 : (0 : Int) ≤ (k : Int) + 1 := by omega
          by_cases h32 : ch = 32
          · subst h32
            have b1 : (((32 : UInt8).toNat : Int) == 32) = true := by decide
            have b2 : (((32 : UInt8).toNat : Int) == 10) = false := by decide
            by_cases hkB : k < B.length
            · have n4 : (k : Int) < (B.length : Int) := by omega
              obtain ⟨x, hx⟩ : ∃ x, B[k]? = some x := ⟨_, List.getElem?_eq_getElem hkB⟩
              have hkx := kind_in (ch := 32) (by decide) hx
              have hcell : ∃ bb off, bo = some ⟨bb, off, none⟩ ∧ wr.cell? ⟨bb, off + k, none⟩ = some (.int .u8 (x : Int)) := by
                obtain ⟨bo', cb', e1, e2, e3⟩ := HB.out
                cases e1
                obtain ⟨_, bb, off, q1, q2, q3⟩ := e3 k x hx
                exact ⟨bb, off, q1, (cell_turn0 H3.out.2.2.1 q2 (fun h => h)).trans q3⟩
              obtain ⟨bb, off, rfl, hc⟩ := hcell
              have HX := Lib.hid (And.intro HS2.out.1 (And.intro hkx HS2.out.2))
              clear HS2 hkx hx
              obtain ⟨y, hy, hy4⟩ : ∃ y, x % 4 = y ∧ y < 4 := ⟨_, rfl, Nat.mod_lt _ (by omega)⟩
              rcases (by omega : y = 0 ∨ y = 1 ∨ y = 2 ∨ y = 3) with rfl | rfl | rfl | rfl
              · have e4 : (x : Int) % 4 = 0 := by omega
                have hp := Lib.hid (show pieceOf (kindOf B k 32) 32 = pieceOf 0 32 by rw [HX.out.2.1, hy])
                clear hy hy4
                go_wp2_with fail
                all_goals first
                  | (exfalso; omega)
                  | (go_roundg (Tb.size - (i + 1))
                     case measure => omega
                     case rel => exact ⟨i + 1, k + 1, _, rfl, by go_num, by go_num, rfl, by omega, by omega, rfl, Lib.hid (back_step HX.out.1 (by rw [hp.out]; first | rfl | exact HX.out.2.2))⟩)
              · have e4 : (x : Int) % 4 = 1 := by omega
                have hp := Lib.hid (show pieceOf (kindOf B k 32) 32 = pieceOf 1 32 by rw [HX.out.2.1, hy])
                clear hy hy4
                go_wp2_with fail
                all_goals first
                  | (exfalso; omega)
                  | (go_roundg (Tb.size - (i + 1))
                     case measure => omega
                     case rel => exact ⟨i + 1, k + 1, _, rfl, by go_num, by go_num, rfl, by omega, by omega, rfl, Lib.hid (back_step HX.out.1 (by rw [hp.out]; first | rfl | exact HX.out.2.2))⟩)
              · have e4 : (x : Int) % 4 = 2 := by omega
                have hp := Lib.hid (show pieceOf (kindOf B k 32) 32 = pieceOf 2 32 by rw [HX.out.2.1, hy])
                clear hy hy4
                go_wp2_with fail
                all_goals first
                  | (exfalso; omega)
                  | (go_roundg (Tb.size - (i + 1))
                     case measure => omega
                     case rel => exact ⟨i + 1, k + 1, _, rfl, by go_num, by go_num, rfl, by omega, by omega, rfl, Lib.hid (back_step HX.out.1 (by rw [hp.out]; first | rfl | exact HX.out.2.2))⟩)
              · have e4 : (x : Int) % 4 = 3 := by omega
                have hp := Lib.hid (show pieceOf (kindOf B k 32) 32 = pieceOf 3 32 by rw [HX.out.2.1, hy])
                clear hy hy4
                go_wp2_with fail
                all_goals first
                  | (exfalso; omega)
                  | (go_roundg (Tb.size - (i + 1))
                     case measure => omega
                     case rel => exact ⟨i + 1, k + 1, _, rfl, by go_num, by go_num, rfl, by omega, by omega, rfl, Lib.hid (back_step HX.out.1 (by rw [hp.out]; first | rfl | exact HX.out.2.2))⟩)
            · have n4 : ¬ (k : Int) < (B.length : Int) := by omega
              have hkx := kind_out (ch := 32) (Nat.le_of_not_lt hkB)
              have hp := Lib.hid (show pieceOf (kindOf B k 32) 32 = [32] by rw [hkx, piece_zero])
              have HX := Lib.hid (And.intro HS2.out.1 (And.intro hkx HS2.out.2))
              clear HS2 hkx
              go_wp2_with fail
              all_goals first
                | (exfalso; omega)
                | (go_roundg (Tb.size - (i + 1))
                   case measure => omega
                   case rel => exact ⟨i + 1, k + 1, _, rfl, by go_num, by go_num, rfl, by omega, by omega, rfl, Lib.hid (back_step HX.out.1 (by rw [hp.out]; first | rfl | exact HX.out.2.2))⟩)
          · by_cases h10 : ch = 10
            · subst h10
              have b1 : (((10 : UInt8).toNat : Int) == 32) = false := by decide
              have b2 : (((10 : UInt8).toNat : Int) == 10) = true := by decide
              by_cases hkB : k < B.length
              · have n4 : (k : Int) < (B.length : Int) := by omega
                obtain ⟨x, hx⟩ : ∃ x, B[k]? = some x := ⟨_, List.getElem?_eq_getElem hkB⟩
                have hkx := kind_in (ch := 10) (by decide) hx
                have hcell : ∃ bb off, bo = some ⟨bb, off, none⟩ ∧ wr.cell? ⟨bb, off + k, none⟩ = some (.int .u8 (x : Int)) := by
                  obtain ⟨bo', cb', e1, e2, e3⟩ := HB.out
                  cases e1
                  obtain ⟨_, bb, off, q1, q2, q3⟩ := e3 k x hx
                  exact ⟨bb, off, q1, (cell_turn0 H3.out.2.2.1 q2 (fun h => h)).trans q3⟩
                obtain ⟨bb, off, rfl, hc⟩ := hcell
                have HX := Lib.hid (And.intro HS2.out.1 (And.intro hkx HS2.out.2))
                clear HS2 hkx hx
                obtain ⟨y, hy, hy4⟩ : ∃ y, x % 4 = y ∧ y < 4 := ⟨_, rfl, Nat.mod_lt _ (by omega)⟩
                rcases (by omega : y = 0 ∨ y = 1 ∨ y = 2 ∨ y = 3) with rfl | rfl | rfl | rfl
                · have e4 : (x : Int) % 4 = 0 := by omega
                  have hp := Lib.hid (show pieceOf (kindOf B k 10) 10 = pieceOf 0 10 by rw [HX.out.2.1, hy])
                  clear hy hy4
                  go_wp2_with fail
                  all_goals first
                    | (exfalso; omega)
                    | (go_roundg (Tb.size - (i + 1))
                       case measure => omega
                       case rel => exact ⟨i + 1, k + 1, _, rfl, by go_num, by go_num, rfl, by omega, by omega, rfl, Lib.hid (back_step HX.out.1 (by rw [hp.out]; first | rfl | exact HX.out.2.2))⟩)
                · have e4 : (x : Int) % 4 = 1 := by omega
                  have hp := Lib.hid (show pieceOf (kindOf B k 10) 10 = pieceOf 1 10 by rw [HX.out.2.1, hy])
                  clear hy hy4
                  go_wp2_with fail
                  all_goals first
                    | (exfalso; omega)
                    | (go_roundg (Tb.size - (i + 1))
                       case measure => omega
                       case rel => exact ⟨i + 1, k + 1, _, rfl, by go_num, by go_num, rfl, by omega, by omega, rfl, Lib.hid (back_step HX.out.1 (by rw [hp.out]; first | rfl | exact HX.out.2.2))⟩)
                · have e4 : (x : Int) % 4 = 2 := by omega
                  have hp := Lib.hid (show pieceOf (kindOf B k 10) 10 = pieceOf 2 10 by rw [HX.out.2.1, hy])
                  clear hy hy4
                  go_wp2_with fail
                  all_goals first
                    | (exfalso; omega)
                    | (go_roundg (Tb.size - (i + 1))
                       case measure => omega
                       case rel => exact ⟨i + 1, k + 1, _, rfl, by go_num, by go_num, rfl, by omega, by omega, rfl, Lib.hid (back_step HX.out.1 (by rw [hp.out]; first | rfl | exact HX.out.2.2))⟩)
                · have e4 : (x : Int) % 4 = 3 := by omega
                  have hp := Lib.hid (show pieceOf (kindOf B k 10) 10 = pieceOf 3 10 by rw [HX.out.2.1, hy])
                  clear hy hy4
                  go_wp2_with fail
                  all_goals first
                    | (exfalso; omega)
                    | (go_roundg (Tb.size - (i + 1))
                       case measure => omega
                       case rel => exact ⟨i + 1, k + 1, _, rfl, by go_num, by go_num, rfl, by omega, by omega, rfl, Lib.hid (back_step HX.out.1 (by rw [hp.out]; first | rfl | exact HX.out.2.2))⟩)
              · have n4 : ¬ (k : Int) < (B.length : Int) := by omega
                have hkx := kind_out (ch := 10) (Nat.le_of_not_lt hkB)
                have hp := Lib.hid (show pieceOf (kindOf B k 10) 10 = [10] by rw [hkx, piece_zero])
                have HX := Lib.hid (And.intro HS2.out.1 (And.intro hkx HS2.out.2))
                clear HS2 hkx
                go_wp2_with fail
                all_goals first
                  | (exfalso; omega)
                  | (go_roundg (Tb.size - (i + 1))
                     case measure => omega
                     case rel => exact ⟨i + 1, k + 1, _, rfl, by go_num, by go_num, rfl, by omega, by omega, rfl, Lib.hid (back_step HX.out.1 (by rw [hp.out]; first | rfl | exact HX.out.2.2))⟩)
            · have b1 : ((ch.toNat : Int) == 32) = false := by
                have : ch.toNat ≠ 32 := fun e => h32 (UInt8.toNat_inj.1 e)
                simp; omega
              have b2 : ((ch.toNat : Int) == 10) = false := by
                have : ch.toNat ≠ 10 := fun e => h10 (UInt8.toNat_inj.1 e)
                simp; omega
              have hgp : gapB ch = false := by unfold gapB; simp [h32, h10]
              have hp := Lib.hid (show pieceOf (kindOf B k ch) ch = [ch] by rw [kind_no hgp, piece_zero])
              have hnk := Lib.hid (show nextK ch k = k by unfold nextK; rw [hgp]; rfl)
              have HX := Lib.hid (And.intro (hnk.out ▸ HS2.out.1) (And.intro True.intro HS2.out.2))
              clear HS2 hgp h32 h10
              go_wp2_with fail
              all_goals first
                | (exfalso; omega)
                | (go_roundg (Tb.size - (i + 1))
                   case measure => omega
                   case rel => exact ⟨i + 1, k, _, rfl, by go_num, by go_num, rfl, by omega, by omega, rfl, Lib.hid (back_step HX.out.1 (by rw [hp.out]; first | rfl | exact HX.out.2.2))⟩)
        · have n3 : ¬ (i : Int) < (Tb.size : Int) := by omega
          have hOS : O = ⟨S.toArray⟩ := by
            have h1 := HS.out
            rw [List.drop_eq_nil_of_le (by rw [bytes_len]; omega), spreadGo, List.append_nil] at h1
            exact bytes_eq h1
          subst hOS
          have h10 := parse_ok (c := c) (s := ⟨S.toArray⟩) (by show S.toArray.size ≤ _; simp only [List.size_toArray]; have := HQ.out.2.2.1; omega) wr (HE.out.1.keep H3.out.2.2.1) HQ.out.2.1 HQ.out.2.2.2
          clear HS hO
          go_wp2_with fail
          refine h10.mono ?_
          rintro e w5 ⟨v3, rfl, hc3, t5⟩
          obtain ⟨row3, rfl, z3, o3⟩ := hc3.row
          obtain ⟨W5, st3, k3, s3⟩ := keep_cfg (w := w5) z3 o3
          have p5 := t5.trans s3
          have i3 : (Tryz.prog.info? 29).map (·.size) = some row3.size := by rw [z3]; kernel_rfl
          obtain ⟨hc1, hc2, r3, k1, k2⟩ := H3.out
          have hc1 := hc1.turn p5
          have hc2 := hc2.turn p5
          have hc3 := hc3.turn s3
          have r5 := r3.trans p5
          have k1 := (p5.block _ (block_lt k1) (fun h => h)).trans k1
          have k2 := (p5.block _ (block_lt k2) (fun h => h)).trans k2
          have h13 := hcfg_same hc1 hc2
          have l1 := load_cfg z1 k1
          have l2 := load_cfg z2 k2
          have H5 := Lib.hid (And.intro hc1 (And.intro hc3 (And.intro r5 (And.intro k1 k3))))
          clear h10 t5 s3 p5 o3 hc1 hc2 hc3 r3 r5 k1 k2 k3
          go_wp2_with (first | (refine wpList_store_put rfl 29 _ _ rfl w5.heap.size 0 row3 rfl rfl i3 W5 st3 ?_) | (refine wpList_load_met (by rfl) 29 _ rfl (.agg row1) l1 ?_) | (refine wpList_load_met (by rfl) 29 _ rfl (.agg row2) l2 ?_))
          refine h13.mono ?_
          rintro e w6 ⟨rfl, t6⟩
          obtain ⟨hc1, hc3, r5, k1, k3⟩ := H5.out
          have h13 := hcfg_same (hc1.turn t6) (hc3.turn t6)
          have l1 := load_cfg z1 ((t6.block _ (block_lt k1) (fun h => h)).trans k1)
          have l3 := load_cfg z3 ((t6.block _ (block_lt k3) (fun h => h)).trans k3)
          have H6 := Lib.hid (r5.trans t6)
          clear hc1 hc3 r5 k1 k3 t6 l2 st3 i3
          go_wp2_with (first | (refine wpList_load_met (by rfl) 29 _ rfl (.agg row1) l1 ?_) | (refine wpList_load_met (by rfl) 29 _ rfl (.agg row3) l3 ?_))
          refine h13.mono ?_
          rintro e w7 ⟨rfl, t7⟩
          have H7 := Lib.hid (H6.out.trans t7)
          clear h13 t7 l1 l3
          go_wp2_with fail
          go_ret
          exact ⟨rfl, H7.out⟩
end Go.Proofs.YtbkpbcmjgbdbkaaGreatDoor
