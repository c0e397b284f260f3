/- LangOrder: the walk. Conditions: Env, ErrType. -/
import Derived.Test.YtbkpbcmjgbdbkaaGreatDoorA2
import Derived.Test.YtbkpbcmjgbdbkaaGreatDoorMN
import Derived.Laws.OwnMore
import Derived.OwnWalk
namespace Go.Proofs.YtbkpbcmjgbdbkaaGreatDoor
open Go.RowKit Go.Lib
set_option linter.unusedVariables false
set_option linter.unusedSimpArgs false
set_option maxRecDepth 100000
set_option pp.maxSteps 2500

theorem take_next {α : Type} {L : List α} {i : Nat} {l : α} (h : L[i]? = some l) : L.take (i + 1) = L.take i ++ [l] := by
  rw [List.take_add_one, h]
  rfl
theorem order_next {O S : ByteArray} {X : List UInt8} {L : List (List UInt8)} {i : Nat} {l : List UInt8} (h : O.data.toList = X ++ (L.take i).flatten) (hl : L[i]? = some l) (hS : S = ⟨l.toArray⟩) : (O ++ S).data.toList = X ++ (L.take (i + 1)).flatten := by
  rw [ByteArray.data_append, Array.toList_append, h, hS, take_next hl]
  simp
theorem count_next {q : List UInt8 → Bool} {L : List (List UInt8)} {i n : Nat} {l : List UInt8} (h : n = (L.take i).countP q) (hl : L[i]? = some l) : (q l = true → n + 1 = (L.take (i + 1)).countP q) ∧ (q l = false → n = (L.take (i + 1)).countP q) := by
  rw [take_next hl, List.countP_append, List.countP_singleton, h]
  exact ⟨fun e => by rw [if_pos e], fun e => by rw [if_neg (by simp [e])]; rfl⟩
theorem begins {S : ByteArray} {l m : List UInt8} (hS : S = ⟨l.toArray⟩) (k : Nat) : ((S.extract 0 k).toList == m) = decide (l.take k = m) := by
  rw [eq_bytes, extract_part, hS]
  simp

set_option maxHeartbeats 4000000 in
theorem order_walk (x : Nat) (hx : x < 65536) (z : Int) (hz : -9223372036854775808 ≤ z ∧ z ≤ 9223372036854775807) (tw : Nat) (htw : tw < 256) (w : World) (he : Env w) (hg : ErrType w) : Calls Tryz.prog 7 #[.int .u16 (x : Int), .int .i64 z, .int .u8 (tw : Int)] w (BoolPost true w) := by
  have hkn := known_any w he hg
  have hp0 := he.pos
  have hks : ∀ y ∈ [x], y < 65536 := by simpa using hx
  have h17 : ∀ W, Turn (fun _ => False) w W → Calls Tryz.prog 17 #[.slice (some ⟨W.heap.size, 0, none⟩) 1 1, .int .u8 1] (W.alloc (.cells #[.int .u16 (x : Int)] 42)) fun e w' => ∃ v, e = .returned v ∧ CfgIn w' (seatCfg [x] 1) v ∧ Turn (fun _ => False) (W.alloc (.cells #[.int .u16 (x : Int)] 42)) w' := fun W _ =>
    seat_cfg [x] 1 (by decide) hks (.slice (some ⟨W.heap.size, 0, none⟩) 1 1) (W.alloc (.cells #[.int .u16 (x : Int)] 42)) ⟨_, _, rfl, by simp, hks, fun i y hy => ⟨W.heap.size, 0, rfl, by simp, by
      match i, hy with
      | 0, hy => cases hy; exact cell_of_block (block_alloc_new _ _) 0⟩⟩
  obtain ⟨c, t, T, L0, L1, R, hc, hT, HF⟩ := order_facts x hx
  rw [hc] at h17
  have HP := Lib.hid (And.intro HF (And.intro he (And.intro hg h17)))
  have HT0 := Lib.hid hT
  have hTs : T.size ≤ 2200 := HF.size
  have hfew := HF.few
  clear HF he hg h17 hc hT hks
  obtain ⟨i0, hi0, hz0, hz1, hz2⟩ := info_parts info9
  go_enter Tryz.func7, Tryz.ntmps7
  go_wp2_with fail
  refine hkn.mono ?_
  rintro e w1 ⟨rfl, t1⟩
  clear hkn
  have h17 := HP.out.2.2.2 w1 t1
  have t1 := t1.alloc (.cells #[.int .u16 (x : Int)] 42)
  have HT := Lib.hid t1
  clear t1
  go_wp2_with fail
  refine h17.mono ?_
  rintro e w2 ⟨v1, rfl, hc1, t2⟩
  obtain ⟨row1, rfl, z1, o1⟩ := hc1.row
  obtain ⟨W1, st1, k1, s1⟩ := keep_cfg (w := w2) z1 o1
  have i1 : (Tryz.prog.info? 29).map (·.size) = some row1.size := by rw [z1]; kernel_rfl
  have l1 := load_cfg z1 k1
  have h16 := rtext_cfg (hc1.turn s1) HP.out.1.rng (by have := HP.out.1.len; omega)
  have HC := Lib.hid (And.intro (hc1.turn s1) (And.intro ((HT.out.trans t2).trans s1) k1))
  clear h17 hc1 t2 s1 k1 o1 HT
  go_wp2_with (first | (refine wpList_store_put rfl 29 _ _ rfl w2.heap.size 0 row1 rfl rfl i1 W1 st1 ?_) | (refine wpList_load_met (by rfl) 29 _ rfl (.agg row1) l1 ?_))
  refine h16.mono ?_
  rintro e w3 ⟨rfl, t3⟩
  have HC3 := Lib.hid (And.intro (HC.out.1.turn t3) (And.intro (HC.out.2.1.trans t3) ((t3.block _ (block_lt HC.out.2.2) (fun h => h)).trans HC.out.2.2)))
  clear h16 t3 HC l1 st1 i1
  generalize w2.heap.size = C at *
  rw [← HT0.out]
  have HL := Lib.hid HP.out.1.ok
  have hlen := bytes_len T
  go_wp2_with fail
  go_loopg [9, 10, 11] T.size (fun g v f i wr => ∃ (k fr : Nat) (done : List (List UInt8)), g = T.size - k ∧ k ≤ T.size ∧ fr ≤ k ∧ f = .int .i64 (fr : Int) ∧ i = .int .i64 (k : Int) ∧ done.length ≤ k ∧ Hid (wr.ownsRow w3.heap.size 9 1 v done.length (strCells done)) ∧ Hid (Turn (fun _ => False) w3 wr) ∧ Hid (LinesAt (L0 :: L1 :: R) T.data.toList k fr done))
  case atStart => exact ⟨0, 0, [], rfl, Nat.zero_le _, Nat.le_refl _, rfl, rfl, Nat.zero_le _, Lib.hid (World.ownsRow_nil _ _ _ _), Lib.hid (Turn.refl _ _), Lib.hid (by rw [HP.out.1.lines]; exact LinesAt.start _)⟩
  case round =>
    obtain ⟨k, fr, done, rfl, hk, hfr, rfl, rfl, hdl, HO, Ht, HLA⟩ := hrel
    have n1 : (0 : Int) ≤ (k : Int) := by omega
    have n3 : (0 : Int) ≤ (fr : Int) := by omega
    have n4 : (fr : Int) ≤ (k : Int) + 1 := by omega
    by_cases hlt : k < T.size
    · have n2 : (k : Int) < (T.size : Int) := by omega
      have n5 : (k : Int) + 1 ≤ (T.size : Int) := by omega
      obtain ⟨b, hb1, hb2⟩ := bytes_get T k hlt
      by_cases hb : b = 10
      · subst hb
        have b1 : (((10 : UInt8).toNat : Int) == 10) = true := by decide
        have HX := Lib.hid (HLA.out.hit HL.out hb1)
        have o5 := HO.out.alloc (.cells #[.string (T.extract fr (k + 1))] 9)
        clear hb1
        go_wp2_with (at_builtin; refine wpList_append_own_at _ rfl _ _ 54 rfl w3.heap.size 9 i0 (.string ⟨#[]⟩) 1 16 Tryz.underlying54 hi0 hz0 hz1 hz2 rfl (by decide) u9 _ _ rfl o5 ⟨wr.heap.size, 0, none⟩ 1 1 [.string (T.extract fr (k + 1))] rfl rfl ?c1 ?c2 ?c3 ?c4 ?c5 ?_)
        case c1 => exact cell_one_new _ _ _
        case c2 => first | rfl | (intro u hu; simp at hu; rw [hu]; rfl)
        case c3 => unfold maxLen; omega
        case c4 => omega
        case c5 => have := Ht.out.size; simp; omega
        intro v' w' hown' hgrow _ _
        have t2 : Turn (fun _ => False) w3 w' := (Ht.out.alloc _).trans2 (turn_of_grown hgrow) (fun i hi e => by have := (o5.lt i e).1; omega)
        have hown2 := own_snoc hown'
        have H2 := Lib.hid hown2
        have H3 := Lib.hid t2
        clear hgrow o5 HO Ht hown' hown2 t2 HLA
        go_wp2_with fail
        go_roundg (T.size - (k + 1))
        case measure => omega
        case rel => exact ⟨k + 1, k + 1, _, rfl, by omega, by omega, by go_num, by go_num, by simp only [List.length_append, List.length_singleton]; omega, H2, H3, HX⟩
      · have b1 : ((b.toNat : Int) == 10) = false := by
          have : b.toNat ≠ 10 := fun e => hb (UInt8.toNat_inj.1 e)
          simp; omega
        have HX := Lib.hid (HLA.out.miss hb1 hb)
        clear HLA hb1
        go_wp2_with fail
        go_roundg (T.size - (k + 1))
        case measure => omega
        case rel => exact ⟨k + 1, fr, done, rfl, by omega, by omega, rfl, by go_num, by omega, HO, Ht, HX⟩
    · have n2 : ¬ (k : Int) < (T.size : Int) := by omega
      obtain rfl : k = T.size := by omega
      have hdone : done = L0 :: L1 :: R := by
        have h := HLA.out
        rw [← hlen] at h
        exact h.last HL.out
      subst hdone
      obtain ⟨g, cap, rfl, _, hgl⟩ := World.ownsRow.form HO.out (by simp)
      have hcellL : ∀ (j : Nat) (l : List UInt8), (L0 :: L1 :: R)[j]? = some l → wr.cell? ⟨g, j, none⟩ = some (.string ⟨l.toArray⟩) := fun j l hj => by
        have hjl := (List.getElem?_eq_some_iff.1 hj).1
        rw [HO.out.cellAt j (by omega)]
        unfold strCells
        rw [List.getElem?_map, hj]
        rfl
      have hc0 := hcellL 0 L0 rfl
      have hc1 := hcellL 1 L1 rfl
      have HCR := Lib.hid (fun (j : Nat) (l : List UInt8) (h : R[j]? = some l) => hcellL (2 + j) l (by rw [Nat.add_comm]; exact h))
      have HTT := Lib.hid (HC3.out.2.1.trans Ht.out)
      have HCC := Lib.hid (And.intro (HC3.out.1.turn Ht.out) ((Ht.out.block _ (block_lt HC3.out.2.2) (fun h => h)).trans HC3.out.2.2))
      have hsz : L0.length + L1.length ≤ 2200 ∧ ∀ l ∈ R, l.length ≤ 2200 := by
        have h1 : T.data.toList.length = (L0 :: L1 :: R).flatten.length := by rw [HP.out.1.lines]
        rw [hlen] at h1
        simp only [List.flatten_cons, List.length_append] at h1
        refine ⟨by omega, fun l hl => ?_⟩
        have : l.length ≤ R.flatten.length := (List.sublist_flatten_of_mem hl).length_le
        omega
      obtain ⟨S0, hS0⟩ : ∃ S0 : ByteArray, S0 = ⟨L0.toArray⟩ := ⟨_, rfl⟩
      obtain ⟨S1, hS1⟩ : ∃ S1 : ByteArray, S1 = ⟨L1.toArray⟩ := ⟨_, rfl⟩
      rw [← hS0] at hc0
      rw [← hS1] at hc1
      have hs0 : S0.size = L0.length := by rw [hS0]; show L0.toArray.size = _; simp
      have hs1 : S1.size = L1.length := by rw [hS1]; show L1.toArray.size = _; simp
      have hs2 : (S0 ++ S1).size ≤ 2200 := by rw [ByteArray.size_append]; omega
      have HS := Lib.hid (show (S0 ++ S1).data.toList = L0 ++ L1 by rw [ByteArray.data_append, Array.toList_append, hS0, hS1])
      have HSZ := Lib.hid hsz.2
      have hsz1 := hsz.1
      obtain ⟨n, hn⟩ : ∃ n, R.length = n := ⟨_, rfl⟩
      have hN : (L0 :: L1 :: R).length = n + 2 := by rw [← hn]; rfl
      have HN := Lib.hid hn
      rw [hn] at hfew
      have hq0 : (0 : Int) < (n : Int) + 2 := by omega
      have hq1 : (1 : Int) < (n : Int) + 2 := by omega
      rw [hN]
      clear hcellL hsz hdl HO Ht HC3 HLA HT0 hS0 hS1 hn hN
      go_upto_region 13 with (fail)
      go_region
      generalize (S0 ++ S1 : ByteArray) = Q0 at *
      have tq : Turn (fun _ => False) wr wr.drew := (Turn.refl _ _).drew
      have HTT := Lib.hid (HTT.out.trans tq)
      have HCC := Lib.hid (And.intro (HCC.out.1.turn tq) ((tq.block _ (block_lt HCC.out.2) (fun h => h)).trans HCC.out.2))
      have HCR := Lib.hid (fun (j : Nat) (l : List UInt8) (h : R[j]? = some l) => (cell_turn0 tq hgl (fun h => h) (i := 2 + j)).trans (HCR.out j l h))
      clear tq hgl hc0 hc1 hs0 hs1
      generalize wr.drew = wq at *
      obtain ⟨b, hb⟩ : ∃ b : Bool, b = decide (tw % 2 = 1) := ⟨_, rfl⟩
      go_upto_if 56 with (fail)
      go_cut [12] (fun s12 wx => wx = wq ∧ ∃ Q : ByteArray, s12 = .string Q ∧ Hid (Q.data.toList = L0 ++ L1 ++ (if b = true then extraT else [])) ∧ Q.size ≤ 2300)
      case first =>
        by_cases hp : tw % 2 = 1
        · have e2 : (tw : Int) % 2 = 1 := by omega
          have e3 : b = true := by rw [hb]; exact decide_eq_true hp
          have hs5 : (Q0 ++ { data := #[112, 111, 114, 116, 115, 32, 49, 32, 50, 10, 102, 105, 108, 116, 101, 114, 32, 112, 111, 114, 116, 10, 113, 117, 111, 116, 97, 32, 57, 32, 57, 10, 114, 97, 116, 101, 32, 56, 32, 56, 10] } : ByteArray).data.toList = L0 ++ L1 ++ (if b = true then extraT else []) := by
            rw [ByteArray.data_append, Array.toList_append, HS.out, e3]
            rfl
          have hs6 : (Q0 ++ { data := #[112, 111, 114, 116, 115, 32, 49, 32, 50, 10, 102, 105, 108, 116, 101, 114, 32, 112, 111, 114, 116, 10, 113, 117, 111, 116, 97, 32, 57, 32, 57, 10, 114, 97, 116, 101, 32, 56, 32, 56, 10] } : ByteArray).size ≤ 2300 := by
            rw [ByteArray.size_append]
            show _ + 41 ≤ _
            omega
          have H5 := Lib.hid (And.intro hs5 hs6)
          clear hs5 hs6
          go_wp2_with fail
          go_meet
          case rel => exact ⟨rfl, _, rfl, Lib.hid H5.out.1, H5.out.2⟩
        · have e2 : (tw : Int) % 2 = 0 := by omega
          have e3 : b = false := by rw [hb]; exact decide_eq_false hp
          have H5 := Lib.hid (show Q0.data.toList = L0 ++ L1 ++ (if b = true then extraT else []) by rw [HS.out, e3]; simp)
          go_wp2_with fail
          go_meet
          case rel => exact ⟨rfl, _, rfl, H5, by omega⟩
      case rest =>
        obtain ⟨rfl, Q, rfl, HQ, hQs⟩ := hcut
        obtain ⟨p, hpn, hpl⟩ := place_fix z n (by omega) (by omega) hz
        obtain ⟨RR, hRR⟩ : ∃ RR, RR = rotL p R := ⟨_, rfl⟩
        have hRl : RR.length = n := by rw [hRR, rot_len]; exact HN.out
        have HRR := Lib.hid hRR
        have HRl := Lib.hid hRl
        have hrl : ∀ i, i < n → ∃ l, RR[i]? = some l ∧ R[(i + p) % n]? = some l := fun i hi => by
          have e := rot_get (l := R) (p := p) (i := i) (by rw [HN.out]; omega) (by rw [HN.out]; omega)
          rw [HN.out, ← hRR] at e
          have h2 : i < RR.length := by rw [hRl]; exact hi
          exact ⟨_, List.getElem?_eq_getElem h2, by rw [← e]; exact List.getElem?_eq_getElem h2⟩
        have HX := Lib.hid (And.intro hrl hpl)
        have hn0 : ¬ ((n : Int) = 0) := by omega
        clear hRR hRl hrl hpl hb hs2
        go_wp2_with fail
        go_loopg [12, 14, 15, 16, 17] n (fun gg o pv qv iv lv wr' => ∃ (i P' Q' : Nat) (O : ByteArray), gg = n - i ∧ i ≤ n ∧ o = .string O ∧ pv = .int .i64 (P' : Int) ∧ qv = .int .i64 (Q' : Int) ∧ iv = .int .i64 (i : Int) ∧ P' ≤ i ∧ Q' ≤ i ∧ O.size ≤ 2300 + i * 2200 ∧ wr' = wc ∧ Hid (O.data.toList = (L0 ++ L1 ++ (if b = true then extraT else [])) ++ (RR.take i).flatten ∧ P' = (RR.take i).countP isStat ∧ Q' = (RR.take i).countP isTwic))
        case atStart => exact ⟨0, 0, 0, Q, rfl, Nat.zero_le _, rfl, rfl, rfl, rfl, Nat.le_refl _, Nat.le_refl _, by omega, rfl, Lib.hid ⟨by rw [HQ.out]; simp, rfl, rfl⟩⟩
        case round =>
          obtain ⟨i, P', Q', O, rfl, hi, rfl, rfl, rfl, rfl, hP, hQ, hO, rfl, HO⟩ := hrel
          by_cases hlt : i < n
          · have m1 : (i : Int) < (n : Int) := by omega
            obtain ⟨l, hl1, hl2⟩ := HX.out.1 i hlt
            obtain ⟨j, hj⟩ : ∃ j, (i + p) % n = j := ⟨_, rfl⟩
            have hjn : j < n := by rw [← hj]; exact Nat.mod_lt _ (by omega)
            have hmod : ((i : Int) + (p : Int)).tmod (n : Int) = (j : Int) := by
              rw [← hj, Int.tmod_eq_emod_of_nonneg (by omega)]
              norm_cast
            rw [hj] at hl2
            have hcell := HCR.out j l hl2
            obtain ⟨S, hS⟩ : ∃ S : ByteArray, S = ⟨l.toArray⟩ := ⟨_, rfl⟩
            rw [← hS] at hcell
            have hSs : S.size = l.length := by rw [hS]; show l.toArray.size = _; simp
            have hS7 : 7 ≤ S.size := by rw [hSs]; exact HP.out.1.long l (List.mem_of_getElem? hl2)
            have hS2 : S.size ≤ 2200 := by rw [hSs]; exact HSZ.out l (List.mem_of_getElem? hl2)
            have h18 := HX.out.2 wr
            have h6 : ((S.extract 0 6).toList == [115, 116, 97, 116, 105, 99]) = isStat l := begins hS 6
            have h5 : ((S.extract 0 5).toList == [116, 119, 105, 99, 101]) = isTwic l := begins hS 5
            have HH := Lib.hid (And.intro (order_next HO.out.1 hl1 hS) (And.intro (count_next HO.out.2.1 hl1) (And.intro (count_next HO.out.2.2 hl1) (show (O ++ S).size ≤ 2300 + (i + 1) * 2200 by rw [ByteArray.size_append]; omega))))
            clear hl1 hl2 hS hSs hj HO
            cases hst : isStat l <;> cases htc : isTwic l <;> rw [hst] at h6 <;> rw [htc] at h5
            all_goals
              have HB := Lib.hid (And.intro hst htc)
              clear hst htc
              go_wp2_with fail
              refine h18.mono ?_
              rintro e w5 ⟨rfl, rfl⟩
              clear h18
              go_wp2_with fail
              go_roundg (n - (i + 1))
              case measure => omega
            · exact ⟨i + 1, P', Q', _, rfl, by omega, rfl, rfl, rfl, by go_num, by omega, by omega, HH.out.2.2.2, rfl, Lib.hid ⟨HH.out.1, HH.out.2.1.2 HB.out.1, HH.out.2.2.1.2 HB.out.2⟩⟩
            · exact ⟨i + 1, P', Q' + 1, _, rfl, by omega, rfl, rfl, by go_num, by go_num, by omega, by omega, HH.out.2.2.2, rfl, Lib.hid ⟨HH.out.1, HH.out.2.1.2 HB.out.1, HH.out.2.2.1.1 HB.out.2⟩⟩
            · exact ⟨i + 1, P' + 1, Q', _, rfl, by omega, rfl, by go_num, rfl, by go_num, by omega, by omega, HH.out.2.2.2, rfl, Lib.hid ⟨HH.out.1, HH.out.2.1.1 HB.out.1, HH.out.2.2.1.2 HB.out.2⟩⟩
            · exact ⟨i + 1, P' + 1, Q' + 1, _, rfl, by omega, rfl, by go_num, by go_num, by go_num, by omega, by omega, HH.out.2.2.2, rfl, Lib.hid ⟨HH.out.1, HH.out.2.1.1 HB.out.1, HH.out.2.2.1.1 HB.out.2⟩⟩
          · have m1 : ¬ (i : Int) < (n : Int) := by omega
            obtain rfl : i = n := by omega
            have hfull : RR.take i = RR := List.take_of_length_le (Nat.le_of_eq HRl.out)
            have hO1 := HO.out
            rw [hfull, HRR.out, rot_count, rot_count, HP.out.1.stat, HP.out.1.twic] at hO1
            obtain ⟨hO1, rfl, rfl⟩ := hO1
            obtain ⟨tws, hcf, htl, hOs, hsm⟩ := HP.out.1.read b p (by rw [HN.out]; exact hpn) O hO1
            have hEnv := HP.out.2.1.keep HTT.out
            have h10 := parse_any O (by omega) wr hEnv
            rw [hcf] at h10
            have HR := Lib.hid (And.intro htl hsm)
            have HTT0 := HTT
            have hts : t.statics.length ≤ 1000000 ∧ t.pool.length ≤ 1000000 := by
              have := HP.out.1.small.2 t (by rw [HP.out.1.tens]; simp)
              exact ⟨this.2.1, this.1⟩
            have htw3 : tws.length ≤ 1000000 := by
              have := hsm.2 { t with twices := tws } (by simp)
              exact this.2.2
            clear hO1 hfull HO hcf htl hsm HRl HX HQ hOs
            go_wp2_with fail
            refine h10.mono ?_
            rintro e w5 ⟨tv, l2, rfl, hT2, hl2, hwf2, t5⟩
            obtain ⟨p2, s2, q2, rfl⟩ := one_of hl2 rfl
            have hin := cfg_of_own hwf2 hT2 hl2 HR.out.2
            obtain ⟨row2, hr2, z2, o2⟩ := hin.row
            obtain ⟨W5, st5, k5, s5⟩ := keep_cfg (w := w5) z2 o2
            have i5 : (Tryz.prog.info? 29).map (·.size) = some row2.size := by rw [z2]; kernel_rfl
            have hT5 : TensAt W5 wr.heap.size tv [({ t with twices := tws }, p2, s2, q2)] := hT2.low s5 (fun k h => h.elim)
            obtain ⟨g2, cap2, cs, a1, n1', a2, n2', rfl, hlo, hb2, hc27, hc28, hswap⟩ := order_swap hT5 hts.2 hts.1 htw3
            rw [hr2]
            have hrow2 : row2 = cfgRow c (.slice (some ⟨g2, 0, none⟩) 1 cap2) := by cases hr2; rfl
            have hwfc : WfCfg c := hwf2
            have d28 : W5.cell? ⟨w5.heap.size, 28, none⟩ = some (.slice (some ⟨g2, 0, none⟩) 1 cap2) := (cell_of_block k5 28).trans (by rw [hrow2]; exact cfgRow_get hwfc _)
            have e27 : W5.cell? ⟨g2, 27, none⟩ = some (.slice a1 t.statics.length n1') := (cell_of_block hb2 27).trans hc27
            have e28 : W5.cell? ⟨g2, 28, none⟩ = some (.slice a2 t.twices.length n2') := (cell_of_block hb2 28).trans (by rw [hc28, HR.out.1])
            have f28 : W5.frozen? ⟨g2, 28, none⟩ = false := free_of_block hb2 28
            have tq := t5.trans s5
            have kC := (tq.block _ (block_lt HCC.out.2) (fun h => h)).trans HCC.out.2
            obtain ⟨b1, o1', cap1, q1, hr28, hb1, hq1, hp1⟩ := cfg_twic HCC.out.1 HP.out.1.tens
            have c28 : W5.cell? ⟨C, 28, none⟩ = some (.slice (some ⟨b1, o1', none⟩) 1 cap1) := (cell_of_block kC 28).trans hr28
            have hq1 := (cell_turn0 tq hb1 (fun h => h)).trans hq1
            obtain ⟨aq, cq, rfl, _, _⟩ := id hp1
            have hg5 : g2 < w5.heap.size := by
              obtain ⟨cs', hcs'⟩ := own_cells hT2.row (k := g2) rfl
              exact block_lt hcs'
            have HZ1 := Lib.hid (And.intro hlo (And.intro hg5 (block_lt HCC.out.2)))
            have HZ2 := Lib.hid (And.intro hb2 (And.intro kC k5))
            have HZ3 := Lib.hid (And.intro tq (And.intro (HTT.out.trans tq) (And.intro HCC.out.1 hp1)))
            have HZ4 := Lib.hid (And.intro hswap (And.intro hrow2 hwfc))
            clear hlo hb2 kC hp1 tq hswap hrow2 hwfc k5 hT5 hT2 hin hr2 hwf2 hl2 h10 hEnv t5 s5 o2 HCC HCR HTT hc27 hc28 hb1 hr28 hts htw3 hg5
            go_wp2_with (first | (refine wpList_store_put rfl 29 _ _ rfl w5.heap.size 0 row2 rfl rfl i5 W5 st5 ?_))
            clear st5 i5
            go_region
            have tn : Turn (fun k => k = g2) W5 (W5.setCell ⟨g2, 28, none⟩ (.slice aq t.twices.length cq)).drew := ((Turn.refl (fun k => k = g2) W5).setCell (p := ⟨g2, 28, none⟩) (.slice aq t.twices.length cq) (fun _ => rfl)).drew
            have hb6 : (W5.setCell ⟨g2, 28, none⟩ (.slice aq t.twices.length cq)).drew.heap[g2]? = some (.cells (cs.setIfInBounds 28 (.slice aq t.twices.length cq)) 45 (0, 0)) := block_setCell HZ2.out.1 _ _
            generalize (W5.setCell ⟨g2, 28, none⟩ (.slice aq t.twices.length cq)).drew = W6 at *
            have hle := HZ1.out
            have t6 := HZ3.out.1.trans2 tn (fun k hk e => by omega)
            have q6 := HTT0.out.trans t6
            have u1 := HZ3.out.2.2.1.turn t6
            have u2 : CfgIn W6 c (.agg row2) := ⟨_, _, by rw [HZ4.out.2.1], HZ4.out.2.2, HZ4.out.1 _ W6 tn hb6 (HZ3.out.2.2.2.turn t6), by rw [HP.out.1.tens]; rfl⟩
            have h13 := hcfg_same u1 u2
            have l1 := load_cfg z1 ((tn.block _ (block_lt HZ2.out.2.1) (by omega)).trans HZ2.out.2.1)
            have l2 := load_cfg z2 ((tn.block _ (block_lt HZ2.out.2.2) (by omega)).trans HZ2.out.2.2)
            have H7 := Lib.hid q6
            clear tn hb6 t6 q6 u1 u2 hle HZ1 HZ2 HZ3 HZ4 c28 hq1 d28 e27 e28 f28
            go_wp2_with (first | (refine wpList_load_met (by rfl) 29 _ rfl (.agg row1) l1 ?_) | (refine wpList_load_met (by rfl) 29 _ rfl (.agg row2) l2 ?_))
            refine h13.mono ?_
            rintro e w7 ⟨rfl, t7⟩
            have H8 := Lib.hid (H7.out.trans t7)
            clear h13 t7 l1 l2
            go_wp2_with fail
            go_ret
            exact ⟨rfl, H8.out⟩
end Go.Proofs.YtbkpbcmjgbdbkaaGreatDoor
