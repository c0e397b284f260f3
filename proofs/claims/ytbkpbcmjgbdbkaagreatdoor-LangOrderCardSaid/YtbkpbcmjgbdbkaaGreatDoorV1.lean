/- The reference's Text: the walk. No condition but ranges. -/
import Derived.Test.YtbkpbcmjgbdbkaaGreatDoorV0
import Derived.Test.YtbkpbcmjgbdbkaaGreatDoorU3
import Derived.Deep.CutBlock
namespace Go.Proofs.YtbkpbcmjgbdbkaaGreatDoor
open Go.RowKit Go.Lib
set_option linter.unusedVariables false
set_option linter.unusedSimpArgs false
set_option maxRecDepth 100000
set_option pp.maxSteps 3000

def refAcc (c : Cfg) (k : Nat) : List UInt8 := headL c ++ (c.tens.take k).flatMap tenL
def spIp (x : Nat) : List UInt8 := 32 :: ipText x
def poolAcc (A : List UInt8) (l : List Nat) (j : Nat) : List UInt8 := A ++ poolB ++ (l.take j).flatMap spIp
def pairAcc (f : Nat × Nat → List UInt8) (A : List UInt8) (l : List (Nat × Nat)) (j : Nat) : List UInt8 := A ++ (l.take j).flatMap f
theorem join_flat (p : List UInt8) (l : List Nat) : joinL 32 (p :: l.map ipText) = p ++ l.flatMap spIp := by
  induction l generalizing p with
  | nil => simp [joinL]
  | cons x l ih =>
    have := ih (ipText x)
    simp only [List.map_cons, joinL, List.flatMap_cons, spIp, this, List.cons_append, List.append_assoc]
theorem poolAcc_step (A : List UInt8) (l : List Nat) (j : Nat) (y : Nat) (h : l[j]? = some y) : poolAcc A l (j + 1) = poolAcc A l j ++ [32] ++ ipText y := by
  unfold poolAcc
  rw [flat_take spIp l j y h]
  simp [spIp]
theorem pairAcc_step (f : Nat × Nat → List UInt8) (A : List UInt8) (l : List (Nat × Nat)) (j : Nat) (y : Nat × Nat) (h : l[j]? = some y) : pairAcc f A l (j + 1) = pairAcc f A l j ++ f y := by
  unfold pairAcc
  rw [flat_take f l j y h]
  simp
theorem str_name (s : ByteArray) : ∃ l : List UInt8, s = ⟨l.toArray⟩ ∧ s.data.toList = l := ⟨s.data.toList, by cases s; simp, rfl⟩
set_option maxHeartbeats 4000000 in
theorem rtext_any (c : Cfg) (tv : Value) (l : List TenM) (w : World) (hc : RngCfg c) (hwc : WfCfg c) (hT : TensIn w tv l) (hl : l.map (·.1) = c.tens) (hlen : (textL c).length ≤ 100000000) :
    Calls Tryz.prog 16 #[.agg (cfgRow c tv)] w (TextPost (textL c) w) := by
  have hmix : Tryz.prog.follows .mixedOrders = true := by kernel_rfl
  have hsz := cfgRow_size hwc tv
  have hmac : (u8row c.mac).size = 6 := (u8row_len c.mac).trans hwc.1
  have hout : (u8row c.out).size = 6 := (u8row_len c.out).trans hwc.2.1
  have hnext : (u8row c.next).size = 6 := (u8row_len c.next).trans hwc.2.2.1
  have hkey : (u8row c.key).size = 8 := (u8row_len c.key).trans hwc.2.2.2
  obtain ⟨cs, hcs⟩ : ∃ cs, cs = cfgRow c tv := ⟨_, rfl⟩
  rw [← hcs]
  obtain ⟨gip, gdr, gmac, gout, gnext, gkey⟩ := cfg_get hwc tv
  have gtv := cfgRow_get hwc tv
  rw [← hcs] at gip gdr gmac gout gnext gkey gtv
  have kC := block_alloc_new w (.cells cs 29)
  have t1 := (Turn.refl (fun _ => False) w).alloc (.cells cs 29)
  have hb0 : (gwB ++ [32] ++ ipText c.ip ++ [32] ++ macText c.mac ++ [32] ++ macText c.out ++ [32] ++ macText c.next ++ [32] ++ keyText c.key ++ [32] ++ drB ++ [32] ++ decL c.drain ++ [10]).length ≤ 100000000 := by
    have h1 := hlen
    unfold textL at h1
    rw [List.length_append] at h1
    have : (headL c).length = (gwB ++ [32] ++ ipText c.ip ++ [32] ++ macText c.mac ++ [32] ++ macText c.out ++ [32] ++ macText c.next ++ [32] ++ keyText c.key ++ [32] ++ drB ++ [32] ++ decL c.drain ++ [10]).length := by simp [headL, lineL, joinL]
    omega
  simp only [List.length_append, List.length_cons, List.length_nil] at hb0
  have HCS := Lib.hid (And.intro hcs (And.intro hsz (And.intro hlen (And.intro hl hT))))
  clear hcs hsz hlen hl hT
  go_enter Tryz.func16, Tryz.ntmps16
  go_upto_region 1 with (fail)
  generalize w.alloc (.cells cs 29) = W at *
  generalize hC0 : w.heap.size = C0 at *
  have HC0 := Lib.hid hC0
  have HG := Lib.hid (And.intro kC (And.intro t1 (And.intro hc (And.intro hwc gtv))))
  clear hC0
  try dsimp only [Act.put]
  go_cut [3] (fun s3 w' => ∃ W2, W2 = w' ∧ s3 = .string ⟨(headL c).toArray⟩ ∧ Turn (fun _ => False) W W2)
  case first => as_aux_lemma =>
    have hwd : IntKind.u64.wrap (c.drain : Int) = (c.drain : Int) := by have := HG.out.2.2.1.drain; unfold IntKind.wrap; simp [IntKind.bits, IntKind.signed]; omega
    have cc0 := quiet_val (w := W) (fun V tv => rip_text c.ip HG.out.2.2.1.ip V)
    have cc1 := quiet_val (w := W) (f := 41) (args := #[.agg (u8row c.mac)]) (fun V tv => rmacText_any c.mac HG.out.2.2.2.1.1 HG.out.2.2.1.mac V)
    have cc2 := quiet_val (w := W) (f := 41) (args := #[.agg (u8row c.out)]) (fun V tv => rmacText_any c.out HG.out.2.2.2.1.2.1 HG.out.2.2.1.out V)
    have cc3 := quiet_val (w := W) (f := 41) (args := #[.agg (u8row c.next)]) (fun V tv => rmacText_any c.next HG.out.2.2.2.1.2.2.1 HG.out.2.2.1.next V)
    have cc4 := quiet_val (w := W) (f := 42) (args := #[.agg (u8row c.key)]) (fun V tv => rkeyText_any c.key HG.out.2.2.2.1.2.2.2 HG.out.2.2.1.key V)
    have cc5 := quiet_val (w := W) (fun V tv => rdec_any c.drain (by have := HG.out.2.2.1.drain; omega) V)
    have CC := Lib.hid (And.intro cc0 (And.intro cc1 (And.intro cc2 (And.intro cc3 (And.intro cc4 cc5)))))
    have ll0 := regr_load kC (r := u8row c.mac) hmac agg25 size25 gmac
    have ll1 := regr_load kC (r := u8row c.out) hout agg25 size25 gout
    have ll2 := regr_load kC (r := u8row c.next) hnext agg25 size25 gnext
    have ll3 := regr_load kC (r := u8row c.key) hkey agg26 size26 gkey
    have KL := Lib.hid (And.intro ll0 (And.intro ll1 (And.intro ll2 ll3)))
    have kk0 : ∀ d os, (Sort.grow (redrawn W d) os).cell? ⟨C0, 0, none⟩ = some (.int .u32 (c.ip : Int)) := fun d os => (regr_cell kC d os 0).trans gip
    have kk1 : ∀ d os, (Sort.grow (redrawn W d) os).cell? ⟨C0, 27, none⟩ = some (.int .u32 (c.drain : Int)) := fun d os => (regr_cell kC d os 27).trans gdr
    clear cc0 cc1 cc2 cc3 cc4 cc5 ll0 ll1 ll2 ll3
    refine wp_region_quiet_below hmix (by kernel_rfl) ?_
    repeat (quiet_step (fail))
    quiet_step (exact CC.out.1 _ _)
    refine wpQuiet_add rfl _ _ rfl _ _ rfl rfl (by simp only [List.length_append, List.length_cons, List.length_nil]; omega) ?_
    refine wpQuiet_add rfl _ _ rfl _ _ rfl rfl (by simp only [List.length_append, List.length_cons, List.length_nil]; omega) ?_
    quiet_step (fail)
    refine wpQuiet_load rfl 25 _ rfl (.agg (u8row c.mac)) KL.out.1 ?_
    quiet_step (exact CC.out.2.1 _ _)
    refine wpQuiet_add rfl _ _ rfl _ _ rfl rfl (by simp only [List.length_append, List.length_cons, List.length_nil]; omega) ?_
    refine wpQuiet_add rfl _ _ rfl _ _ rfl rfl (by simp only [List.length_append, List.length_cons, List.length_nil]; omega) ?_
    quiet_step (fail)
    refine wpQuiet_load rfl 25 _ rfl (.agg (u8row c.out)) KL.out.2.1 ?_
    quiet_step (exact CC.out.2.2.1 _ _)
    refine wpQuiet_add rfl _ _ rfl _ _ rfl rfl (by simp only [List.length_append, List.length_cons, List.length_nil]; omega) ?_
    refine wpQuiet_add rfl _ _ rfl _ _ rfl rfl (by simp only [List.length_append, List.length_cons, List.length_nil]; omega) ?_
    quiet_step (fail)
    refine wpQuiet_load rfl 25 _ rfl (.agg (u8row c.next)) KL.out.2.2.1 ?_
    quiet_step (exact CC.out.2.2.2.1 _ _)
    refine wpQuiet_add rfl _ _ rfl _ _ rfl rfl (by simp only [List.length_append, List.length_cons, List.length_nil]; omega) ?_
    refine wpQuiet_add rfl _ _ rfl _ _ rfl rfl (by simp only [List.length_append, List.length_cons, List.length_nil]; omega) ?_
    quiet_step (fail)
    refine wpQuiet_load rfl 26 _ rfl (.agg (u8row c.key)) KL.out.2.2.2 ?_
    quiet_step (exact CC.out.2.2.2.2.1 _ _)
    refine wpQuiet_add rfl _ _ rfl _ _ rfl rfl (by simp only [List.length_append, List.length_cons, List.length_nil]; omega) ?_
    refine wpQuiet_add rfl _ _ rfl _ _ rfl rfl (by simp only [List.length_append, List.length_cons, List.length_nil]; omega) ?_
    repeat (quiet_step (fail))
    quiet_step (exact CC.out.2.2.2.2.2 _ _)
    refine wpQuiet_add rfl _ _ rfl _ _ rfl rfl (by simp only [List.length_append, List.length_cons, List.length_nil]; omega) ?_
    refine wpQuiet_add rfl _ _ rfl _ _ rfl rfl (by simp only [List.length_append, List.length_cons, List.length_nil]; omega) ?_
    repeat (quiet_step (fail))
    refine wpQuiet_nil ?_
    intro _ hw'
    obtain ⟨⟨dq, osq⟩, hw''⟩ := hw'
    subst hw''
    have t4 : Turn (fun _ => False) W (Sort.grow (redrawn W dq) osq) := turn_of_below0 (below_regrown W dq osq)
    generalize Sort.grow (redrawn W dq) osq = w2 at *
    clear CC KL kk0 kk1
    go_wp2_with fail
    go_meet
    exact ⟨_, rfl, by simp [headL, lineL, joinL, gwB, drB], t4⟩
  case rest => as_aux_lemma =>
  obtain ⟨w2, hw2, rfl, t4⟩ := hcut
  subst hw2
  have kC2 := (t4.block C0 (block_lt HG.out.1) (fun h => h)).trans HG.out.1
  have tW2 : Turn (fun _ => False) w w2 := HG.out.2.1.trans t4
  have HW2 := Lib.hid (And.intro kC2 tW2)
  obtain ⟨ao, cp, htv, hTl, hTr⟩ := HCS.out.2.2.2.2.1
  rw [List.length_map] at htv hTl
  subst htv
  have HTR := Lib.hid hTr
  clear t4 kC2 tW2 hTr kC t1 hb0 gip gdr gmac gout gnext gkey gtv hmac hout hnext hkey hc hwc
  go_wp2_with fail
  go_loopg [3, 4] l.length (fun g' s3 i wr => ∃ (k : Nat) (acc : List UInt8), g' = l.length - k ∧ k ≤ l.length ∧ i = .int .i64 (k : Int) ∧ s3 = .string ⟨acc.toArray⟩ ∧ Hid (acc = refAcc c k ∧ wr.heap[C0]? = some (.cells cs 29 (0, 0)) ∧ Turn (fun _ => False) w wr))
  case atStart => exact ⟨0, _, rfl, Nat.zero_le _, rfl, rfl, Lib.hid ⟨by simp [refAcc], HW2.out.1, HW2.out.2⟩⟩
  case round =>
    clear HW2
    obtain ⟨k, acc, rfl, hk, rfl, rfl, HX⟩ := hrel
    have c28 : wr.cell? ⟨C0, 28, none⟩ = some (.slice ao l.length cp) := (cell_of_block HX.out.2.1 28).trans HG.out.2.2.2.2
    by_cases hlt : k < l.length
    · obtain ⟨x, hx⟩ : ∃ x, l[k]? = some x := ⟨_, List.getElem?_eq_getElem hlt⟩
      obtain ⟨z1, bb, off, rfl, hbb, hrow⟩ := HTR.out k (tmRow x) (by rw [List.getElem?_map, hx]; rfl)
      obtain ⟨t, p, s, q⟩ := x
      have hxm := List.mem_of_getElem? hx
      obtain ⟨hwt, hnp, hns, hnq⟩ := HCS.out.2.2.2.2.2 _ hxm
      dsimp only at hwt hnp hns hnq
      have htk : c.tens[k]? = some t := by rw [← HCS.out.2.2.2.1, List.getElem?_map, hx]; rfl
      have hR := HG.out.2.2.1.tens t (List.mem_of_getElem? htk)
      obtain ⟨row, hrw⟩ : ∃ row, row = tmRow (t, p, s, q) := ⟨_, rfl⟩
      rw [← hrw] at hrow z1
      have hTG : TenGet t p s q row := by rw [hrw]; exact tenGet t hwt p s q
      obtain ⟨po, pc, rfl, hpl, hpr⟩ := hnp
      obtain ⟨so, sc, rfl, hsl, hsr⟩ := hns
      obtain ⟨qo, qc, rfl, hql, hqr⟩ := hnq
      have hlen1 : (acc ++ tenL t).length ≤ 100000000 := by
        have h1 := HCS.out.2.2.1
        unfold textL at h1
        have h2 := flat_take_le1 tenL c.tens k t htk
        rw [HX.out.1]
        unfold refAcc
        simp only [List.length_append] at h1 ⊢
        omega
      have hnew : refAcc c (k + 1) = acc ++ tenL t := by unfold refAcc; rw [flat_take tenL c.tens k t htk, HX.out.1, refAcc, List.append_assoc]
      have tw := HX.out.2.2
      have kA := run_loadAt_at (W := wr) (b := bb) (o := off + k * 33) z1 (fun j u hj => (World.cell?_of_block (tw.block bb hbb (fun h => h))).trans (hrow j u hj))
      have hone := hTG.one rfl rfl rfl
      obtain ⟨st, k1, tt1⟩ := store_whole (block_alloc_new wr (.cells (tenZero ⟨#[]⟩) 45)) (cs := row) (by rw [z1]; rfl) hone
      have tx1 : Turn (fun _ => False) wr ((wr.alloc (.cells (tenZero ⟨#[]⟩) 45)).setRow wr.heap.size row) := ((Turn.refl (fun _ => False) wr).alloc _).trans2 tt1 (fun i hi e => by omega)
      have hi45 : (Tryz.prog.info? 45).map (·.size) = some row.size := by rw [z1]; kernel_rfl
      have i1 : (0 : Int) ≤ (k : Int) := by omega
      have i2 : (k : Int) < (l.length : Int) := by omega
      have kC1 := (tx1.block C0 (block_lt HX.out.2.1) (fun h => h)).trans HX.out.2.1
      obtain ⟨nm, hnm, hnl⟩ := str_name t.name
      obtain ⟨a1, ha1⟩ : ∃ a, a = acc ++ tenHeadL t := ⟨_, rfl⟩
      obtain ⟨a2, ha2⟩ : ∃ a, a = a1 ++ poolL t := ⟨_, rfl⟩
      obtain ⟨a3, ha3⟩ : ∃ a, a = a2 ++ portsL t := ⟨_, rfl⟩
      obtain ⟨a4, ha4⟩ : ∃ a, a = a3 ++ filtL t := ⟨_, rfl⟩
      obtain ⟨a5, ha5⟩ : ∃ a, a = a4 ++ t.statics.flatMap statL := ⟨_, rfl⟩
      obtain ⟨a6, ha6⟩ : ∃ a, a = a5 ++ t.twices.flatMap twicL := ⟨_, rfl⟩
      have hall : acc ++ tenL t = a6 ++ quotaL t ++ rateL t := by rw [ha6, ha5, ha4, ha3, ha2, ha1]; simp [tenL]
      have hl6 : a6.length + (quotaL t).length + (rateL t).length ≤ 100000000 := by have h := hlen1; rw [hall] at h; simp only [List.length_append] at h; exact h
      have hl5 : a5.length + (t.twices.flatMap twicL).length ≤ 100000000 := by rw [ha6, List.length_append] at hl6; omega
      have hl4 : a4.length + (t.statics.flatMap statL).length ≤ 100000000 := by rw [ha5, List.length_append] at hl5; omega
      have hl3 : a3.length + (filtL t).length ≤ 100000000 := by rw [ha4, List.length_append] at hl4; omega
      have hl2 : a2.length + (portsL t).length ≤ 100000000 := by rw [ha3, List.length_append] at hl3; omega
      have hl1 : a1.length + (poolL t).length ≤ 100000000 := by rw [ha2, List.length_append] at hl2; omega
      have hl0 : acc.length + (tenHeadL t).length ≤ 100000000 := by rw [ha1, List.length_append] at hl1; omega
      have HP := Lib.hid (And.intro hTG (And.intro hR (And.intro hwt (And.intro hnew (And.intro hall (And.intro hpr (And.intro hsr hqr)))))))
      have HA := Lib.hid (And.intro ha1 (And.intro ha2 (And.intro ha3 (And.intro ha4 (And.intro ha5 (And.intro ha6 (And.intro hnm hnl)))))))
      have HL := Lib.hid (And.intro hl0 (And.intro hl1 (And.intro hl2 (And.intro hl3 (And.intro hl4 (And.intro hl5 hl6))))))
      have HK := Lib.hid (And.intro k1 (And.intro kC1 (tw.trans tx1)))
      clear hx HX hxm htk hrow hrw k1 tt1 hTG hR hwt hlen1 hnew hpr hsr hqr hone tw tx1 kC1 ha1 ha2 ha3 ha4 ha5 ha6 hall hl0 hl1 hl2 hl3 hl4 hl5 hl6 hnm hnl
      go_upto_region 6 with (first | (refine wpList_load_run rfl 45 _ rfl (.agg row) kA ?_) | (refine wpList_store_put rfl 45 _ _ rfl wr.heap.size 0 row rfl rfl hi45 _ st ?_))
      clear kA st hi45 i1 i2 c28
      obtain ⟨kT, kC, tW⟩ := HK.out
      clear HK
      generalize (wr.alloc (.cells (tenZero ⟨#[]⟩) 45)).setRow wr.heap.size row = W1 at *
      generalize wr.heap.size = T at *
      try dsimp only [Act.put]
      go_cut [3] (fun s3 w' => ∃ W2, W2 = w' ∧ s3 = .string ⟨a1.toArray⟩ ∧ Turn (fun _ => False) W1 W2)
      case first => as_aux_lemma =>
        have hb : (acc ++ tenB ++ [32] ++ nm ++ [32] ++ vniB ++ [32] ++ decL t.vni ++ [32] ++ keyB ++ [32] ++ keyText t.key ++ [32] ++ vtepB ++ [32] ++ ipText t.vtep ++ [32] ++ macText t.vmac ++ [32] ++ hostB ++ [32] ++ macText t.host ++ [10]).length ≤ 100000000 := by
          have h := HL.out.1
          have e := HA.out.2.2.2.2.2.2.2
          simp only [tenHeadL, lineL, joinL, e, List.length_append, List.length_cons, List.length_nil] at h ⊢
          omega
        simp only [tenB, vniB, keyB, vtepB, hostB, List.length_append, List.length_cons, List.length_nil] at hb
        have hk8 : (u8row t.key).size = 8 := (u8row_len t.key).trans HP.out.2.2.1.key
        have hk6 : (u8row t.vmac).size = 6 := (u8row_len t.vmac).trans HP.out.2.2.1.vmac
        have hk7 : (u8row t.host).size = 6 := (u8row_len t.host).trans HP.out.2.2.1.host
        have hwv : IntKind.u64.wrap (t.vni : Int) = (t.vni : Int) := by have := HP.out.2.1.vni; unfold IntKind.wrap; simp [IntKind.bits, IntKind.signed]; omega
        have cc0 := quiet_val (w := W1) (fun V tv => rdec_any t.vni (by have := HP.out.2.1.vni; omega) V)
        have cc1 := quiet_val (w := W1) (f := 42) (args := #[.agg (u8row t.key)]) (fun V tv => rkeyText_any t.key HP.out.2.2.1.key HP.out.2.1.key V)
        have cc2 := quiet_val (w := W1) (fun V tv => rip_text t.vtep HP.out.2.1.vtep V)
        have cc3 := quiet_val (w := W1) (f := 41) (args := #[.agg (u8row t.vmac)]) (fun V tv => rmacText_any t.vmac HP.out.2.2.1.vmac HP.out.2.1.vmac V)
        have cc4 := quiet_val (w := W1) (f := 41) (args := #[.agg (u8row t.host)]) (fun V tv => rmacText_any t.host HP.out.2.2.1.host HP.out.2.1.host V)
        have CC := Lib.hid (And.intro cc0 (And.intro cc1 (And.intro cc2 (And.intro cc3 cc4))))
        have ll0 := regr_load kT (r := u8row t.key) hk8 agg26 size26 HP.out.1.key
        have ll1 := regr_load kT (r := u8row t.vmac) hk6 agg25 size25 HP.out.1.vmac
        have ll2 := regr_load kT (r := u8row t.host) hk7 agg25 size25 HP.out.1.host
        have KL := Lib.hid (And.intro ll0 (And.intro ll1 ll2))
        have kk0 : ∀ d os, (Sort.grow (redrawn W1 d) os).cell? ⟨T, 0, none⟩ = some (.string ⟨nm.toArray⟩) := fun d os => (regr_cell kT d os 0).trans (by rw [HP.out.1.name, HA.out.2.2.2.2.2.2.1])
        have kk1 : ∀ d os, (Sort.grow (redrawn W1 d) os).cell? ⟨T, 1, none⟩ = some (.int .u32 (t.vni : Int)) := fun d os => (regr_cell kT d os 1).trans HP.out.1.vni
        have kk2 : ∀ d os, (Sort.grow (redrawn W1 d) os).cell? ⟨T, 10, none⟩ = some (.int .u32 (t.vtep : Int)) := fun d os => (regr_cell kT d os 10).trans HP.out.1.vtep
        clear cc0 cc1 cc2 cc3 cc4 ll0 ll1 ll2
        refine wp_region_quiet_below hmix (by kernel_rfl) ?_
        quiet_step (fail)
        refine wpQuiet_add rfl _ _ rfl _ _ rfl rfl (by simp only [List.length_append, List.length_cons, List.length_nil]; omega) ?_
        quiet_step (fail)
        quiet_step (fail)
        refine wpQuiet_add rfl _ _ rfl _ _ rfl rfl (by simp only [List.length_append, List.length_cons, List.length_nil]; omega) ?_
        refine wpQuiet_add rfl _ _ rfl _ _ rfl rfl (by simp only [List.length_append, List.length_cons, List.length_nil]; omega) ?_
        quiet_step (fail)
        quiet_step (fail)
        quiet_step (fail)
        quiet_step (exact CC.out.1 _ _)
        refine wpQuiet_add rfl _ _ rfl _ _ rfl rfl (by simp only [List.length_append, List.length_cons, List.length_nil]; omega) ?_
        refine wpQuiet_add rfl _ _ rfl _ _ rfl rfl (by simp only [List.length_append, List.length_cons, List.length_nil]; omega) ?_
        quiet_step (fail)
        refine wpQuiet_load rfl 26 _ rfl (.agg (u8row t.key)) KL.out.1 ?_
        quiet_step (exact CC.out.2.1 _ _)
        refine wpQuiet_add rfl _ _ rfl _ _ rfl rfl (by simp only [List.length_append, List.length_cons, List.length_nil]; omega) ?_
        refine wpQuiet_add rfl _ _ rfl _ _ rfl rfl (by simp only [List.length_append, List.length_cons, List.length_nil]; omega) ?_
        quiet_step (fail)
        quiet_step (fail)
        quiet_step (exact CC.out.2.2.1 _ _)
        refine wpQuiet_add rfl _ _ rfl _ _ rfl rfl (by simp only [List.length_append, List.length_cons, List.length_nil]; omega) ?_
        refine wpQuiet_add rfl _ _ rfl _ _ rfl rfl (by simp only [List.length_append, List.length_cons, List.length_nil]; omega) ?_
        quiet_step (fail)
        refine wpQuiet_load rfl 25 _ rfl (.agg (u8row t.vmac)) KL.out.2.1 ?_
        quiet_step (exact CC.out.2.2.2.1 _ _)
        refine wpQuiet_add rfl _ _ rfl _ _ rfl rfl (by simp only [List.length_append, List.length_cons, List.length_nil]; omega) ?_
        refine wpQuiet_add rfl _ _ rfl _ _ rfl rfl (by simp only [List.length_append, List.length_cons, List.length_nil]; omega) ?_
        quiet_step (fail)
        refine wpQuiet_load rfl 25 _ rfl (.agg (u8row t.host)) KL.out.2.2 ?_
        quiet_step (exact CC.out.2.2.2.2 _ _)
        refine wpQuiet_add rfl _ _ rfl _ _ rfl rfl (by simp only [List.length_append, List.length_cons, List.length_nil]; omega) ?_
        refine wpQuiet_add rfl _ _ rfl _ _ rfl rfl (by simp only [List.length_append, List.length_cons, List.length_nil]; omega) ?_
        quiet_step (fail)
        refine wpQuiet_nil ?_
        intro _ hw'
        obtain ⟨⟨dq, osq⟩, hw''⟩ := hw'
        subst hw''
        have t4 : Turn (fun _ => False) W1 (Sort.grow (redrawn W1 dq) osq) := turn_of_below0 (below_regrown W1 dq osq)
        generalize Sort.grow (redrawn W1 dq) osq = w2 at *
        clear CC KL kk0 kk1 kk2
        go_wp2_with fail
        go_meet
        exact ⟨_, rfl, by rw [HA.out.1]; simp [tenHeadL, lineL, joinL, tenB, vniB, keyB, vtepB, hostB, HA.out.2.2.2.2.2.2.2], t4⟩
      case rest => as_aux_lemma =>
      obtain ⟨w5, hW2, rfl, tn⟩ := hcut
      subst hW2
      have kTw5 := (tn.block T (block_lt kT) (fun h => h)).trans kT
      have kCw5 := (tn.block C0 (block_lt kC) (fun h => h)).trans kC
      have tWw5 := tW.trans tn
      clear kT kC tW tn
      have kT := kTw5
      have kC := kCw5
      have tW := tWw5
      clear kTw5 kCw5 tWw5
      have c23 : w5.cell? ⟨T, 23, none⟩ = some (.slice po t.pool.length pc) := (cell_of_block kT 23).trans HP.out.1.pool
      go_upto_if 88 with (fail)
      go_cut [3] (fun s3 w' => ∃ W2, W2 = w' ∧ s3 = .string ⟨a2.toArray⟩ ∧ Turn (fun _ => False) w5 W2)
      case first => as_aux_lemma =>
        by_cases h0 : t.pool.length = 0
        · have h0' : ¬ (0 : Int) < (t.pool.length : Int) := by omega
          have hpe : a2 = a1 := by rw [HA.out.2.1, show poolL t = [] from if_pos h0, List.append_nil]
          have HPE := Lib.hid hpe
          clear hpe h0
          go_wp2_with fail
          go_meet
          exact ⟨_, rfl, by rw [HPE.out], Turn.refl _ _⟩
        · have h0' : (0 : Int) < (t.pool.length : Int) := by omega
          have hpe : a2 = poolAcc a1 t.pool t.pool.length ++ [10] := by rw [HA.out.2.1, show poolL t = lineL (poolB :: t.pool.map ipText) from if_neg h0, poolAcc, List.take_length]; simp [lineL, join_flat]
          have hl2 : (poolAcc a1 t.pool t.pool.length).length + 1 ≤ 100000000 := by have h := HL.out.2.2.1; rw [hpe] at h; simp only [List.length_append, List.length_cons, List.length_nil] at h; omega
          have hla : a1.length + 4 ≤ 100000000 := by unfold poolAcc at hl2; simp only [poolB, List.length_append, List.length_cons, List.length_nil] at hl2; omega
          have hla2 : a1.length + 4 ≤ 9223372036854775807 := by omega
          have HPE := Lib.hid hpe
          clear hpe h0 hla
          go_wp2_with fail
          clear h0' hla2
          generalize decide (0 < t.pool.length) = bq
          go_loopg [3, 6] t.pool.length (fun g' s3 i wr => ∃ (j : Nat) (pa : List UInt8), g' = t.pool.length - j ∧ j ≤ t.pool.length ∧ i = .int .i64 (j : Int) ∧ s3 = .string ⟨pa.toArray⟩ ∧ Hid (pa = poolAcc a1 t.pool j ∧ Turn (fun _ => False) w5 wr))
          case atStart => exact ⟨0, a1 ++ poolB, rfl, Nat.zero_le _, rfl, by first | rfl | simp [poolB, str_append], Lib.hid ⟨by simp [poolAcc], Turn.refl _ _⟩⟩
          case round =>
            clear c23
            obtain ⟨j, pa, rfl, hj, rfl, rfl, HR⟩ := hrel
            have c23 : wr.cell? ⟨T, 23, none⟩ = some (.slice po t.pool.length pc) := (cell_of_block ((HR.out.2.block T (block_lt kT) (fun h => h)).trans kT) 23).trans HP.out.1.pool
            by_cases hjl : j < t.pool.length
            · obtain ⟨y, hy⟩ : ∃ y, t.pool[j]? = some y := ⟨_, List.getElem?_eq_getElem hjl⟩
              obtain ⟨yb, yo, rfl, hyb, hyc⟩ := HP.out.2.2.2.2.2.1 j y hy
              have cy : wr.cell? ⟨yb, yo + j, none⟩ = some (.int .u32 (y : Int)) := (World.cell?_of_block ((tW.trans HR.out.2).block yb hyb (fun h => h))).trans hyc
              have hcall := rip_text y (HP.out.2.1.pool y (List.mem_of_getElem? hy)) wr
              have i3 : (j : Int) < (t.pool.length : Int) := by omega
              have i4 : (0 : Int) ≤ (j : Int) := by omega
              have hpl2 : pa.length + 1 + (ipText y).length ≤ 100000000 := by
                have h1 := poolAcc_step a1 t.pool j y hy
                have h2 : (poolAcc a1 t.pool (j + 1)).length ≤ (poolAcc a1 t.pool t.pool.length).length := by
                  unfold poolAcc
                  have := flat_take_le spIp t.pool (j + 1)
                  simp only [List.length_append, List.take_length] at this ⊢
                  omega
                rw [h1, ← HR.out.1] at h2
                simp only [List.length_append, List.length_cons, List.length_nil] at h2
                omega
              have q1 : pa.length + 1 ≤ 9223372036854775807 := by omega
              have q2 : pa.length + 1 + (ipText y).length ≤ 9223372036854775807 := by omega
              have q3 : pa.length + (1 + (ipText y).length) ≤ 9223372036854775807 := by omega
              have q4 : pa.length + ((ipText y).length + 1) ≤ 9223372036854775807 := by omega
              have HY := Lib.hid (And.intro hy HR.out)
              clear hy hyc HR hpl2
              go_wp2_with fail
              refine hcall.mono ?_
              rintro e w6 ⟨rfl, t6⟩
              go_wp2_with fail
              go_roundg (t.pool.length - (j + 1))
              case measure => omega
              case rel => exact ⟨j + 1, pa ++ [32] ++ ipText y, rfl, by omega, by go_num, by first | rfl | simp [str_append], Lib.hid ⟨by rw [HY.out.2.1, ← poolAcc_step a1 t.pool j y HY.out.1], HY.out.2.2.trans t6⟩⟩
            · have hje : j = t.pool.length := by omega
              subst hje
              have hq : pa.length + 1 ≤ 9223372036854775807 := by rw [HR.out.1]; omega
              go_wp2_with fail
              go_meet
              exact ⟨_, rfl, by rw [HPE.out, ← HR.out.1]; first | rfl | simp [str_append], HR.out.2⟩
      case rest => as_aux_lemma =>
      obtain ⟨w7, hW2, rfl, tn⟩ := hcut
      subst hW2
      clear c23
      have kTw7 := (tn.block T (block_lt kT) (fun h => h)).trans kT
      have kCw7 := (tn.block C0 (block_lt kC) (fun h => h)).trans kC
      have tWw7 := tW.trans tn
      clear kT kC tW tn
      have kT := kTw7
      have kC := kCw7
      have tW := tWw7
      clear kTw7 kCw7 tWw7
      go_upto_region 14 with (fail)
      try dsimp only [Act.put]
      go_cut [3] (fun s3 w' => ∃ W2, W2 = w' ∧ s3 = .string ⟨a3.toArray⟩ ∧ Turn (fun _ => False) w7 W2)
      case first => as_aux_lemma =>
        have hb : (a2 ++ portsB ++ [32] ++ decL t.lo ++ [32] ++ decL t.hi ++ [10]).length ≤ 100000000 := by
          have h := HL.out.2.2.1
          simp only [portsL, lineL, joinL, List.length_append, List.length_cons, List.length_nil] at h ⊢
          omega
        simp only [portsB, List.length_append, List.length_cons, List.length_nil] at hb
        have hwl : IntKind.u64.wrap (t.lo : Int) = (t.lo : Int) := by have := HP.out.2.1.lo; unfold IntKind.wrap; simp [IntKind.bits, IntKind.signed]; omega
        have hwh : IntKind.u64.wrap (t.hi : Int) = (t.hi : Int) := by have := HP.out.2.1.hi; unfold IntKind.wrap; simp [IntKind.bits, IntKind.signed]; omega
        have cc0 := quiet_val (w := w7) (fun V tv => rdec_any t.lo (by have := HP.out.2.1.lo; omega) V)
        have cc1 := quiet_val (w := w7) (fun V tv => rdec_any t.hi (by have := HP.out.2.1.hi; omega) V)
        have CC := Lib.hid (And.intro cc0 cc1)
        have kk0 : ∀ d os, (Sort.grow (redrawn w7 d) os).cell? ⟨T, 24, none⟩ = some (.int .u16 (t.lo : Int)) := fun d os => (regr_cell kT d os 24).trans HP.out.1.lo
        have kk1 : ∀ d os, (Sort.grow (redrawn w7 d) os).cell? ⟨T, 25, none⟩ = some (.int .u16 (t.hi : Int)) := fun d os => (regr_cell kT d os 25).trans HP.out.1.hi
        clear cc0 cc1
        refine wp_region_quiet_below hmix (by kernel_rfl) ?_
        quiet_step (fail)
        refine wpQuiet_add rfl _ _ rfl _ _ rfl rfl (by simp only [List.length_append, List.length_cons, List.length_nil]; omega) ?_
        quiet_step (fail)
        quiet_step (fail)
        quiet_step (fail)
        quiet_step (exact CC.out.1 _ _)
        refine wpQuiet_add rfl _ _ rfl _ _ rfl rfl (by simp only [List.length_append, List.length_cons, List.length_nil]; omega) ?_
        refine wpQuiet_add rfl _ _ rfl _ _ rfl rfl (by simp only [List.length_append, List.length_cons, List.length_nil]; omega) ?_
        quiet_step (fail)
        quiet_step (fail)
        quiet_step (fail)
        quiet_step (exact CC.out.2 _ _)
        refine wpQuiet_add rfl _ _ rfl _ _ rfl rfl (by simp only [List.length_append, List.length_cons, List.length_nil]; omega) ?_
        refine wpQuiet_add rfl _ _ rfl _ _ rfl rfl (by simp only [List.length_append, List.length_cons, List.length_nil]; omega) ?_
        quiet_step (fail)
        refine wpQuiet_nil ?_
        intro _ hw'
        obtain ⟨⟨dq, osq⟩, hw''⟩ := hw'
        subst hw''
        have t4 : Turn (fun _ => False) w7 (Sort.grow (redrawn w7 dq) osq) := turn_of_below0 (below_regrown w7 dq osq)
        generalize Sort.grow (redrawn w7 dq) osq = w2 at *
        clear CC kk0 kk1
        go_wp2_with fail
        go_meet
        exact ⟨_, rfl, by rw [HA.out.2.2.1]; simp [portsL, lineL, joinL, portsB], t4⟩
      case rest => as_aux_lemma =>
      obtain ⟨w8, hW2, rfl, tn⟩ := hcut
      subst hW2
      have kTw8 := (tn.block T (block_lt kT) (fun h => h)).trans kT
      have kCw8 := (tn.block C0 (block_lt kC) (fun h => h)).trans kC
      have tWw8 := tW.trans tn
      clear kT kC tW tn
      have kT := kTw8
      have kC := kCw8
      have tW := tWw8
      clear kTw8 kCw8 tWw8
      have c26 : w8.cell? ⟨T, 26, none⟩ = some (.int .i64 t.filter) := (cell_of_block kT 26).trans HP.out.1.filter
      go_upto_region 16 with (fail)
      go_upto_block 4 with (fail)
      go_cut [7] (fun s7 w' => ∃ W2, W2 = w' ∧ s7 = .string ⟨(filterL t.filter).toArray⟩ ∧ w8 = W2)
      case first => as_aux_lemma =>
        by_cases f1 : t.filter = 1
        · have hf : filterL t.filter = [97, 100, 100, 114, 101, 115, 115] := if_pos f1
          have HF := Lib.hid hf
          have g1 : (t.filter == 1) = true := by rw [beq_iff_eq]; exact f1
          clear hf f1
          go_wp2_with fail
          go_meet
          exact ⟨_, rfl, by rw [HF.out], rfl⟩
        by_cases f2 : t.filter = 2
        · have hf : filterL t.filter = [112, 111, 114, 116] := by unfold filterL; rw [if_neg f1, if_pos f2]
          have HF := Lib.hid hf
          have g1 : (t.filter == 1) = false := by rw [beq_eq_false_iff_ne]; exact f1
          have g2 : (t.filter == 2) = true := by rw [beq_iff_eq]; exact f2
          clear hf f1 f2
          go_wp2_with fail
          go_meet
          exact ⟨_, rfl, by rw [HF.out], rfl⟩
        · have hf : filterL t.filter = [97, 110, 121] := by unfold filterL; rw [if_neg f1, if_neg f2]
          have HF := Lib.hid hf
          clear hf
          go_wp2_with fail
          go_meet
          exact ⟨_, rfl, by rw [HF.out], rfl⟩
      case rest => as_aux_lemma =>
      obtain ⟨w9, hW2, rfl, hw89⟩ := hcut
      subst hW2
      subst hw89
      clear c26
      have hfl : a3.length + 7 ≤ 9223372036854775807 ∧ a3.length + 7 + (filterL t.filter).length ≤ 9223372036854775807 ∧ a3.length + (7 + (filterL t.filter).length) ≤ 9223372036854775807 ∧ a3.length + 7 + (filterL t.filter).length + 1 ≤ 9223372036854775807 ∧ a3.length + ((filterL t.filter).length + 7) ≤ 9223372036854775807 ∧ a3.length + ((filterL t.filter).length + 7) + 1 ≤ 9223372036854775807 := by
        have h := HL.out.2.2.2.1
        simp only [filtL, lineL, joinL, filtB, List.length_append, List.length_cons, List.length_nil] at h
        omega
      obtain ⟨m1, m2, m3, m4, m5, m6⟩ := hfl
      obtain ⟨fl, hfl⟩ : ∃ fl, fl = filterL t.filter := ⟨_, rfl⟩
      rw [← hfl] at m2 m3 m4 m5 m6 ⊢
      have HFL := Lib.hid hfl
      clear hfl
      try dsimp only [Act.put]
      go_upto_region 21 with (fail)
      go_cut [3] (fun s3 w' => ∃ W2, W2 = w' ∧ s3 = .string ⟨a4.toArray⟩ ∧ w8 = W2)
      case first => as_aux_lemma =>
        go_wp2_with fail
        go_meet
        refine ⟨_, rfl, ?_, rfl⟩
        have hs : filtL t = [102, 105, 108, 116, 101, 114, 32] ++ fl ++ [10] := by rw [HFL.out]; simp [filtL, lineL, joinL, filtB]
        rw [HA.out.2.2.2.1, hs, ← List.append_assoc, ← List.append_assoc, ← str_append, ← str_append, ← str_append]
      case rest => as_aux_lemma =>
      obtain ⟨w9, hW2, rfl, hw89⟩ := hcut
      subst hW2
      subst hw89
      clear m1 m2 m3 m4 m5 m6
      go_upto_block 5 with (fail)
      go_cut [3] (fun s3 w' => ∃ W2, W2 = w' ∧ s3 = .string ⟨a5.toArray⟩ ∧ Turn (fun _ => False) w8 W2)
      case first => as_aux_lemma =>
        have hA2 : pairAcc statL a4 t.statics t.statics.length = a5 := by unfold pairAcc; rw [List.take_length]; exact HA.out.2.2.2.2.1.symm
        have hA2l : a5.length ≤ 100000000 := by have h := HL.out; omega
        have HA2 := Lib.hid (And.intro hA2 hA2l)
        clear hA2 hA2l
        go_wp2_with fail
        go_loopg [3, 8] t.statics.length (fun g' s3 i wr => ∃ (j : Nat) (pa : List UInt8), g' = t.statics.length - j ∧ j ≤ t.statics.length ∧ i = .int .i64 (j : Int) ∧ s3 = .string ⟨pa.toArray⟩ ∧ Hid (pa = pairAcc statL a4 t.statics j ∧ Turn (fun _ => False) w8 wr))
        case atStart => exact ⟨0, _, rfl, Nat.zero_le _, rfl, rfl, Lib.hid ⟨by simp [pairAcc], Turn.refl _ _⟩⟩
        case round =>
          obtain ⟨j, pa, rfl, hj, rfl, rfl, HR⟩ := hrel
          have kT2 := (HR.out.2.block T (block_lt kT) (fun h => h)).trans kT
          have cix : wr.cell? ⟨T, 27, none⟩ = some (.slice so t.statics.length sc) := (cell_of_block kT2 27).trans HP.out.1.stat
          by_cases hjl : j < t.statics.length
          · obtain ⟨y, hy⟩ : ∃ y, t.statics[j]? = some y := ⟨_, List.getElem?_eq_getElem hjl⟩
            obtain ⟨yb, yo, rfl, hyb, hyc, hyd⟩ := HP.out.2.2.2.2.2.2.1 j y hy
            have twr := tW.trans HR.out.2
            have hyl : yb < wr.heap.size := Nat.lt_of_lt_of_le hyb twr.size
            have cy : wr.cell? ⟨yb, yo + j * 2, none⟩ = some (.int .u32 (y.1 : Int)) := (World.cell?_of_block (twr.block yb hyb (fun h => h))).trans hyc
            have cz : wr.cell? ⟨yb, yo + j * 2 + 1, none⟩ = some (.int .u32 (y.2 : Int)) := (World.cell?_of_block (twr.block yb hyb (fun h => h))).trans hyd
            have hyr := HP.out.2.1.statics y (List.mem_of_getElem? hy)
            have i3 : (j : Int) < (t.statics.length : Int) := by omega
            have i4 : (0 : Int) ≤ (j : Int) := by omega
            have hb : (pa ++ statB ++ [32] ++ ipText y.1 ++ [32] ++ ipText y.2 ++ [10]).length ≤ 100000000 := by
              have h1 := pairAcc_step statL a4 t.statics j y hy
              have h2 : (pairAcc statL a4 t.statics (j + 1)).length ≤ (pairAcc statL a4 t.statics t.statics.length).length := by
                unfold pairAcc
                have := flat_take_le statL t.statics (j + 1)
                simp only [List.length_append, List.take_length] at this ⊢
                omega
              have h3 := HA2.out.2
              rw [h1, HA2.out.1, ← HR.out.1] at h2
              simp only [statL, lineL, joinL, List.length_append, List.length_cons, List.length_nil] at h2 ⊢
              omega
            simp only [statB, List.length_append, List.length_cons, List.length_nil] at hb
            have HY := Lib.hid (And.intro hy (And.intro hyr HR.out))
            clear hy hyr HR hyc hyd twr
            go_upto_region 25 with (fail)
            clear cix
            have cc0 := quiet_val (w := wr) (fun V tv => rip_text y.1 HY.out.2.1.1 V)
            have cc1 := quiet_val (w := wr) (fun V tv => rip_text y.2 HY.out.2.1.2 V)
            have CC := Lib.hid (And.intro cc0 cc1)
            have kk0 : ∀ d os, (Sort.grow (redrawn wr d) os).cell? ⟨T, 27, none⟩ = some (.slice (some ⟨yb, yo, none⟩) t.statics.length sc) := fun d os => (regr_cell kT2 d os 27).trans HP.out.1.stat
            have kk1 : ∀ d os, (Sort.grow (redrawn wr d) os).cell? ⟨yb, yo + j * 2, none⟩ = some (.int .u32 (y.1 : Int)) := fun d os => ((below_regrown wr d os).cell (p := ⟨yb, yo + j * 2, none⟩) hyl).trans cy
            have kk2 : ∀ d os, (Sort.grow (redrawn wr d) os).cell? ⟨yb, yo + j * 2 + 1, none⟩ = some (.int .u32 (y.2 : Int)) := fun d os => ((below_regrown wr d os).cell (p := ⟨yb, yo + j * 2 + 1, none⟩) hyl).trans cz
            clear cc0 cc1
            refine wp_region_quiet_below hmix (by kernel_rfl) ?_
            quiet_step (fail)
            refine wpQuiet_add rfl _ _ rfl _ _ rfl rfl (by simp only [List.length_append, List.length_cons, List.length_nil]; omega) ?_
            quiet_step (fail)
            quiet_step (fail)
            quiet_step (fail)
            quiet_step (fail)
            quiet_step (fail)
            quiet_step (fail)
            quiet_step (exact CC.out.1 _ _)
            refine wpQuiet_add rfl _ _ rfl _ _ rfl rfl (by simp only [List.length_append, List.length_cons, List.length_nil]; omega) ?_
            refine wpQuiet_add rfl _ _ rfl _ _ rfl rfl (by simp only [List.length_append, List.length_cons, List.length_nil]; omega) ?_
            quiet_step (fail)
            quiet_step (fail)
            quiet_step (fail)
            quiet_step (fail)
            quiet_step (fail)
            quiet_step (fail)
            quiet_step (exact CC.out.2 _ _)
            refine wpQuiet_add rfl _ _ rfl _ _ rfl rfl (by simp only [List.length_append, List.length_cons, List.length_nil]; omega) ?_
            refine wpQuiet_add rfl _ _ rfl _ _ rfl rfl (by simp only [List.length_append, List.length_cons, List.length_nil]; omega) ?_
            quiet_step (fail)
            refine wpQuiet_nil ?_
            intro _ hw'
            obtain ⟨⟨dq, osq⟩, hw''⟩ := hw'
            subst hw''
            have t4 : Turn (fun _ => False) wr (Sort.grow (redrawn wr dq) osq) := turn_of_below0 (below_regrown wr dq osq)
            generalize Sort.grow (redrawn wr dq) osq = w2 at *
            clear CC kk0 kk1 kk2
            clear cy cz
            go_wp2_with fail
            go_roundg (t.statics.length - (j + 1))
            case measure => omega
            case rel => exact ⟨j + 1, _, rfl, by omega, by go_num, rfl, Lib.hid ⟨by rw [pairAcc_step statL a4 t.statics j y HY.out.1, HY.out.2.2.1]; simp [statL, lineL, joinL, statB], HY.out.2.2.2.trans t4⟩⟩
          · have hje : j = t.statics.length := by omega
            subst hje
            go_wp2_with fail
            go_meet
            exact ⟨_, rfl, by rw [HR.out.1, HA2.out.1], HR.out.2⟩
      case rest => as_aux_lemma =>
      obtain ⟨w10, hW2, rfl, tn⟩ := hcut
      subst hW2
      have kTw10 := (tn.block T (block_lt kT) (fun h => h)).trans kT
      have kCw10 := (tn.block C0 (block_lt kC) (fun h => h)).trans kC
      have tWw10 := tW.trans tn
      clear kT kC tW tn
      have kT := kTw10
      have kC := kCw10
      have tW := tWw10
      clear kTw10 kCw10 tWw10
      go_upto_block 7 with (fail)
      go_cut [3] (fun s3 w' => ∃ W2, W2 = w' ∧ s3 = .string ⟨a6.toArray⟩ ∧ Turn (fun _ => False) w10 W2)
      case first => as_aux_lemma =>
        have hA2 : pairAcc twicL a5 t.twices t.twices.length = a6 := by unfold pairAcc; rw [List.take_length]; exact HA.out.2.2.2.2.2.1.symm
        have hA2l : a6.length ≤ 100000000 := by have h := HL.out; omega
        have HA2 := Lib.hid (And.intro hA2 hA2l)
        clear hA2 hA2l
        go_wp2_with fail
        go_loopg [3, 9] t.twices.length (fun g' s3 i wr => ∃ (j : Nat) (pa : List UInt8), g' = t.twices.length - j ∧ j ≤ t.twices.length ∧ i = .int .i64 (j : Int) ∧ s3 = .string ⟨pa.toArray⟩ ∧ Hid (pa = pairAcc twicL a5 t.twices j ∧ Turn (fun _ => False) w10 wr))
        case atStart => exact ⟨0, _, rfl, Nat.zero_le _, rfl, rfl, Lib.hid ⟨by simp [pairAcc], Turn.refl _ _⟩⟩
        case round =>
          obtain ⟨j, pa, rfl, hj, rfl, rfl, HR⟩ := hrel
          have kT2 := (HR.out.2.block T (block_lt kT) (fun h => h)).trans kT
          have cix : wr.cell? ⟨T, 28, none⟩ = some (.slice qo t.twices.length qc) := (cell_of_block kT2 28).trans HP.out.1.twic
          by_cases hjl : j < t.twices.length
          · obtain ⟨y, hy⟩ : ∃ y, t.twices[j]? = some y := ⟨_, List.getElem?_eq_getElem hjl⟩
            obtain ⟨yb, yo, rfl, hyb, hyc, hyd⟩ := HP.out.2.2.2.2.2.2.2 j y hy
            have twr := tW.trans HR.out.2
            have hyl : yb < wr.heap.size := Nat.lt_of_lt_of_le hyb twr.size
            have cy : wr.cell? ⟨yb, yo + j * 2, none⟩ = some (.int .u32 (y.1 : Int)) := (World.cell?_of_block (twr.block yb hyb (fun h => h))).trans hyc
            have cz : wr.cell? ⟨yb, yo + j * 2 + 1, none⟩ = some (.int .u32 (y.2 : Int)) := (World.cell?_of_block (twr.block yb hyb (fun h => h))).trans hyd
            have hyr := HP.out.2.1.twices y (List.mem_of_getElem? hy)
            have i3 : (j : Int) < (t.twices.length : Int) := by omega
            have i4 : (0 : Int) ≤ (j : Int) := by omega
            have hb : (pa ++ twicB ++ [32] ++ ipText y.1 ++ [32] ++ ipText y.2 ++ [10]).length ≤ 100000000 := by
              have h1 := pairAcc_step twicL a5 t.twices j y hy
              have h2 : (pairAcc twicL a5 t.twices (j + 1)).length ≤ (pairAcc twicL a5 t.twices t.twices.length).length := by
                unfold pairAcc
                have := flat_take_le twicL t.twices (j + 1)
                simp only [List.length_append, List.take_length] at this ⊢
                omega
              have h3 := HA2.out.2
              rw [h1, HA2.out.1, ← HR.out.1] at h2
              simp only [twicL, lineL, joinL, List.length_append, List.length_cons, List.length_nil] at h2 ⊢
              omega
            simp only [twicB, List.length_append, List.length_cons, List.length_nil] at hb
            have HY := Lib.hid (And.intro hy (And.intro hyr HR.out))
            clear hy hyr HR hyc hyd twr
            go_upto_region 29 with (fail)
            clear cix
            have cc0 := quiet_val (w := wr) (fun V tv => rip_text y.1 HY.out.2.1.1 V)
            have cc1 := quiet_val (w := wr) (fun V tv => rip_text y.2 HY.out.2.1.2 V)
            have CC := Lib.hid (And.intro cc0 cc1)
            have kk0 : ∀ d os, (Sort.grow (redrawn wr d) os).cell? ⟨T, 28, none⟩ = some (.slice (some ⟨yb, yo, none⟩) t.twices.length qc) := fun d os => (regr_cell kT2 d os 28).trans HP.out.1.twic
            have kk1 : ∀ d os, (Sort.grow (redrawn wr d) os).cell? ⟨yb, yo + j * 2, none⟩ = some (.int .u32 (y.1 : Int)) := fun d os => ((below_regrown wr d os).cell (p := ⟨yb, yo + j * 2, none⟩) hyl).trans cy
            have kk2 : ∀ d os, (Sort.grow (redrawn wr d) os).cell? ⟨yb, yo + j * 2 + 1, none⟩ = some (.int .u32 (y.2 : Int)) := fun d os => ((below_regrown wr d os).cell (p := ⟨yb, yo + j * 2 + 1, none⟩) hyl).trans cz
            clear cc0 cc1
            refine wp_region_quiet_below hmix (by kernel_rfl) ?_
            quiet_step (fail)
            refine wpQuiet_add rfl _ _ rfl _ _ rfl rfl (by simp only [List.length_append, List.length_cons, List.length_nil]; omega) ?_
            quiet_step (fail)
            quiet_step (fail)
            quiet_step (fail)
            quiet_step (fail)
            quiet_step (fail)
            quiet_step (fail)
            quiet_step (exact CC.out.1 _ _)
            refine wpQuiet_add rfl _ _ rfl _ _ rfl rfl (by simp only [List.length_append, List.length_cons, List.length_nil]; omega) ?_
            refine wpQuiet_add rfl _ _ rfl _ _ rfl rfl (by simp only [List.length_append, List.length_cons, List.length_nil]; omega) ?_
            quiet_step (fail)
            quiet_step (fail)
            quiet_step (fail)
            quiet_step (fail)
            quiet_step (fail)
            quiet_step (fail)
            quiet_step (exact CC.out.2 _ _)
            refine wpQuiet_add rfl _ _ rfl _ _ rfl rfl (by simp only [List.length_append, List.length_cons, List.length_nil]; omega) ?_
            refine wpQuiet_add rfl _ _ rfl _ _ rfl rfl (by simp only [List.length_append, List.length_cons, List.length_nil]; omega) ?_
            quiet_step (fail)
            refine wpQuiet_nil ?_
            intro _ hw'
            obtain ⟨⟨dq, osq⟩, hw''⟩ := hw'
            subst hw''
            have t4 : Turn (fun _ => False) wr (Sort.grow (redrawn wr dq) osq) := turn_of_below0 (below_regrown wr dq osq)
            generalize Sort.grow (redrawn wr dq) osq = w2 at *
            clear CC kk0 kk1 kk2
            clear cy cz
            go_wp2_with fail
            go_roundg (t.twices.length - (j + 1))
            case measure => omega
            case rel => exact ⟨j + 1, _, rfl, by omega, by go_num, rfl, Lib.hid ⟨by rw [pairAcc_step twicL a5 t.twices j y HY.out.1, HY.out.2.2.1]; simp [twicL, lineL, joinL, twicB], HY.out.2.2.2.trans t4⟩⟩
          · have hje : j = t.twices.length := by omega
            subst hje
            go_wp2_with fail
            go_meet
            exact ⟨_, rfl, by rw [HR.out.1, HA2.out.1], HR.out.2⟩
      case rest => as_aux_lemma =>
      obtain ⟨w11, hW2, rfl, tn⟩ := hcut
      subst hW2
      have kTw11 := (tn.block T (block_lt kT) (fun h => h)).trans kT
      have kCw11 := (tn.block C0 (block_lt kC) (fun h => h)).trans kC
      have tWw11 := tW.trans tn
      clear kT kC tW tn
      have kT := kTw11
      have kC := kCw11
      have tW := tWw11
      clear kTw11 kCw11 tWw11
      obtain ⟨ns, hns⟩ : ∃ n : Nat, t.sess = (n : Int) := ⟨t.sess.toNat, (Int.toNat_of_nonneg HP.out.2.1.sess.1).symm⟩
      obtain ⟨nq, hnq⟩ : ∃ n : Nat, t.queue = (n : Int) := ⟨t.queue.toNat, (Int.toNat_of_nonneg HP.out.2.1.queue.1).symm⟩
      have hns2 : ns ≤ 9223372036854775807 := by have := HP.out.2.1.sess.2; omega
      have hnq2 : nq ≤ 9223372036854775807 := by have := HP.out.2.1.queue.2; omega
      have hQ : quotaL t = lineL [quotaB, decL ns, decL nq] := by unfold quotaL; rw [hns, hnq]; rfl
      have hb : (a6 ++ quotaB ++ [32] ++ decL ns ++ [32] ++ decL nq ++ [10] ++ rateB ++ [32] ++ decL t.rate ++ [32] ++ decL t.burst ++ [10]).length ≤ 100000000 := by
        have h := HL.out.2.2.2.2.2.2
        rw [hQ] at h
        simp only [rateL, lineL, joinL, List.length_append, List.length_cons, List.length_nil] at h ⊢
        omega
      simp only [quotaB, rateB, List.length_append, List.length_cons, List.length_nil] at hb
      have HQ := Lib.hid (And.intro hns (And.intro hnq hQ))
      clear hns hnq hQ
      have hwr : IntKind.u64.wrap (t.rate : Int) = (t.rate : Int) := by have := HP.out.2.1.rate; unfold IntKind.wrap; simp [IntKind.bits, IntKind.signed]; omega
      have hwb : IntKind.u64.wrap (t.burst : Int) = (t.burst : Int) := by have := HP.out.2.1.burst; unfold IntKind.wrap; simp [IntKind.bits, IntKind.signed]; omega
      go_upto_region 30 with (fail)
      have cc0 := quiet_val (w := w11) (fun V tv => rsdec_any ns hns2 V)
      have cc1 := quiet_val (w := w11) (fun V tv => rsdec_any nq hnq2 V)
      have cc2 := quiet_val (w := w11) (fun V tv => rdec_any t.rate (by have := HP.out.2.1.rate; omega) V)
      have cc3 := quiet_val (w := w11) (fun V tv => rdec_any t.burst (by have := HP.out.2.1.burst; omega) V)
      have CC := Lib.hid (And.intro cc0 (And.intro cc1 (And.intro cc2 cc3)))
      have kk0 : ∀ d os, (Sort.grow (redrawn w11 d) os).cell? ⟨T, 29, none⟩ = some (.int .i64 (ns : Int)) := fun d os => (regr_cell kT d os 29).trans (by rw [HP.out.1.sess, HQ.out.1])
      have kk1 : ∀ d os, (Sort.grow (redrawn w11 d) os).cell? ⟨T, 30, none⟩ = some (.int .i64 (nq : Int)) := fun d os => (regr_cell kT d os 30).trans (by rw [HP.out.1.queue, HQ.out.2.1])
      have kk2 : ∀ d os, (Sort.grow (redrawn w11 d) os).cell? ⟨T, 31, none⟩ = some (.int .u32 (t.rate : Int)) := fun d os => (regr_cell kT d os 31).trans HP.out.1.rate
      have kk3 : ∀ d os, (Sort.grow (redrawn w11 d) os).cell? ⟨T, 32, none⟩ = some (.int .u32 (t.burst : Int)) := fun d os => (regr_cell kT d os 32).trans HP.out.1.burst
      clear cc0 cc1 cc2 cc3
      refine wp_region_quiet_below hmix (by kernel_rfl) ?_
      quiet_step (fail)
      refine wpQuiet_add rfl _ _ rfl _ _ rfl rfl (by simp only [List.length_append, List.length_cons, List.length_nil]; omega) ?_
      quiet_step (fail)
      quiet_step (fail)
      quiet_step (exact CC.out.1 _ _)
      refine wpQuiet_add rfl _ _ rfl _ _ rfl rfl (by simp only [List.length_append, List.length_cons, List.length_nil]; omega) ?_
      refine wpQuiet_add rfl _ _ rfl _ _ rfl rfl (by simp only [List.length_append, List.length_cons, List.length_nil]; omega) ?_
      quiet_step (fail)
      quiet_step (fail)
      quiet_step (exact CC.out.2.1 _ _)
      refine wpQuiet_add rfl _ _ rfl _ _ rfl rfl (by simp only [List.length_append, List.length_cons, List.length_nil]; omega) ?_
      refine wpQuiet_add rfl _ _ rfl _ _ rfl rfl (by simp only [List.length_append, List.length_cons, List.length_nil]; omega) ?_
      quiet_step (fail)
      quiet_step (fail)
      quiet_step (fail)
      quiet_step (exact CC.out.2.2.1 _ _)
      refine wpQuiet_add rfl _ _ rfl _ _ rfl rfl (by simp only [List.length_append, List.length_cons, List.length_nil]; omega) ?_
      refine wpQuiet_add rfl _ _ rfl _ _ rfl rfl (by simp only [List.length_append, List.length_cons, List.length_nil]; omega) ?_
      quiet_step (fail)
      quiet_step (fail)
      quiet_step (fail)
      quiet_step (exact CC.out.2.2.2 _ _)
      refine wpQuiet_add rfl _ _ rfl _ _ rfl rfl (by simp only [List.length_append, List.length_cons, List.length_nil]; omega) ?_
      refine wpQuiet_add rfl _ _ rfl _ _ rfl rfl (by simp only [List.length_append, List.length_cons, List.length_nil]; omega) ?_
      quiet_step (fail)
      refine wpQuiet_nil ?_
      intro _ hw'
      obtain ⟨⟨dq, osq⟩, hw''⟩ := hw'
      subst hw''
      have t4 : Turn (fun _ => False) w11 (Sort.grow (redrawn w11 dq) osq) := turn_of_below0 (below_regrown w11 dq osq)
      generalize Sort.grow (redrawn w11 dq) osq = w2 at *
      clear CC kk0 kk1 kk2 kk3
      go_wp2_with fail
      go_roundg (l.length - (k + 1))
      case measure => omega
      case rel => exact ⟨k + 1, _, rfl, by omega, by go_num, rfl, Lib.hid ⟨by rw [HP.out.2.2.2.1, HP.out.2.2.2.2.1, HQ.out.2.2]; simp [rateL, lineL, joinL, quotaB, rateB], (t4.block C0 (block_lt kC) (fun h => h)).trans kC, tW.trans t4⟩⟩
    · have hke : k = l.length := by omega
      subst hke
      have hall : acc = textL c := by rw [HX.out.1, refAcc, textL, show c.tens.take l.length = c.tens by rw [← HCS.out.2.2.2.1]; exact List.take_of_length_le (by simp)]
      have HAL := Lib.hid hall
      clear hall
      go_wp2_with fail
      go_ret
      exact ⟨by rw [HAL.out]; rfl, HX.out.2.2⟩
end Go.Proofs.YtbkpbcmjgbdbkaaGreatDoor
