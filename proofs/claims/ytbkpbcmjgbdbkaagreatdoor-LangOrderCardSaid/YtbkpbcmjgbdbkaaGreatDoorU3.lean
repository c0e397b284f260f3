/- lang.Text: the walk. Condition: Env. -/
import Derived.Test.YtbkpbcmjgbdbkaaGreatDoorU2
import Derived.Test.YtbkpbcmjgbdbkaaGreatDoorN6
import Derived.Test.YtbkpbcmjgbdbkaaGreatDoorP3
import Derived.Deep.DeepCutAuto
namespace Go.Proofs.YtbkpbcmjgbdbkaaGreatDoor
open Go.RowKit Go.Lib
set_option linter.unusedVariables false
set_option linter.unusedSimpArgs false
set_option maxRecDepth 100000
set_option pp.maxSteps 3000

def strCs (ps : List (List UInt8)) : List Value := ps.map fun p => .string ⟨p.toArray⟩
def poolCs (t : Ten) (j : Nat) : List Value := strCells (poolB :: (t.pool.take j).map ipText)
theorem flat_take {α : Type} (f : α → List UInt8) (l : List α) (j : Nat) (x : α) (h : l[j]? = some x) : (l.take (j + 1)).flatMap f = (l.take j).flatMap f ++ f x := by
  rw [List.take_add_one, h, List.flatMap_append]
  simp
theorem flat_take_le {α : Type} (f : α → List UInt8) (l : List α) (j : Nat) : ((l.take j).flatMap f).length ≤ (l.flatMap f).length := by
  conv => rhs; rw [← List.take_append_drop j l]
  rw [List.flatMap_append, List.length_append]
  omega
theorem flat_take_le1 {α : Type} (f : α → List UInt8) (l : List α) (j : Nat) (x : α) (h : l[j]? = some x) : ((l.take j).flatMap f).length + (f x).length ≤ (l.flatMap f).length := by
  have := flat_take_le f l (j + 1)
  rw [flat_take f l j x h, List.length_append] at this
  exact this
set_option maxHeartbeats 4000000 in
theorem text_any (c : Cfg) (tv : Value) (l : List TenM) (w : World) (he : Env w) (hc : RngCfg c) (hwc : WfCfg c) (hT : TensIn w tv l) (hl : l.map (·.1) = c.tens) (hlen : (textL c).length ≤ 100000000) :
    Calls Tryz.prog 15 #[.agg (cfgRow c tv)] w (TextPost (textL c) w) := by
  have hmix : Tryz.prog.follows .mixedOrders = true := by kernel_rfl
  have hsz := cfgRow_size hwc tv
  have hmac : (u8row c.mac).size = 6 := (u8row_len c.mac).trans hwc.1
  have hout : (u8row c.out).size = 6 := (u8row_len c.out).trans hwc.2.1
  have hnext : (u8row c.next).size = 6 := (u8row_len c.next).trans hwc.2.2.1
  have hkey : (u8row c.key).size = 8 := (u8row_len c.key).trans hwc.2.2.2
  obtain ⟨cs, hcs⟩ : ∃ cs, cs = cfgRow c tv := ⟨_, rfl⟩
  rw [← hcs]
  obtain ⟨gip, gdr, gmac, gout, gnext, gkey⟩ := cfg_get hwc tv
  have gtv := cfgRow_get hwc tv
  rw [← hcs] at gip gdr gmac gout gnext gkey gtv
  have b1 := block_alloc_old (o := .cells #[.pointer none, .slice none 0 0] 90) (block_alloc_new w (.cells cs 29))
  have b2 := block_alloc_new (w.alloc (.cells cs 29)) (.cells #[.pointer none, .slice none 0 0] 90)
  have hs1 : (w.alloc (.cells cs 29)).heap.size = w.heap.size + 1 := by simp
  rw [hs1] at b2
  have t1 : Turn (fun k => w.heap.size ≤ k) w ((w.alloc (.cells cs 29)).alloc (.cells #[.pointer none, .slice none 0 0] 90)) := ((Turn.refl _ w).alloc _).alloc _
  have tx0 : TxAt w ((w.alloc (.cells cs 29)).alloc (.cells #[.pointer none, .slice none 0 0] 90)) (w.heap.size + 1) [] :=
    ⟨⟨_, _, Or.inl rfl, b2, World.ownsRow_nil _ _ _ _, by simp [Value.ownBlock]⟩, t1, he.turn t1 (fun i hi e => by have := he.six; omega), by omega, block_lt b2⟩
  have HCS := Lib.hid (And.intro hcs (And.intro hsz (And.intro hlen (And.intro hl hT))))
  clear hcs hsz hlen b2 t1 hs1 hl hT
  go_enter Tryz.func15, Tryz.ntmps15
  go_wp2_with fail
  generalize (w.alloc (.cells cs 29)).alloc (.cells #[.pointer none, .slice none 0 0] 90) = W at *
  have HE := Lib.hid tx0.env
  have cI := quiet_val (w := W) (fun V t => pipText_any c.ip hc.ip V (HE.out.keep t))
  have cM := quiet_val (w := W) (f := 34) (args := #[.agg (u8row c.mac)]) (fun V t => pmacText_any c.mac hwc.1 hc.mac V)
  have cO := quiet_val (w := W) (f := 34) (args := #[.agg (u8row c.out)]) (fun V t => pmacText_any c.out hwc.2.1 hc.out V)
  have cN := quiet_val (w := W) (f := 34) (args := #[.agg (u8row c.next)]) (fun V t => pmacText_any c.next hwc.2.2.1 hc.next V)
  have cK := quiet_val (w := W) (f := 35) (args := #[.agg (u8row c.key)]) (fun V t => pkeyText_any c.key hwc.2.2.2 hc.key V)
  have cD := quiet_val (w := W) (fun V t => num_any c.drain hc.drain V (HE.out.keep t))
  have C := Lib.hid (And.intro cI (And.intro cM (And.intro cO (And.intro cN (And.intro cK cD)))))
  have KL := Lib.hid (And.intro (regr_load b1 hmac agg25 size25 gmac) (And.intro (regr_load b1 hout agg25 size25 gout) (And.intro (regr_load b1 hnext agg25 size25 gnext) (regr_load b1 hkey agg26 size26 gkey))))
  have kip : ∀ d os, (Sort.grow (redrawn W d) os).cell? ⟨w.heap.size, 0, none⟩ = some (.int .u32 (c.ip : Int)) := fun d os => (regr_cell b1 d os 0).trans gip
  have kdr : ∀ d os, (Sort.grow (redrawn W d) os).cell? ⟨w.heap.size, 27, none⟩ = some (.int .u32 (c.drain : Int)) := fun d os => (regr_cell b1 d os 27).trans gdr
  have HG := Lib.hid (And.intro b1 (And.intro tx0 (And.intro he (And.intro hc (And.intro hwc gtv)))))
  clear cI cM cO cN cK cD gip gdr gmac gout gnext gkey gtv b1 tx0 hmac hout hnext hkey he hc hwc
  refine region_lead_tail (C := fun w' => ∃ p : Regrown, w' = Sort.grow (redrawn W p.d) p.os) 19 hmix (by kernel_rfl) (regr_start W) _ rfl _ (.inl ⟨rfl, fun w => rfl⟩) (fun _ _ _ h => h) ?_
  simp only [List.take_succ_cons, List.take_zero, List.drop_succ_cons, List.drop_zero]
  repeat (quiet_step (fail))
  quiet_step (exact C.out.1 _ _)
  repeat (quiet_step (fail))
  refine wpQuiet_load rfl 25 _ rfl (.agg (u8row c.mac)) KL.out.1 ?_
  quiet_step (exact C.out.2.1 _ _)
  repeat (quiet_step (fail))
  refine wpQuiet_load rfl 25 _ rfl (.agg (u8row c.out)) KL.out.2.1 ?_
  quiet_step (exact C.out.2.2.1 _ _)
  repeat (quiet_step (fail))
  refine wpQuiet_load rfl 25 _ rfl (.agg (u8row c.next)) KL.out.2.2.1 ?_
  quiet_step (exact C.out.2.2.2.1 _ _)
  repeat (quiet_step (fail))
  refine wpQuiet_load rfl 26 _ rfl (.agg (u8row c.key)) KL.out.2.2.2 ?_
  quiet_step (exact C.out.2.2.2.2.1 _ _)
  repeat (quiet_step (fail))
  quiet_step (exact C.out.2.2.2.2.2 _ _)
  repeat (quiet_step (fail))
  refine wpQuiet_nil ?_
  intro _ hw'
  obtain ⟨⟨dq, osq⟩, hw''⟩ := hw'
  subst hw''
  have t4 : Turn (fun _ => False) W (Sort.grow (redrawn W dq) osq) := turn_of_below0 (below_regrown W dq osq)
  generalize Sort.grow (redrawn W dq) osq = w2 at *
  clear KL C kip kdr HE
  -- HEAD CALL
  go_wp2_with fail
  have tx2 := HG.out.2.1.quiet t4
  have hlen0 : ([] ++ lineL [gwB, ipText c.ip, macText c.mac, macText c.out, macText c.next, keyText c.key, drB, decL c.drain]).length ≤ 100000000 := by
    have h1 := HCS.out.2.2.1
    show (headL c).length ≤ 100000000
    unfold textL at h1
    rw [List.length_append] at h1
    omega
  refine (wline_tx tx2 HG.out.2.2.1 [gwB, ipText c.ip, macText c.mac, macText c.out, macText c.next, keyText c.key, drB, decL c.drain] 8 rfl (by omega) (by omega) hlen0).mono ?_
  rintro e w3 ⟨rfl, tx3, t5⟩
  have b3 := buf_keep (block_alloc_old (o := .cells (strCells [gwB, ipText c.ip, macText c.mac, macText c.out, macText c.next, keyText c.key, drB, decL c.drain]).toArray 9) ((t4.block _ (block_lt HG.out.1) (fun h => h)).trans HG.out.1)) t5 (by omega) (by decide)
  have c28 : w3.cell? ⟨w.heap.size, 28, none⟩ = some tv := (cell_of_block b3 28).trans HG.out.2.2.2.2.2
  obtain ⟨ao, cp, htv, hTl, hTr⟩ := HCS.out.2.2.2.2.1
  rw [List.length_map] at htv hTl
  subst htv
  have HTx := Lib.hid (show TxAt w w3 (w.heap.size + 1) (headL c) from tx3)
  have HTR := Lib.hid hTr
  clear tx2 tx3 t4 t5 b3 hTr hlen0
  go_wp2_with fail
  go_loopg [39] l.length (fun g' i wr => ∃ k : Nat, g' = l.length - k ∧ k ≤ l.length ∧ i = .int .i64 (k : Int) ∧ Hid (TxAt w wr (w.heap.size + 1) (headL c ++ (c.tens.take k).flatMap tenL)))
  case atStart => exact ⟨0, rfl, Nat.zero_le _, rfl, Lib.hid (by rw [List.take_zero, List.flatMap_nil, List.append_nil]; exact HTx.out)⟩
  case round =>
    clear c28 HTx
    obtain ⟨k, rfl, hk, rfl, HX⟩ := hrel
    by_cases hlt : k < l.length
    · obtain ⟨x, hx⟩ : ∃ x, l[k]? = some x := ⟨_, List.getElem?_eq_getElem hlt⟩
      obtain ⟨z1, bb, off, rfl, hbb, hrow⟩ := HTR.out k (tmRow x) (by rw [List.getElem?_map, hx]; rfl)
      obtain ⟨t, p, s, q⟩ := x
      have hxm := List.mem_of_getElem? hx
      obtain ⟨hwt, hnp, hns, hnq⟩ := HCS.out.2.2.2.2.2 _ hxm
      dsimp only at hwt hnp hns hnq
      have htk : c.tens[k]? = some t := by rw [← HCS.out.2.2.2.1, List.getElem?_map, hx]; rfl
      have hR := HG.out.2.2.2.1.tens t (List.mem_of_getElem? htk)
      obtain ⟨row, hrw⟩ : ∃ row, row = tmRow (t, p, s, q) := ⟨_, rfl⟩
      rw [← hrw] at hrow z1
      have hTG : TenGet t p s q row := by rw [hrw]; exact tenGet t hwt p s q
      obtain ⟨po, pc, rfl, hpl, hpr⟩ := hnp
      obtain ⟨so, sc, rfl, hsl, hsr⟩ := hns
      obtain ⟨qo, qc, rfl, hql, hqr⟩ := hnq
      obtain ⟨acc, hacc⟩ : ∃ acc, acc = headL c ++ (c.tens.take k).flatMap tenL := ⟨_, rfl⟩
      have hlen1 : (acc ++ tenL t).length ≤ 100000000 := by
        have h1 := HCS.out.2.2.1
        unfold textL at h1
        have h2 := flat_take_le1 tenL c.tens k t htk
        rw [hacc]
        simp only [List.length_append] at h1 ⊢
        omega
      have hnew : headL c ++ (c.tens.take (k + 1)).flatMap tenL = acc ++ tenL t := by rw [flat_take tenL c.tens k t htk, hacc, List.append_assoc]
      have hT0 : TxAt w wr (w.heap.size + 1) acc := by rw [hacc]; exact HX.out
      have kA := run_loadAt_at (W := wr) (b := bb) (o := off + k * 33) z1 (fun j u hj => (World.cell?_of_block (hT0.turn.block bb hbb (by omega))).trans (hrow j u hj))
      have hone := hTG.one rfl rfl rfl
      obtain ⟨st, k1, tt1⟩ := store_whole (block_alloc_new wr (.cells (tenZero ⟨#[]⟩) 45)) (cs := row) (by rw [z1]; rfl) hone
      have tx1 := (hT0.quiet ((Turn.refl (fun _ => False) wr).alloc (.cells (tenZero ⟨#[]⟩) 45)))
      have tx2 : TxAt w ((wr.alloc (.cells (tenZero ⟨#[]⟩) 45)).setRow wr.heap.size row) (w.heap.size + 1) acc := ⟨tx1.buf.off tt1 (fun e => by have := tx1.low; have := hT0.bl; omega) (fun kk cs h => by rintro rfl; rw [block_alloc_new] at h; cases h), tx1.turn.trans2 tt1 (fun i hi e => by have := hT0.bl; have := hT0.low; omega), tx1.env.turn tt1 (fun i hi e => by have := hT0.bl; have := hT0.env.six; omega), tx1.low, Nat.lt_of_lt_of_le tx1.bl tt1.size⟩
      have hi45 : (Tryz.prog.info? 45).map (·.size) = some row.size := by rw [z1]; kernel_rfl
      have i1 : (0 : Int) ≤ (k : Int) := by omega
      have i2 : (k : Int) < (l.length : Int) := by omega
      have HK := Lib.hid (And.intro tx2 (And.intro k1 (And.intro hTG (And.intro hR (And.intro hwt (And.intro hlen1 (And.intro hnew (And.intro hpr (And.intro hsr hqr)))))))))
      have hbT : w.heap.size + 1 < wr.heap.size := hT0.bl
      clear hx HX hxm htk hacc hT0 hrow hrw tx1 tx2 k1 tt1 hTG hR hwt hlen1 hnew hpr hsr hqr hone
      go_upto_region 6 with (first | (refine wpList_load_run rfl 45 _ rfl (.agg row) kA ?_) | (refine wpList_store_put rfl 45 _ _ rfl wr.heap.size 0 row rfl rfl hi45 _ st ?_))
      clear kA st hi45 i1 i2
      obtain ⟨tx, kT, hP⟩ := HK.out
      have HP := Lib.hid hP
      clear hP HK
      generalize (wr.alloc (.cells (tenZero ⟨#[]⟩) 45)).setRow wr.heap.size row = W1 at *
      generalize wr.heap.size = T at *
      have hk8 : (u8row t.key).size = 8 := (u8row_len t.key).trans HP.out.2.2.1.key
      have hk6 : (u8row t.vmac).size = 6 := (u8row_len t.vmac).trans HP.out.2.2.1.vmac
      have hk7 : (u8row t.host).size = 6 := (u8row_len t.host).trans HP.out.2.2.1.host
      have HE := Lib.hid tx.env
      have cc0 := quiet_val (w := W1) (fun V tv => num_any t.vni HP.out.2.1.vni V (HE.out.keep tv))
      have cc1 := quiet_val (w := W1) (f := 35) (args := #[.agg (u8row t.key)]) (fun V tv => pkeyText_any t.key HP.out.2.2.1.key HP.out.2.1.key V)
      have cc2 := quiet_val (w := W1) (fun V tv => pipText_any t.vtep HP.out.2.1.vtep V (HE.out.keep tv))
      have cc3 := quiet_val (w := W1) (f := 34) (args := #[.agg (u8row t.vmac)]) (fun V tv => pmacText_any t.vmac HP.out.2.2.1.vmac HP.out.2.1.vmac V)
      have cc4 := quiet_val (w := W1) (f := 34) (args := #[.agg (u8row t.host)]) (fun V tv => pmacText_any t.host HP.out.2.2.1.host HP.out.2.1.host V)
      have CC := Lib.hid (And.intro cc0 (And.intro cc1 (And.intro cc2 (And.intro cc3 cc4))))
      have ll0 := regr_load kT (r := u8row t.key) hk8 agg26 size26 HP.out.1.key
      have ll1 := regr_load kT (r := u8row t.vmac) hk6 agg25 size25 HP.out.1.vmac
      have ll2 := regr_load kT (r := u8row t.host) hk7 agg25 size25 HP.out.1.host
      have KL := Lib.hid (And.intro ll0 (And.intro ll1 ll2))
      have kk0 : ∀ d os, (Sort.grow (redrawn W1 d) os).cell? ⟨T, 0, none⟩ = some (.string t.name) := fun d os => (regr_cell kT d os 0).trans HP.out.1.name
      have kk1 : ∀ d os, (Sort.grow (redrawn W1 d) os).cell? ⟨T, 1, none⟩ = some (.int .u32 (t.vni : Int)) := fun d os => (regr_cell kT d os 1).trans HP.out.1.vni
      have kk2 : ∀ d os, (Sort.grow (redrawn W1 d) os).cell? ⟨T, 10, none⟩ = some (.int .u32 (t.vtep : Int)) := fun d os => (regr_cell kT d os 10).trans HP.out.1.vtep
      have HB := Lib.hid (And.intro tx kT)
      clear tx kT HE cc0 cc1 cc2 cc3 cc4 ll0 ll1 ll2
      refine region_lead_tail (C := fun w' => ∃ p : Regrown, w' = Sort.grow (redrawn W1 p.d) p.os) 18 hmix (by kernel_rfl) (regr_start W1) _ rfl _ (.inl ⟨rfl, fun w => rfl⟩) (fun _ _ _ h => h) ?_
      simp only [List.take_succ_cons, List.take_zero, List.drop_succ_cons, List.drop_zero]
      repeat (quiet_step (fail))
      quiet_step (exact CC.out.1 _ _)
      repeat (quiet_step (fail))
      refine wpQuiet_load rfl 26 _ rfl (.agg (u8row t.key)) KL.out.1 ?_
      quiet_step (exact CC.out.2.1 _ _)
      repeat (quiet_step (fail))
      quiet_step (exact CC.out.2.2.1 _ _)
      repeat (quiet_step (fail))
      refine wpQuiet_load rfl 25 _ rfl (.agg (u8row t.vmac)) KL.out.2.1 ?_
      quiet_step (exact CC.out.2.2.2.1 _ _)
      repeat (quiet_step (fail))
      refine wpQuiet_load rfl 25 _ rfl (.agg (u8row t.host)) KL.out.2.2 ?_
      quiet_step (exact CC.out.2.2.2.2 _ _)
      repeat (quiet_step (fail))
      refine wpQuiet_nil ?_
      intro _ hw'
      obtain ⟨⟨dq, osq⟩, hw''⟩ := hw'
      subst hw''
      have t4 : Turn (fun _ => False) W1 (Sort.grow (redrawn W1 dq) osq) := turn_of_below0 (below_regrown W1 dq osq)
      generalize Sort.grow (redrawn W1 dq) osq = w2 at *
      clear CC KL kk0 kk1 kk2
      go_wp2_with fail
      have hlenx : (acc ++ lineL [tenB, t.name.data.toList, vniB, decL t.vni, keyB, keyText t.key, vtepB, ipText t.vtep, macText t.vmac, hostB, macText t.host]).length ≤ 100000000 := by
        have h1 := HP.out.2.2.2.1
        show (acc ++ tenHeadL t).length ≤ 100000000
        simp only [tenL, List.length_append] at h1 ⊢
        omega
      refine (wline_tx (HB.out.1.quiet t4) HG.out.2.2.1 [tenB, t.name.data.toList, vniB, decL t.vni, keyB, keyText t.key, vtepB, ipText t.vtep, macText t.vmac, hostB, macText t.host] 11 rfl (by omega) (by omega) hlenx).mono ?_
      rintro e w5 ⟨rfl, tx, t5⟩
      have kT := buf_keep (block_alloc_old (o := .cells (strCells [tenB, t.name.data.toList, vniB, decL t.vni, keyB, keyText t.key, vtepB, ipText t.vtep, macText t.vmac, hostB, macText t.host]).toArray 9) ((t4.block _ (block_lt HB.out.2) (fun h => h)).trans HB.out.2)) t5 (by omega) (by decide)
      change TxAt w w5 (w.heap.size + 1) (acc ++ tenHeadL t) at tx
      clear t4 t5 hlenx HB
      clear hk8 hk6 hk7
      have c23 : w5.cell? ⟨T, 23, none⟩ = some (.slice po t.pool.length pc) := (cell_of_block kT 23).trans HP.out.1.pool
      go_upto_if 66 with (fail)
      go_cut [] (fun w' => ∃ W2, W2 = w' ∧ TxAt w W2 (w.heap.size + 1) (acc ++ tenHeadL t ++ poolL t) ∧ W2.heap[T]? = some (.cells row 45 (0, 0)))
      case first =>
        by_cases h0 : t.pool.length = 0
        · have h0' : ¬ (0 : Int) < (t.pool.length : Int) := by omega
          have hpe : poolL t = [] := if_pos h0
          have HPE := Lib.hid hpe
          clear hpe h0
          go_wp2_with fail
          go_meet
          exact ⟨_, rfl, by rw [HPE.out, List.append_nil]; exact tx, kT⟩
        · have h0' : (0 : Int) < (t.pool.length : Int) := by omega
          have hpe : poolL t = lineL (poolB :: t.pool.map ipText) := if_neg h0
          have HPE := Lib.hid hpe
          have own0 := own_new (w := w5) [.string ⟨poolB.toArray⟩] 1 rfl (by omega)
          have tx6 := tx.quiet ((Turn.refl (fun _ => False) w5).alloc (.cells #[.string ⟨poolB.toArray⟩] 9))
          have kT6 := block_alloc_old (o := .cells #[.string ⟨poolB.toArray⟩] 9) kT
          have hTlo := block_lt kT
          have c236 : (w5.alloc (.cells #[.string ⟨#[112, 111, 111, 108]⟩] 9)).cell? ⟨T, 23, none⟩ = some (.slice po t.pool.length pc) := (cell_of_block kT6 23).trans HP.out.1.pool
          obtain ⟨i0, hi0, hz0, hz1, hz2⟩ := info_parts info9s
          have HW := Lib.hid (And.intro own0 (And.intro tx6 kT6))
          have hblo : w.heap.size + 1 < w5.heap.size := tx.bl
          clear hpe h0 own0 tx6 kT6 tx kT
          go_wp2_with fail
          clear h0'
          generalize decide (0 < t.pool.length) = bq
          go_loopg [6, 71] t.pool.length (fun g' s6 i wr => ∃ (j : Nat) (ao : Option Addr) (pcap : Nat), g' = t.pool.length - j ∧ j ≤ t.pool.length ∧ i = .int .i64 (j : Int) ∧ s6 = .slice ao (j + 1) pcap ∧ Hid (wr.ownsRow w5.heap.size 9 1 (.slice ao (j + 1) pcap) (j + 1) (poolCs t j) ∧ TxAt w wr (w.heap.size + 1) (acc ++ tenHeadL t) ∧ wr.heap[T]? = some (.cells row 45 (0, 0)) ∧ w5.heap.size ≤ wr.heap.size))
          case atStart => exact ⟨0, _, _, rfl, Nat.zero_le _, rfl, rfl, Lib.hid ⟨HW.out.1, HW.out.2.1, HW.out.2.2, by simp⟩⟩
          case round =>
            clear c23 c236 HW
            obtain ⟨j, ao, pcap, rfl, hj, rfl, rfl, HR⟩ := hrel
            by_cases hjl : j < t.pool.length
            · obtain ⟨y, hy⟩ : ∃ y, t.pool[j]? = some y := ⟨_, List.getElem?_eq_getElem hjl⟩
              obtain ⟨yb, yo, rfl, hyb, hyc⟩ := HP.out.2.2.2.2.2.1 j y hy
              have cy : wr.cell? ⟨yb, yo + j, none⟩ = some (.int .u32 (y : Int)) := (World.cell?_of_block (HR.out.2.1.turn.block yb hyb (by omega))).trans hyc
              have hcall := pipText_any y (HP.out.2.1.pool y (List.mem_of_getElem? hy)) wr HR.out.2.1.env
              have i3 : (j : Int) < (t.pool.length : Int) := by omega
              have i4 : (0 : Int) ≤ (j : Int) := by omega
              have HY := Lib.hid (And.intro hy HR.out)
              clear hy hyc HR
              go_wp2_with fail
              refine hcall.mono ?_
              rintro e w6 ⟨rfl, t6⟩
              obtain ⟨own1, tx7, kT7, hl7⟩ := HY.out.2
              have own2 := (ownsRow_turn own1 t6 (fun _ _ h => h)).alloc (.cells #[.string ⟨(ipText y).toArray⟩] 9)
              have tx8 := (tx7.quiet t6).quiet ((Turn.refl (fun _ => False) w6).alloc (.cells #[.string ⟨(ipText y).toArray⟩] 9))
              have kT8 := block_alloc_old (o := .cells #[.string ⟨(ipText y).toArray⟩] 9) ((t6.block T (block_lt kT7) (fun h => h)).trans kT7)
              have hl8 : w5.heap.size ≤ w6.heap.size := Nat.le_trans hl7 t6.size
              have H8 := Lib.hid (And.intro own2 (And.intro tx8 kT8))
              clear own1 tx7 kT7 tx8 kT8 t6 hl7
              go_wp2_with (at_builtin; refine wpList_append_own_at _ rfl _ _ 54 rfl w5.heap.size 9 i0 (.string ⟨#[]⟩) 1 16 Tryz.underlying54 hi0 hz0 hz1 hz2 rfl (by decide) _ _ _ rfl own2 ⟨w6.heap.size, 0, none⟩ 1 1 [.string ⟨(ipText y).toArray⟩] rfl rfl (cell_one_new _ _ _) (by intro u hu; simp at hu; rw [hu]; rfl) (by unfold maxLen; omega) (by omega) (by simp; omega) ?_)
              intro v9 w9 own9 hgrow _ hat
              obtain ⟨own2b, tx8, kT8⟩ := H8.out
              have t9 := turn_of_grown hgrow
              have hto : ∀ k, (Value.slice ao (j + 1) pcap).ownBlock = some k → w5.heap.size ≤ k ∧ ∃ cs, (w6.alloc (.cells #[.string ⟨(ipText y).toArray⟩] 9)).heap[k]? = some (.cells cs 9 (0, 0)) := fun k hk => ⟨own1_low own2b hk, own_cells own2b hk⟩
              have tx9 := tx8.off HG.out.2.2.1 t9 (fun k e => by have := (hto k e).1; omega) (fun k e => by have := (hto k e).1; omega) (fun k cs e h => by obtain ⟨cs', hc⟩ := (hto k e).2; rw [h] at hc; cases hc)
              have kT9 := (t9.block T (block_lt kT8) (fun e => by have := (hto T e).1; omega)).trans kT8
              obtain ⟨ao9, cap9, hv9, _⟩ := own_form own9 kT9 (by decide)
              have hcs9 : poolCs t j ++ [.string ⟨(ipText y).toArray⟩] = poolCs t (j + 1) := by
                unfold poolCs
                rw [List.take_add_one, HY.out.1]; simp [strCells]
              rw [hcs9] at own9
              have H9 := Lib.hid (And.intro own9 (And.intro tx9 kT9))
              have hl9 := t9.size
              have hl10 : w5.heap.size ≤ w9.heap.size := by simp at hl9; omega
              clear own9 tx9 kT9 t9 hto tx8 kT8 own2b own2 hgrow hat hcs9 H8 hl9
              subst hv9
              go_wp2_with fail
              go_roundg (t.pool.length - (j + 1))
              case measure => omega
              case rel => exact ⟨j + 1, ao9, cap9, rfl, by omega, by go_num, rfl, Lib.hid ⟨H9.out.1, H9.out.2.1, H9.out.2.2, hl10⟩⟩
            · have hje : j = t.pool.length := by omega
              subst hje
              obtain ⟨own1, tx7, kT7, hl7⟩ := HR.out
              unfold poolCs at own1
              rw [List.take_length] at own1
              have hlenx : (acc ++ tenHeadL t ++ lineL (poolB :: t.pool.map ipText)).length ≤ 100000000 := by
                have h1 := HP.out.2.2.2.1
                rw [← HPE.out]
                simp only [tenL, List.length_append] at h1 ⊢
                omega
              have hcall := wline_own tx7 HG.out.2.2.1 (poolB :: t.pool.map ipText) own1 (by simp) (by omega) (by have := HP.out.2.1.plen; omega) hlenx
              have H7 := Lib.hid kT7
              clear own1 tx7 kT7 hlenx HR
              go_wp2_with fail
              refine hcall.mono ?_
              rintro e w10 ⟨rfl, tx10, t10⟩
              have kT10 := buf_keep H7.out t10 (by omega) (by decide)
              clear hcall
              go_wp2_with fail
              go_meet
              exact ⟨_, rfl, by rw [HPE.out]; exact tx10, kT10⟩
      case rest =>
      obtain ⟨W2, hW2, tx, kT⟩ := hcut
      subst hW2
      clear c23
      go_upto_region 15 with (fail)
      have HE := Lib.hid tx.env
      have hwl : IntKind.u32.wrap (t.lo : Int) = (t.lo : Int) := by have := HP.out.2.1.lo; unfold IntKind.wrap; simp [IntKind.bits, IntKind.signed]; omega
      have hwh : IntKind.u32.wrap (t.hi : Int) = (t.hi : Int) := by have := HP.out.2.1.hi; unfold IntKind.wrap; simp [IntKind.bits, IntKind.signed]; omega
      have cc0 := quiet_val (w := W2) (fun V tv => num_any t.lo (by have := HP.out.2.1.lo; omega) V (HE.out.keep tv))
      have cc1 := quiet_val (w := W2) (fun V tv => num_any t.hi (by have := HP.out.2.1.hi; omega) V (HE.out.keep tv))
      have CC := Lib.hid (And.intro cc0 cc1)
      have kk0 : ∀ d os, (Sort.grow (redrawn W2 d) os).cell? ⟨T, 24, none⟩ = some (.int .u16 (t.lo : Int)) := fun d os => (regr_cell kT d os 24).trans HP.out.1.lo
      have kk1 : ∀ d os, (Sort.grow (redrawn W2 d) os).cell? ⟨T, 25, none⟩ = some (.int .u16 (t.hi : Int)) := fun d os => (regr_cell kT d os 25).trans HP.out.1.hi
      have HB := Lib.hid (And.intro tx kT)
      clear tx kT HE cc0 cc1
      refine region_lead_tail (C := fun w' => ∃ p : Regrown, w' = Sort.grow (redrawn W2 p.d) p.os) 9 hmix (by kernel_rfl) (regr_start W2) _ rfl _ (.inl ⟨rfl, fun w => rfl⟩) (fun _ _ _ h => h) ?_
      simp only [List.take_succ_cons, List.take_zero, List.drop_succ_cons, List.drop_zero]
      repeat (quiet_step (fail))
      quiet_step (exact CC.out.1 _ _)
      repeat (quiet_step (fail))
      quiet_step (exact CC.out.2 _ _)
      repeat (quiet_step (fail))
      refine wpQuiet_nil ?_
      intro _ hw'
      obtain ⟨⟨dq, osq⟩, hw''⟩ := hw'
      subst hw''
      have t4 : Turn (fun _ => False) W2 (Sort.grow (redrawn W2 dq) osq) := turn_of_below0 (below_regrown W2 dq osq)
      generalize Sort.grow (redrawn W2 dq) osq = w2 at *
      clear CC kk0 kk1
      go_wp2_with fail
      have hlenx : (acc ++ tenHeadL t ++ poolL t ++ lineL [portsB, decL t.lo, decL t.hi]).length ≤ 100000000 := by
        have h1 := HP.out.2.2.2.1
        show (acc ++ tenHeadL t ++ poolL t ++ portsL t).length ≤ 100000000
        simp only [tenL, List.length_append] at h1 ⊢
        omega
      refine (wline_tx (HB.out.1.quiet t4) HG.out.2.2.1 [portsB, decL t.lo, decL t.hi] 3 rfl (by omega) (by omega) hlenx).mono ?_
      rintro e w11 ⟨rfl, tx, t5⟩
      have kT := buf_keep (block_alloc_old (o := .cells (strCells [portsB, decL t.lo, decL t.hi]).toArray 9) ((t4.block _ (block_lt HB.out.2) (fun h => h)).trans HB.out.2)) t5 (by omega) (by decide)
      change TxAt w w11 (w.heap.size + 1) (acc ++ tenHeadL t ++ poolL t ++ portsL t) at tx
      clear t4 t5 hlenx HB
      clear hwl hwh
      have c26 : w11.cell? ⟨T, 26, none⟩ = some (.int .i64 t.filter) := (cell_of_block kT 26).trans HP.out.1.filter
      have HB := Lib.hid (And.intro tx kT)
      clear tx kT
      go_wp2_with fail
      refine (filterText_any t.filter _).mono ?_
      rintro e w12 ⟨rfl, t4⟩
      clear c26
      go_wp2_with fail
      have hlenx : (acc ++ tenHeadL t ++ poolL t ++ portsL t ++ lineL [filtB, filterL t.filter]).length ≤ 100000000 := by
        have h1 := HP.out.2.2.2.1
        show (acc ++ tenHeadL t ++ poolL t ++ portsL t ++ filtL t).length ≤ 100000000
        simp only [tenL, List.length_append] at h1 ⊢
        omega
      refine (wline_tx (HB.out.1.quiet t4) HG.out.2.2.1 [filtB, filterL t.filter] 2 rfl (by omega) (by omega) hlenx).mono ?_
      rintro e w13 ⟨rfl, tx, t5⟩
      have kT := buf_keep (block_alloc_old (o := .cells (strCells [filtB, filterL t.filter]).toArray 9) ((t4.block _ (block_lt HB.out.2) (fun h => h)).trans HB.out.2)) t5 (by omega) (by decide)
      change TxAt w w13 (w.heap.size + 1) (acc ++ tenHeadL t ++ poolL t ++ portsL t ++ filtL t) at tx
      clear t4 t5 hlenx HB
      have c27 : w13.cell? ⟨T, 27, none⟩ = some (.slice so t.statics.length sc) := (cell_of_block kT 27).trans HP.out.1.stat
      have HL := Lib.hid (And.intro tx kT)
      clear tx kT
      go_wp2_with fail
      go_loopg [104] t.statics.length (fun g' i wr => ∃ j : Nat, g' = t.statics.length - j ∧ j ≤ t.statics.length ∧ i = .int .i64 (j : Int) ∧ Hid (TxAt w wr (w.heap.size + 1) (acc ++ tenHeadL t ++ poolL t ++ portsL t ++ filtL t ++ (t.statics.take j).flatMap statL) ∧ wr.heap[T]? = some (.cells row 45 (0, 0))))
      case atStart => exact ⟨0, rfl, Nat.zero_le _, rfl, Lib.hid ⟨by rw [List.take_zero, List.flatMap_nil, List.append_nil]; exact HL.out.1, HL.out.2⟩⟩
      case round =>
        clear c27 HL
        obtain ⟨j, rfl, hj, rfl, HR⟩ := hrel
        by_cases hjl : j < t.statics.length
        · obtain ⟨y, hy⟩ : ∃ y, t.statics[j]? = some y := ⟨_, List.getElem?_eq_getElem hjl⟩
          obtain ⟨yb, yo, rfl, hyb, hyc, hyd⟩ := HP.out.2.2.2.2.2.2.1 j y hy
          have cy : wr.cell? ⟨yb, yo + j * 2, none⟩ = some (.int .u32 (y.1 : Int)) := (World.cell?_of_block (HR.out.1.turn.block yb hyb (by omega))).trans hyc
          have cz : wr.cell? ⟨yb, yo + j * 2 + 1, none⟩ = some (.int .u32 (y.2 : Int)) := (World.cell?_of_block (HR.out.1.turn.block yb hyb (by omega))).trans hyd
          have hyr := HP.out.2.1.statics y (List.mem_of_getElem? hy)
          have tx := HR.out.1.quiet ((Turn.refl (fun _ => False) wr).alloc (.cells #[.int .u32 (y.1 : Int), .int .u32 (y.2 : Int)] 97))
          have kT := block_alloc_old (o := .cells #[.int .u32 (y.1 : Int), .int .u32 (y.2 : Int)] 97) HR.out.2
          have kQ := block_alloc_new wr (.cells #[.int .u32 (y.1 : Int), .int .u32 (y.2 : Int)] 97)
          have i3 : (j : Int) < (t.statics.length : Int) := by omega
          have i4 : (0 : Int) ≤ (j : Int) := by omega
          have HY := Lib.hid (And.intro hy hyr)
          clear hy hyc hyd hyr HR
          go_upto_region 20 with (fail)
          generalize wr.alloc (.cells #[.int .u32 (y.1 : Int), .int .u32 (y.2 : Int)] 97) = V at *
          generalize wr.heap.size = qb at *
          clear cy cz i3 i4
          have HE := Lib.hid tx.env
          have cc0 := quiet_val (w := V) (fun V tv => pipText_any y.1 HY.out.2.1 V (HE.out.keep tv))
          have cc1 := quiet_val (w := V) (fun V tv => pipText_any y.2 HY.out.2.2 V (HE.out.keep tv))
          have CC := Lib.hid (And.intro cc0 cc1)
          have kk0 : ∀ d os, (Sort.grow (redrawn V d) os).cell? ⟨qb, 0, none⟩ = some (.int .u32 (y.1 : Int)) := fun d os => (regr_cell kQ d os 0).trans rfl
          have kk1 : ∀ d os, (Sort.grow (redrawn V d) os).cell? ⟨qb, 1, none⟩ = some (.int .u32 (y.2 : Int)) := fun d os => (regr_cell kQ d os 1).trans rfl
          have HB := Lib.hid (And.intro tx kT)
          clear tx kT kQ HE cc0 cc1
          refine region_lead_tail (C := fun w' => ∃ p : Regrown, w' = Sort.grow (redrawn V p.d) p.os) 7 hmix (by kernel_rfl) (regr_start V) _ rfl _ (.inl ⟨rfl, fun w => rfl⟩) (fun _ _ _ h => h) ?_
          simp only [List.take_succ_cons, List.take_zero, List.drop_succ_cons, List.drop_zero]
          repeat (quiet_step (fail))
          quiet_step (exact CC.out.1 _ _)
          repeat (quiet_step (fail))
          quiet_step (exact CC.out.2 _ _)
          repeat (quiet_step (fail))
          refine wpQuiet_nil ?_
          intro _ hw'
          obtain ⟨⟨dq, osq⟩, hw''⟩ := hw'
          subst hw''
          have t4 : Turn (fun _ => False) V (Sort.grow (redrawn V dq) osq) := turn_of_below0 (below_regrown V dq osq)
          generalize Sort.grow (redrawn V dq) osq = w2 at *
          clear CC kk0 kk1
          go_wp2_with fail
          have hlenx : (acc ++ tenHeadL t ++ poolL t ++ portsL t ++ filtL t ++ (t.statics.take j).flatMap statL ++ lineL [statB, ipText y.1, ipText y.2]).length ≤ 100000000 := by
            have h1 := HP.out.2.2.2.1
            show (acc ++ tenHeadL t ++ poolL t ++ portsL t ++ filtL t ++ (t.statics.take j).flatMap statL ++ statL y).length ≤ 100000000
            have h2 := flat_take_le1 statL t.statics j y HY.out.1
            simp only [tenL, List.length_append] at h1 ⊢
            omega
          refine (wline_tx (HB.out.1.quiet t4) HG.out.2.2.1 [statB, ipText y.1, ipText y.2] 3 rfl (by omega) (by omega) hlenx).mono ?_
          rintro e w14 ⟨rfl, tx, t5⟩
          have kT := buf_keep (block_alloc_old (o := .cells (strCells [statB, ipText y.1, ipText y.2]).toArray 9) ((t4.block _ (block_lt HB.out.2) (fun h => h)).trans HB.out.2)) t5 (by omega) (by decide)
          change TxAt w w14 (w.heap.size + 1) (acc ++ tenHeadL t ++ poolL t ++ portsL t ++ filtL t ++ (t.statics.take j).flatMap statL ++ statL y) at tx
          clear t4 t5 hlenx HB
          have HZ := Lib.hid (And.intro tx kT)
          clear tx kT
          go_wp2_with fail
          go_roundg (t.statics.length - (j + 1))
          case measure => omega
          case rel => exact ⟨j + 1, rfl, by omega, by go_num, Lib.hid ⟨by rw [flat_take statL t.statics j y HY.out.1, ← List.append_assoc]; exact HZ.out.1, HZ.out.2⟩⟩
        · have hje : j = t.statics.length := by omega
          subst hje
          obtain ⟨tx, kT⟩ := HR.out
          rw [List.take_length] at tx
          clear HR hjl hj
          have c28 : wr.cell? ⟨T, 28, none⟩ = some (.slice qo t.twices.length qc) := (cell_of_block kT 28).trans HP.out.1.twic
          have HL := Lib.hid (And.intro tx kT)
          clear tx kT
          go_wp2_with fail
          go_loopg [121] t.twices.length (fun g' i wr => ∃ j : Nat, g' = t.twices.length - j ∧ j ≤ t.twices.length ∧ i = .int .i64 (j : Int) ∧ Hid (TxAt w wr (w.heap.size + 1) (acc ++ tenHeadL t ++ poolL t ++ portsL t ++ filtL t ++ t.statics.flatMap statL ++ (t.twices.take j).flatMap twicL) ∧ wr.heap[T]? = some (.cells row 45 (0, 0))))
          case atStart => exact ⟨0, rfl, Nat.zero_le _, rfl, Lib.hid ⟨by rw [List.take_zero, List.flatMap_nil, List.append_nil]; exact HL.out.1, HL.out.2⟩⟩
          case round =>
            clear c28 HL
            obtain ⟨j, rfl, hj, rfl, HR⟩ := hrel
            by_cases hjl : j < t.twices.length
            · obtain ⟨y, hy⟩ : ∃ y, t.twices[j]? = some y := ⟨_, List.getElem?_eq_getElem hjl⟩
              obtain ⟨yb, yo, rfl, hyb, hyc, hyd⟩ := HP.out.2.2.2.2.2.2.2 j y hy
              have cy : wr.cell? ⟨yb, yo + j * 2, none⟩ = some (.int .u32 (y.1 : Int)) := (World.cell?_of_block (HR.out.1.turn.block yb hyb (by omega))).trans hyc
              have cz : wr.cell? ⟨yb, yo + j * 2 + 1, none⟩ = some (.int .u32 (y.2 : Int)) := (World.cell?_of_block (HR.out.1.turn.block yb hyb (by omega))).trans hyd
              have hyr := HP.out.2.1.twices y (List.mem_of_getElem? hy)
              have tx := HR.out.1.quiet ((Turn.refl (fun _ => False) wr).alloc (.cells #[.int .u32 (y.1 : Int), .int .u32 (y.2 : Int)] 97))
              have kT := block_alloc_old (o := .cells #[.int .u32 (y.1 : Int), .int .u32 (y.2 : Int)] 97) HR.out.2
              have kQ := block_alloc_new wr (.cells #[.int .u32 (y.1 : Int), .int .u32 (y.2 : Int)] 97)
              have i3 : (j : Int) < (t.twices.length : Int) := by omega
              have i4 : (0 : Int) ≤ (j : Int) := by omega
              have HY := Lib.hid (And.intro hy hyr)
              clear hy hyc hyd hyr HR
              go_upto_region 25 with (fail)
              generalize wr.alloc (.cells #[.int .u32 (y.1 : Int), .int .u32 (y.2 : Int)] 97) = V at *
              generalize wr.heap.size = qb at *
              clear cy cz i3 i4
              have HE := Lib.hid tx.env
              have cc0 := quiet_val (w := V) (fun V tv => pipText_any y.1 HY.out.2.1 V (HE.out.keep tv))
              have cc1 := quiet_val (w := V) (fun V tv => pipText_any y.2 HY.out.2.2 V (HE.out.keep tv))
              have CC := Lib.hid (And.intro cc0 cc1)
              have kk0 : ∀ d os, (Sort.grow (redrawn V d) os).cell? ⟨qb, 0, none⟩ = some (.int .u32 (y.1 : Int)) := fun d os => (regr_cell kQ d os 0).trans rfl
              have kk1 : ∀ d os, (Sort.grow (redrawn V d) os).cell? ⟨qb, 1, none⟩ = some (.int .u32 (y.2 : Int)) := fun d os => (regr_cell kQ d os 1).trans rfl
              have HB := Lib.hid (And.intro tx kT)
              clear tx kT kQ HE cc0 cc1
              refine region_lead_tail (C := fun w' => ∃ p : Regrown, w' = Sort.grow (redrawn V p.d) p.os) 7 hmix (by kernel_rfl) (regr_start V) _ rfl _ (.inl ⟨rfl, fun w => rfl⟩) (fun _ _ _ h => h) ?_
              simp only [List.take_succ_cons, List.take_zero, List.drop_succ_cons, List.drop_zero]
              repeat (quiet_step (fail))
              quiet_step (exact CC.out.1 _ _)
              repeat (quiet_step (fail))
              quiet_step (exact CC.out.2 _ _)
              repeat (quiet_step (fail))
              refine wpQuiet_nil ?_
              intro _ hw'
              obtain ⟨⟨dq, osq⟩, hw''⟩ := hw'
              subst hw''
              have t4 : Turn (fun _ => False) V (Sort.grow (redrawn V dq) osq) := turn_of_below0 (below_regrown V dq osq)
              generalize Sort.grow (redrawn V dq) osq = w2 at *
              clear CC kk0 kk1
              go_wp2_with fail
              have hlenx : (acc ++ tenHeadL t ++ poolL t ++ portsL t ++ filtL t ++ t.statics.flatMap statL ++ (t.twices.take j).flatMap twicL ++ lineL [twicB, ipText y.1, ipText y.2]).length ≤ 100000000 := by
                have h1 := HP.out.2.2.2.1
                show (acc ++ tenHeadL t ++ poolL t ++ portsL t ++ filtL t ++ t.statics.flatMap statL ++ (t.twices.take j).flatMap twicL ++ twicL y).length ≤ 100000000
                have h2 := flat_take_le1 twicL t.twices j y HY.out.1
                simp only [tenL, List.length_append] at h1 ⊢
                omega
              refine (wline_tx (HB.out.1.quiet t4) HG.out.2.2.1 [twicB, ipText y.1, ipText y.2] 3 rfl (by omega) (by omega) hlenx).mono ?_
              rintro e w15 ⟨rfl, tx, t5⟩
              have kT := buf_keep (block_alloc_old (o := .cells (strCells [twicB, ipText y.1, ipText y.2]).toArray 9) ((t4.block _ (block_lt HB.out.2) (fun h => h)).trans HB.out.2)) t5 (by omega) (by decide)
              change TxAt w w15 (w.heap.size + 1) (acc ++ tenHeadL t ++ poolL t ++ portsL t ++ filtL t ++ t.statics.flatMap statL ++ (t.twices.take j).flatMap twicL ++ twicL y) at tx
              clear t4 t5 hlenx HB
              have HZ := Lib.hid (And.intro tx kT)
              clear tx kT
              go_wp2_with fail
              go_roundg (t.twices.length - (j + 1))
              case measure => omega
              case rel => exact ⟨j + 1, rfl, by omega, by go_num, Lib.hid ⟨by rw [flat_take twicL t.twices j y HY.out.1, ← List.append_assoc]; exact HZ.out.1, HZ.out.2⟩⟩
            · have hje : j = t.twices.length := by omega
              subst hje
              obtain ⟨tx, kT⟩ := HR.out
              rw [List.take_length] at tx
              clear HR hjl hj
              obtain ⟨ns, hns⟩ : ∃ n : Nat, t.sess = (n : Int) := ⟨t.sess.toNat, (Int.toNat_of_nonneg HP.out.2.1.sess.1).symm⟩
              obtain ⟨nq, hnq⟩ : ∃ n : Nat, t.queue = (n : Int) := ⟨t.queue.toNat, (Int.toNat_of_nonneg HP.out.2.1.queue.1).symm⟩
              have hns2 : ns ≤ 9223372036854775807 := by have := HP.out.2.1.sess.2; omega
              have hnq2 : nq ≤ 9223372036854775807 := by have := HP.out.2.1.queue.2; omega
              have hQ : quotaL t = lineL [quotaB, decL ns, decL nq] := by unfold quotaL; rw [hns, hnq]; rfl
              have HQ := Lib.hid (And.intro hns (And.intro hnq hQ))
              clear hns hnq hQ
              generalize hwz : wr = wz at *
              clear hwz
              go_upto_region 27 with (fail)
              have HE := Lib.hid tx.env
              have cc0 := quiet_val (w := wz) (fun V tv => itoa_any ns hns2 V (HE.out.keep tv))
              have cc1 := quiet_val (w := wz) (fun V tv => itoa_any nq hnq2 V (HE.out.keep tv))
              have CC := Lib.hid (And.intro cc0 cc1)
              have kk0 : ∀ d os, (Sort.grow (redrawn wz d) os).cell? ⟨T, 29, none⟩ = some (.int .i64 (ns : Int)) := fun d os => (regr_cell kT d os 29).trans (by rw [HP.out.1.sess, HQ.out.1])
              have kk1 : ∀ d os, (Sort.grow (redrawn wz d) os).cell? ⟨T, 30, none⟩ = some (.int .i64 (nq : Int)) := fun d os => (regr_cell kT d os 30).trans (by rw [HP.out.1.queue, HQ.out.2.1])
              have HB := Lib.hid (And.intro tx kT)
              clear tx kT HE cc0 cc1
              refine region_lead_tail (C := fun w' => ∃ p : Regrown, w' = Sort.grow (redrawn wz p.d) p.os) 7 hmix (by kernel_rfl) (regr_start wz) _ rfl _ (.inl ⟨rfl, fun w => rfl⟩) (fun _ _ _ h => h) ?_
              simp only [List.take_succ_cons, List.take_zero, List.drop_succ_cons, List.drop_zero]
              repeat (quiet_step (fail))
              quiet_step (exact CC.out.1 _ _)
              repeat (quiet_step (fail))
              quiet_step (exact CC.out.2 _ _)
              repeat (quiet_step (fail))
              refine wpQuiet_nil ?_
              intro _ hw'
              obtain ⟨⟨dq, osq⟩, hw''⟩ := hw'
              subst hw''
              have t4 : Turn (fun _ => False) wz (Sort.grow (redrawn wz dq) osq) := turn_of_below0 (below_regrown wz dq osq)
              generalize Sort.grow (redrawn wz dq) osq = w2 at *
              clear CC kk0 kk1
              go_wp2_with fail
              have hlenx : (acc ++ tenHeadL t ++ poolL t ++ portsL t ++ filtL t ++ t.statics.flatMap statL ++ t.twices.flatMap twicL ++ lineL [quotaB, decL ns, decL nq]).length ≤ 100000000 := by
                have h1 := HP.out.2.2.2.1
                show (acc ++ tenHeadL t ++ poolL t ++ portsL t ++ filtL t ++ t.statics.flatMap statL ++ t.twices.flatMap twicL ++ lineL [quotaB, decL ns, decL nq]).length ≤ 100000000
                have h3 := HQ.out.2.2
                simp only [tenL, List.length_append, h3] at h1 ⊢
                omega
              refine (wline_tx (HB.out.1.quiet t4) HG.out.2.2.1 [quotaB, decL ns, decL nq] 3 rfl (by omega) (by omega) hlenx).mono ?_
              rintro e w16 ⟨rfl, tx, t5⟩
              have kT := buf_keep (block_alloc_old (o := .cells (strCells [quotaB, decL ns, decL nq]).toArray 9) ((t4.block _ (block_lt HB.out.2) (fun h => h)).trans HB.out.2)) t5 (by omega) (by decide)
              change TxAt w w16 (w.heap.size + 1) (acc ++ tenHeadL t ++ poolL t ++ portsL t ++ filtL t ++ t.statics.flatMap statL ++ t.twices.flatMap twicL ++ lineL [quotaB, decL ns, decL nq]) at tx
              clear t4 t5 hlenx HB
              rw [← HQ.out.2.2] at tx
              clear hns2 hnq2
              go_upto_region 28 with (fail)
              have HE := Lib.hid tx.env
              have cc0 := quiet_val (w := w16) (fun V tv => num_any t.rate HP.out.2.1.rate V (HE.out.keep tv))
              have cc1 := quiet_val (w := w16) (fun V tv => num_any t.burst HP.out.2.1.burst V (HE.out.keep tv))
              have CC := Lib.hid (And.intro cc0 cc1)
              have kk0 : ∀ d os, (Sort.grow (redrawn w16 d) os).cell? ⟨T, 31, none⟩ = some (.int .u32 (t.rate : Int)) := fun d os => (regr_cell kT d os 31).trans HP.out.1.rate
              have kk1 : ∀ d os, (Sort.grow (redrawn w16 d) os).cell? ⟨T, 32, none⟩ = some (.int .u32 (t.burst : Int)) := fun d os => (regr_cell kT d os 32).trans HP.out.1.burst
              have HB := Lib.hid (And.intro tx kT)
              clear tx kT HE cc0 cc1
              refine region_lead_tail (C := fun w' => ∃ p : Regrown, w' = Sort.grow (redrawn w16 p.d) p.os) 7 hmix (by kernel_rfl) (regr_start w16) _ rfl _ (.inl ⟨rfl, fun w => rfl⟩) (fun _ _ _ h => h) ?_
              simp only [List.take_succ_cons, List.take_zero, List.drop_succ_cons, List.drop_zero]
              repeat (quiet_step (fail))
              quiet_step (exact CC.out.1 _ _)
              repeat (quiet_step (fail))
              quiet_step (exact CC.out.2 _ _)
              repeat (quiet_step (fail))
              refine wpQuiet_nil ?_
              intro _ hw'
              obtain ⟨⟨dq, osq⟩, hw''⟩ := hw'
              subst hw''
              have t4 : Turn (fun _ => False) w16 (Sort.grow (redrawn w16 dq) osq) := turn_of_below0 (below_regrown w16 dq osq)
              generalize Sort.grow (redrawn w16 dq) osq = w2 at *
              clear CC kk0 kk1
              go_wp2_with fail
              have hlenx : (acc ++ tenHeadL t ++ poolL t ++ portsL t ++ filtL t ++ t.statics.flatMap statL ++ t.twices.flatMap twicL ++ quotaL t ++ lineL [rateB, decL t.rate, decL t.burst]).length ≤ 100000000 := by
                have h1 := HP.out.2.2.2.1
                show (acc ++ tenHeadL t ++ poolL t ++ portsL t ++ filtL t ++ t.statics.flatMap statL ++ t.twices.flatMap twicL ++ quotaL t ++ rateL t).length ≤ 100000000
                simp only [tenL, List.length_append] at h1 ⊢
                omega
              refine (wline_tx (HB.out.1.quiet t4) HG.out.2.2.1 [rateB, decL t.rate, decL t.burst] 3 rfl (by omega) (by omega) hlenx).mono ?_
              rintro e w17 ⟨rfl, tx, t5⟩
              have kT := buf_keep (block_alloc_old (o := .cells (strCells [rateB, decL t.rate, decL t.burst]).toArray 9) ((t4.block _ (block_lt HB.out.2) (fun h => h)).trans HB.out.2)) t5 (by omega) (by decide)
              change TxAt w w17 (w.heap.size + 1) (acc ++ tenHeadL t ++ poolL t ++ portsL t ++ filtL t ++ t.statics.flatMap statL ++ t.twices.flatMap twicL ++ quotaL t ++ rateL t) at tx
              clear t4 t5 hlenx HB
              have HZ := Lib.hid tx
              clear tx kT
              go_wp2_with fail
              go_roundg (l.length - (k + 1))
              case measure => omega
              case rel =>
                refine ⟨k + 1, rfl, by omega, by go_num, Lib.hid ?_⟩
                rw [HP.out.2.2.2.2.1]
                have := HZ.out
                simp only [tenL, List.append_assoc] at this ⊢
                exact this
    · have hke : k = l.length := by omega
      subst hke
      have hall : c.tens.take l.length = c.tens := by rw [← HCS.out.2.2.2.1]; exact List.take_of_length_le (by simp)
      have htx : TxAt w wr (w.heap.size + 1) (textL c) := by have := HX.out; rw [hall] at this; exact this
      have hne : textL c ≠ [] := by simp [textL, headL, lineL]
      have hcall := wtext_any w.heap.size (w.heap.size + 1) (textL c) wr htx.buf hne
      have HT2 := Lib.hid htx
      clear htx hne hall HX
      go_wp2_with fail
      refine hcall.mono ?_
      rintro e w20 ⟨rfl, t20⟩
      clear hcall
      go_wp2_with fail
      go_ret
      exact ⟨rfl, (HT2.out.turn.mono (G := fun _ => False) (fun i hi e => by omega)).trans2 t20 (fun i hi e => by omega)⟩
end Go.Proofs.YtbkpbcmjgbdbkaaGreatDoor
