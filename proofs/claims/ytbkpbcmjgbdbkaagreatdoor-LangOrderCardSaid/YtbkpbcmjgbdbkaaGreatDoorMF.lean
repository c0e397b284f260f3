/- A tenant in its cells; how the world stands in the midst of reading a tenant's further line. No condition. A tenant's further lines: ports, quota, rate, filter. Condition: Env. A tenant's further line: its pool. Condition: Env. A tenant's further line: its pool, walked. Condition: Env. A tenant's further lines: pairs; all of them. Condition: Env. -/
import Derived.Test.YtbkpbcmjgbdbkaaGreatDoorME
import Derived.Test.YtbkpbcmjgbdbkaaGreatDoorH7
import Derived.Deep.RegionLaw
import Derived.RegionDies
/-! O0 -/
namespace Go.Proofs.YtbkpbcmjgbdbkaaGreatDoor
open Go.RowKit Go.Lib
set_option linter.unusedVariables false
set_option linter.unusedSimpArgs false
set_option maxRecDepth 100000

def numCells (l : List Nat) : List Value := l.map fun (x : Nat) => .int .u32 (x : Int)
def pairCells (l : List (Nat × Nat)) : List Value := l.flatMap fun x => [.int .u32 (x.1 : Int), .int .u32 (x.2 : Int)]
theorem numCells_snoc (l : List Nat) (x : Nat) : numCells (l ++ [x]) = numCells l ++ [.int .u32 (x : Int)] := by simp [numCells]
theorem pairCells_snoc (l : List (Nat × Nat)) (x : Nat × Nat) : pairCells (l ++ [x]) = pairCells l ++ [.int .u32 (x.1 : Int), .int .u32 (x.2 : Int)] := by simp [pairCells]
structure WfTen (t : Ten) : Prop where
  key : t.key.length = 8
  vmac : t.vmac.length = 6
  host : t.host.length = 6
theorem tenRow_size {t : Ten} (h : WfTen t) (p s q : Value) : (tenRow t p s q).size = 33 := by
  simp [tenRow, u8row, h.key, h.vmac, h.host]
theorem tenRow_len {t : Ten} (h : WfTen t) (p s q : Value) : (tenRow t p s q).toList.length = 33 := by
  rw [Array.length_toList]; exact tenRow_size h p s q
/-- A tenant in the cells of a block G from o on, with its lists' rows. -/
structure TenAt (W : World) (lo G o : Nat) (cur : Array Value) (t : Ten) (p s q : Value) : Prop where
  blk : W.heap[G]? = some (.cells cur 45 (0, 0))
  row : ∀ (j : Nat) (u : Value), (tenRow t p s q).toList[j]? = some u → cur[o + j]? = some u
  pool : W.ownsRow lo 23 1 p t.pool.length (numCells t.pool)
  stat : W.ownsRow lo 97 2 s t.statics.length (pairCells t.statics)
  twic : W.ownsRow lo 97 2 q t.twices.length (pairCells t.twices)
  apart : ∀ k, s.ownBlock = some k → q.ownBlock ≠ some k
  wf : WfTen t
/-- The blocks of a tenant's lists. -/
def Owns (p s q : Value) (k : Nat) : Prop := p.ownBlock = some k ∨ s.ownBlock = some k ∨ q.ownBlock = some k
theorem TenAt.off {W : World} {lo G o : Nat} {cur : Array Value} {t : Ten} {p s q : Value} (h : TenAt W lo G o cur t p s q) : ¬ Owns p s q G := by
  rintro (h' | h' | h')
  · obtain ⟨_, _, _, hne⟩ := own_form h.pool h.blk (by decide); exact hne h'
  · obtain ⟨_, _, _, hne⟩ := own_form h.stat h.blk (by decide); exact hne h'
  · obtain ⟨_, _, _, hne⟩ := own_form h.twic h.blk (by decide); exact hne h'
theorem TenAt.turn {W W' : World} {lo G o : Nat} {cur : Array Value} {t : Ten} {p s q : Value} {F : Nat → Prop} (h : TenAt W lo G o cur t p s q) (tn : Turn F W W') (hG : ¬ F G) (hF : ∀ k, Owns p s q k → ¬ F k) : TenAt W' lo G o cur t p s q where
  blk := (tn.block G (block_lt h.blk) hG).trans h.blk
  row := h.row
  pool := ownsRow_turn h.pool tn (fun g hg => hF g (Or.inl hg))
  stat := ownsRow_turn h.stat tn (fun g hg => hF g (Or.inr (Or.inl hg)))
  twic := ownsRow_turn h.twic tn (fun g hg => hF g (Or.inr (Or.inr hg)))
  apart := h.apart
  wf := h.wf
theorem TenAt.cell {W : World} {lo G o : Nat} {cur : Array Value} {t : Ten} {p s q : Value} (h : TenAt W lo G o cur t p s q) {j : Nat} {u : Value} (hj : (tenRow t p s q).toList[j]? = some u) : W.cell? ⟨G, o + j, none⟩ = some u :=
  (cell_of_block h.blk (o + j)).trans (h.row j u hj)
theorem TenAt.owns_lt {W : World} {lo G o : Nat} {cur : Array Value} {t : Ten} {p s q : Value} (h : TenAt W lo G o cur t p s q) {k : Nat} (hk : Owns p s q k) : lo ≤ k ∧ k < W.heap.size := by
  rcases hk with hk | hk | hk
  · exact h.pool.lt k hk
  · exact h.stat.lt k hk
  · exact h.twic.lt k hk
/-- Outside a tenant's cells two rows are alike. -/
def SameOff (o : Nat) (c c' : Array Value) : Prop := c'.size = c.size ∧ ∀ i, i < o ∨ o + 33 ≤ i → c'[i]? = c[i]?
theorem SameOff.refl (o : Nat) (c : Array Value) : SameOff o c c := ⟨rfl, fun _ _ => rfl⟩
theorem SameOff.set {o : Nat} {c c' : Array Value} (h : SameOff o c c') {j : Nat} (hj : j < 33) (u : Value) : SameOff o c (c'.setIfInBounds (o + j) u) :=
  ⟨by simp [h.1], fun i hi => by rw [Array.getElem?_setIfInBounds, if_neg (by omega)]; exact h.2 i hi⟩

/-- The world in the midst of reading a tenant's further line: from the world w, the tenant's lists p0 s0 q0, its block's cells cur0. -/
structure FSt (w : World) (lo b g cap : Nat) (L : List Wd) (en G o : Nat) (cur0 : Array Value) (p0 s0 q0 : Value) (n : Nat) (cur : Array Value) (t : Ten) (p s q : Value) (W : World) : Prop where
  line : LineIs W b g cap L en n
  env : Env W
  ten : TenAt W lo G o cur t p s q
  turn : Turn (fun k => k = b ∨ k = G ∨ Owns p0 s0 q0 k) w W
  old : ∀ k, Owns p s q k → Owns p0 s0 q0 k ∨ w.heap.size ≤ k
  same : SameOff o cur0 cur
  bG : b ≠ G
  gG : g ≠ G
  bO : ¬ Owns p s q b
  gO : ¬ Owns p s q g
  low : lo ≤ w.heap.size
  inb : b < w.heap.size
  inG : G < w.heap.size
  lo7 : 7 ≤ lo
  G7 : 7 ≤ G
section
variable {w W W' : World} {lo b g cap en G o n m : Nat} {L : List Wd} {cur0 cur : Array Value} {p0 s0 q0 p s q : Value} {t : Ten}
theorem FSt.start (h : LineIs w b g cap L en n) (he : Env w) (ht : TenAt w lo G o cur t p s q) (hbG : b ≠ G) (hgG : g ≠ G) (hb : ¬ Owns p s q b) (hg : ¬ Owns p s q g) (hlo : lo ≤ w.heap.size) (h7 : 7 ≤ lo) (hG : 7 ≤ G) :
    FSt w lo b g cap L en G o cur p s q n cur t p s q w :=
  ⟨h, he, ht, Turn.refl _ _, fun k hk => Or.inl hk, SameOff.refl _ _, hbG, hgG, hb, hg, hlo, h.lt, block_lt ht.blk, h7, hG⟩
theorem FSt.call (h : FSt w lo b g cap L en G o cur0 p0 s0 q0 n cur t p s q W) (hl : LineIs W' b g cap L en m) (tn : Turn (fun k => k = b) W W') : FSt w lo b g cap L en G o cur0 p0 s0 q0 m cur t p s q W' :=
  ⟨hl, h.env.line hl.low tn, h.ten.turn tn (fun e => h.bG e.symm) (fun k hk e => h.bO (e ▸ hk)), h.turn.trans2 tn (fun k _ e => Or.inl e), h.old, h.same, h.bG, h.gG, h.bO, h.gO, h.low, h.inb, h.inG, h.lo7, h.G7⟩
theorem FSt.quiet (h : FSt w lo b g cap L en G o cur0 p0 s0 q0 n cur t p s q W) (tn : Turn (fun _ => False) W W') : FSt w lo b g cap L en G o cur0 p0 s0 q0 n cur t p s q W' :=
  h.call (h.line.turn tn (fun h => h) (fun h => h)) (tn.mono (fun _ _ h => h.elim))
theorem FSt.fails {pl : Nat} {e : Ending} (h : FSt w lo b g cap L en G o cur0 p0 s0 q0 n cur t p s q W) (f : Fails pl (fun k => k = b) W e W') : Fails pl (fun k => k = b ∨ k = G ∨ Owns p0 s0 q0 k) w e W' := f.after h.turn (fun _ _ e => Or.inl e)
/-- A field of one cell stored. -/
theorem FSt.put (h : FSt w lo b g cap L en G o cur0 p0 s0 q0 n cur t p s q W) {j : Nat} (hj : j < 33) (u : Value) (t' : Ten) (h1 : (tenRow t' p s q).toList = (tenRow t p s q).toList.set j u) (h2 : t'.pool = t.pool) (h3 : t'.statics = t.statics) (h4 : t'.twices = t.twices) (hw : WfTen t') :
    FSt w lo b g cap L en G o cur0 p0 s0 q0 n (cur.setIfInBounds (o + j) u) t' p s q (W.setCell ⟨G, o + j, none⟩ u) := by
  have tn : Turn (fun k => k = G) W (W.setCell ⟨G, o + j, none⟩ u) := (Turn.refl (fun k => k = G) W).setCell (p := ⟨G, o + j, none⟩) u (fun _ => rfl)
  have hx := h.ten
  have hne := hx.off
  have hl := tenRow_len hx.wf p s q
  refine ⟨h.line.turn tn h.bG h.gG, h.env.turn tn (fun k hk e => by have := h.G7; omega), ⟨block_setCell hx.blk _ _, fun i v hv => ?_, ?_, ?_, ?_, hx.apart, hw⟩, h.turn.trans2 tn (fun k _ e => Or.inr (Or.inl e)), h.old, h.same.set hj u, h.bG, h.gG, h.bO, h.gO, h.low, h.inb, h.inG, h.lo7, h.G7⟩
  · rw [h1, List.getElem?_set] at hv
    rw [Array.getElem?_setIfInBounds]
    by_cases e : j = i
    · subst e
      rw [if_pos rfl] at hv
      rw [if_pos rfl]
      rw [if_pos (by omega)] at hv
      have := hx.row j _ (List.getElem?_eq_getElem (by omega))
      rw [if_pos (Array.getElem?_eq_some_iff.1 this).1]
      exact hv
    · rw [if_neg e] at hv
      rw [if_neg (by omega)]
      exact hx.row i v hv
  · rw [h2]; exact ownsRow_turn hx.pool tn (fun g hg e => hne (Or.inl (e ▸ hg)))
  · rw [h3]; exact ownsRow_turn hx.stat tn (fun g hg e => hne (Or.inr (Or.inl (e ▸ hg))))
  · rw [h4]; exact ownsRow_turn hx.twic tn (fun g hg e => hne (Or.inr (Or.inr (e ▸ hg))))
theorem FSt.cellFree (h : FSt w lo b g cap L en G o cur0 p0 s0 q0 n cur t p s q W) (j : Nat) : W.frozen? ⟨G, o + j, none⟩ = false := free_of_block h.ten.blk _
end
/-! ### the row with one field turned -/
theorem ten_get (t : Ten) (h : WfTen t) (p s q : Value) : (tenRow t p s q).toList[23]? = some p ∧ (tenRow t p s q).toList[24]? = some (.int .u16 (t.lo : Int)) ∧ (tenRow t p s q).toList[25]? = some (.int .u16 (t.hi : Int)) ∧ (tenRow t p s q).toList[26]? = some (.int .i64 t.filter) ∧ (tenRow t p s q).toList[27]? = some s ∧
    (tenRow t p s q).toList[28]? = some q ∧ (tenRow t p s q).toList[29]? = some (.int .i64 t.sess) ∧ (tenRow t p s q).toList[30]? = some (.int .i64 t.queue) ∧ (tenRow t p s q).toList[31]? = some (.int .u32 (t.rate : Int)) ∧ (tenRow t p s q).toList[32]? = some (.int .u32 (t.burst : Int)) := by
  obtain ⟨nm, vni, key, vtep, vmac, host, pool, lo, hi, fi, st, tw, se, qu, ra, bu⟩ := t
  obtain ⟨_, _, _, _, _, _, _, _, rfl⟩ := list8 key h.key
  obtain ⟨_, _, _, _, _, _, rfl⟩ := list6 vmac h.vmac
  obtain ⟨_, _, _, _, _, _, rfl⟩ := list6 host h.host
  refine ⟨?_, ?_, ?_, ?_, ?_, ?_, ?_, ?_, ?_, ?_⟩ <;> kernel_rfl
theorem ten_set_pool (t : Ten) (h : WfTen t) (p s q p' : Value) (l : List Nat) : (tenRow { t with pool := l } p' s q).toList = (tenRow t p s q).toList.set 23 p' := by
  obtain ⟨nm, vni, key, vtep, vmac, host, pool, lo, hi, fi, st, tw, se, qu, ra, bu⟩ := t
  obtain ⟨_, _, _, _, _, _, _, _, rfl⟩ := list8 key h.key
  obtain ⟨_, _, _, _, _, _, rfl⟩ := list6 vmac h.vmac
  obtain ⟨_, _, _, _, _, _, rfl⟩ := list6 host h.host
  kernel_rfl
theorem ten_set_stat (t : Ten) (h : WfTen t) (p s q s' : Value) (l : List (Nat × Nat)) : (tenRow { t with statics := l } p s' q).toList = (tenRow t p s q).toList.set 27 s' := by
  obtain ⟨nm, vni, key, vtep, vmac, host, pool, lo, hi, fi, st, tw, se, qu, ra, bu⟩ := t
  obtain ⟨_, _, _, _, _, _, _, _, rfl⟩ := list8 key h.key
  obtain ⟨_, _, _, _, _, _, rfl⟩ := list6 vmac h.vmac
  obtain ⟨_, _, _, _, _, _, rfl⟩ := list6 host h.host
  kernel_rfl
theorem ten_set_twic (t : Ten) (h : WfTen t) (p s q q' : Value) (l : List (Nat × Nat)) : (tenRow { t with twices := l } p s q').toList = (tenRow t p s q).toList.set 28 q' := by
  obtain ⟨nm, vni, key, vtep, vmac, host, pool, lo, hi, fi, st, tw, se, qu, ra, bu⟩ := t
  obtain ⟨_, _, _, _, _, _, _, _, rfl⟩ := list8 key h.key
  obtain ⟨_, _, _, _, _, _, rfl⟩ := list6 vmac h.vmac
  obtain ⟨_, _, _, _, _, _, rfl⟩ := list6 host h.host
  kernel_rfl
theorem ten_set_num (t : Ten) (h : WfTen t) (p s q : Value) : (∀ x : Nat, (tenRow { t with lo := x } p s q).toList = (tenRow t p s q).toList.set 24 (.int .u16 (x : Int))) ∧ (∀ x : Nat, (tenRow { t with hi := x } p s q).toList = (tenRow t p s q).toList.set 25 (.int .u16 (x : Int))) ∧
    (∀ x : Int, (tenRow { t with filter := x } p s q).toList = (tenRow t p s q).toList.set 26 (.int .i64 x)) ∧ (∀ x : Int, (tenRow { t with sess := x } p s q).toList = (tenRow t p s q).toList.set 29 (.int .i64 x)) ∧ (∀ x : Int, (tenRow { t with queue := x } p s q).toList = (tenRow t p s q).toList.set 30 (.int .i64 x)) ∧
    (∀ x : Nat, (tenRow { t with rate := x } p s q).toList = (tenRow t p s q).toList.set 31 (.int .u32 (x : Int))) ∧ (∀ x : Nat, (tenRow { t with burst := x } p s q).toList = (tenRow t p s q).toList.set 32 (.int .u32 (x : Int))) := by
  obtain ⟨nm, vni, key, vtep, vmac, host, pool, lo, hi, fi, st, tw, se, qu, ra, bu⟩ := t
  obtain ⟨_, _, _, _, _, _, _, _, rfl⟩ := list8 key h.key
  obtain ⟨_, _, _, _, _, _, rfl⟩ := list6 vmac h.vmac
  obtain ⟨_, _, _, _, _, _, rfl⟩ := list6 host h.host
  refine ⟨fun _ => ?_, fun _ => ?_, fun _ => ?_, fun _ => ?_, fun _ => ?_, fun _ => ?_, fun _ => ?_⟩ <;> kernel_rfl
end Go.Proofs.YtbkpbcmjgbdbkaaGreatDoor

/-! O1 -/
namespace Go.Proofs.YtbkpbcmjgbdbkaaGreatDoor
open Go.RowKit Go.Lib
set_option linter.unusedVariables false
set_option linter.unusedSimpArgs false
set_option maxRecDepth 100000
set_option pp.maxSteps 3000

def poolName : ByteArray := ⟨#[112, 111, 111, 108]⟩
def portsName : ByteArray := ⟨#[112, 111, 114, 116, 115]⟩
def filtName : ByteArray := ⟨#[102, 105, 108, 116, 101, 114]⟩
def statName : ByteArray := ⟨#[115, 116, 97, 116, 105, 99]⟩
def twiceName : ByteArray := ⟨#[116, 119, 105, 99, 101]⟩
def quotaName : ByteArray := ⟨#[113, 117, 111, 116, 97]⟩
def rateName : ByteArray := ⟨#[114, 97, 116, 101]⟩
def numP (most : Nat) (L : List Wd) (en n : Nat) : Except Nat (Nat × Nat) := readP (fun l => numOf l most) L en n
def portsP (L : List Wd) (en n : Nat) (t : Ten) : Except Nat (Ten × Nat) := do
  let (x, n) ← numP 65535 L en n
  let (y, n) ← numP 65535 L en n
  .ok ({ t with lo := x, hi := y }, n)
def FieldPost (w : World) (lo b g cap : Nat) (L : List Wd) (en G o : Nat) (cur0 : Array Value) (p0 s0 q0 : Value) (r : Except Nat (Ten × Nat)) (e : Ending) (w' : World) : Prop := match r with
  | .error pl => Fails pl (fun k => k = b ∨ k = G ∨ Owns p0 s0 q0 k) w e w'
  | .ok (t', m) => e = .returned (.tuple #[]) ∧ ∃ cur p s q, FSt w lo b g cap L en G o cur0 p0 s0 q0 m cur t' p s q w'
theorem numP_le {most : Nat} {L : List Wd} {en n x m : Nat} (h : numP most L en n = .ok (x, m)) : x ≤ most := by
  obtain ⟨l, hl⟩ := readP_is h
  exact numOf_le hl
theorem FSt.loc {w W : World} {lo b g cap en G o n : Nat} {L : List Wd} {cur0 cur : Array Value} {p0 s0 q0 p s q : Value} {t : Ten} (h : FSt w lo b g cap L en G o cur0 p0 s0 q0 n cur t p s q W) {j : Nat} {u : Value} (hj : (tenRow t p s q).toList[j]? = some u) : W.cell? ⟨G, o + j, none⟩ = some u := h.ten.cell hj
set_option maxHeartbeats 2000000 in
theorem field_ports (w : World) (lo b g cap : Nat) (L : List Wd) (en G o n at0 : Nat) (cur : Array Value) (t : Ten) (p s q : Value) (h : FSt w lo b g cap L en G o cur p s q n cur t p s q w) :
    Calls Tryz.prog 53 #[.agg #[.string portsName, .int .i64 (at0 : Int)], .pointer (some ⟨b, 0, none⟩), .pointer (some ⟨G, o, none⟩)] w (FieldPost w lo b g cap L en G o cur p s q (portsP L en n t)) := by
  have s0 := h.quiet ((Turn.refl (fun _ => False) w).alloc (.cells #[.string portsName, .int .i64 (at0 : Int)] 108))
  have c0 : (w.alloc (.cells #[.string portsName, .int .i64 (at0 : Int)] 108)).cell? ⟨w.heap.size, 0, none⟩ = some (.string portsName) := cell_of_block (block_alloc_new _ _) 0
  have e0 : (portsName.toList == [112, 111, 111, 108]) = false := by kernel_rfl
  have e1 : (portsName.toList == [112, 111, 114, 116, 115]) = true := by kernel_rfl
  clear h
  go_enter Tryz.func53, Tryz.ntmps53
  go_wp2_with fail
  generalize w.alloc (.cells #[.string portsName, .int .i64 (at0 : Int)] 108) = W0 at *
  clear c0 e0 e1
  refine (readNum_any 65535 (by omega) b g cap L en n _ s0.line).mono ?_
  intro e w1 h1
  rcases except_cases (numP 65535 L en n) with ⟨pl, r1⟩ | ⟨x, r1⟩
  · have hh := r1
    first | rw [r1] at h1 | (unfold numP at hh; rw [hh] at h1)
    have hf := s0.fails h1
    obtain ⟨pp, rfl, _⟩ := h1
    have hR : portsP L en n t = .error pl := by simp only [portsP, r1, bind, Except.bind]
    exact ⟨rfl, by rw [hR]; exact hf⟩
  obtain ⟨x1, n1⟩ := x
  have hh := r1
  first | rw [r1] at h1 | (unfold numP at hh; rw [hh] at h1)
  clear hh
  obtain ⟨rfl, l1, c1⟩ := h1
  have a1 := s0.call l1 c1
  have b1 := numP_le r1
  have v1 : IntKind.u16.wrap (x1 : Int) = (x1 : Int) := by unfold IntKind.wrap; simp [IntKind.bits, IntKind.signed]; omega
  have hc1 := a1.loc (ten_get t a1.ten.wf _ _ _).2.1
  have hf1 := a1.cellFree 24
  have u1 := a1.put (j := 24) (by omega) (.int .u16 (x1 : Int)) { t with lo := x1 } ((ten_set_num t a1.ten.wf _ _ _).1 _) rfl rfl rfl ⟨a1.ten.wf.key, a1.ten.wf.vmac, a1.ten.wf.host⟩
  obtain ⟨T1, hT1⟩ : ∃ T, T = ({ t with lo := x1 } : Ten) := ⟨_, rfl⟩
  rw [← hT1] at u1
  have HT1 := Lib.hid hT1
  clear s0 l1 c1 a1 hT1
  go_wp2_with fail
  refine (readNum_any 65535 (by omega) b g cap L en n1 _ u1.line).mono ?_
  intro e w2 h2
  rcases except_cases (numP 65535 L en n1) with ⟨pl, r2⟩ | ⟨x, r2⟩
  · have hh := r2
    first | rw [r2] at h2 | (unfold numP at hh; rw [hh] at h2)
    have hf := u1.fails h2
    obtain ⟨pp, rfl, _⟩ := h2
    have hR : portsP L en n t = .error pl := by simp only [portsP, r1, r2, bind, Except.bind]
    exact ⟨rfl, by rw [hR]; exact hf⟩
  obtain ⟨x2, n2⟩ := x
  have hh := r2
  first | rw [r2] at h2 | (unfold numP at hh; rw [hh] at h2)
  clear hh
  obtain ⟨rfl, l2, c2⟩ := h2
  have a2 := u1.call l2 c2
  have b2 := numP_le r2
  have v2 : IntKind.u16.wrap (x2 : Int) = (x2 : Int) := by unfold IntKind.wrap; simp [IntKind.bits, IntKind.signed]; omega
  have hc2 := a2.loc (ten_get T1 a2.ten.wf _ _ _).2.2.1
  have hf2 := a2.cellFree 25
  have u2 := a2.put (j := 25) (by omega) (.int .u16 (x2 : Int)) { T1 with hi := x2 } ((ten_set_num T1 a2.ten.wf _ _ _).2.1 _) rfl rfl rfl ⟨a2.ten.wf.key, a2.ten.wf.vmac, a2.ten.wf.host⟩
  obtain ⟨T2, hT2⟩ : ∃ T, T = ({ T1 with hi := x2 } : Ten) := ⟨_, rfl⟩
  rw [← hT2] at u2
  have HT2 := Lib.hid hT2
  clear u1 l2 c2 a2 hT2
  go_wp2_with fail
  go_end0
  have hR : portsP L en n t = .ok (T2, n2) := by simp only [portsP, r1, r2, bind, Except.bind, HT1.out, HT2.out]
  rw [hR]
  exact ⟨rfl, _, _, _, _, u2⟩
def quotaP (L : List Wd) (en n : Nat) (t : Ten) : Except Nat (Ten × Nat) := do
  let (x, n) ← numP 65535 L en n
  let (y, n) ← numP 65535 L en n
  .ok ({ t with sess := (x : Int), queue := (y : Int) }, n)
def rateP (L : List Wd) (en n : Nat) (t : Ten) : Except Nat (Ten × Nat) := do
  let (x, n) ← numP 4294967295 L en n
  let (y, n) ← numP 4294967295 L en n
  .ok ({ t with rate := x, burst := y }, n)
def filtP (L : List Wd) (en n : Nat) (t : Ten) : Except Nat (Ten × Nat) := do
  let (x, n) ← readP filterOf L en n
  .ok ({ t with filter := (x : Int) }, n)
set_option maxHeartbeats 2000000 in
theorem field_quota (w : World) (lo b g cap : Nat) (L : List Wd) (en G o n at0 : Nat) (cur : Array Value) (t : Ten) (p s q : Value) (h : FSt w lo b g cap L en G o cur p s q n cur t p s q w) :
    Calls Tryz.prog 53 #[.agg #[.string quotaName, .int .i64 (at0 : Int)], .pointer (some ⟨b, 0, none⟩), .pointer (some ⟨G, o, none⟩)] w (FieldPost w lo b g cap L en G o cur p s q (quotaP L en n t)) := by
  have s0 := h.quiet ((Turn.refl (fun _ => False) w).alloc (.cells #[.string quotaName, .int .i64 (at0 : Int)] 108))
  have c0 : (w.alloc (.cells #[.string quotaName, .int .i64 (at0 : Int)] 108)).cell? ⟨w.heap.size, 0, none⟩ = some (.string quotaName) := cell_of_block (block_alloc_new _ _) 0
  have e0 : (quotaName.toList == [112, 111, 111, 108]) = false := by kernel_rfl
  have e1 : (quotaName.toList == [112, 111, 114, 116, 115]) = false := by kernel_rfl
  have e2 : (quotaName.toList == [102, 105, 108, 116, 101, 114]) = false := by kernel_rfl
  have e3 : (quotaName.toList == [115, 116, 97, 116, 105, 99]) = false := by kernel_rfl
  have e4 : (quotaName.toList == [116, 119, 105, 99, 101]) = false := by kernel_rfl
  have e5 : (quotaName.toList == [113, 117, 111, 116, 97]) = true := by kernel_rfl
  clear h
  go_enter Tryz.func53, Tryz.ntmps53
  go_wp2_with fail
  generalize w.alloc (.cells #[.string quotaName, .int .i64 (at0 : Int)] 108) = W0 at *
  clear c0 e0 e1 e2 e3 e4 e5
  refine (readNum_any 65535 (by omega) b g cap L en n _ s0.line).mono ?_
  intro e w1 h1
  rcases except_cases (numP 65535 L en n) with ⟨pl, r1⟩ | ⟨x, r1⟩
  · have hh := r1
    first | rw [r1] at h1 | (unfold numP at hh; rw [hh] at h1)
    have hf := s0.fails h1
    obtain ⟨pp, rfl, _⟩ := h1
    have hR : quotaP L en n t = .error pl := by simp only [quotaP, r1, bind, Except.bind]
    exact ⟨rfl, by rw [hR]; exact hf⟩
  obtain ⟨x1, n1⟩ := x
  have hh := r1
  first | rw [r1] at h1 | (unfold numP at hh; rw [hh] at h1)
  clear hh
  obtain ⟨rfl, l1, c1⟩ := h1
  have a1 := s0.call l1 c1
  have b1 := numP_le r1
  have v1 : IntKind.i64.wrap (x1 : Int) = (x1 : Int) := by rw [IntKind.wrap_i64]; omega
  have hc1 := a1.loc (ten_get t a1.ten.wf _ _ _).2.2.2.2.2.2.1
  have hf1 := a1.cellFree 29
  have u1 := a1.put (j := 29) (by omega) (.int .i64 (x1 : Int)) { t with sess := (x1 : Int) } ((ten_set_num t a1.ten.wf _ _ _).2.2.2.1 _) rfl rfl rfl ⟨a1.ten.wf.key, a1.ten.wf.vmac, a1.ten.wf.host⟩
  obtain ⟨T1, hT1⟩ : ∃ T, T = ({ t with sess := (x1 : Int) } : Ten) := ⟨_, rfl⟩
  rw [← hT1] at u1
  have HT1 := Lib.hid hT1
  clear s0 l1 c1 a1 hT1
  go_wp2_with fail
  refine (readNum_any 65535 (by omega) b g cap L en n1 _ u1.line).mono ?_
  intro e w2 h2
  rcases except_cases (numP 65535 L en n1) with ⟨pl, r2⟩ | ⟨x, r2⟩
  · have hh := r2
    first | rw [r2] at h2 | (unfold numP at hh; rw [hh] at h2)
    have hf := u1.fails h2
    obtain ⟨pp, rfl, _⟩ := h2
    have hR : quotaP L en n t = .error pl := by simp only [quotaP, r1, r2, bind, Except.bind]
    exact ⟨rfl, by rw [hR]; exact hf⟩
  obtain ⟨x2, n2⟩ := x
  have hh := r2
  first | rw [r2] at h2 | (unfold numP at hh; rw [hh] at h2)
  clear hh
  obtain ⟨rfl, l2, c2⟩ := h2
  have a2 := u1.call l2 c2
  have b2 := numP_le r2
  have v2 : IntKind.i64.wrap (x2 : Int) = (x2 : Int) := by rw [IntKind.wrap_i64]; omega
  have hc2 := a2.loc (ten_get T1 a2.ten.wf _ _ _).2.2.2.2.2.2.2.1
  have hf2 := a2.cellFree 30
  have u2 := a2.put (j := 30) (by omega) (.int .i64 (x2 : Int)) { T1 with queue := (x2 : Int) } ((ten_set_num T1 a2.ten.wf _ _ _).2.2.2.2.1 _) rfl rfl rfl ⟨a2.ten.wf.key, a2.ten.wf.vmac, a2.ten.wf.host⟩
  obtain ⟨T2, hT2⟩ : ∃ T, T = ({ T1 with queue := (x2 : Int) } : Ten) := ⟨_, rfl⟩
  rw [← hT2] at u2
  have HT2 := Lib.hid hT2
  clear u1 l2 c2 a2 hT2
  go_wp2_with fail
  go_end0
  have hR : quotaP L en n t = .ok (T2, n2) := by simp only [quotaP, r1, r2, bind, Except.bind, HT1.out, HT2.out]
  rw [hR]
  exact ⟨rfl, _, _, _, _, u2⟩
set_option maxHeartbeats 2000000 in
theorem field_rate (w : World) (lo b g cap : Nat) (L : List Wd) (en G o n at0 : Nat) (cur : Array Value) (t : Ten) (p s q : Value) (h : FSt w lo b g cap L en G o cur p s q n cur t p s q w) :
    Calls Tryz.prog 53 #[.agg #[.string rateName, .int .i64 (at0 : Int)], .pointer (some ⟨b, 0, none⟩), .pointer (some ⟨G, o, none⟩)] w (FieldPost w lo b g cap L en G o cur p s q (rateP L en n t)) := by
  have s0 := h.quiet ((Turn.refl (fun _ => False) w).alloc (.cells #[.string rateName, .int .i64 (at0 : Int)] 108))
  have c0 : (w.alloc (.cells #[.string rateName, .int .i64 (at0 : Int)] 108)).cell? ⟨w.heap.size, 0, none⟩ = some (.string rateName) := cell_of_block (block_alloc_new _ _) 0
  have e0 : (rateName.toList == [112, 111, 111, 108]) = false := by kernel_rfl
  have e1 : (rateName.toList == [112, 111, 114, 116, 115]) = false := by kernel_rfl
  have e2 : (rateName.toList == [102, 105, 108, 116, 101, 114]) = false := by kernel_rfl
  have e3 : (rateName.toList == [115, 116, 97, 116, 105, 99]) = false := by kernel_rfl
  have e4 : (rateName.toList == [116, 119, 105, 99, 101]) = false := by kernel_rfl
  have e5 : (rateName.toList == [113, 117, 111, 116, 97]) = false := by kernel_rfl
  have e6 : (rateName.toList == [114, 97, 116, 101]) = true := by kernel_rfl
  clear h
  go_enter Tryz.func53, Tryz.ntmps53
  go_wp2_with fail
  generalize w.alloc (.cells #[.string rateName, .int .i64 (at0 : Int)] 108) = W0 at *
  clear c0 e0 e1 e2 e3 e4 e5 e6
  refine (readNum_any 4294967295 (by omega) b g cap L en n _ s0.line).mono ?_
  intro e w1 h1
  rcases except_cases (numP 4294967295 L en n) with ⟨pl, r1⟩ | ⟨x, r1⟩
  · have hh := r1
    first | rw [r1] at h1 | (unfold numP at hh; rw [hh] at h1)
    have hf := s0.fails h1
    obtain ⟨pp, rfl, _⟩ := h1
    have hR : rateP L en n t = .error pl := by simp only [rateP, r1, bind, Except.bind]
    exact ⟨rfl, by rw [hR]; exact hf⟩
  obtain ⟨x1, n1⟩ := x
  have hh := r1
  first | rw [r1] at h1 | (unfold numP at hh; rw [hh] at h1)
  clear hh
  obtain ⟨rfl, l1, c1⟩ := h1
  have a1 := s0.call l1 c1
  have hc1 := a1.loc (ten_get t a1.ten.wf _ _ _).2.2.2.2.2.2.2.2.1
  have hf1 := a1.cellFree 31
  have u1 := a1.put (j := 31) (by omega) (.int .u32 (x1 : Int)) { t with rate := x1 } ((ten_set_num t a1.ten.wf _ _ _).2.2.2.2.2.1 _) rfl rfl rfl ⟨a1.ten.wf.key, a1.ten.wf.vmac, a1.ten.wf.host⟩
  obtain ⟨T1, hT1⟩ : ∃ T, T = ({ t with rate := x1 } : Ten) := ⟨_, rfl⟩
  rw [← hT1] at u1
  have HT1 := Lib.hid hT1
  clear s0 l1 c1 a1 hT1
  go_wp2_with fail
  refine (readNum_any 4294967295 (by omega) b g cap L en n1 _ u1.line).mono ?_
  intro e w2 h2
  rcases except_cases (numP 4294967295 L en n1) with ⟨pl, r2⟩ | ⟨x, r2⟩
  · have hh := r2
    first | rw [r2] at h2 | (unfold numP at hh; rw [hh] at h2)
    have hf := u1.fails h2
    obtain ⟨pp, rfl, _⟩ := h2
    have hR : rateP L en n t = .error pl := by simp only [rateP, r1, r2, bind, Except.bind]
    exact ⟨rfl, by rw [hR]; exact hf⟩
  obtain ⟨x2, n2⟩ := x
  have hh := r2
  first | rw [r2] at h2 | (unfold numP at hh; rw [hh] at h2)
  clear hh
  obtain ⟨rfl, l2, c2⟩ := h2
  have a2 := u1.call l2 c2
  have hc2 := a2.loc (ten_get T1 a2.ten.wf _ _ _).2.2.2.2.2.2.2.2.2
  have hf2 := a2.cellFree 32
  have u2 := a2.put (j := 32) (by omega) (.int .u32 (x2 : Int)) { T1 with burst := x2 } ((ten_set_num T1 a2.ten.wf _ _ _).2.2.2.2.2.2 _) rfl rfl rfl ⟨a2.ten.wf.key, a2.ten.wf.vmac, a2.ten.wf.host⟩
  obtain ⟨T2, hT2⟩ : ∃ T, T = ({ T1 with burst := x2 } : Ten) := ⟨_, rfl⟩
  rw [← hT2] at u2
  have HT2 := Lib.hid hT2
  clear u1 l2 c2 a2 hT2
  go_wp2_with fail
  go_end0
  have hR : rateP L en n t = .ok (T2, n2) := by simp only [rateP, r1, r2, bind, Except.bind, HT1.out, HT2.out]
  rw [hR]
  exact ⟨rfl, _, _, _, _, u2⟩
set_option maxHeartbeats 2000000 in
theorem field_filter (w : World) (lo b g cap : Nat) (L : List Wd) (en G o n at0 : Nat) (cur : Array Value) (t : Ten) (p s q : Value) (h : FSt w lo b g cap L en G o cur p s q n cur t p s q w) :
    Calls Tryz.prog 53 #[.agg #[.string filtName, .int .i64 (at0 : Int)], .pointer (some ⟨b, 0, none⟩), .pointer (some ⟨G, o, none⟩)] w (FieldPost w lo b g cap L en G o cur p s q (filtP L en n t)) := by
  have s0 := h.quiet ((Turn.refl (fun _ => False) w).alloc (.cells #[.string filtName, .int .i64 (at0 : Int)] 108))
  have c0 : (w.alloc (.cells #[.string filtName, .int .i64 (at0 : Int)] 108)).cell? ⟨w.heap.size, 0, none⟩ = some (.string filtName) := cell_of_block (block_alloc_new _ _) 0
  have e0 : (filtName.toList == [112, 111, 111, 108]) = false := by kernel_rfl
  have e1 : (filtName.toList == [112, 111, 114, 116, 115]) = false := by kernel_rfl
  have e2 : (filtName.toList == [102, 105, 108, 116, 101, 114]) = true := by kernel_rfl
  clear h
  go_enter Tryz.func53, Tryz.ntmps53
  go_wp2_with fail
  generalize w.alloc (.cells #[.string filtName, .int .i64 (at0 : Int)] 108) = W0 at *
  clear c0 e0 e1 e2
  refine (readFil_any b g cap L en n _ s0.line).mono ?_
  intro e w1 h1
  rcases except_cases (readP filterOf L en n) with ⟨pl, r1⟩ | ⟨x, r1⟩
  · have hh := r1
    first | rw [r1] at h1 | (unfold numP at hh; rw [hh] at h1)
    have hf := s0.fails h1
    obtain ⟨pp, rfl, _⟩ := h1
    have hR : filtP L en n t = .error pl := by simp only [filtP, r1, bind, Except.bind]
    exact ⟨rfl, by rw [hR]; exact hf⟩
  obtain ⟨x1, n1⟩ := x
  have hh := r1
  first | rw [r1] at h1 | (unfold numP at hh; rw [hh] at h1)
  clear hh
  obtain ⟨rfl, l1, c1⟩ := h1
  have a1 := s0.call l1 c1
  skip
  have hc1 := a1.loc (ten_get t a1.ten.wf _ _ _).2.2.2.1
  have hf1 := a1.cellFree 26
  have u1 := a1.put (j := 26) (by omega) (.int .i64 (x1 : Int)) { t with filter := (x1 : Int) } ((ten_set_num t a1.ten.wf _ _ _).2.2.1 _) rfl rfl rfl ⟨a1.ten.wf.key, a1.ten.wf.vmac, a1.ten.wf.host⟩
  obtain ⟨T1, hT1⟩ : ∃ T, T = ({ t with filter := (x1 : Int) } : Ten) := ⟨_, rfl⟩
  rw [← hT1] at u1
  have HT1 := Lib.hid hT1
  clear s0 l1 c1 a1 hT1
  go_wp2_with fail
  go_end0
  have hR : filtP L en n t = .ok (T1, n1) := by simp only [filtP, r1, bind, Except.bind, HT1.out]
  rw [hR]
  exact ⟨rfl, _, _, _, _, u1⟩
end Go.Proofs.YtbkpbcmjgbdbkaaGreatDoor

/-! O2 -/
namespace Go.Proofs.YtbkpbcmjgbdbkaaGreatDoor
open Go.RowKit Go.Lib
set_option linter.unusedVariables false
set_option linter.unusedSimpArgs false
set_option maxRecDepth 100000
set_option pp.maxSteps 3000

/-- The rest of a line's words as addresses, behind acc. -/
def poolGo (L : List Wd) (en : Nat) : Nat → Nat → List Nat → Except Nat (List Nat × Nat)
  | 0, n, acc => .ok (acc, n)
  | f + 1, n, acc => match readP ipOf L en n with
    | .error pl => .error pl
    | .ok (x, m) => poolGo L en f m (acc ++ [x])
def poolP (L : List Wd) (en n : Nat) (t : Ten) : Except Nat (Ten × Nat) := (poolGo L en (L.length - n) n t.pool).map fun r => ({ t with pool := r.1 }, r.2)
theorem readP_n {α : Type} {f : List UInt8 → Option α} {L : List Wd} {en n m : Nat} {v : α} (h : readP f L en n = .ok (v, m)) : m = n + 1 ∧ n < L.length := by
  unfold readP at h
  split at h
  · rename_i x hx
    split at h
    · cases h; exact ⟨rfl, (List.getElem?_eq_some_iff.1 hx).1⟩
    · cases h
  · cases h
theorem info23 : (Tryz.prog.info? 23).map (fun i => (i.zero, i.size, i.bytes)) = some (some (.int .u32 0), 1, 4) := by kernel_rfl
section
variable {w W W' W'' : World} {lo b g cap en G o n m : Nat} {L : List Wd} {cur0 cur : Array Value} {p0 s0 q0 p s q p' : Value} {t : Ten}
/-- An element laid behind a tenant's pool, then stored. -/
theorem FSt.poolPut (h : FSt w lo b g cap L en G o cur0 p0 s0 q0 n cur t p s q W) (x : Nat) (hown : W'.ownsRow lo 23 1 p' (t.pool.length + 1) (numCells t.pool ++ [.int .u32 (x : Int)])) (hgrow : Turn (fun k => p.ownBlock = some k) W W') (hat : p'.ownBlock = p.ownBlock ∨ p'.ownBlock = some W.heap.size) :
    FSt w lo b g cap L en G o cur0 p0 s0 q0 n (cur.setIfInBounds (o + 23) p') { t with pool := t.pool ++ [x] } p' s q (W'.setCell ⟨G, o + 23, none⟩ p') := by
  have hx := h.ten
  have hne := hx.off
  have hl := tenRow_len hx.wf p s q
  have hpG : p.ownBlock ≠ some G := fun e => hne (Or.inl e)
  have hd_stat : ∀ k, p.ownBlock = some k → s.ownBlock ≠ some k := fun k h1 h2 => own_apart hx.pool hx.stat (by decide) h1 h2
  have hd_twic : ∀ k, p.ownBlock = some k → q.ownBlock ≠ some k := fun k h1 h2 => own_apart hx.pool hx.twic (by decide) h1 h2
  have hblk : W'.heap[G]? = some (.cells cur 45 (0, 0)) := (hgrow.block G (block_lt hx.blk) hpG).trans hx.blk
  have hp'G : p'.ownBlock ≠ some G := by obtain ⟨_, _, _, hn⟩ := own_form hown hblk (by decide); exact hn
  have hnew : ∀ k, p'.ownBlock = some k → p.ownBlock = some k ∨ W.heap.size ≤ k := fun k hk => by
    rcases hat with e | e
    · exact Or.inl (e ▸ hk)
    · rw [e] at hk; injection hk with hk; omega
  have tn : Turn (fun k => k = G) W' (W'.setCell ⟨G, o + 23, none⟩ p') := (Turn.refl (fun k => k = G) W').setCell (p := ⟨G, o + 23, none⟩) _ (fun _ => rfl)
  have t2 : Turn (fun k => p.ownBlock = some k ∨ k = G) W (W'.setCell ⟨G, o + 23, none⟩ p') := (hgrow.mono (fun _ _ e => Or.inl e)).setCell (p := ⟨G, o + 23, none⟩) _ (fun _ => Or.inr rfl)
  have hsz := h.turn.size
  have hbl := h.line.lt
  have hgl := h.line.glt
  have hvo : ∀ k, p.ownBlock = some k → Owns p0 s0 q0 k ∨ w.heap.size ≤ k := fun k hk => h.old k (Or.inl hk)
  exact {
    line := h.line.turn t2 (fun e => by rcases e with e | e; exact h.bO (Or.inl e); exact h.bG e) (fun e => by rcases e with e | e; exact h.gO (Or.inl e); exact h.gG e)
    env := h.env.turn t2 (fun k hk e => by
      rcases e with e | e
      · have := own1_low hx.pool e; have := h.lo7; omega
      · have := h.G7; omega)
    ten := {
      blk := block_setCell hblk _ _
      row := fun i v hv => by
        rw [ten_set_pool t hx.wf p s q p' _, List.getElem?_set] at hv
        rw [Array.getElem?_setIfInBounds]
        by_cases e : 23 = i
        · subst e
          rw [if_pos rfl] at hv
          rw [if_pos rfl]
          rw [if_pos (by omega)] at hv
          have := hx.row 23 _ (List.getElem?_eq_getElem (by omega))
          rw [if_pos (Array.getElem?_eq_some_iff.1 this).1]
          exact hv
        · rw [if_neg e] at hv
          rw [if_neg (by omega)]
          exact hx.row i v hv
      pool := by
        show World.ownsRow _ lo 23 1 p' (t.pool ++ [x]).length (numCells (t.pool ++ [x]))
        rw [List.length_append, numCells_snoc]
        exact ownsRow_turn hown tn (fun g hg e => hp'G (e ▸ hg))
      stat := ownsRow_turn hx.stat t2 (fun g hg e => by rcases e with e | e; exact hd_stat g e hg; exact hne (Or.inr (Or.inl (e ▸ hg))))
      twic := ownsRow_turn hx.twic t2 (fun g hg e => by rcases e with e | e; exact hd_twic g e hg; exact hne (Or.inr (Or.inr (e ▸ hg))))
      apart := hx.apart
      wf := ⟨hx.wf.key, hx.wf.vmac, hx.wf.host⟩ }
    turn := h.turn.trans2 t2 (fun k hk e => by
      rcases e with e | e
      · rcases hvo k e with e2 | e2
        · exact Or.inr (Or.inr e2)
        · omega
      · exact Or.inr (Or.inl e))
    old := fun k hk => by
      rcases hk with hk | hk | hk
      · rcases hnew k hk with e | e
        · exact hvo k e
        · omega
      · exact h.old k (Or.inr (Or.inl hk))
      · exact h.old k (Or.inr (Or.inr hk))
    same := h.same.set (by omega) _
    bG := h.bG
    gG := h.gG
    bO := fun hk => by
      rcases hk with hk | hk | hk
      · rcases hnew b hk with e | e
        · exact h.bO (Or.inl e)
        · omega
      · exact h.bO (Or.inr (Or.inl hk))
      · exact h.bO (Or.inr (Or.inr hk))
    gO := fun hk => by
      rcases hk with hk | hk | hk
      · rcases hnew g hk with e | e
        · exact h.gO (Or.inl e)
        · omega
      · exact h.gO (Or.inr (Or.inl hk))
      · exact h.gO (Or.inr (Or.inr hk))
    low := h.low
    inb := h.inb
    inG := h.inG
    lo7 := h.lo7
    G7 := h.G7 }
/-- An element laid behind a tenant's statics, then stored. -/
theorem FSt.statPut (h : FSt w lo b g cap L en G o cur0 p0 s0 q0 n cur t p s q W) (x : Nat × Nat) (hown : W'.ownsRow lo 97 2 p' (t.statics.length + 1) (pairCells t.statics ++ [.int .u32 (x.1 : Int), .int .u32 (x.2 : Int)])) (hgrow : Turn (fun k => s.ownBlock = some k) W W') (hat : p'.ownBlock = s.ownBlock ∨ p'.ownBlock = some W.heap.size) :
    FSt w lo b g cap L en G o cur0 p0 s0 q0 n (cur.setIfInBounds (o + 27) p') { t with statics := t.statics ++ [x] } p p' q (W'.setCell ⟨G, o + 27, none⟩ p') := by
  have hx := h.ten
  have hne := hx.off
  have hl := tenRow_len hx.wf p s q
  have hpG : s.ownBlock ≠ some G := fun e => hne (Or.inr (Or.inl e))
  have hd_pool : ∀ k, s.ownBlock = some k → p.ownBlock ≠ some k := fun k h1 h2 => own_apart hx.stat hx.pool (by decide) h1 h2
  have hd_twic : ∀ k, s.ownBlock = some k → q.ownBlock ≠ some k := fun k h1 h2 => hx.apart k h1 h2
  have hblk : W'.heap[G]? = some (.cells cur 45 (0, 0)) := (hgrow.block G (block_lt hx.blk) hpG).trans hx.blk
  have hp'G : p'.ownBlock ≠ some G := by obtain ⟨_, _, _, hn⟩ := own_form hown hblk (by decide); exact hn
  have hnew : ∀ k, p'.ownBlock = some k → s.ownBlock = some k ∨ W.heap.size ≤ k := fun k hk => by
    rcases hat with e | e
    · exact Or.inl (e ▸ hk)
    · rw [e] at hk; injection hk with hk; omega
  have tn : Turn (fun k => k = G) W' (W'.setCell ⟨G, o + 27, none⟩ p') := (Turn.refl (fun k => k = G) W').setCell (p := ⟨G, o + 27, none⟩) _ (fun _ => rfl)
  have t2 : Turn (fun k => s.ownBlock = some k ∨ k = G) W (W'.setCell ⟨G, o + 27, none⟩ p') := (hgrow.mono (fun _ _ e => Or.inl e)).setCell (p := ⟨G, o + 27, none⟩) _ (fun _ => Or.inr rfl)
  have hsz := h.turn.size
  have hbl := h.line.lt
  have hgl := h.line.glt
  have hvo : ∀ k, s.ownBlock = some k → Owns p0 s0 q0 k ∨ w.heap.size ≤ k := fun k hk => h.old k (Or.inr (Or.inl hk))
  exact {
    line := h.line.turn t2 (fun e => by rcases e with e | e; exact h.bO (Or.inr (Or.inl e)); exact h.bG e) (fun e => by rcases e with e | e; exact h.gO (Or.inr (Or.inl e)); exact h.gG e)
    env := h.env.turn t2 (fun k hk e => by
      rcases e with e | e
      · have := own1_low hx.stat e; have := h.lo7; omega
      · have := h.G7; omega)
    ten := {
      blk := block_setCell hblk _ _
      row := fun i v hv => by
        rw [ten_set_stat t hx.wf p s q p' _, List.getElem?_set] at hv
        rw [Array.getElem?_setIfInBounds]
        by_cases e : 27 = i
        · subst e
          rw [if_pos rfl] at hv
          rw [if_pos rfl]
          rw [if_pos (by omega)] at hv
          have := hx.row 27 _ (List.getElem?_eq_getElem (by omega))
          rw [if_pos (Array.getElem?_eq_some_iff.1 this).1]
          exact hv
        · rw [if_neg e] at hv
          rw [if_neg (by omega)]
          exact hx.row i v hv
      pool := ownsRow_turn hx.pool t2 (fun g hg e => by rcases e with e | e; exact hd_pool g e hg; exact hne (Or.inl (e ▸ hg)))
      stat := by
        show World.ownsRow _ lo 97 2 p' (t.statics ++ [x]).length (pairCells (t.statics ++ [x]))
        rw [List.length_append, pairCells_snoc]
        exact ownsRow_turn hown tn (fun g hg e => hp'G (e ▸ hg))
      twic := ownsRow_turn hx.twic t2 (fun g hg e => by rcases e with e | e; exact hd_twic g e hg; exact hne (Or.inr (Or.inr (e ▸ hg))))
      apart := fun k h1 h2 => by
        rcases hnew k h1 with h3 | h3
        · exact hd_twic k h3 h2
        · have := (hx.twic.lt k h2).2; omega
      wf := ⟨hx.wf.key, hx.wf.vmac, hx.wf.host⟩ }
    turn := h.turn.trans2 t2 (fun k hk e => by
      rcases e with e | e
      · rcases hvo k e with e2 | e2
        · exact Or.inr (Or.inr e2)
        · omega
      · exact Or.inr (Or.inl e))
    old := fun k hk => by
      rcases hk with hk | hk | hk
      · exact h.old k (Or.inl hk)
      · rcases hnew k hk with e | e
        · exact hvo k e
        · omega
      · exact h.old k (Or.inr (Or.inr hk))
    same := h.same.set (by omega) _
    bG := h.bG
    gG := h.gG
    bO := fun hk => by
      rcases hk with hk | hk | hk
      · exact h.bO (Or.inl hk)
      · rcases hnew b hk with e | e
        · exact h.bO (Or.inr (Or.inl e))
        · omega
      · exact h.bO (Or.inr (Or.inr hk))
    gO := fun hk => by
      rcases hk with hk | hk | hk
      · exact h.gO (Or.inl hk)
      · rcases hnew g hk with e | e
        · exact h.gO (Or.inr (Or.inl e))
        · omega
      · exact h.gO (Or.inr (Or.inr hk))
    low := h.low
    inb := h.inb
    inG := h.inG
    lo7 := h.lo7
    G7 := h.G7 }
/-- An element laid behind a tenant's twices, then stored. -/
theorem FSt.twicPut (h : FSt w lo b g cap L en G o cur0 p0 s0 q0 n cur t p s q W) (x : Nat × Nat) (hown : W'.ownsRow lo 97 2 p' (t.twices.length + 1) (pairCells t.twices ++ [.int .u32 (x.1 : Int), .int .u32 (x.2 : Int)])) (hgrow : Turn (fun k => q.ownBlock = some k) W W') (hat : p'.ownBlock = q.ownBlock ∨ p'.ownBlock = some W.heap.size) :
    FSt w lo b g cap L en G o cur0 p0 s0 q0 n (cur.setIfInBounds (o + 28) p') { t with twices := t.twices ++ [x] } p s p' (W'.setCell ⟨G, o + 28, none⟩ p') := by
  have hx := h.ten
  have hne := hx.off
  have hl := tenRow_len hx.wf p s q
  have hpG : q.ownBlock ≠ some G := fun e => hne (Or.inr (Or.inr e))
  have hd_pool : ∀ k, q.ownBlock = some k → p.ownBlock ≠ some k := fun k h1 h2 => own_apart hx.twic hx.pool (by decide) h1 h2
  have hd_stat : ∀ k, q.ownBlock = some k → s.ownBlock ≠ some k := fun k h1 h2 => hx.apart k h2 h1
  have hblk : W'.heap[G]? = some (.cells cur 45 (0, 0)) := (hgrow.block G (block_lt hx.blk) hpG).trans hx.blk
  have hp'G : p'.ownBlock ≠ some G := by obtain ⟨_, _, _, hn⟩ := own_form hown hblk (by decide); exact hn
  have hnew : ∀ k, p'.ownBlock = some k → q.ownBlock = some k ∨ W.heap.size ≤ k := fun k hk => by
    rcases hat with e | e
    · exact Or.inl (e ▸ hk)
    · rw [e] at hk; injection hk with hk; omega
  have tn : Turn (fun k => k = G) W' (W'.setCell ⟨G, o + 28, none⟩ p') := (Turn.refl (fun k => k = G) W').setCell (p := ⟨G, o + 28, none⟩) _ (fun _ => rfl)
  have t2 : Turn (fun k => q.ownBlock = some k ∨ k = G) W (W'.setCell ⟨G, o + 28, none⟩ p') := (hgrow.mono (fun _ _ e => Or.inl e)).setCell (p := ⟨G, o + 28, none⟩) _ (fun _ => Or.inr rfl)
  have hsz := h.turn.size
  have hbl := h.line.lt
  have hgl := h.line.glt
  have hvo : ∀ k, q.ownBlock = some k → Owns p0 s0 q0 k ∨ w.heap.size ≤ k := fun k hk => h.old k (Or.inr (Or.inr hk))
  exact {
    line := h.line.turn t2 (fun e => by rcases e with e | e; exact h.bO (Or.inr (Or.inr e)); exact h.bG e) (fun e => by rcases e with e | e; exact h.gO (Or.inr (Or.inr e)); exact h.gG e)
    env := h.env.turn t2 (fun k hk e => by
      rcases e with e | e
      · have := own1_low hx.twic e; have := h.lo7; omega
      · have := h.G7; omega)
    ten := {
      blk := block_setCell hblk _ _
      row := fun i v hv => by
        rw [ten_set_twic t hx.wf p s q p' _, List.getElem?_set] at hv
        rw [Array.getElem?_setIfInBounds]
        by_cases e : 28 = i
        · subst e
          rw [if_pos rfl] at hv
          rw [if_pos rfl]
          rw [if_pos (by omega)] at hv
          have := hx.row 28 _ (List.getElem?_eq_getElem (by omega))
          rw [if_pos (Array.getElem?_eq_some_iff.1 this).1]
          exact hv
        · rw [if_neg e] at hv
          rw [if_neg (by omega)]
          exact hx.row i v hv
      pool := ownsRow_turn hx.pool t2 (fun g hg e => by rcases e with e | e; exact hd_pool g e hg; exact hne (Or.inl (e ▸ hg)))
      stat := ownsRow_turn hx.stat t2 (fun g hg e => by rcases e with e | e; exact hd_stat g e hg; exact hne (Or.inr (Or.inl (e ▸ hg))))
      twic := by
        show World.ownsRow _ lo 97 2 p' (t.twices ++ [x]).length (pairCells (t.twices ++ [x]))
        rw [List.length_append, pairCells_snoc]
        exact ownsRow_turn hown tn (fun g hg e => hp'G (e ▸ hg))
      apart := fun k h1 h2 => by
        rcases hnew k h2 with h3 | h3
        · exact hd_stat k h3 h1
        · have := (hx.stat.lt k h1).2; omega
      wf := ⟨hx.wf.key, hx.wf.vmac, hx.wf.host⟩ }
    turn := h.turn.trans2 t2 (fun k hk e => by
      rcases e with e | e
      · rcases hvo k e with e2 | e2
        · exact Or.inr (Or.inr e2)
        · omega
      · exact Or.inr (Or.inl e))
    old := fun k hk => by
      rcases hk with hk | hk | hk
      · exact h.old k (Or.inl hk)
      · exact h.old k (Or.inr (Or.inl hk))
      · rcases hnew k hk with e | e
        · exact hvo k e
        · omega
    same := h.same.set (by omega) _
    bG := h.bG
    gG := h.gG
    bO := fun hk => by
      rcases hk with hk | hk | hk
      · exact h.bO (Or.inl hk)
      · exact h.bO (Or.inr (Or.inl hk))
      · rcases hnew b hk with e | e
        · exact h.bO (Or.inr (Or.inr e))
        · omega
    gO := fun hk => by
      rcases hk with hk | hk | hk
      · exact h.gO (Or.inl hk)
      · exact h.gO (Or.inr (Or.inl hk))
      · rcases hnew g hk with e | e
        · exact h.gO (Or.inr (Or.inr e))
        · omega
    low := h.low
    inb := h.inb
    inG := h.inG
    lo7 := h.lo7
    G7 := h.G7 }
end
end Go.Proofs.YtbkpbcmjgbdbkaaGreatDoor

/-! O3 -/
namespace Go.Proofs.YtbkpbcmjgbdbkaaGreatDoor
open Go.RowKit Go.Lib
set_option linter.unusedVariables false
set_option linter.unusedSimpArgs false
set_option maxRecDepth 100000
set_option pp.maxSteps 3000

theorem hat_of {v : Value} {g n c H H' : Nat} (h : v.ownBlock = some g ∨ g = H) (e : H = H') : (Value.slice (some ⟨g, 0, none⟩) n c).ownBlock = v.ownBlock ∨ (Value.slice (some ⟨g, 0, none⟩) n c).ownBlock = some H' := by
  subst e
  rcases h with h | h
  · left; rw [h]; rfl
  · right; rw [h]; rfl
theorem alloc_cell {w : World} {a : Addr} {v : Value} (h : w.cell? a = some v) : ∀ o, (w.alloc o).cell? a = some v := fun o => by
  have hb : a.block < w.heap.size := by
    unfold World.cell? at h
    split at h
    · rename_i h3; exact block_lt h3
    · cases h
  exact (World.cell?_of_block (Below.heap_alloc _ _ _ hb)).trans h
def PoolRel (w : World) (lo b g cap : Nat) (L : List Wd) (en G o : Nat) (cur0 : Array Value) (p0 s0 q0 : Value) (n : Nat) (t : Ten) (m : Nat) (W : World) : Prop :=
  ∃ l cur p, FSt w lo b g cap L en G o cur0 p0 s0 q0 m cur { t with pool := l } p s0 q0 W ∧ poolGo L en (L.length - n) n t.pool = poolGo L en (L.length - m) m l ∧ l.length + n = t.pool.length + m ∧ n ≤ m
set_option maxHeartbeats 4000000 in
theorem field_pool (w : World) (lo b g cap : Nat) (L : List Wd) (en G o n at0 : Nat) (cur : Array Value) (t : Ten) (p s q : Value) (h : FSt w lo b g cap L en G o cur p s q n cur t p s q w) (hp : t.pool.length + L.length ≤ 10000000) :
    Calls Tryz.prog 53 #[.agg #[.string poolName, .int .i64 (at0 : Int)], .pointer (some ⟨b, 0, none⟩), .pointer (some ⟨G, o, none⟩)] w (FieldPost w lo b g cap L en G o cur p s q (poolP L en n t)) := by
  obtain ⟨i0, hi0, hz0, hz1, hz2⟩ := info_parts info23
  have s0 := h.quiet ((Turn.refl (fun _ => False) w).alloc (.cells #[.string poolName, .int .i64 (at0 : Int)] 108))
  have c0 : (w.alloc (.cells #[.string poolName, .int .i64 (at0 : Int)] 108)).cell? ⟨w.heap.size, 0, none⟩ = some (.string poolName) := cell_of_block (block_alloc_new _ _) 0
  have e0 : (poolName.toList == [112, 111, 111, 108]) = true := by kernel_rfl
  have hst : PoolRel w lo b g cap L en G o cur p s q n t n (w.alloc (.cells #[.string poolName, .int .i64 (at0 : Int)] 108)) := ⟨t.pool, cur, p, s0, rfl, rfl, Nat.le_refl _⟩
  have HI := Lib.hid (And.intro hst s0.line.le)
  clear h hst
  go_enter Tryz.func53, Tryz.ntmps53
  go_wp2_with fail
  generalize w.alloc (.cells #[.string poolName, .int .i64 (at0 : Int)] 108) = W0 at *
  clear c0 e0 s0
  go_loopg [] (L.length - n) (fun g' wr => ∃ m, g' = L.length - m ∧ Hid (PoolRel w lo b g cap L en G o cur p s q n t m wr))
  case atStart => exact ⟨n, rfl, Lib.hid HI.out.1⟩
  case round =>
    obtain ⟨m, rfl, HR⟩ := hrel
    obtain ⟨l, cur1, p1, hA, hgo, hlen, hnm⟩ := HR.out
    have hle := hA.line.le
    obtain ⟨x1, x2, x3, x4⟩ := hA.line.ex
    have c0 : wr.cell? ⟨b, 0, none⟩ = some (.slice (some ⟨g, 0, none⟩) L.length cap) := cell_of_block x1 0
    have c2 : wr.cell? ⟨b, 2, none⟩ = some (.int .i64 (m : Int)) := cell_of_block x1 2
    clear x4 HR x1
    by_cases hlt : m < L.length
    · have i2 : (m : Int) < (L.length : Int) := by omega
      go_wp2_with fail
      go_quiet (fail)
      have hB := hA.quiet ((Turn.refl (fun _ => False) wr).drewN nq)
      generalize wr.drewN nq = W1 at *
      clear c0 c2 hA
      go_wp2_with fail
      have hwf := hB.ten.wf
      have hg0 := (ten_get _ hwf p1 s q).1
      have hcall := readIp_any b g cap L en m W1.drew (hB.quiet (Turn.refl _ _).drew).line (hB.quiet (Turn.refl _ _).drew).env
      have hcW : W1.drew.cell? ⟨G, o + 23, none⟩ = some p1 := (hB.quiet (Turn.refl _ _).drew).loc hg0
      have hErr : ∀ pl, readP ipOf L en m = .error pl → poolP L en n t = .error pl := fun pl hr => by
        unfold poolP
        rw [hgo, show L.length - m = (L.length - (m + 1)) + 1 by omega, poolGo, hr]
        rfl
      have hOk : ∀ x m1, readP ipOf L en m = .ok (x, m1) → poolGo L en (L.length - n) n t.pool = poolGo L en (L.length - m1) m1 (l ++ [x]) ∧ m1 = m + 1 := fun x m1 hr => by
        have h1 := (readP_n hr).1
        subst h1
        refine ⟨?_, rfl⟩
        rw [hgo, show L.length - m = (L.length - (m + 1)) + 1 by omega, poolGo, hr]
      have HB := Lib.hid (And.intro hB (And.intro hErr hOk))
      clear hB hErr hOk hgo x2 x3 HI
      rcases except_cases (readP ipOf L en m) with ⟨pl, r1⟩ | ⟨⟨x, m1⟩, r1⟩
      · have hcall2 : Calls Tryz.prog 76 #[.pointer (some ⟨b, 0, none⟩), .func (.func 77) #[] #[]] W1.drew (fun e w1 => ∃ pp, e = .panicked [{ v := .iface 60 (.agg #[.pointer (some ⟨pp, 0, none⟩)]), recovered := false }] ∧ FieldPost w lo b g cap L en G o cur p s q (poolP L en n t) e w1) := by
          refine hcall.mono ?_
          intro e w1 h1
          rw [r1] at h1
          have hf := (HB.out.1.quiet (Turn.refl _ _).drew).fails h1
          obtain ⟨pp, he, _⟩ := h1
          exact ⟨pp, he, by rw [HB.out.2.1 pl r1]; exact hf⟩
        go_region_dies
        all_goals (refine hcall2.mono ?_; rintro e w1 ⟨pp, rfl, hpost⟩; exact ⟨rfl, hpost⟩)
      · have hcall2 : Calls Tryz.prog 76 #[.pointer (some ⟨b, 0, none⟩), .func (.func 77) #[] #[]] W1.drew (fun e w1 => e = .returned (.int .u32 (x : Int)) ∧ FSt w lo b g cap L en G o cur p s q m1 cur1 { t with pool := l } p1 s q w1 ∧ w1.cell? ⟨G, o + 23, none⟩ = some p1) := by
          refine hcall.mono ?_
          intro e w1 h1
          rw [r1] at h1
          obtain ⟨he, l1, t1⟩ := h1
          have hq := ((HB.out.1.quiet (Turn.refl _ _).drew).call l1 t1)
          exact ⟨he, hq, hq.loc hg0⟩
        have hOk := HB.out.2.2 x m1 r1
        have HO := Lib.hid hOk
        clear hOk HB hcall r1
        go_region_law
          (first
            | (go_simp; go_at_call 76; refine hcall2.mono ?_; rintro e w1 ⟨rfl, hq, hc⟩; have hc2 := alloc_cell hc; have HQ := Lib.hid hq; clear hq)
            | (refine step_append_lies _ (by rfl) _ _ _ (by rfl) lo 23 i0 (.int .u32 0) 1 4 Tryz.underlying41 hi0 hz0 hz1 hz2 rfl (by decide) p1 l.length _ (by rfl) (HQ.out.ten.pool.alloc _) ⟨w1.heap.size, 0, none⟩ 1 1 [.int .u32 (x : Int)] (by rfl) (by rfl) (World.news_of_block (block_alloc_new _ _)) (by intro u hu; simp at hu; subst hu; rfl) (by omega) (by unfold maxLen; omega) (by omega) (by have := HQ.out.low; have := HQ.out.turn.size; simp; omega) (w1.heap.size + 1) (by simp) ?_
               intro g' cap' w' hown' hgrow hwhere hlt'
               have hq2 := HQ.out.quiet ((Turn.refl (fun _ => False) w1).alloc (.cells #[.int .u32 (x : Int)] 23))
               have hb' := ((turn_of_grown hgrow).block G (block_lt hq2.ten.blk) (fun e => hq2.ten.off (Or.inl e))).trans hq2.ten.blk
               have hc' : w'.cell? ⟨G, o + 23, none⟩ = some p1 := (cell_of_block hb' _).trans (hq2.ten.row 23 _ hg0)
               have hf' : w'.frozen? ⟨G, o + 23, none⟩ = false := free_of_block hb' _
               have hfin := hq2.poolPut (p' := .slice (some ⟨g', 0, none⟩) (l.length + 1) cap') x hown' (turn_of_grown hgrow) (hat_of hwhere (by simp))
               have HF := Lib.hid hfin
               clear hfin hq2 hb' hgrow hown' hwhere hlt'))
        all_goals
          obtain ⟨hgo2, rfl⟩ := HO.out
          go_wp2_with fail
          go_roundg (L.length - (m + 1))
          case measure => omega
          case rel => exact ⟨m + 1, rfl, Lib.hid ⟨l ++ [x], _, _, HF.out, hgo2, by rw [List.length_append]; simp; omega, by omega⟩⟩
    · obtain rfl : m = L.length := by omega
      have i2 : ¬ ((L.length : Int) < (L.length : Int)) := by omega
      go_wp2_with fail
      go_quiet (fail)
      have hB := hA.quiet ((Turn.refl (fun _ => False) wr).drewN nq)
      have hR : poolP L en n t = .ok ({ t with pool := l }, L.length) := by
        unfold poolP
        rw [hgo, Nat.sub_self]
        rfl
      go_wp2_with fail
      go_end0
      rw [hR]
      exact ⟨rfl, _, _, _, _, hB⟩
end Go.Proofs.YtbkpbcmjgbdbkaaGreatDoor

/-! O4 -/
namespace Go.Proofs.YtbkpbcmjgbdbkaaGreatDoor
open Go.RowKit Go.Lib
set_option linter.unusedVariables false
set_option linter.unusedSimpArgs false
set_option maxRecDepth 100000
set_option pp.maxSteps 3000

theorem info97 : (Tryz.prog.info? 97).map (fun i => (i.zero, i.size, i.bytes)) = some (some (.agg #[.int .u32 0, .int .u32 0]), 2, 8) := by kernel_rfl
def statP (L : List Wd) (en n : Nat) (t : Ten) : Except Nat (Ten × Nat) := do
  let (x, n) ← pairP L en n
  .ok ({ t with statics := t.statics ++ [x] }, n)
def twicP (L : List Wd) (en n : Nat) (t : Ten) : Except Nat (Ten × Nat) := do
  let (x, n) ← pairP L en n
  .ok ({ t with twices := t.twices ++ [x] }, n)
set_option maxHeartbeats 4000000 in
theorem field_static (w : World) (lo b g cap : Nat) (L : List Wd) (en G o n at0 : Nat) (cur : Array Value) (t : Ten) (p s q : Value) (h : FSt w lo b g cap L en G o cur p s q n cur t p s q w) (hp : t.statics.length ≤ 10000000) :
    Calls Tryz.prog 53 #[.agg #[.string statName, .int .i64 (at0 : Int)], .pointer (some ⟨b, 0, none⟩), .pointer (some ⟨G, o, none⟩)] w (FieldPost w lo b g cap L en G o cur p s q (statP L en n t)) := by
  obtain ⟨i0, hi0, hz0, hz1, hz2⟩ := info_parts info97
  have s0 := h.quiet ((Turn.refl (fun _ => False) w).alloc (.cells #[.string statName, .int .i64 (at0 : Int)] 108))
  have c0 : (w.alloc (.cells #[.string statName, .int .i64 (at0 : Int)] 108)).cell? ⟨w.heap.size, 0, none⟩ = some (.string statName) := cell_of_block (block_alloc_new _ _) 0
  have e0 : (statName.toList == [112, 111, 111, 108]) = false := by kernel_rfl
  have e1 : (statName.toList == [112, 111, 114, 116, 115]) = false := by kernel_rfl
  have e2 : (statName.toList == [102, 105, 108, 116, 101, 114]) = false := by kernel_rfl
  have e3 : (statName.toList == [115, 116, 97, 116, 105, 99]) = true := by kernel_rfl
  clear h
  go_enter Tryz.func53, Tryz.ntmps53
  go_wp2_with fail
  generalize w.alloc (.cells #[.string statName, .int .i64 (at0 : Int)] 108) = W1 at *
  clear c0 e0 e1 e2 e3
  have hwf := s0.ten.wf
  have hg0 := (ten_get _ hwf p s q).2.2.2.2.1
  have hcall := pair_any b g cap L en n W1.drew (s0.quiet (Turn.refl _ _).drew).line (s0.quiet (Turn.refl _ _).drew).env
  have hcW : W1.drew.cell? ⟨G, o + 27, none⟩ = some s := (s0.quiet (Turn.refl _ _).drew).loc hg0
  have HB := Lib.hid s0
  clear s0
  rcases except_cases (pairP L en n) with ⟨pl, r1⟩ | ⟨⟨x, m1⟩, r1⟩
  · have hcall2 : Calls Tryz.prog 86 #[.pointer (some ⟨b, 0, none⟩)] W1.drew (fun e w1 => ∃ pp, e = .panicked [{ v := .iface 60 (.agg #[.pointer (some ⟨pp, 0, none⟩)]), recovered := false }] ∧ FieldPost w lo b g cap L en G o cur p s q (statP L en n t) e w1) := by
      refine hcall.mono ?_
      intro e w1 h1
      rw [r1] at h1
      have hf := (HB.out.quiet (Turn.refl _ _).drew).fails h1
      obtain ⟨pp, he, _⟩ := h1
      have hR : statP L en n t = .error pl := by simp only [statP, r1, bind, Except.bind]
      exact ⟨pp, he, by rw [hR]; exact hf⟩
    go_region_dies
    all_goals (refine hcall2.mono ?_; rintro e w1 ⟨pp, rfl, hpost⟩; exact ⟨rfl, hpost⟩)
  · have hcall2 : Calls Tryz.prog 86 #[.pointer (some ⟨b, 0, none⟩)] W1.drew (fun e w1 => e = .returned (.agg #[.int .u32 (x.1 : Int), .int .u32 (x.2 : Int)]) ∧ FSt w lo b g cap L en G o cur p s q m1 cur t p s q w1 ∧ w1.cell? ⟨G, o + 27, none⟩ = some s) := by
      refine hcall.mono ?_
      intro e w1 h1
      rw [r1] at h1
      obtain ⟨he, l1, t1⟩ := h1
      have hq := ((HB.out.quiet (Turn.refl _ _).drew).call l1 t1)
      exact ⟨he, hq, hq.loc hg0⟩
    have hR : statP L en n t = .ok ({ t with statics := t.statics ++ [x] }, m1) := by simp only [statP, r1, bind, Except.bind]
    have HO := Lib.hid hR
    clear hR HB hcall r1
    go_region_law
      (first
        | (go_simp; go_at_call 86; refine hcall2.mono ?_; rintro e w1 ⟨rfl, hq, hc⟩; have hc2 := alloc_cell hc; have HQ := Lib.hid hq; clear hq)
        | (refine step_append_lies _ (by rfl) _ _ _ (by rfl) lo 97 i0 (.agg #[.int .u32 0, .int .u32 0]) 2 8 Tryz.underlying43 hi0 hz0 hz1 hz2 rfl (by decide) s t.statics.length _ (by rfl) (HQ.out.ten.stat.alloc _) ⟨w1.heap.size, 0, none⟩ 1 1 [.int .u32 (x.1 : Int), .int .u32 (x.2 : Int)] (by rfl) (by rfl) (World.news_of_block (cs := #[.int .u32 (x.1 : Int), .int .u32 (x.2 : Int)]) (t := 97) (fr := (0, 0)) (heap_alloc_new w1 _)) (by intro u hu; simp at hu; rcases hu with rfl | rfl <;> rfl) (by omega) (by unfold maxLen; omega) (by omega) (by have := HQ.out.low; have := HQ.out.turn.size; simp; omega) (w1.heap.size + 1) (by simp) ?_
           intro g' cap' w' hown' hgrow hwhere hlt'
           have hq2 := HQ.out.quiet ((Turn.refl (fun _ => False) w1).alloc (.cells #[.int .u32 (x.1 : Int), .int .u32 (x.2 : Int)] 97))
           have hb' := ((turn_of_grown hgrow).block G (block_lt hq2.ten.blk) (fun e => hq2.ten.off (Or.inr (Or.inl e)))).trans hq2.ten.blk
           have hc' : w'.cell? ⟨G, o + 27, none⟩ = some s := (cell_of_block hb' _).trans (hq2.ten.row 27 _ hg0)
           have hf' : w'.frozen? ⟨G, o + 27, none⟩ = false := free_of_block hb' _
           have hfin := hq2.statPut (p' := .slice (some ⟨g', 0, none⟩) (t.statics.length + 1) cap') x hown' (turn_of_grown hgrow) (hat_of hwhere (by simp))
           have HF := Lib.hid hfin
           clear hfin hq2 hb' hgrow hown' hwhere hlt'))
    all_goals
      go_wp2_with fail
      go_end0
      rw [HO.out]
      exact ⟨rfl, _, _, _, _, HF.out⟩
set_option maxHeartbeats 4000000 in
theorem field_twice (w : World) (lo b g cap : Nat) (L : List Wd) (en G o n at0 : Nat) (cur : Array Value) (t : Ten) (p s q : Value) (h : FSt w lo b g cap L en G o cur p s q n cur t p s q w) (hp : t.twices.length ≤ 10000000) :
    Calls Tryz.prog 53 #[.agg #[.string twiceName, .int .i64 (at0 : Int)], .pointer (some ⟨b, 0, none⟩), .pointer (some ⟨G, o, none⟩)] w (FieldPost w lo b g cap L en G o cur p s q (twicP L en n t)) := by
  obtain ⟨i0, hi0, hz0, hz1, hz2⟩ := info_parts info97
  have s0 := h.quiet ((Turn.refl (fun _ => False) w).alloc (.cells #[.string twiceName, .int .i64 (at0 : Int)] 108))
  have c0 : (w.alloc (.cells #[.string twiceName, .int .i64 (at0 : Int)] 108)).cell? ⟨w.heap.size, 0, none⟩ = some (.string twiceName) := cell_of_block (block_alloc_new _ _) 0
  have e0 : (twiceName.toList == [112, 111, 111, 108]) = false := by kernel_rfl
  have e1 : (twiceName.toList == [112, 111, 114, 116, 115]) = false := by kernel_rfl
  have e2 : (twiceName.toList == [102, 105, 108, 116, 101, 114]) = false := by kernel_rfl
  have e3 : (twiceName.toList == [115, 116, 97, 116, 105, 99]) = false := by kernel_rfl
  have e4 : (twiceName.toList == [116, 119, 105, 99, 101]) = true := by kernel_rfl
  clear h
  go_enter Tryz.func53, Tryz.ntmps53
  go_wp2_with fail
  generalize w.alloc (.cells #[.string twiceName, .int .i64 (at0 : Int)] 108) = W1 at *
  clear c0 e0 e1 e2 e3 e4
  have hwf := s0.ten.wf
  have hg0 := (ten_get _ hwf p s q).2.2.2.2.2.1
  have hcall := pair_any b g cap L en n W1.drew (s0.quiet (Turn.refl _ _).drew).line (s0.quiet (Turn.refl _ _).drew).env
  have hcW : W1.drew.cell? ⟨G, o + 28, none⟩ = some q := (s0.quiet (Turn.refl _ _).drew).loc hg0
  have HB := Lib.hid s0
  clear s0
  rcases except_cases (pairP L en n) with ⟨pl, r1⟩ | ⟨⟨x, m1⟩, r1⟩
  · have hcall2 : Calls Tryz.prog 86 #[.pointer (some ⟨b, 0, none⟩)] W1.drew (fun e w1 => ∃ pp, e = .panicked [{ v := .iface 60 (.agg #[.pointer (some ⟨pp, 0, none⟩)]), recovered := false }] ∧ FieldPost w lo b g cap L en G o cur p s q (twicP L en n t) e w1) := by
      refine hcall.mono ?_
      intro e w1 h1
      rw [r1] at h1
      have hf := (HB.out.quiet (Turn.refl _ _).drew).fails h1
      obtain ⟨pp, he, _⟩ := h1
      have hR : twicP L en n t = .error pl := by simp only [twicP, r1, bind, Except.bind]
      exact ⟨pp, he, by rw [hR]; exact hf⟩
    go_region_dies
    all_goals (refine hcall2.mono ?_; rintro e w1 ⟨pp, rfl, hpost⟩; exact ⟨rfl, hpost⟩)
  · have hcall2 : Calls Tryz.prog 86 #[.pointer (some ⟨b, 0, none⟩)] W1.drew (fun e w1 => e = .returned (.agg #[.int .u32 (x.1 : Int), .int .u32 (x.2 : Int)]) ∧ FSt w lo b g cap L en G o cur p s q m1 cur t p s q w1 ∧ w1.cell? ⟨G, o + 28, none⟩ = some q) := by
      refine hcall.mono ?_
      intro e w1 h1
      rw [r1] at h1
      obtain ⟨he, l1, t1⟩ := h1
      have hq := ((HB.out.quiet (Turn.refl _ _).drew).call l1 t1)
      exact ⟨he, hq, hq.loc hg0⟩
    have hR : twicP L en n t = .ok ({ t with twices := t.twices ++ [x] }, m1) := by simp only [twicP, r1, bind, Except.bind]
    have HO := Lib.hid hR
    clear hR HB hcall r1
    go_region_law
      (first
        | (go_simp; go_at_call 86; refine hcall2.mono ?_; rintro e w1 ⟨rfl, hq, hc⟩; have hc2 := alloc_cell hc; have HQ := Lib.hid hq; clear hq)
        | (refine step_append_lies _ (by rfl) _ _ _ (by rfl) lo 97 i0 (.agg #[.int .u32 0, .int .u32 0]) 2 8 Tryz.underlying43 hi0 hz0 hz1 hz2 rfl (by decide) q t.twices.length _ (by rfl) (HQ.out.ten.twic.alloc _) ⟨w1.heap.size, 0, none⟩ 1 1 [.int .u32 (x.1 : Int), .int .u32 (x.2 : Int)] (by rfl) (by rfl) (World.news_of_block (cs := #[.int .u32 (x.1 : Int), .int .u32 (x.2 : Int)]) (t := 97) (fr := (0, 0)) (heap_alloc_new w1 _)) (by intro u hu; simp at hu; rcases hu with rfl | rfl <;> rfl) (by omega) (by unfold maxLen; omega) (by omega) (by have := HQ.out.low; have := HQ.out.turn.size; simp; omega) (w1.heap.size + 1) (by simp) ?_
           intro g' cap' w' hown' hgrow hwhere hlt'
           have hq2 := HQ.out.quiet ((Turn.refl (fun _ => False) w1).alloc (.cells #[.int .u32 (x.1 : Int), .int .u32 (x.2 : Int)] 97))
           have hb' := ((turn_of_grown hgrow).block G (block_lt hq2.ten.blk) (fun e => hq2.ten.off (Or.inr (Or.inr e)))).trans hq2.ten.blk
           have hc' : w'.cell? ⟨G, o + 28, none⟩ = some q := (cell_of_block hb' _).trans (hq2.ten.row 28 _ hg0)
           have hf' : w'.frozen? ⟨G, o + 28, none⟩ = false := free_of_block hb' _
           have hfin := hq2.twicPut (p' := .slice (some ⟨g', 0, none⟩) (t.twices.length + 1) cap') x hown' (turn_of_grown hgrow) (hat_of hwhere (by simp))
           have HF := Lib.hid hfin
           clear hfin hq2 hb' hgrow hown' hwhere hlt'))
    all_goals
      go_wp2_with fail
      go_end0
      rw [HO.out]
      exact ⟨rfl, _, _, _, _, HF.out⟩
/-- A tenant's further line. -/
def fieldP (s : ByteArray) (a : Nat) (L : List Wd) (en n : Nat) (t : Ten) : Except Nat (Ten × Nat) :=
  if s = poolName then poolP L en n t else if s = portsName then portsP L en n t else if s = filtName then filtP L en n t else if s = statName then statP L en n t
  else if s = twiceName then twicP L en n t else if s = quotaName then quotaP L en n t else if s = rateName then rateP L en n t else .error a
set_option maxHeartbeats 2000000 in
theorem field_none (w : World) (lo b g cap : Nat) (L : List Wd) (en G o n at0 : Nat) (cur : Array Value) (t : Ten) (p s q : Value) (x : ByteArray) (h : FSt w lo b g cap L en G o cur p s q n cur t p s q w)
    (h0 : ¬ x = poolName) (h1 : ¬ x = portsName) (h2 : ¬ x = filtName) (h3 : ¬ x = statName) (h4 : ¬ x = twiceName) (h5 : ¬ x = quotaName) (h6 : ¬ x = rateName) :
    Calls Tryz.prog 53 #[.agg #[.string x, .int .i64 (at0 : Int)], .pointer (some ⟨b, 0, none⟩), .pointer (some ⟨G, o, none⟩)] w (FieldPost w lo b g cap L en G o cur p s q (.error at0)) := by
  have s0 := h.quiet ((Turn.refl (fun _ => False) w).alloc (.cells #[.string x, .int .i64 (at0 : Int)] 108))
  have c0 : (w.alloc (.cells #[.string x, .int .i64 (at0 : Int)] 108)).cell? ⟨w.heap.size, 0, none⟩ = some (.string x) := cell_of_block (block_alloc_new _ _) 0
  have c1 : (w.alloc (.cells #[.string x, .int .i64 (at0 : Int)] 108)).cell? ⟨w.heap.size, 1, none⟩ = some (.int .i64 (at0 : Int)) := cell_of_block (block_alloc_new _ _) 1
  have e0 : (x.toList == [112, 111, 111, 108]) = false := by have := str_ne h0; rwa [show poolName.toList = [112, 111, 111, 108] by kernel_rfl] at this
  have e1 : (x.toList == [112, 111, 114, 116, 115]) = false := by have := str_ne h1; rwa [show portsName.toList = [112, 111, 114, 116, 115] by kernel_rfl] at this
  have e2 : (x.toList == [102, 105, 108, 116, 101, 114]) = false := by have := str_ne h2; rwa [show filtName.toList = [102, 105, 108, 116, 101, 114] by kernel_rfl] at this
  have e3 : (x.toList == [115, 116, 97, 116, 105, 99]) = false := by have := str_ne h3; rwa [show statName.toList = [115, 116, 97, 116, 105, 99] by kernel_rfl] at this
  have e4 : (x.toList == [116, 119, 105, 99, 101]) = false := by have := str_ne h4; rwa [show twiceName.toList = [116, 119, 105, 99, 101] by kernel_rfl] at this
  have e5 : (x.toList == [113, 117, 111, 116, 97]) = false := by have := str_ne h5; rwa [show quotaName.toList = [113, 117, 111, 116, 97] by kernel_rfl] at this
  have e6 : (x.toList == [114, 97, 116, 101]) = false := by have := str_ne h6; rwa [show rateName.toList = [114, 97, 116, 101] by kernel_rfl] at this
  clear h h0 h1 h2 h3 h4 h5 h6
  go_enter Tryz.func53, Tryz.ntmps53
  go_wp2_with fail
  generalize w.alloc (.cells #[.string x, .int .i64 (at0 : Int)] 108) = W1 at *
  refine (fail_any at0 _).mono ?_
  rintro e w1 ⟨pp, rfl, f⟩
  exact ⟨rfl, s0.fails ⟨pp, rfl, f.1, f.2.1, f.2.2.mono (fun _ _ h => h.elim)⟩⟩
theorem field_any (w : World) (lo b g cap : Nat) (L : List Wd) (en G o n at0 : Nat) (cur : Array Value) (t : Ten) (p s q : Value) (x : ByteArray) (h : FSt w lo b g cap L en G o cur p s q n cur t p s q w)
    (hp : t.pool.length + L.length ≤ 10000000) (hs : t.statics.length ≤ 10000000) (hq : t.twices.length ≤ 10000000) :
    Calls Tryz.prog 53 #[.agg #[.string x, .int .i64 (at0 : Int)], .pointer (some ⟨b, 0, none⟩), .pointer (some ⟨G, o, none⟩)] w (FieldPost w lo b g cap L en G o cur p s q (fieldP x at0 L en n t)) := by
  unfold fieldP
  split
  · rename_i e; subst e; exact field_pool w lo b g cap L en G o n at0 cur t p s q h hp
  split
  · rename_i e; subst e; exact field_ports w lo b g cap L en G o n at0 cur t p s q h
  split
  · rename_i e; subst e; exact field_filter w lo b g cap L en G o n at0 cur t p s q h
  split
  · rename_i e; subst e; exact field_static w lo b g cap L en G o n at0 cur t p s q h hs
  split
  · rename_i e; subst e; exact field_twice w lo b g cap L en G o n at0 cur t p s q h hq
  split
  · rename_i e; subst e; exact field_quota w lo b g cap L en G o n at0 cur t p s q h
  split
  · rename_i e; subst e; exact field_rate w lo b g cap L en G o n at0 cur t p s q h
  · exact field_none w lo b g cap L en G o n at0 cur t p s q x h ‹_› ‹_› ‹_› ‹_› ‹_› ‹_› ‹_›
end Go.Proofs.YtbkpbcmjgbdbkaaGreatDoor
