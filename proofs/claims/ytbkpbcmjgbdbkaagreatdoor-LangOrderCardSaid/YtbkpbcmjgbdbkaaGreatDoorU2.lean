/- lang.Text: how the world stands in its midst; its first line. Condition: Env. -/
import Derived.Test.YtbkpbcmjgbdbkaaGreatDoorMG
namespace Go.Proofs.YtbkpbcmjgbdbkaaGreatDoor
open Go.RowKit Go.Lib
set_option linter.unusedVariables false
set_option linter.unusedSimpArgs false
set_option maxRecDepth 100000
set_option pp.maxSteps 3000

theorem own_new {w : World} (xs : List Value) (n : Nat) (hn : xs.length = n) (hm : n ≤ 1000000) : (w.alloc (.cells xs.toArray 9)).ownsRow w.heap.size 9 1 (.slice (some ⟨w.heap.size, 0, none⟩) n n) n xs := by
  refine ⟨by omega, Or.inr ⟨w.heap.size, n, xs.toArray, rfl, Nat.le_refl _, block_alloc_new _ _, Nat.le_refl _, by unfold maxLen; omega, by simp [hn], by simp [← hn]⟩⟩
/-- In the midst of writing: acc was written. -/
structure TxAt (w W : World) (b : Nat) (acc : List UInt8) : Prop where
  buf : BufIs W w.heap.size b acc
  turn : Turn (fun k => w.heap.size ≤ k) w W
  env : Env W
  low : w.heap.size ≤ b
  bl : b < W.heap.size
theorem TxAt.quiet {w W W' : World} {b : Nat} {acc : List UInt8} (h : TxAt w W b acc) (t : Turn (fun _ => False) W W') : TxAt w W' b acc :=
  ⟨h.buf.turn t (fun _ _ h => h) h.low, h.turn.trans2 t (fun _ _ e => e.elim), h.env.keep t, h.low, Nat.lt_of_lt_of_le h.bl t.size⟩
theorem TxAt.line {w W W' : World} {b : Nat} {acc acc' : List UInt8} (h : TxAt w W b acc) (hw : Env w) (hb : BufIs W' w.heap.size b acc') (t : Turn (BufT W w.heap.size b) W W') : TxAt w W' b acc' :=
  ⟨hb, h.turn.trans2 (BufT.low t h.low) (fun _ _ e => e), h.env.turn (BufT.low t h.low) (fun i hi e => by have := hw.six; omega), h.low, Nat.lt_of_lt_of_le h.bl t.size⟩
/-- A block that is neither the writer's nor a row of bytes turned. -/
theorem BufIs.off {w w' : World} {B b : Nat} {l : List UInt8} {F : Nat → Prop} (h : BufIs w B b l) (t : Turn F w w') (hb : ¬ F b) (hF : ∀ k cs, w.heap[k]? = some (.cells cs 5 (0, 0)) → ¬ F k) : BufIs w' B b l := by
  obtain ⟨p, v, hp, hbk, hown, hne⟩ := h
  exact ⟨p, v, hp, (t.block b (block_lt hbk) hb).trans hbk, ownsRow_turn hown t (fun g hg => by obtain ⟨cs, hc⟩ := own_cells hown hg; exact hF g cs hc), hne⟩
theorem buf_keep {W W' : World} {B b k : Nat} {cs : Array Value} {T : TypeId} (hk : W.heap[k]? = some (.cells cs T (0, 0))) (t : Turn (BufT W B b) W W') (hb : k ≠ b) (hT : T ≠ 5) : W'.heap[k]? = some (.cells cs T (0, 0)) :=
  (t.block k (block_lt hk) (fun e => by
    rcases e with e | ⟨_, cs', e⟩
    · exact hb e
    · rw [hk] at e; injection e with e; injection e with _ e; exact hT e)).trans hk
theorem regr_cell {W : World} {k : Nat} {cs : Array Value} {T : TypeId} (hk : W.heap[k]? = some (.cells cs T (0, 0))) (d : Nat) (os : Array Obj) (i : Nat) : (Sort.grow (redrawn W d) os).cell? ⟨k, i, none⟩ = cs[i]? :=
  ((below_regrown W d os).cell (p := ⟨k, i, none⟩) (block_lt hk)).trans (cell_of_block hk i)
theorem regr_load {W : World} {k o n ty : Nat} {cs r : Array Value} {T : TypeId} (hk : W.heap[k]? = some (.cells cs T (0, 0))) (hn : r.size = n) (ha : ∀ W, (isAgg ty).run Tryz.prog W = .ok true W) (hs : ∀ W, (sizeOf ty).run Tryz.prog W = .ok n W)
    (h : ∀ (j : Nat) (u : Value), r.toList[j]? = some u → cs[o + j]? = some u) : ∀ V, (∃ p : Regrown, V = Sort.grow (redrawn W p.d) p.os) → (Instr.loadAt ty (.pointer (some ⟨k, o, none⟩))).run Tryz.prog V = .ok (.agg r) V := fun V hV => by
  obtain ⟨p, rfl⟩ := hV
  exact loadAt_agg hn (ha _) (hs _) (fun j u hj => (regr_cell hk p.d p.os (o + j)).trans (h j u hj))
theorem agg25 (W : World) : (isAgg 25).run Tryz.prog W = .ok true W := by kernel_rfl
theorem agg26 (W : World) : (isAgg 26).run Tryz.prog W = .ok true W := by kernel_rfl
theorem size25 (W : World) : (sizeOf 25).run Tryz.prog W = .ok 6 W := by kernel_rfl
theorem size26 (W : World) : (sizeOf 26).run Tryz.prog W = .ok 8 W := by kernel_rfl
theorem cfg_get {c : Cfg} (h : WfCfg c) (v : Value) : (cfgRow c v)[0]? = some (.int .u32 (c.ip : Int)) ∧ (cfgRow c v)[27]? = some (.int .u32 (c.drain : Int)) ∧ (∀ (j : Nat) (u : Value), (u8row c.mac).toList[j]? = some u → (cfgRow c v)[1 + j]? = some u) ∧ (∀ (j : Nat) (u : Value), (u8row c.out).toList[j]? = some u → (cfgRow c v)[7 + j]? = some u) ∧
    (∀ (j : Nat) (u : Value), (u8row c.next).toList[j]? = some u → (cfgRow c v)[13 + j]? = some u) ∧ (∀ (j : Nat) (u : Value), (u8row c.key).toList[j]? = some u → (cfgRow c v)[19 + j]? = some u) := by
  obtain ⟨ip, mac, out, next, key, drain, tens⟩ := c
  obtain ⟨_, _, _, _, _, _, rfl⟩ := list6 mac h.1
  obtain ⟨_, _, _, _, _, _, rfl⟩ := list6 out h.2.1
  obtain ⟨_, _, _, _, _, _, rfl⟩ := list6 next h.2.2.1
  obtain ⟨_, _, _, _, _, _, _, _, rfl⟩ := list8 key h.2.2.2
  have six : ∀ (P : Nat → Value → Prop) (a b c d e f : Value), P 0 a → P 1 b → P 2 c → P 3 d → P 4 e → P 5 f → ∀ (j : Nat) (u : Value), [a, b, c, d, e, f][j]? = some u → P j u := by
    intro P a b c d e f h0 h1 h2 h3 h4 h5 j u hj
    match j, hj with
    | 0, hj => cases hj; exact h0
    | 1, hj => cases hj; exact h1
    | 2, hj => cases hj; exact h2
    | 3, hj => cases hj; exact h3
    | 4, hj => cases hj; exact h4
    | 5, hj => cases hj; exact h5
  have eight : ∀ (P : Nat → Value → Prop) (a b c d e f g h : Value), P 0 a → P 1 b → P 2 c → P 3 d → P 4 e → P 5 f → P 6 g → P 7 h → ∀ (j : Nat) (u : Value), [a, b, c, d, e, f, g, h][j]? = some u → P j u := by
    intro P a b c d e f g h h0 h1 h2 h3 h4 h5 h6 h7 j u hj
    match j, hj with
    | 0, hj => cases hj; exact h0
    | 1, hj => cases hj; exact h1
    | 2, hj => cases hj; exact h2
    | 3, hj => cases hj; exact h3
    | 4, hj => cases hj; exact h4
    | 5, hj => cases hj; exact h5
    | 6, hj => cases hj; exact h6
    | 7, hj => cases hj; exact h7
  refine ⟨by kernel_rfl, by kernel_rfl, six _ _ _ _ _ _ _ ?_ ?_ ?_ ?_ ?_ ?_, six _ _ _ _ _ _ _ ?_ ?_ ?_ ?_ ?_ ?_, six _ _ _ _ _ _ _ ?_ ?_ ?_ ?_ ?_ ?_, eight _ _ _ _ _ _ _ _ _ ?_ ?_ ?_ ?_ ?_ ?_ ?_ ?_⟩ <;> kernel_rfl
theorem six_get (P : Nat → Value → Prop) (a b c d e f : Value) (h0 : P 0 a) (h1 : P 1 b) (h2 : P 2 c) (h3 : P 3 d) (h4 : P 4 e) (h5 : P 5 f) : ∀ (j : Nat) (u : Value), [a, b, c, d, e, f][j]? = some u → P j u := by
  intro j u hj
  match j, hj with
  | 0, hj => cases hj; exact h0
  | 1, hj => cases hj; exact h1
  | 2, hj => cases hj; exact h2
  | 3, hj => cases hj; exact h3
  | 4, hj => cases hj; exact h4
  | 5, hj => cases hj; exact h5
theorem eight_get (P : Nat → Value → Prop) (a b c d e f g h : Value) (h0 : P 0 a) (h1 : P 1 b) (h2 : P 2 c) (h3 : P 3 d) (h4 : P 4 e) (h5 : P 5 f) (h6 : P 6 g) (h7 : P 7 h) : ∀ (j : Nat) (u : Value), [a, b, c, d, e, f, g, h][j]? = some u → P j u := by
  intro j u hj
  match j, hj with
  | 0, hj => cases hj; exact h0
  | 1, hj => cases hj; exact h1
  | 2, hj => cases hj; exact h2
  | 3, hj => cases hj; exact h3
  | 4, hj => cases hj; exact h4
  | 5, hj => cases hj; exact h5
  | 6, hj => cases hj; exact h6
  | 7, hj => cases hj; exact h7
/-- A tenant's row, cell by cell. -/
structure TenGet (t : Ten) (p s q : Value) (r : Array Value) : Prop where
  size : r.size = 33
  name : r[0]? = some (.string t.name)
  vni : r[1]? = some (.int .u32 (t.vni : Int))
  key : ∀ (j : Nat) (u : Value), (u8row t.key).toList[j]? = some u → r[2 + j]? = some u
  vtep : r[10]? = some (.int .u32 (t.vtep : Int))
  vmac : ∀ (j : Nat) (u : Value), (u8row t.vmac).toList[j]? = some u → r[11 + j]? = some u
  host : ∀ (j : Nat) (u : Value), (u8row t.host).toList[j]? = some u → r[17 + j]? = some u
  pool : r[23]? = some p
  lo : r[24]? = some (.int .u16 (t.lo : Int))
  hi : r[25]? = some (.int .u16 (t.hi : Int))
  filter : r[26]? = some (.int .i64 t.filter)
  stat : r[27]? = some s
  twic : r[28]? = some q
  sess : r[29]? = some (.int .i64 t.sess)
  queue : r[30]? = some (.int .i64 t.queue)
  rate : r[31]? = some (.int .u32 (t.rate : Int))
  burst : r[32]? = some (.int .u32 (t.burst : Int))
  one : p.oneCell' = true → s.oneCell' = true → q.oneCell' = true → ∀ u ∈ r.toList, u.oneCell' = true
theorem tenGet (t : Ten) (h : WfTen t) (p s q : Value) : TenGet t p s q (tenRow t p s q) := by
  have hsz := tenRow_size h p s q
  have hone : p.oneCell' = true → s.oneCell' = true → q.oneCell' = true → ∀ u ∈ (tenRow t p s q).toList, u.oneCell' = true := ten_one t p s q
  obtain ⟨nm, vni, key, vtep, vmac, host, pool, lo, hi, fi, st, tw, se, qu, ra, bu⟩ := t
  obtain ⟨_, _, _, _, _, _, _, _, rfl⟩ := list8 key h.key
  obtain ⟨_, _, _, _, _, _, rfl⟩ := list6 vmac h.vmac
  obtain ⟨_, _, _, _, _, _, rfl⟩ := list6 host h.host
  refine ⟨hsz, ?_, ?_, eight_get _ _ _ _ _ _ _ _ _ ?_ ?_ ?_ ?_ ?_ ?_ ?_ ?_, ?_, six_get _ _ _ _ _ _ _ ?_ ?_ ?_ ?_ ?_ ?_, six_get _ _ _ _ _ _ _ ?_ ?_ ?_ ?_ ?_ ?_, ?_, ?_, ?_, ?_, ?_, ?_, ?_, ?_, ?_, ?_, hone⟩ <;> kernel_rfl
theorem wline_tx {w W : World} {b : Nat} {acc : List UInt8} (hx : TxAt w W b acc) (he : Env w) (ps : List (List UInt8)) (n : Nat) (hn : ps.length = n) (h0 : 0 < n) (hps : n ≤ 1000) (hlen : (acc ++ lineL ps).length ≤ 100000000) :
    Calls Tryz.prog 32 #[.pointer (some ⟨b, 0, none⟩), .slice (some ⟨W.heap.size, 0, none⟩) n n] (W.alloc (.cells (strCells ps).toArray 9)) fun e w' => e = .returned (.tuple #[]) ∧ TxAt w w' b (acc ++ lineL ps) ∧ Turn (BufT (W.alloc (.cells (strCells ps).toArray 9)) w.heap.size b) (W.alloc (.cells (strCells ps).toArray 9)) w' := by
  have h1 := hx.quiet ((Turn.refl (fun _ => False) W).alloc (.cells (strCells ps).toArray 9))
  have ho := own_new (w := W) (strCells ps) n (by simpa [strCells] using hn) (by omega)
  have hl : acc.length + (joinL 32 ps).length + 1 ≤ 100000000 := by simp [lineL] at hlen; omega
  refine (wline_any w.heap.size b acc ps W.heap.size _ n _ h1.buf h1.low ho hn h0 hl (by omega)).mono ?_
  rintro e w' ⟨h2, h3, h4⟩
  refine ⟨h2, h1.line he ?_ h4, h4⟩
  unfold lineL
  rw [← List.append_assoc]
  exact h3
theorem TxAt.off {w W W' : World} {b : Nat} {acc : List UInt8} {F : Nat → Prop} (h : TxAt w W b acc) (he : Env w) (t : Turn F W W') (h1 : ∀ k, F k → w.heap.size ≤ k) (h2 : ∀ k, F k → k ≠ b) (h3 : ∀ k cs, F k → W.heap[k]? ≠ some (.cells cs 5 (0, 0))) : TxAt w W' b acc :=
  ⟨h.buf.off t (fun e => h2 b e rfl) (fun k cs hk e => h3 k cs e hk), h.turn.trans2 t (fun k _ e => h1 k e), h.env.turn t (fun i hi e => by have := h1 i e; have := he.six; omega), h.low, Nat.lt_of_lt_of_le h.bl t.size⟩
theorem wline_own {w W : World} {b LO n : Nat} {acc : List UInt8} {v : Value} (hx : TxAt w W b acc) (he : Env w) (ps : List (List UInt8)) (ho : W.ownsRow LO 9 1 v n (strCells ps)) (hn : ps.length = n) (h0 : 0 < n) (hps : n ≤ 1000000) (hlen : (acc ++ lineL ps).length ≤ 100000000) :
    Calls Tryz.prog 32 #[.pointer (some ⟨b, 0, none⟩), v] W fun e w' => e = .returned (.tuple #[]) ∧ TxAt w w' b (acc ++ lineL ps) ∧ Turn (BufT W w.heap.size b) W w' := by
  have hl : acc.length + (joinL 32 ps).length + 1 ≤ 100000000 := by simp [lineL] at hlen; omega
  refine (wline_any w.heap.size b acc ps LO _ n _ hx.buf hx.low ho hn h0 hl hps).mono ?_
  rintro e w' ⟨h2, h3, h4⟩
  refine ⟨h2, hx.line he ?_ h4, h4⟩
  unfold lineL
  rw [← List.append_assoc]
  exact h3
theorem info9s : (Tryz.prog.info? 9).map (fun i => (i.zero, i.size, i.bytes)) = some (some (.string ⟨#[]⟩), 1, 16) := by kernel_rfl
end Go.Proofs.YtbkpbcmjgbdbkaaGreatDoor
