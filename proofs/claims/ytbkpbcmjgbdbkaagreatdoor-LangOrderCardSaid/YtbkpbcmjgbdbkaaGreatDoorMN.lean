/- A tenant's lines in another order: what is read. No condition. LangOrder: what the text with its lines in another order is read as. No condition. A tenant's rules laid anew in settings that were read. No condition. -/
import Derived.Test.YtbkpbcmjgbdbkaaGreatDoorY3
import Derived.Deep.AppendLies
/-! B7 -/
namespace Go.Proofs.YtbkpbcmjgbdbkaaGreatDoor
open Go.RowKit Go.Lib
set_option linter.unusedVariables false
set_option linter.unusedSimpArgs false
set_option maxRecDepth 100000

/-- What one line says. -/
inductive Fld
  | pool (l : List Nat)
  | ports (a b : Nat)
  | filt (f : Int)
  | stat (x : Nat × Nat)
  | twic (x : Nat × Nat)
  | quota (a b : Nat)
  | rate (a b : Nat)
def fldW : Fld → List (List UInt8)
  | .pool l => poolW l
  | .ports a b => portsW a b
  | .filt f => filtW f
  | .stat x => statW x
  | .twic x => twicW x
  | .quota a b => quotaW a b
  | .rate a b => rateW a b
def fldA (t : Ten) : Fld → Ten
  | .pool l => { t with pool := t.pool ++ l }
  | .ports a b => { t with lo := a, hi := b }
  | .filt f => { t with filter := f }
  | .stat x => { t with statics := t.statics ++ [x] }
  | .twic x => { t with twices := t.twices ++ [x] }
  | .quota a b => { t with sess := (a : Int), queue := (b : Int) }
  | .rate a b => { t with rate := a, burst := b }
def fldOk : Fld → Prop
  | .pool l => l ≠ [] ∧ ∀ x ∈ l, x < 4294967296
  | .ports a b => a ≤ 65535 ∧ b ≤ 65535
  | .filt f => f = 0 ∨ f = 1 ∨ f = 2
  | .stat x => x.1 < 4294967296 ∧ x.2 < 4294967296
  | .twic x => x.1 < 4294967296 ∧ x.2 < 4294967296
  | .quota a b => a ≤ 65535 ∧ b ≤ 65535
  | .rate a b => a ≤ 4294967295 ∧ b ≤ 4294967295
def fldStat : Fld → Bool
  | .stat _ => true
  | _ => false
def fldTwic : Fld → Bool
  | .twic _ => true
  | _ => false
theorem fld_one (f : Fld) (h : fldOk f) (t : Ten) : FieldW (fldW f) t (fldA t f) := by
  cases f with
  | pool l => exact .pool l t h.2
  | ports a b => exact .ports a b t h.1 h.2
  | filt f => exact .filt f t h
  | stat x => exact .stat x t h.1 h.2
  | twic x => exact .twic x t h.1 h.2
  | quota a b => exact .quota a b t h.1 h.2
  | rate a b => exact .rate a b t h.1 h.2
theorem flds_are : ∀ (fs : List Fld) (t : Ten), (∀ f ∈ fs, fldOk f) → FieldsW (fs.map fldW) t (fs.foldl fldA t)
  | [], t, _ => .nil t
  | f :: fs, t, h => .cons (fld_one f (h f (by simp)) t) (flds_are fs (fldA t f) (fun g hg => h g (List.mem_cons_of_mem _ hg)))
theorem fld_ne (f : Fld) : fldW f ≠ [] := by cases f <;> simp [fldW, poolW, portsW, filtW, statW, twicW, quotaW, rateW]
theorem fld_good (f : Fld) : ∀ l ∈ fldW f, Good l := by
  have g7 : Good poolB := good_of (by decide) (by decide)
  have g8 : Good portsB := good_of (by decide) (by decide)
  have g9 : Good filtB := good_of (by decide) (by decide)
  have ga : Good statB := good_of (by decide) (by decide)
  have gb : Good twicB := good_of (by decide) (by decide)
  have gc : Good quotaB := good_of (by decide) (by decide)
  have gd : Good rateB := good_of (by decide) (by decide)
  intro l hl
  cases f with
  | pool p =>
    simp only [fldW, poolW, List.mem_cons, List.mem_map] at hl
    rcases hl with rfl | ⟨x, _, rfl⟩
    · exact g7
    · exact ipText_good _
  | ports a b =>
    simp only [fldW, portsW, List.mem_cons, List.not_mem_nil, or_false] at hl
    rcases hl with rfl | rfl | rfl
    · exact g8
    · exact decL_good _
    · exact decL_good _
  | filt f =>
    simp only [fldW, filtW, List.mem_cons, List.not_mem_nil, or_false] at hl
    rcases hl with rfl | rfl
    · exact g9
    · exact filterL_good _
  | stat x =>
    simp only [fldW, statW, List.mem_cons, List.not_mem_nil, or_false] at hl
    rcases hl with rfl | rfl | rfl
    · exact ga
    · exact ipText_good _
    · exact ipText_good _
  | twic x =>
    simp only [fldW, twicW, List.mem_cons, List.not_mem_nil, or_false] at hl
    rcases hl with rfl | rfl | rfl
    · exact gb
    · exact ipText_good _
    · exact ipText_good _
  | quota a b =>
    simp only [fldW, quotaW, List.mem_cons, List.not_mem_nil, or_false] at hl
    rcases hl with rfl | rfl | rfl
    · exact gc
    · exact decL_good _
    · exact decL_good _
  | rate a b =>
    simp only [fldW, rateW, List.mem_cons, List.not_mem_nil, or_false] at hl
    rcases hl with rfl | rfl | rfl
    · exact gd
    · exact decL_good _
    · exact decL_good _
/-- A tenant's further lines. -/
def restF (t : Ten) : List Fld := .pool t.pool :: .ports t.lo t.hi :: .filt t.filter :: (t.statics.map .stat ++ (t.twices.map .twic ++ [.quota t.sess.toNat t.queue.toNat, .rate t.rate t.burst]))
theorem restF_words (t : Ten) (h : t.pool ≠ []) : restW t = (restF t).map fldW := by
  unfold restW restF
  rw [if_neg (by simpa using h)]
  simp only [List.map_cons, List.map_append, List.map_map, List.map_nil, List.cons_append, List.nil_append]
  rfl
theorem restF_ok {t : Ten} (h : OkTen t) (hp : t.pool ≠ []) : ∀ f ∈ restF t, fldOk f := by
  intro f hf
  unfold restF at hf
  simp only [List.mem_append, List.mem_cons, List.mem_map, List.not_mem_nil, or_false] at hf
  rcases hf with rfl | rfl | rfl | ⟨x, hx, rfl⟩ | ⟨x, hx, rfl⟩ | rfl | rfl
  · exact ⟨hp, h.pool⟩
  · exact ⟨h.lo, h.hi⟩
  · exact h.filter
  · exact h.statics x hx
  · exact h.twices x hx
  · have h1 := h.sess; have h2 := h.queue; exact ⟨by omega, by omega⟩
  · exact ⟨h.rate, h.burst⟩
def extraF (b : Bool) : List Fld := if b = true then [.ports 1 2, .filt 2, .quota 9 9, .rate 8 8] else []
theorem extraF_ok (b : Bool) : ∀ f ∈ extraF b, fldOk f := by
  intro f hf
  unfold extraF at hf
  split at hf
  · simp only [List.mem_cons, List.not_mem_nil, or_false] at hf
    rcases hf with rfl | rfl | rfl | rfl
    · exact ⟨by decide, by decide⟩
    · exact Or.inr (Or.inr rfl)
    · exact ⟨by decide, by decide⟩
    · exact ⟨by decide, by decide⟩
  · simp at hf
def extraT : List UInt8 := [112, 111, 114, 116, 115, 32, 49, 32, 50, 10, 102, 105, 108, 116, 101, 114, 32, 112, 111, 114, 116, 10, 113, 117, 111, 116, 97, 32, 57, 32, 57, 10, 114, 97, 116, 101, 32, 56, 32, 56, 10]
theorem extra_text : (extraF true).flatMap (fun f => lineL (fldW f)) = extraT := by kernel_rfl
/-- A list that begins at place p and goes round. -/
def rotL {α : Type} (p : Nat) (l : List α) : List α := l.drop p ++ l.take p
theorem rot_get {α : Type} {l : List α} {p i : Nat} (hp : p < l.length) (hi : i < l.length) : (rotL p l)[i]? = l[(i + p) % l.length]? := by
  unfold rotL
  have hd : (l.drop p).length = l.length - p := List.length_drop
  by_cases h : i < l.length - p
  · rw [List.getElem?_append_left (by omega), List.getElem?_drop, Nat.mod_eq_of_lt (by omega), Nat.add_comm]
  · rw [List.getElem?_append_right (by omega), hd, List.getElem?_take, if_pos (by omega)]
    congr 1
    rw [show i + p = (i - (l.length - p)) + l.length by omega, Nat.add_mod_right, Nat.mod_eq_of_lt (by omega)]
theorem rot_map {α β : Type} (f : α → β) (p : Nat) (l : List α) : rotL p (l.map f) = (rotL p l).map f := by
  unfold rotL; rw [List.map_append, List.map_drop, List.map_take]
theorem rot_mem {α : Type} {p : Nat} {l : List α} {x : α} (h : x ∈ rotL p l) : x ∈ l := by
  unfold rotL at h
  rcases List.mem_append.1 h with h | h
  · exact List.mem_of_mem_drop h
  · exact List.mem_of_mem_take h
theorem rot_count {α : Type} (p : Nat) (l : List α) (q : α → Bool) : (rotL p l).countP q = l.countP q := by
  unfold rotL
  rw [List.countP_append, Nat.add_comm, ← List.countP_append, List.take_append_drop]
theorem rot_len {α : Type} (p : Nat) (l : List α) : (rotL p l).length = l.length := by
  unfold rotL
  rw [List.length_append, Nat.add_comm, ← List.length_append, List.take_append_drop]
theorem rot_sum {α β : Type} (p : Nat) (l : List α) (f : α → List β) : ((rotL p l).flatMap f).length = (l.flatMap f).length := by
  unfold rotL
  rw [List.flatMap_append, List.length_append, Nat.add_comm, ← List.length_append, ← List.flatMap_append, List.take_append_drop]
set_option maxHeartbeats 2000000 in
theorem fold_rot (t : Ten) (se qu : Nat) (hse : t.sess = (se : Int)) (hqu : t.queue = (qu : Int)) (hs : t.statics = [] ∨ ∃ a, t.statics = [a]) (ht : t.twices = [] ∨ ∃ a b, t.twices = [a, b]) (b : Bool) (p : Nat) (hp : p < (restF t).length) :
    ∃ tw, (extraF b ++ rotL p (restF t)).foldl fldA (tenFirst t) = { t with twices := tw } ∧ tw.length = t.twices.length := by
  obtain ⟨nm, vn, ke, vt, vm, ho, po, lo, hi, fi, sta, twi, ses, que, ra, bu⟩ := t
  dsimp only at hse hqu hs ht
  subst hse hqu
  cases b <;> rcases hs with rfl | ⟨a, rfl⟩ <;> rcases ht with rfl | ⟨y, z, rfl⟩ <;>
    simp only [restF, List.map_nil, List.map_cons, List.nil_append, List.cons_append, List.length_cons, List.length_nil] at hp
  · rcases (by omega : p = 0 ∨ p = 1 ∨ p = 2 ∨ p = 3 ∨ p = 4) with rfl | rfl | rfl | rfl | rfl <;> exact ⟨_, rfl, rfl⟩
  · rcases (by omega : p = 0 ∨ p = 1 ∨ p = 2 ∨ p = 3 ∨ p = 4 ∨ p = 5 ∨ p = 6) with rfl | rfl | rfl | rfl | rfl | rfl | rfl <;> exact ⟨_, rfl, rfl⟩
  · rcases (by omega : p = 0 ∨ p = 1 ∨ p = 2 ∨ p = 3 ∨ p = 4 ∨ p = 5) with rfl | rfl | rfl | rfl | rfl | rfl <;> exact ⟨_, rfl, rfl⟩
  · rcases (by omega : p = 0 ∨ p = 1 ∨ p = 2 ∨ p = 3 ∨ p = 4 ∨ p = 5 ∨ p = 6 ∨ p = 7) with rfl | rfl | rfl | rfl | rfl | rfl | rfl | rfl <;> exact ⟨_, rfl, rfl⟩
  · rcases (by omega : p = 0 ∨ p = 1 ∨ p = 2 ∨ p = 3 ∨ p = 4) with rfl | rfl | rfl | rfl | rfl <;> exact ⟨_, rfl, rfl⟩
  · rcases (by omega : p = 0 ∨ p = 1 ∨ p = 2 ∨ p = 3 ∨ p = 4 ∨ p = 5 ∨ p = 6) with rfl | rfl | rfl | rfl | rfl | rfl | rfl <;> exact ⟨_, rfl, rfl⟩
  · rcases (by omega : p = 0 ∨ p = 1 ∨ p = 2 ∨ p = 3 ∨ p = 4 ∨ p = 5) with rfl | rfl | rfl | rfl | rfl | rfl <;> exact ⟨_, rfl, rfl⟩
  · rcases (by omega : p = 0 ∨ p = 1 ∨ p = 2 ∨ p = 3 ∨ p = 4 ∨ p = 5 ∨ p = 6 ∨ p = 7) with rfl | rfl | rfl | rfl | rfl | rfl | rfl | rfl <;> exact ⟨_, rfl, rfl⟩
theorem from_order {c : Cfg} {t u : Ten} (h : OkCfg c) (ht : OkTen t) {A : List (List (List UInt8))} (hA : FieldsW A (tenFirst t) u) {n : Nat} {Ls : List (List Wd × Nat)} (hL : Ls.map wordsL = headW c :: tenW t :: A) : fromP n Ls = .ok { c with tens := [u] } := by
  match Ls, hL with
  | [], hL => cases hL
  | [X], hL => simp at hL
  | X :: Y :: Ls, hL =>
    simp only [List.map_cons, List.cons.injEq] at hL
    simp only [fromP, head_read h hL.1]
    rw [rest_cons Ls (ten_read ht hL.2.1 _)]
    have := rest_fields hA (c := { c with tens := [] ++ [tenFirst t] }) (ts := []) [] hL.2.2 rfl
    rw [List.append_nil] at this
    exact this
/-- The lines of the text in another order. -/
def orderW (c : Cfg) (t : Ten) (b : Bool) (p : Nat) : List (List (List UInt8)) := headW c :: tenW t :: (extraF b ++ rotL p (restF t)).map fldW
def orderL (c : Cfg) (t : Ten) (b : Bool) (p : Nat) : List UInt8 := (orderW c t b p).flatMap lineL
/-! ### the text's lines -/
def lineOk (l : List UInt8) : Prop := ∃ w, l = w ++ [10] ∧ (10 : UInt8) ∉ w
theorem line_ok {ps : List (List UInt8)} (h : ∀ l ∈ ps, Good l) : lineOk (lineL ps) := by
  refine ⟨joinL 32 ps, rfl, fun hm => ?_⟩
  have key : ∀ ps : List (List UInt8), (∀ l ∈ ps, Good l) → ∀ b ∈ joinL 32 ps, b.toNat ≠ 10 := by
    intro ps
    induction ps with
    | nil => intro _ b hb; simp [joinL] at hb
    | cons p ps ih =>
      intro h b hb
      cases ps with
      | nil => exact ((h p (by simp)).2 b (by simpa [joinL] using hb)).1
      | cons q r =>
        have hb : b ∈ p ++ 32 :: joinL 32 (q :: r) := hb
        rcases List.mem_append.1 hb with hb | hb
        · exact ((h p (by simp)).2 b hb).1
        · rcases List.mem_cons.1 hb with rfl | hb
          · decide
          · exact ih (fun l hl => h l (List.mem_cons_of_mem _ hl)) b hb
  exact key ps h 10 hm rfl
/-- Place k of a text of lines Ls: what is gathered, where the line began. -/
def LinesAt (Ls : List (List UInt8)) (l : List UInt8) (k f : Nat) (done : List (List UInt8)) : Prop :=
  k ≤ l.length ∧ f ≤ k ∧ (10 : UInt8) ∉ (l.drop f).take (k - f) ∧ ∃ rest, done ++ rest = Ls ∧ l.drop f = rest.flatten
theorem LinesAt.start (Ls : List (List UInt8)) : LinesAt Ls Ls.flatten 0 0 [] := ⟨Nat.zero_le _, Nat.le_refl _, by simp, Ls, rfl, rfl⟩
theorem LinesAt.hit {Ls : List (List UInt8)} {l : List UInt8} {k f : Nat} {done : List (List UInt8)} (h : LinesAt Ls l k f done) (hL : ∀ x ∈ Ls, lineOk x) (hc : l[k]? = some 10) :
    LinesAt Ls l (k + 1) (k + 1) (done ++ [(l.drop f).take (k + 1 - f)]) := by
  obtain ⟨h1, h2, h3, rest, h4, h5⟩ := h
  have hk := (List.getElem?_eq_some_iff.1 hc).1
  have hdf : (l.drop f)[k - f]? = some 10 := by rw [List.getElem?_drop, show f + (k - f) = k by omega]; exact hc
  cases rest with
  | nil => rw [h5] at hdf; simp at hdf
  | cons r rest =>
    obtain ⟨w, rfl, hw⟩ := hL r (by rw [← h4]; simp)
    have e : l.drop f = w ++ 10 :: rest.flatten := by rw [h5]; simp
    have hwl : w.length = k - f := by
      rcases Nat.lt_trichotomy w.length (k - f) with hlt | he | hlt
      · exfalso
        apply h3
        rw [e, List.take_append, List.mem_append]
        right
        obtain ⟨d, hd⟩ : ∃ d, k - f - w.length = d + 1 := ⟨k - f - w.length - 1, by omega⟩
        rw [hd, List.take_succ_cons]
        simp
      · exact he
      · exfalso
        rw [e, List.getElem?_append_left hlt] at hdf
        exact hw (List.mem_of_getElem? hdf)
    have hx : (l.drop f).take (k + 1 - f) = w ++ [10] := by
      rw [e, show k + 1 - f = w.length + 1 by omega, List.take_append, List.take_of_length_le (Nat.le_succ _), Nat.add_sub_cancel_left]
      rfl
    refine ⟨by omega, Nat.le_refl _, by simp, rest, ?_, ?_⟩
    · rw [hx, ← h4]; simp
    · rw [show k + 1 = f + (w.length + 1) by omega, ← List.drop_drop, e, ← List.drop_drop]
      simp
theorem LinesAt.miss {Ls : List (List UInt8)} {l : List UInt8} {k f : Nat} {done : List (List UInt8)} {b : UInt8} (h : LinesAt Ls l k f done) (hc : l[k]? = some b) (hb : b ≠ 10) : LinesAt Ls l (k + 1) f done := by
  obtain ⟨h1, h2, h3, h4⟩ := h
  have hk := (List.getElem?_eq_some_iff.1 hc).1
  refine ⟨by omega, by omega, ?_, h4⟩
  rw [show k + 1 - f = (k - f) + 1 by omega, List.take_add_one, List.getElem?_drop, show f + (k - f) = k by omega, hc]
  simp only [Option.toList_some, List.mem_append, List.mem_singleton, not_or]
  exact ⟨h3, fun e => hb e.symm⟩
theorem LinesAt.last {Ls : List (List UInt8)} {l : List UInt8} {f : Nat} {done : List (List UInt8)} (h : LinesAt Ls l l.length f done) (hL : ∀ x ∈ Ls, lineOk x) : done = Ls := by
  obtain ⟨h1, h2, h3, rest, h4, h5⟩ := h
  rw [List.take_of_length_le (by simp)] at h3
  cases rest with
  | nil => simpa using h4
  | cons r rest =>
    obtain ⟨w, rfl, hw⟩ := hL r (by rw [← h4]; simp)
    exfalso
    apply h3
    rw [h5]
    simp
end Go.Proofs.YtbkpbcmjgbdbkaaGreatDoor

/-! B8 -/
namespace Go.Proofs.YtbkpbcmjgbdbkaaGreatDoor
open Go.RowKit Go.Lib
set_option linter.unusedVariables false
set_option linter.unusedSimpArgs false
set_option maxRecDepth 100000

/-- A line begins as a line of statics, of twices. -/
def isStat (l : List UInt8) : Bool := decide (l.take 6 = statB)
def isTwic (l : List UInt8) : Bool := decide (l.take 5 = twicB)
def fldL (f : Fld) : List UInt8 := lineL (fldW f)
theorem fldL_cons {f : Fld} (h : fldOk f) : ∃ w v r, fldW f = w :: v :: r ∧ fldL f = w ++ 32 :: (joinL 32 (v :: r) ++ [10]) := by
  cases f with
  | pool l =>
    cases l with
    | nil => exact absurd rfl h.1
    | cons x l => exact ⟨poolB, _, _, rfl, by simp [fldL, fldW, poolW, lineL, joinL]⟩
  | ports a b => exact ⟨portsB, _, _, rfl, by simp [fldL, fldW, portsW, lineL, joinL]⟩
  | filt f => exact ⟨filtB, _, _, rfl, by simp [fldL, fldW, filtW, lineL, joinL]⟩
  | stat x => exact ⟨statB, _, _, rfl, by simp [fldL, fldW, statW, lineL, joinL]⟩
  | twic x => exact ⟨twicB, _, _, rfl, by simp [fldL, fldW, twicW, lineL, joinL]⟩
  | quota a b => exact ⟨quotaB, _, _, rfl, by simp [fldL, fldW, quotaW, lineL, joinL]⟩
  | rate a b => exact ⟨rateB, _, _, rfl, by simp [fldL, fldW, rateW, lineL, joinL]⟩
theorem joinL_pos {v : List UInt8} {r : List (List UInt8)} (h : v ≠ []) : 1 ≤ (joinL 32 (v :: r)).length := by
  cases r with
  | nil => exact List.length_pos_iff.2 h
  | cons u r =>
    show 1 ≤ (v ++ 32 :: joinL 32 (u :: r)).length
    rw [List.length_append, List.length_cons]; omega
theorem fldL_long {f : Fld} (h : fldOk f) : 7 ≤ (fldL f).length := by
  obtain ⟨w, v, r, e1, e2⟩ := fldL_cons h
  have hv : v ≠ [] := (fld_good f v (by rw [e1]; simp)).1
  have h1 := joinL_pos (r := r) hv
  have hw : 4 ≤ w.length := by
    cases f <;> simp only [fldW, poolW, portsW, filtW, statW, twicW, quotaW, rateW, List.cons.injEq] at e1 <;> rw [← e1.1] <;> decide
  rw [e2, List.length_append, List.length_cons, List.length_append, List.length_singleton]
  omega
theorem head_ne {l m : List UInt8} {n : Nat} (h : l.head? ≠ m.head?) (hn : 0 < n) : ¬ l.take n = m := by
  intro e
  apply h
  rw [← e, List.head?_take]
  rw [if_neg (by omega)]
theorem fldL_stat {f : Fld} (h : fldOk f) : isStat (fldL f) = fldStat f ∧ isTwic (fldL f) = fldTwic f := by
  obtain ⟨w, v, r, e1, e2⟩ := fldL_cons h
  rw [e2]
  generalize joinL 32 (v :: r) ++ [10] = q
  unfold isStat isTwic
  cases f <;> simp only [fldW, poolW, portsW, filtW, statW, twicW, quotaW, rateW, List.cons.injEq] at e1 <;> rw [← e1.1]
  all_goals first
    | exact ⟨rfl, rfl⟩
    | exact ⟨decide_eq_false (head_ne (by decide) (by decide)), decide_eq_false (head_ne (by decide) (by decide))⟩
    | exact ⟨decide_eq_true rfl, decide_eq_false (head_ne (by decide) (by decide))⟩
    | exact ⟨decide_eq_false (head_ne (by decide) (by decide)), decide_eq_true rfl⟩
theorem count_stat : ∀ (fs : List Fld), (∀ f ∈ fs, fldOk f) → (fs.map fldL).countP isStat = fs.countP fldStat ∧ (fs.map fldL).countP isTwic = fs.countP fldTwic
  | [], _ => ⟨rfl, rfl⟩
  | f :: fs, h => by
    have h1 := fldL_stat (h f (by simp))
    have h2 := count_stat fs (fun g hg => h g (List.mem_cons_of_mem _ hg))
    rw [List.map_cons, List.countP_cons, List.countP_cons, List.countP_cons, List.countP_cons, h1.1, h1.2, h2.1, h2.2]
    exact ⟨rfl, rfl⟩
theorem rest_stat (t : Ten) : (restF t).countP fldStat = t.statics.length ∧ (restF t).countP fldTwic = t.twices.length := by
  have a1 : ∀ l : List (Nat × Nat), (l.map Fld.stat).countP fldStat = l.length ∧ (l.map Fld.stat).countP fldTwic = 0 ∧ (l.map Fld.twic).countP fldTwic = l.length ∧ (l.map Fld.twic).countP fldStat = 0 := by
    intro l
    induction l with
    | nil => exact ⟨rfl, rfl, rfl, rfl⟩
    | cons x l ih =>
      simp only [List.map_cons, List.countP_cons, List.length_cons]
      rw [ih.1, ih.2.1, ih.2.2.1, ih.2.2.2]
      exact ⟨rfl, rfl, rfl, rfl⟩
  unfold restF
  simp only [List.countP_cons, List.countP_append, List.countP_nil]
  rw [(a1 t.statics).1, (a1 t.statics).2.1, (a1 t.twices).2.2.1, (a1 t.twices).2.2.2]
  simp [fldStat, fldTwic]
theorem restW_len (t : Ten) : (restF t).length = 5 + t.statics.length + t.twices.length := by
  unfold restF
  simp only [List.length_cons, List.length_append, List.length_map, List.length_nil]
  omega

/-- The text, line by line, and what the text in another order is read as. -/
structure OrderFacts (c : Cfg) (t : Ten) (T : ByteArray) (L0 L1 : List UInt8) (R : List (List UInt8)) : Prop where
  rng : RngCfg c
  len : (textL c).length ≤ 2200
  small : SmallCfg c
  tens : c.tens = [t]
  size : T.size ≤ 2200
  lines : T.data.toList = (L0 :: L1 :: R).flatten
  ok : ∀ l ∈ L0 :: L1 :: R, lineOk l
  few : 5 ≤ R.length ∧ R.length ≤ 100
  long : ∀ l ∈ R, 7 ≤ l.length
  stat : R.countP isStat = t.statics.length
  twic : R.countP isTwic = t.twices.length
  read : ∀ (b : Bool) (p : Nat), p < R.length → ∀ s : ByteArray, s.data.toList = L0 ++ L1 ++ (if b = true then extraT else []) ++ (rotL p R).flatten →
    ∃ tw, configP s = .ok { c with tens := [{ t with twices := tw }] } ∧ tw.length = t.twices.length ∧ s.size ≤ 3000 ∧ SmallCfg { c with tens := [{ t with twices := tw }] }
theorem extra_flat (b : Bool) : ((extraF b).map fldL).flatten = if b = true then extraT else [] := by
  cases b
  · rfl
  · rw [← List.flatMap_def]; exact extra_text
theorem order_facts (x : Nat) (hx : x < 65536) : ∃ (c : Cfg) (t : Ten) (T : ByteArray) (L0 L1 : List UInt8) (R : List (List UInt8)), seatCfg [x] 1 = c ∧ T = ⟨(textL c).toArray⟩ ∧ OrderFacts c t T L0 L1 R := by
  have hks : ∀ y ∈ [x], y < 65536 := by simpa using hx
  have hlen : (textL (seatCfg [x] 1)).length ≤ 2200 := seatText_len hks 1
  have hok := seatCfg_ok hks 1
  have hnm := seatCfg_names hks 1
  have htens : (seatCfg [x] 1).tens = [seatTen 0 x] := rfl
  have hl3 := seat_lens 0 x
  have hpool : (seatTen 0 x).pool ≠ [] := by unfold seatTen; dsimp only; split <;> simp
  have hss : (seatTen 0 x).statics = [] ∨ ∃ a, (seatTen 0 x).statics = [a] := by
    unfold seatTen; dsimp only; split
    · exact Or.inr ⟨_, rfl⟩
    · exact Or.inl rfl
  have htt : (seatTen 0 x).twices = [] ∨ ∃ a b, (seatTen 0 x).twices = [a, b] := by
    unfold seatTen; dsimp only; split
    · exact Or.inr ⟨_, _, rfl⟩
    · exact Or.inl rfl
  have hsmall := seat_small [x] 1 hks
  have hrng := seatCfg_rng hks 1
  generalize seatCfg [x] 1 = c at *
  generalize seatTen 0 x = t at *
  have hokt : OkTen t := hok.tens t (by rw [htens]; simp)
  have hrok := restF_ok hokt hpool
  have hlines : linesC c = headW c :: tenW t :: (restF t).map fldW := by
    unfold linesC
    rw [htens, List.flatMap_cons, List.flatMap_nil, List.append_nil, restF_words t hpool]
  have hgood := words_good hok hnm
  rw [hlines] at hgood
  have htext : textL c = (lineL (headW c) :: lineL (tenW t) :: (restF t).map fldL).flatten := by
    rw [textL_lines, hlines, List.flatMap_cons, List.flatMap_cons, List.flatten_cons, List.flatten_cons, List.flatMap_def, List.map_map]
    rfl
  have hcnt := count_stat (restF t) hrok
  have hrs := rest_stat t
  refine ⟨c, t, _, lineL (headW c), lineL (tenW t), (restF t).map fldL, rfl, rfl, hrng, hlen, hsmall, htens, ?_, ?_, ?_, ?_, ?_, ?_, ?_, ?_⟩
  · show (textL c).toArray.size ≤ _
    simpa using hlen
  · exact htext
  · intro l hl
    rcases List.mem_cons.1 hl with rfl | hl
    · exact line_ok (hgood _ (by simp))
    · rcases List.mem_cons.1 hl with rfl | hl
      · exact line_ok (hgood _ (by simp))
      · obtain ⟨f, _, rfl⟩ := List.mem_map.1 hl
        exact line_ok (fld_good f)
  · rw [List.length_map, restW_len]; omega
  · intro l hl
    obtain ⟨f, hf, rfl⟩ := List.mem_map.1 hl
    exact fldL_long (hrok f hf)
  · rw [hcnt.1, hrs.1]
  · rw [hcnt.2, hrs.2]
  · intro b p hp s hs
    rw [List.length_map] at hp
    obtain ⟨se, hse⟩ : ∃ n : Nat, t.sess = (n : Int) := ⟨t.sess.toNat, by have := hokt.sess; omega⟩
    obtain ⟨qu, hqu⟩ : ∃ n : Nat, t.queue = (n : Int) := ⟨t.queue.toNat, by have := hokt.queue; omega⟩
    obtain ⟨tw, h1, h2⟩ := fold_rot t se qu hse hqu hss htt b p hp
    have hfl : s.data.toList = (orderW c t b p).flatMap lineL := by
      rw [hs, rot_map, ← extra_flat b]
      unfold orderW
      rw [List.flatMap_cons, List.flatMap_cons, List.map_append, List.flatMap_append, List.append_assoc, List.append_assoc]
      congr 2
      rw [List.flatMap_def, List.map_map, List.flatMap_def, List.map_map]
      rfl
    have hsz : s.size ≤ 3000 := by
      rw [← bytes_len, hs]
      have e1 : ((rotL p ((restF t).map fldL)).flatten).length = (((restF t).map fldL).flatten).length := by
        have := rot_sum p ((restF t).map fldL) id
        simpa [List.flatMap_def] using this
      have e2 := congrArg List.length htext
      have e3 : (if b = true then extraT else []).length ≤ 100 := by cases b <;> decide
      simp only [List.flatten_cons, List.length_append] at e2 ⊢
      rw [e1]
      omega
    refine ⟨tw, ?_, h2, hsz, ?_⟩
    · unfold configP
      rw [if_neg (by omega), ← h1]
      refine from_order hok hokt (A := (extraF b ++ rotL p (restF t)).map fldW) ?_ ?_
      · refine flds_are _ _ (fun f hf => ?_)
        rcases List.mem_append.1 hf with hf | hf
        · exact extraF_ok b f hf
        · exact hrok f (rot_mem hf)
      · refine lines_spread (Ls := orderW c t b p) ?_ ?_
        · rw [hfl]
          refine spt_lines _ (fun ps hps => ?_)
          rcases List.mem_cons.1 hps with rfl | hps
          · simp [headW]
          · rcases List.mem_cons.1 hps with rfl | hps
            · simp [tenW]
            · obtain ⟨f, _, rfl⟩ := List.mem_map.1 hps
              exact fld_ne f
        · intro ps hps
          rcases List.mem_cons.1 hps with rfl | hps
          · exact hgood _ (by simp)
          · rcases List.mem_cons.1 hps with rfl | hps
            · exact hgood _ (by simp)
            · obtain ⟨f, _, rfl⟩ := List.mem_map.1 hps
              exact fld_good f
    · refine ⟨by simp, fun u hu => ?_⟩
      rw [List.mem_singleton] at hu
      subst hu
      dsimp only
      omega
end Go.Proofs.YtbkpbcmjgbdbkaaGreatDoor

/-! C1 -/
namespace Go.Proofs.YtbkpbcmjgbdbkaaGreatDoor
open Go.RowKit Go.Lib
set_option linter.unusedVariables false
set_option linter.unusedSimpArgs false
set_option maxRecDepth 100000

theorem order_swap {W : World} {lo : Nat} {tv : Value} {t : Ten} {tw : List (Nat × Nat)} {p s q : Value} (hT : TensAt W lo tv [({ t with twices := tw }, p, s, q)]) (h1 : t.pool.length ≤ 1000000) (h2 : t.statics.length ≤ 1000000) (h3 : tw.length ≤ 1000000) :
    ∃ g cap cs a1 k1 a2 k2, tv = .slice (some ⟨g, 0, none⟩) 1 cap ∧ lo ≤ g ∧ W.heap[g]? = some (.cells cs 45 (0, 0)) ∧ cs[27]? = some (.slice a1 t.statics.length k1) ∧ cs[28]? = some (.slice a2 tw.length k2) ∧
      ∀ q1 W', Turn (fun k => k = g) W W' → W'.heap[g]? = some (.cells (cs.setIfInBounds 28 q1) 45 (0, 0)) → PairsIn W' q1 t.twices → TensIn W' tv [(t, p, s, q1)] := by
  have hown := hT.each _ (List.mem_singleton.2 rfl)
  have hr := hT.row
  obtain ⟨g, cap, rfl, hlo, hg⟩ := World.ownsRow.form hr (by simp)
  obtain ⟨cs, hb⟩ := own_cells hr (k := g) rfl
  have hcs : ∀ j, j < 33 → cs[j]? = (tenRow { t with twices := tw } p s q).toList[j]? := fun j hj => by
    rw [← cell_of_block hb j, hr.cellAt j (by simp; omega)]
    have := tensCells_get hT.each (i := 0) rfl hj
    rw [Nat.zero_mul, Nat.zero_add] at this
    exact this
  have hget := ten_get { t with twices := tw } hown.wf p s q
  obtain ⟨a1, k1, hs, _, _⟩ := pairs_of_own hown.stat h2
  obtain ⟨a2, k2, hq, _, _⟩ := pairs_of_own hown.twic h3
  refine ⟨g, cap, cs, a1, k1, a2, k2, rfl, hlo, hb, ?_, ?_, ?_⟩
  · rw [hcs 27 (by decide), hget.2.2.2.2.1]
    exact congrArg some hs
  · rw [hcs 28 (by decide), hget.2.2.2.2.2.1]
    exact congrArg some hq
  · intro q1 W' tn hb' hq1
    have hnot := hown.not hb (by decide) (by decide)
    have hset : (tenRow t p s q1).toList = (tenRow { t with twices := tw } p s q).toList.set 28 q1 := ten_set_twic { t with twices := tw } hown.wf p s q q1 t.twices
    have hwf : WfTen t := ⟨hown.wf.key, hown.wf.vmac, hown.wf.host⟩
    refine ⟨⟨some ⟨g, 0, none⟩, cap, rfl, by simp, fun i r hi => ?_⟩, fun y hy => ?_⟩
    · cases i with
      | succ i => simp at hi
      | zero =>
        have hr' : tenRow t p s q1 = r := by simpa [tmRow] using hi
        subst hr'
        refine ⟨tenRow_size hwf p s q1, g, 0, rfl, block_lt hb', fun j u hj => ?_⟩
        have hj33 : j < 33 := by
          have e1 := (List.getElem?_eq_some_iff.1 hj).1
          have e2 := tenRow_len hwf p s q1
          omega
        rw [Nat.zero_add, cell_of_block hb' j, Array.getElem?_setIfInBounds]
        rw [hset, List.getElem?_set, tenRow_len hown.wf] at hj
        by_cases e : 28 = j
        · subst e
          rw [if_pos rfl, if_pos (by decide)] at hj
          have hlt : 28 < cs.size := (Array.getElem?_eq_some_iff.1 ((hcs 28 (by decide)).trans hget.2.2.2.2.2.1)).1
          rw [if_pos rfl, if_pos hlt]
          exact hj
        · rw [if_neg e] at hj ⊢
          rw [hcs j hj33]
          exact hj
    · rw [List.mem_singleton] at hy
      subst hy
      exact ⟨hwf, nums_of_own (ownsRow_turn hown.pool tn (fun k hk e => hnot (e ▸ Or.inl hk))) h1, pairs_of_own (ownsRow_turn hown.stat tn (fun k hk e => hnot (e ▸ Or.inr (Or.inl hk)))) h2, hq1⟩
theorem one_of {c : Cfg} {t : Ten} {l : List TenM} (h : l.map (·.1) = c.tens) (ht : c.tens = [t]) : ∃ p s q, l = [(t, p, s, q)] := by
  rw [ht] at h
  match l, h with
  | [(u, p, s, q)], h =>
    obtain rfl : u = t := by simpa using h
    exact ⟨p, s, q, rfl⟩
/-- Where the rules of settings' only tenant lie. -/
theorem cfg_twic {W : World} {c : Cfg} {row : Array Value} {t : Ten} (h : CfgIn W c (.agg row)) (ht : c.tens = [t]) : ∃ b o cap q, row[28]? = some (.slice (some ⟨b, o, none⟩) 1 cap) ∧ b < W.heap.size ∧ W.cell? ⟨b, o + 28, none⟩ = some q ∧ PairsIn W q t.twices := by
  obtain ⟨tv, l, he, hwf, ⟨⟨ao, cap, hv, hlen, hrows⟩, hten⟩, hl⟩ := h
  obtain ⟨p, s, q, rfl⟩ := one_of hl ht
  obtain rfl : row = cfgRow c tv := by cases he; rfl
  obtain ⟨_, b, off, rfl, hb, hcell⟩ := hrows 0 (tmRow (t, p, s, q)) rfl
  have hx := hten (t, p, s, q) (by simp)
  have h28 := hcell 28 q (ten_get t hx.1 p s q).2.2.2.2.2.1
  rw [Nat.zero_mul, Nat.add_zero] at h28
  exact ⟨b, off, cap, q, (cfgRow_get hwf tv).trans (congrArg some hv), hb, h28, hx.2.2.2⟩
end Go.Proofs.YtbkpbcmjgbdbkaaGreatDoor
