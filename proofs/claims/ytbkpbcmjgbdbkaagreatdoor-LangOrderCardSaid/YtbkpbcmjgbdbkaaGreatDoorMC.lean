/- The library's contracts over the world that the calls want (Env). The reference's hexes. No condition but the number's bound. KeyText of both. No condition but the bytes' bound. MacText of both. No condition but the bytes' bound. The writer's Builder: copyCheck, WriteString, WriteByte. No condition but sizes. The writer's WriteByte, line, String. No condition but sizes. A region that draws its order: a head that is quiet in a class of worlds (calls that only make memory among it), some operations taken ahead, then a forced tail that may write. (A theorem of our own beside Derived/Deep/Quiet and Derived/StillTail, by their laws.) The writer's line. No condition but sizes. The writer's String. No condition but that something was written. IpText of both. Conditions: the number's bound; of the program's: the library's table (Env). Lines of words: the panic by which reading fails; the next word. No condition. The reference's IpText. Condition: the number's bound. -/
import Derived.Test.YtbkpbcmjgbdbkaaGreatDoorMB
import Derived.Test.YtbkpbcmjgbdbkaaGreatDoorShelf
import Derived.Deep.RegionHeld3
import Derived.Deep.AppendLies
import Derived.Maps.AppendAt
import Derived.Lib.Builder
import Derived.Lib.AppendStr
import Derived.Lib.UnsafeStr
import Derived.Laws.Externs
import Derived.Laws.IdiomCopy
import Derived.Lib.Walk
import Derived.Deep.Quiet
import Derived.StillTail
import Derived.Lib.QuietBelow
import Derived.Sort.Grow
import Derived.Test.YtbkpbcmjgbdbkaaGreatDoorMA
import Derived.StillTailTactics
/-! D9 -/
namespace Go.Proofs.YtbkpbcmjgbdbkaaGreatDoor
open Go.RowKit Go.Lib
set_option linter.unusedVariables false
set_option linter.unusedSimpArgs false

theorem turn_of_below {w w' : World} (h : Below w.heap.size w w') : Turn (fun _ => False) w w' := ⟨h.os, h.tape, h.output, h.size, fun k hk _ => h.block k hk⟩
/-- What the library's functions want of the world: the tables that their calls read, as they were laid. -/
structure Env (w : World) : Prop where
  six : 7 ≤ w.heap.size
  maxlen : ∃ m, w.cell? ⟨4, 0, none⟩ = some (.int .i64 m)
  utf8 : Lib.Utf8Tabs 1 2 w
  pow10 : Lib.TabIs Tryz.prog w "internal/strconv.uint64pow10" .u64 Lib.pow10Tab
theorem pow10_num : Tryz.prog.globalNamed "internal/strconv.uint64pow10" = some 3 := by kernel_rfl
theorem cell_turn {F : Nat → Prop} {w w' : World} (t : Turn F w w') {a : Addr} (h : a.block < w.heap.size) (hF : ¬ F a.block) : w'.cell? a = w.cell? a := World.cell?_of_block (t.block a.block h hF)
theorem var_turn {F : Nat → Prop} {w w' : World} (t : Turn F w w') {g : Nat} {n : String} (hn : Tryz.prog.globalNamed n = some g) (h : g < w.heap.size) (hF : ¬ F g) : w'.var? Tryz.prog n = w.var? Tryz.prog n := by
  unfold World.var?
  rw [hn]
  simp [t.block g h hF]
theorem Env.turn {w w' : World} {F : Nat → Prop} (e : Env w) (t : Turn F w w') (hF : ∀ i, i < 7 → ¬ F i) : Env w' where
  six := Nat.le_trans e.six t.size
  maxlen := by
    obtain ⟨m, hm⟩ := e.maxlen
    exact ⟨m, (cell_turn t (show 4 < w.heap.size by have := e.six; omega) (hF 4 (by omega))).trans hm⟩
  utf8 := by
    have h6 := e.six
    refine ⟨fun c hc => (cell_turn t (show 1 < w.heap.size by omega) (hF 1 (by omega))).trans (e.utf8.1 c hc), fun i hi => ?_⟩
    have := e.utf8.2 i hi
    exact ⟨(cell_turn t (show 2 < w.heap.size by omega) (hF 2 (by omega))).trans this.1, (cell_turn t (show 2 < w.heap.size by omega) (hF 2 (by omega))).trans this.2⟩
  pow10 := by
    have h6 := e.six
    show w'.var? Tryz.prog _ = _
    rw [var_turn t pow10_num (by omega) (hF 3 (by omega))]
    exact e.pow10
theorem psplit (s : ByteArray) (c : UInt8) (w : World) (h : Env w) (hs : s.size ≤ 1000000) : Calls Tryz.prog 99 #[.string s, .string ⟨#[c]⟩] w (PartsPost s c w) := by
  obtain ⟨m, hm⟩ := h.maxlen
  have := Tryz.strings_Split s ⟨#[c]⟩ m w (by omega) hm (Nat.le_refl 1)
  rw [split_len, split_parts] at this
  refine this.mono fun e w' ⟨he, hw⟩ => ⟨w.heap.size, _, he, fun i p hp => ?_, by rw [hw]; simp, by rw [hw]; exact (Turn.refl _ _).alloc _⟩
  rw [hw, cell_of_block (block_alloc_new _ _)]
  simp [hp]
end Go.Proofs.YtbkpbcmjgbdbkaaGreatDoor

/-! E7 -/
namespace Go.Proofs.YtbkpbcmjgbdbkaaGreatDoor
open Go.RowKit Go.Lib
set_option linter.unusedVariables false
set_option linter.unusedSimpArgs false

def digs : ByteArray := ⟨#[48, 49, 50, 51, 52, 53, 54, 55, 56, 57, 97, 98, 99, 100, 101, 102]⟩
theorem digs_cut (x : Nat) (h : x < 16) : digs.extract x (x + 1) = ⟨[hexD x].toArray⟩ := by
  rcases x with _ | _ | _ | _ | _ | _ | _ | _ | _ | _ | _ | _ | _ | _ | _ | _ | x
  case succ.succ.succ.succ.succ.succ.succ.succ.succ.succ.succ.succ.succ.succ.succ.succ => omega
  all_goals decide
theorem digs_at (x : Nat) (h : x < 16) : ∀ hx, (({ data := #[48, 49, 50, 51, 52, 53, 54, 55, 56, 57, 97, 98, 99, 100, 101, 102] } : ByteArray)[x]'hx) = hexD x := by
  intro hx
  rcases x with _ | _ | _ | _ | _ | _ | _ | _ | _ | _ | _ | _ | _ | _ | _ | _ | x
  case succ.succ.succ.succ.succ.succ.succ.succ.succ.succ.succ.succ.succ.succ.succ.succ => omega
  all_goals rfl
theorem and15 (b : Nat) (h : b < 256) : bits .and .u8 (b : Int) 15 = ((b % 16 : Nat) : Int) := by
  have := u8_and_nat b 15 h (by omega)
  rw [nat_mask4] at this
  exact this

set_option maxRecDepth 100000 in
set_option maxHeartbeats 2000000 in
theorem hexes_any (b : Nat) (hb : b < 256) (w : World) : Calls Tryz.prog 71 #[.int .u8 (b : Int)] w fun e w' => e = .returned (.string ⟨(hexL b).toArray⟩) ∧ Turn (fun _ => False) w w' := by
  obtain ⟨x, hx⟩ : ∃ x, x = b / 16 := ⟨_, rfl⟩
  obtain ⟨y, hy⟩ : ∃ y, y = b % 16 := ⟨_, rfl⟩
  have hx1 : x < 16 := by omega
  have hy1 : y < 16 := by omega
  have hsh : ((b : Int) / 16) = (x : Int) := by omega
  have han : bits .and .u8 (b : Int) 15 = (y : Int) := by rw [and15 b hb, hy]
  have cx := digs_cut x hx1
  have cy := digs_cut y hy1
  have HH := Lib.hid (And.intro hx (And.intro hy (And.intro cx cy)))
  have x0 : (0 : Int) ≤ (x : Int) := by omega
  have y0 : (0 : Int) ≤ (y : Int) := by omega
  have x16 : (x : Int) + 1 ≤ 16 := by omega
  have y16 : (y : Int) + 1 ≤ 16 := by omega
  clear hx hy cx cy
  go_enter Tryz.func71, Tryz.ntmps71
  go_wp2_with fail
  go_quiet (fail)
  go_wp2_with fail
  go_ret
  refine ⟨?_, (Turn.refl _ _).drewN _⟩
  show Ending.returned (.string (digs.extract x (x + 1) ++ digs.extract y (y + 1))) = _
  rw [HH.out.2.2.1, HH.out.2.2.2]
  unfold hexL
  rw [← HH.out.1, ← HH.out.2.1]
  rfl
def byteVals (l : List UInt8) : List Value := l.map fun (x : UInt8) => Value.int .u8 (x.toNat : Int)
theorem fold_push (l : List UInt8) (s : ByteArray) : (l.map fun (x : UInt8) => (x.toNat : Int)).foldl (fun r n => r.push (UInt8.ofNat n.toNat)) s = ⟨s.data ++ l.toArray⟩ := by
  induction l generalizing s with
  | nil => simp
  | cons c l ih =>
    rw [List.map_cons, List.foldl_cons, ih]
    have : UInt8.ofNat (c.toNat : Int).toNat = c := by rw [Int.toNat_natCast]; exact (byte_of rfl).symm
    rw [this]
    apply ByteArray.ext
    apply Array.ext'
    simp
theorem run_text_of_row {w : World} {base g cap n : Nat} {l : List UInt8} {t e dst : TypeId} (h : w.ownsRow base e 1 (.slice (some ⟨g, 0, none⟩) n cap) n (byteVals l)) (hl : l.length = n)
    (hs : Tryz.prog.underlying t = some (.slice e)) (he : Tryz.prog.underlying e = some (.int .u8)) (hd : Tryz.prog.underlying dst = some .string) :
    (convert t dst (.slice (some ⟨g, 0, none⟩) n cap)).run Tryz.prog w = .ok (.string ⟨l.toArray⟩) w := by
  rw [run_convert_bytes_string w t dst e _ n cap hs he hd]
  have hld : (loadCells ⟨g, 0, none⟩ n).run Tryz.prog w = .ok ((l.map fun (x : UInt8) => (x.toNat : Int)).map (Value.int .u8)).toArray w := by
    have := run_loadCells_list (P := Tryz.prog) w ⟨g, 0, none⟩ (byteVals l) (h.cells (g := g) rfl)
    rw [show (byteVals l).length = n by simp [byteVals, hl]] at this
    rw [this]
    simp [byteVals, Function.comp_def]
  rw [run_bytesToString w _ n cap _ hld, fold_push]
  simp
theorem text_snoc {w : World} {base : Nat} {v : Value} {L : List Nat} {k y p q : Nat} (hp : p = y / 16) (hq : q = y % 16) (hy : L[k]? = some y)
    (h : w.ownsRow base 5 1 v (2 * k + 2) (byteVals (keyText (L.take k)) ++ [.int .u8 ((hexD p).toNat : Int), .int .u8 ((hexD q).toNat : Int)])) :
    w.ownsRow base 5 1 v (2 * (k + 1)) (byteVals (keyText (L.take (k + 1)))) := by
  have e : keyText (L.take (k + 1)) = keyText (L.take k) ++ [hexD p, hexD q] := by
    rw [List.take_add_one, hy, hp, hq]
    simp [keyText, hexL]
  rw [e]
  unfold byteVals at h ⊢
  rw [List.map_append]
  exact h

set_option maxRecDepth 100000 in
set_option maxHeartbeats 2000000 in
theorem digitsText_any (L : List Nat) (hL : ∀ b ∈ L, b < 256) (hn : L.length ≤ 1000) (h0 : 0 < L.length) (b o c : Nat) (T : TypeId) (w : World) (hc : ∀ (i x : Nat), L[i]? = some x → w.cell? ⟨b, o + i, none⟩ = some (.int .u8 (x : Int))) (hb : b < w.heap.size) :
    Calls Tryz.prog 68 #[.slice (some ⟨b, o, none⟩) L.length c] w fun e w' => e = .returned (.string ⟨(keyText L).toArray⟩) ∧ Turn (fun _ => False) w w' := by
  obtain ⟨i0, hi, hz0, hz1, hz2⟩ := info_parts (show (Tryz.prog.info? 5).map (fun i => (i.zero, i.size, i.bytes)) = some (some (.int .u8 0), 1, 1) by kernel_rfl)
  have HC := Lib.hid (And.intro hc hL)
  clear hc hL
  go_enter Tryz.func68, Tryz.ntmps68
  go_wp2_with fail
  go_loopg [3, 8] L.length (fun g v i wr => ∃ k : Nat, g = L.length - k ∧ k ≤ L.length ∧ i = .int .i64 k ∧ wr.ownsRow w.heap.size 5 1 v (2 * k) (byteVals (keyText (L.take k))) ∧ Turn (fun _ => False) w wr)
  case atStart => exact ⟨0, rfl, Nat.zero_le _, rfl, World.ownsRow_nil _ _ _ _, Turn.refl _ _⟩
  case round =>
    obtain ⟨k, rfl, hk, rfl, hown, ht⟩ := hrel
    by_cases hlt : k < L.length
    · obtain ⟨y, hy⟩ : ∃ y, L[k]? = some y := ⟨_, List.getElem?_eq_getElem hlt⟩
      have hy256 := HC.out.2 y (List.mem_of_getElem? hy)
      have hcell : wr.cell? ⟨b, o + k, none⟩ = some (.int .u8 (y : Int)) := (World.cell?_of_block (ht.block b hb (fun h => h))).trans (HC.out.1 k y hy)
      obtain ⟨p, hp⟩ : ∃ p, p = y / 16 := ⟨_, rfl⟩
      obtain ⟨q, hq⟩ : ∃ q, q = y % 16 := ⟨_, rfl⟩
      have hsh : ((y : Int) / 16) = (p : Int) := by omega
      have han : bits .and .u8 (y : Int) 15 = (q : Int) := by rw [and15 y hy256, hq]
      have p0 : (0 : Int) ≤ (p : Int) := by omega
      have q0 : (0 : Int) ≤ (q : Int) := by omega
      have p16 : (p : Int) < 16 := by omega
      have q16 : (q : Int) < 16 := by omega
      have HP := Lib.hid (And.intro hp (And.intro hq hy))
      clear hp hq hy
      have gp := digs_at p (by omega)
      have gq := digs_at q (by omega)
      go_wp2_with fail
      clear hcell
      go_region_law (
        refine step_append_lies _ rfl (.tmp 12) (.tmp 19) 49 (by rfl) w.heap.size 5 i0 (.int .u8 0) 1 1 Tryz.underlying49 hi hz0 hz1 hz2 rfl (by decide) u3 (2 * k) _ (by rfl) (by exact hown.alloc _) _ 2 2 [.int .u8 ((hexD p).toNat : Int), .int .u8 ((hexD q).toNat : Int)] (by rfl) (by rfl) (by exact World.news_of_block (block_alloc_new _ _)) (by intro u hu; simp at hu; rcases hu with rfl | rfl <;> rfl) (by omega) (by unfold maxLen; omega) (by omega) (by have := ht.size; simp; omega) _ rfl ?_
        intro g cap w' hown' hgrow hwhere hlt')
      all_goals
        have t2 : Turn (fun _ => False) w w' := ((ht.alloc _).drew).trans2 (turn_of_grown hgrow) (fun i hi e => by have := (hown.lt i e).1; omega)
        have hown2 := text_snoc HP.out.1 HP.out.2.1 HP.out.2.2 hown'
        clear hgrow hwhere hown' hown ht gp gq han hsh
        go_wp2_with fail
        go_roundg (L.length - (k + 1))
        case measure => omega
        case rel => exact ⟨k + 1, rfl, by omega, by go_num, hown2, t2⟩
    · obtain rfl : k = L.length := by omega
      rw [List.take_length] at hown
      obtain ⟨g, cap, rfl, _, hg⟩ := World.ownsRow.form hown (by omega)
      have hcv := run_text_of_row hown (keyText_len L) Tryz.underlying49 Tryz.underlying5 Tryz.underlying9
      clear hown
      go_wp2_with fail
      go_ret
      exact ⟨rfl, ht⟩
end Go.Proofs.YtbkpbcmjgbdbkaaGreatDoor

/-! E8 -/
namespace Go.Proofs.YtbkpbcmjgbdbkaaGreatDoor
open Go.RowKit Go.Lib
set_option linter.unusedVariables false
set_option linter.unusedSimpArgs false

def TextPost (l : List UInt8) (w : World) (e : Ending) (w' : World) : Prop := e = .returned (.string ⟨l.toArray⟩) ∧ Turn (fun _ => False) w w'
theorem str_append (a b : List UInt8) : ((⟨a.toArray⟩ : ByteArray) ++ ⟨b.toArray⟩) = ⟨(a ++ b).toArray⟩ := ByteArray.ext (by rw [ByteArray.data_append]; simp only [List.append_toArray])

set_option maxRecDepth 100000 in
set_option maxHeartbeats 2000000 in
theorem pkeyText_any (K : List Nat) (h8 : K.length = 8) (hK : ∀ b ∈ K, b < 256) (w : World) : Calls Tryz.prog 35 #[.agg (u8row K)] w (TextPost (keyText K) w) := by
  match K, h8, hK with
  | [a0, a1, a2, a3, a4, a5, a6, a7], _, hK =>
    have hnew := block_alloc_new w (.cells #[.int .u8 (a0 : Int), .int .u8 (a1 : Int), .int .u8 (a2 : Int), .int .u8 (a3 : Int), .int .u8 (a4 : Int), .int .u8 (a5 : Int), .int .u8 (a6 : Int), .int .u8 (a7 : Int)] 26)
    have call : Calls Tryz.prog 68 #[.slice (some ⟨w.heap.size, 0, none⟩) 8 8] _ _ := digitsText_any [a0, a1, a2, a3, a4, a5, a6, a7] hK (by simp) (by simp) w.heap.size 0 8 26 _ (fun i x hx => by
      rw [cell_of_block hnew]
      match i, hx with
      | 0, hx | 1, hx | 2, hx | 3, hx | 4, hx | 5, hx | 6, hx | 7, hx => simp at hx; subst hx; rfl
      | i + 8, hx => simp at hx) (by simp)
    have CALL := Lib.hid call
    clear call hnew
    show Calls Tryz.prog 35 #[.agg #[.int .u8 (a0 : Int), .int .u8 (a1 : Int), .int .u8 (a2 : Int), .int .u8 (a3 : Int), .int .u8 (a4 : Int), .int .u8 (a5 : Int), .int .u8 (a6 : Int), .int .u8 (a7 : Int)]] w _
    go_enter Tryz.func35, Tryz.ntmps35
    go_wp2_with fail
    refine CALL.out.mono ?_
    rintro e w2 ⟨rfl, t2⟩
    go_wp2_with fail
    go_ret
    exact ⟨rfl, ((Turn.refl _ _).alloc _).trans t2⟩

set_option maxRecDepth 100000 in
set_option maxHeartbeats 2000000 in
theorem rkeyText_any (K : List Nat) (h8 : K.length = 8) (hK : ∀ b ∈ K, b < 256) (w : World) : Calls Tryz.prog 42 #[.agg (u8row K)] w (TextPost (keyText K) w) := by
  obtain ⟨a0, a1, a2, a3, a4, a5, a6, a7, he⟩ : ∃ a0 a1 a2 a3 a4 a5 a6 a7 : Nat, K = [a0, a1, a2, a3, a4, a5, a6, a7] := by
    match K, h8 with
    | [a0, a1, a2, a3, a4, a5, a6, a7], _ => exact ⟨_, _, _, _, _, _, _, _, rfl⟩
  have hr : u8row K = #[.int .u8 (a0 : Int), .int .u8 (a1 : Int), .int .u8 (a2 : Int), .int .u8 (a3 : Int), .int .u8 (a4 : Int), .int .u8 (a5 : Int), .int .u8 (a6 : Int), .int .u8 (a7 : Int)] := by rw [he]; rfl
  have hnew := block_alloc_new w (.cells (u8row K) 26)
  have hsz : w.heap.size < (w.alloc (.cells (u8row K) 26)).heap.size := by simp
  have t0 : Turn (fun _ => False) w (w.alloc (.cells (u8row K) 26)) := (Turn.refl _ _).alloc _
  have HK := Lib.hid (And.intro h8 (And.intro hK (And.intro hnew (And.intro hsz t0))))
  have HR := Lib.hid hr
  rw [hr]
  clear h8 hK hnew hsz t0 hr he
  go_enter Tryz.func42, Tryz.ntmps42
  go_wp2_with fail
  rw [← HR.out]
  have t0 := HK.out.2.2.2.2
  have hsz := HK.out.2.2.2.1
  have hnw := HK.out.2.2.1
  generalize w.alloc (.cells (u8row K) 26) = w1 at *
  generalize w.heap.size = B at *
  have HN := Lib.hid hnw
  clear hnw
  go_loopw [3, 4] (fun o i wr => ∃ k : Nat, k ≤ 8 ∧ i = .int .i64 k ∧ o = .string ⟨(keyText (K.take k)).toArray⟩ ∧ Turn (fun _ => False) w1 wr) (fun _ i _ => 8 - (RowKit.intOf i).toNat)
  case atStart => exact ⟨0, by omega, rfl, rfl, Turn.refl _ _⟩
  case round =>
    obtain ⟨k, hk, rfl, rfl, ht⟩ := hrel
    by_cases hlt : k < 8
    · obtain ⟨y, hy⟩ : ∃ y, K[k]? = some y := ⟨_, List.getElem?_eq_getElem (by have := HK.out.1; omega)⟩
      have hcell : wr.cell? ⟨B, k, none⟩ = some (.int .u8 (y : Int)) := (World.cell?_of_block (ht.block B hsz (fun h => h))).trans (by
        rw [cell_of_block HN.out]
        unfold u8row
        rw [List.getElem?_toArray, List.getElem?_map, hy]; rfl)
      have hix := idx41 B k hlt
      have call := hexes_any y (HK.out.2.1 y (List.mem_of_getElem? hy))
      have hkt : keyText (K.take (k + 1)) = keyText (K.take k) ++ hexL y := by rw [List.take_add_one, hy]; simp [keyText]
      obtain ⟨A, hA⟩ : ∃ A : ByteArray, A = ⟨(keyText (K.take k)).toArray⟩ := ⟨_, rfl⟩
      obtain ⟨D, hD⟩ : ∃ D : ByteArray, D = ⟨(hexL y).toArray⟩ := ⟨_, rfl⟩
      have hs1 : A.size ≤ 16 := by rw [hA]; show (keyText (K.take k)).toArray.size ≤ _; rw [List.size_toArray, keyText_len]; simp; omega
      have hs2 : D.size = 2 := by rw [hD]; rfl
      have hs3 : ¬ (A.size + D.size > 9223372036854775807) := by omega
      have hAD : A ++ D = ⟨(keyText (K.take (k + 1))).toArray⟩ := by rw [hkt, hA, hD, str_append]
      rw [← hA]
      rw [← hD] at call
      have E := Lib.hid (And.intro call hAD)
      clear call hAD hA hD hkt hs1 hs2 hy
      go_wp2_with fail
      refine (E.out.1 _).mono ?_
      rintro e w2 ⟨rfl, t2⟩
      go_wp2_with fail
      all_goals first
        | (exfalso; omega)
        | (go_roundw
           case rel => exact ⟨k + 1, by omega, by go_num, by rw [E.out.2], ht.trans t2⟩
           case measure => simp [RowKit.intOf]; omega)
    · obtain rfl : k = 8 := by omega
      have hf : K.take 8 = K := List.take_of_length_le (by have := HK.out.1; omega)
      rw [hf]
      clear hf
      go_wp2_with fail
      go_ret
      exact ⟨rfl, t0.trans ht⟩
end Go.Proofs.YtbkpbcmjgbdbkaaGreatDoor

/-! E9 -/
namespace Go.Proofs.YtbkpbcmjgbdbkaaGreatDoor
open Go.RowKit Go.Lib
set_option linter.unusedVariables false
set_option linter.unusedSimpArgs false

theorem joinL_snoc {c : UInt8} (ps : List (List UInt8)) (q : List UInt8) (h : ps ≠ []) : joinL c (ps ++ [q]) = joinL c ps ++ c :: q := by
  induction ps with
  | nil => exact absurd rfl h
  | cons p ps ih =>
    match ps, ih with
    | [], _ => rfl
    | r :: rs, ih =>
      show p ++ c :: joinL c ((r :: rs) ++ [q]) = _
      rw [ih (by simp)]
      show _ = (p ++ c :: joinL c (r :: rs)) ++ c :: q
      simp
theorem join_joinL (c : UInt8) (ps : List (List UInt8)) : Lib.join ps [c] = joinL c ps := by
  match ps with
  | [] => rfl
  | p :: ps =>
    rw [Lib.join_cons]
    induction ps generalizing p with
    | nil => simp [Lib.joinTail, joinL]
    | cons q r ih =>
      show p ++ Lib.joinTail [c] (q :: r) = p ++ c :: joinL c (q :: r)
      rw [← ih q]
      simp [Lib.joinTail]
def macAt (M : List Nat) (k : Nat) : List UInt8 := joinL 58 ((M.take k).map hexL)
theorem macAt_next {M : List Nat} {k y : Nat} (h0 : 1 ≤ k) (hk : k ≤ M.length) (hy : M[k]? = some y) : macAt M (k + 1) = macAt M k ++ 58 :: hexL y := by
  unfold macAt
  rw [List.take_add_one, hy, List.map_append]
  exact joinL_snoc _ _ (by intro e; rw [List.map_eq_nil_iff] at e; have := congrArg List.length e; rw [List.length_take, List.length_nil] at this; omega)
theorem hexL_len (b : Nat) : (hexL b).length = 2 := rfl
theorem macAt_len (M : List Nat) (k : Nat) : (macAt M k).length ≤ 3 * k := by
  unfold macAt
  have key : ∀ l : List Nat, (joinL 58 (l.map hexL)).length ≤ 3 * l.length := by
    intro l
    induction l with
    | nil => simp [joinL]
    | cons a l ih =>
      match l, ih with
      | [], _ => simp [joinL, hexL_len]
      | b :: r, ih =>
        show (hexL a ++ 58 :: joinL 58 ((b :: r).map hexL)).length ≤ _
        rw [List.length_append, hexL_len, List.length_cons]
        have h2 : (a :: b :: r).length = (b :: r).length + 1 := rfl
        omega
  have := key (M.take k)
  rw [List.length_take] at this
  omega

set_option maxRecDepth 100000 in
set_option maxHeartbeats 2000000 in
theorem rmacText_any (M : List Nat) (h6 : M.length = 6) (hM : ∀ b ∈ M, b < 256) (w : World) : Calls Tryz.prog 41 #[.agg (u8row M)] w (TextPost (macText M) w) := by
  obtain ⟨a0, a1, a2, a3, a4, a5, he⟩ : ∃ a0 a1 a2 a3 a4 a5 : Nat, M = [a0, a1, a2, a3, a4, a5] := by
    match M, h6 with
    | [a0, a1, a2, a3, a4, a5], _ => exact ⟨_, _, _, _, _, _, rfl⟩
  have hr : u8row M = #[.int .u8 (a0 : Int), .int .u8 (a1 : Int), .int .u8 (a2 : Int), .int .u8 (a3 : Int), .int .u8 (a4 : Int), .int .u8 (a5 : Int)] := by rw [he]; rfl
  have hnew := block_alloc_new w (.cells (u8row M) 25)
  have hsz : w.heap.size < (w.alloc (.cells (u8row M) 25)).heap.size := by simp
  have t0 : Turn (fun _ => False) w (w.alloc (.cells (u8row M) 25)) := (Turn.refl _ _).alloc _
  have call0 := hexes_any a0 (hM a0 (by rw [he]; simp))
  have hm0 : macAt M 1 = hexL a0 := by rw [he]; rfl
  have HK := Lib.hid (And.intro h6 (And.intro hM (And.intro hnew (And.intro hsz t0))))
  have HR := Lib.hid (And.intro hr (And.intro call0 hm0))
  rw [hr]
  clear h6 hM hnew hsz t0 hr he call0 hm0
  go_enter Tryz.func41, Tryz.ntmps41
  go_wp2_with fail
  refine (HR.out.2.1 _).mono ?_
  rintro e w1 ⟨rfl, t1⟩
  rw [← HR.out.1] at t1
  rw [← HR.out.2.2]
  have t0 := HK.out.2.2.2.2.trans t1
  have hsz : w.heap.size < w1.heap.size := Nat.lt_of_lt_of_le HK.out.2.2.2.1 t1.size
  have hnw := (t1.block w.heap.size HK.out.2.2.2.1 (fun h => h)).trans HK.out.2.2.1
  generalize w.heap.size = B at *
  have HN := Lib.hid (And.intro hnw (And.intro t0 hsz))
  clear hnw t1 t0 hsz
  go_wp2_with fail
  go_loopw [3, 4] (fun o i wr => ∃ k : Nat, 1 ≤ k ∧ k ≤ 6 ∧ i = .int .i64 k ∧ o = .string ⟨(macAt M k).toArray⟩ ∧ Turn (fun _ => False) w1 wr) (fun _ i _ => 6 - (RowKit.intOf i).toNat)
  case atStart => exact ⟨1, by omega, by omega, rfl, rfl, Turn.refl _ _⟩
  case round =>
    obtain ⟨k, hk1, hk, rfl, rfl, ht⟩ := hrel
    by_cases hlt : k < 6
    · obtain ⟨y, hy⟩ : ∃ y, M[k]? = some y := ⟨_, List.getElem?_eq_getElem (by have := HK.out.1; omega)⟩
      have hcell : wr.cell? ⟨B, k, none⟩ = some (.int .u8 (y : Int)) := (World.cell?_of_block (ht.block B HN.out.2.2 (fun h => h))).trans (by
        rw [cell_of_block HN.out.1]
        unfold u8row
        rw [List.getElem?_toArray, List.getElem?_map, hy]; rfl)
      have hix := idx36 B k hlt
      have call := hexes_any y (HK.out.2.1 y (List.mem_of_getElem? hy))
      have hkt := macAt_next hk1 (by have := HK.out.1; omega) hy
      obtain ⟨A, hA⟩ : ∃ A : ByteArray, A = ⟨(macAt M k).toArray⟩ := ⟨_, rfl⟩
      obtain ⟨C, hC⟩ : ∃ C : ByteArray, C = ⟨(macAt M k ++ [58]).toArray⟩ := ⟨_, rfl⟩
      obtain ⟨D, hD⟩ : ∃ D : ByteArray, D = ⟨(hexL y).toArray⟩ := ⟨_, rfl⟩
      have hs1 : A.size ≤ 18 := by rw [hA]; show (macAt M k).toArray.size ≤ _; rw [List.size_toArray]; have := macAt_len M k; omega
      have hs2 : D.size = 2 := by rw [hD]; rfl
      have hsC : C.size ≤ 19 := by rw [hC]; show (macAt M k ++ [58]).toArray.size ≤ _; rw [List.size_toArray, List.length_append]; have := macAt_len M k; simp; omega
      have hs3 : ¬ (C.size + D.size > 9223372036854775807) := by omega
      have hAC : A ++ ⟨#[58]⟩ = C := by rw [hA, hC]; exact str_append _ [58]
      have hCD : C ++ D = ⟨(macAt M (k + 1)).toArray⟩ := by rw [hkt, hC, hD, str_append]; simp
      rw [← hA]
      rw [← hD] at call
      have E := Lib.hid (And.intro call hCD)
      clear call hCD hA hD hC hkt hs2 hy
      go_wp2_with fail
      refine (E.out.1 _).mono ?_
      rintro e w2 ⟨rfl, t2⟩
      go_wp2_with fail
      all_goals first
        | (exfalso; omega)
        | (go_roundw
           case rel => exact ⟨k + 1, by omega, by omega, by go_num, by rw [E.out.2], ht.trans t2⟩
           case measure => simp [RowKit.intOf]; omega)
    · obtain rfl : k = 6 := by omega
      have hf : macAt M 6 = macText M := by unfold macAt macText; rw [List.take_of_length_le (by have := HK.out.1; omega)]
      rw [hf]
      clear hf
      go_wp2_with fail
      go_ret
      exact ⟨rfl, HN.out.2.1.trans ht⟩

def strAt (M : List Nat) (k : Nat) : List Value := strCells ((M.take k).map hexL)
/-- strings.Join at a sign of one byte, of a row of the call's own. -/
theorem pjoin {w : World} {base : Nat} {v : Value} {ps : List (List UInt8)} {n : Nat} (c : UInt8) (h : w.ownsRow base 9 1 v n (strCells ps)) (hn : ps.length = n) (h0 : 0 < n) (hlen : (joinL c ps).length ≤ 140737488355328) (hps : n ≤ 1000000) :
    Calls Tryz.prog 66 #[v, .string ⟨#[c]⟩] w (TextPost (joinL c ps) w) := by
  obtain ⟨g, cap, rfl, _, hg⟩ := World.ownsRow.form h h0
  have hcap : n ≤ cap := by
    rcases h.2 with ⟨h1, _⟩ | ⟨g', cap', cur, h1, _, _, h3, _⟩
    · cases h1
    · injection h1 with h1 h2 h4; subst h4; exact h3
  have hd : (ps.map fun l => (⟨l.toArray⟩ : ByteArray)).map (·.data.toList) = ps := by rw [List.map_map]; exact List.map_id _
  have := Tryz.strings_Join g 0 cap (ps.map fun l => ⟨l.toArray⟩) ⟨#[c]⟩ w (fun j x hx => by
    have hj : j < n := by rw [← hn]; have := (List.getElem?_eq_some_iff.1 hx).1; simpa using this
    rw [Nat.zero_add, h.cellAt j (by omega)]
    unfold strCells
    rw [List.getElem?_map] at hx ⊢
    cases hp : ps[j]? with
    | none => rw [hp] at hx; cases hx
    | some l => rw [hp] at hx; simp only [Option.map_some, Option.some.injEq] at hx; subst hx; rfl) hg (by simp; omega) (by simp; omega) (by rw [hd]; show (Lib.join ps [c]).length ≤ _; rw [join_joinL]; exact hlen)
  rw [hd] at this
  rw [List.length_map, hn] at this
  refine this.mono fun e w' ⟨he, hb⟩ => ⟨?_, turn_of_below hb⟩
  rw [he]
  show Ending.returned (.string ⟨(Lib.join ps [c]).toArray⟩) = _
  rw [join_joinL]

set_option maxRecDepth 100000 in
set_option maxHeartbeats 2000000 in
theorem pmacText_any (M : List Nat) (h6 : M.length = 6) (hM : ∀ b ∈ M, b < 256) (w : World) : Calls Tryz.prog 34 #[.agg (u8row M)] w (TextPost (macText M) w) := by
  obtain ⟨i0, hi, hz0, hz1, hz2⟩ := info_parts info9
  obtain ⟨a0, a1, a2, a3, a4, a5, he⟩ : ∃ a0 a1 a2 a3 a4 a5 : Nat, M = [a0, a1, a2, a3, a4, a5] := by
    match M, h6 with
    | [a0, a1, a2, a3, a4, a5], _ => exact ⟨_, _, _, _, _, _, rfl⟩
  have hr : u8row M = #[.int .u8 (a0 : Int), .int .u8 (a1 : Int), .int .u8 (a2 : Int), .int .u8 (a3 : Int), .int .u8 (a4 : Int), .int .u8 (a5 : Int)] := by rw [he]; rfl
  have hnew := block_alloc_new w (.cells (u8row M) 25)
  have hsz : w.heap.size < (w.alloc (.cells (u8row M) 25)).heap.size := by simp
  have t0 : Turn (fun _ => False) w (w.alloc (.cells (u8row M) 25)) := (Turn.refl _ _).alloc _
  have HK := Lib.hid (And.intro h6 (And.intro hM (And.intro hnew (And.intro hsz t0))))
  have HR := Lib.hid hr
  rw [hr]
  clear h6 hM hnew hsz t0 hr he
  go_enter Tryz.func34, Tryz.ntmps34
  go_wp2_with fail
  rw [← HR.out]
  have t0 := HK.out.2.2.2.2
  have hsz := HK.out.2.2.2.1
  have hnw := HK.out.2.2.1
  generalize w.alloc (.cells (u8row M) 25) = w1 at *
  generalize w.heap.size = B at *
  have HN := Lib.hid (And.intro hnw (And.intro t0 hsz))
  clear hnw t0 hsz
  go_loopw [3, 5] (fun v i wr => ∃ k : Nat, k ≤ 6 ∧ i = .int .i64 k ∧ wr.ownsRow w1.heap.size 9 1 v k (strAt M k) ∧ Turn (fun _ => False) w1 wr) (fun _ i _ => 6 - (RowKit.intOf i).toNat)
  case atStart => exact ⟨0, by omega, rfl, World.ownsRow_nil _ _ _ _, Turn.refl _ _⟩
  case round =>
    obtain ⟨k, hk, rfl, hown, ht⟩ := hrel
    by_cases hlt : k < 6
    · obtain ⟨y, hy⟩ : ∃ y, M[k]? = some y := ⟨_, List.getElem?_eq_getElem (by have := HK.out.1; omega)⟩
      have hcell : wr.cell? ⟨B, k, none⟩ = some (.int .u8 (y : Int)) := (World.cell?_of_block (ht.block B HN.out.2.2 (fun h => h))).trans (by
        rw [cell_of_block HN.out.1]
        unfold u8row
        rw [List.getElem?_toArray, List.getElem?_map, hy]; rfl)
      have hsl := slice36 B k hlt
      have call : Calls Tryz.prog 68 #[.slice (some ⟨B, k, none⟩) 1 (6 - k)] wr _ := digitsText_any [y] (fun b hb => by simp at hb; subst hb; exact HK.out.2.1 b (List.mem_of_getElem? hy)) (by simp) (by simp) B k (6 - k) 25 wr (fun i x hx => by
        match i, hx with
        | 0, hx => simp at hx; subst hx; exact hcell
        | i + 1, hx => simp at hx) (Nat.lt_of_lt_of_le HN.out.2.2 ht.size)
      rw [← hexL_one] at call
      have hst : strAt M (k + 1) = strAt M k ++ [.string ⟨(hexL y).toArray⟩] := by unfold strAt; rw [List.take_add_one, hy, List.map_append]; exact strCells_snoc _ _
      have E := Lib.hid (And.intro call hst)
      clear call hst hy hcell
      go_wp2_with fail
      refine E.out.1.mono ?_
      rintro e w2 ⟨rfl, t2⟩
      have hown1 := ownsRow_turn hown t2 (fun _ _ h => h)
      have t3 := ht.trans t2
      have o5 := hown1.alloc (.cells #[.string ⟨(hexL y).toArray⟩] 9)
      clear hown hown1 t2 ht
      go_wp2_with (at_builtin; refine wpList_append_own_at _ rfl _ _ 54 rfl w1.heap.size 9 i0 (.string ⟨#[]⟩) 1 16 Tryz.underlying54 hi hz0 hz1 hz2 rfl (by decide) u3 _ _ rfl o5 ⟨w2.heap.size, 0, none⟩ 1 1 [.string ⟨(hexL y).toArray⟩] rfl rfl ?c1 ?c2 ?c3 ?c4 ?c5 ?_)
      case c1 => exact cell_one_new _ _ _
      case c2 => first | rfl | (intro u hu; simp at hu; rw [hu]; rfl)
      case c3 => unfold maxLen; omega
      case c4 => omega
      case c5 => have := t3.size; simp; omega
      intro v' w' hown' hgrow _ _
      have t4 : Turn (fun _ => False) w1 w' := (t3.alloc _).trans2 (turn_of_grown hgrow) (fun i hi e => by have := (o5.lt i e).1; omega)
      rw [← E.out.2] at hown'
      clear hgrow o5 t3
      go_wp2_with fail
      go_roundw
      case rel => exact ⟨k + 1, by omega, by go_num, hown', t4⟩
      case measure => simp [RowKit.intOf]; omega
    · obtain rfl : k = 6 := by omega
      have hown2 : wr.ownsRow w1.heap.size 9 1 u3 6 (strCells (M.map hexL)) := by unfold strAt at hown; rw [List.take_of_length_le (by have := HK.out.1; omega)] at hown; exact hown
      have hml := macAt_len M 6
      have call := pjoin 58 hown2 (by rw [List.length_map]; exact HK.out.1) (by omega) (by
        have e : macAt M 6 = joinL 58 (M.map hexL) := by unfold macAt; rw [List.take_of_length_le (by have := HK.out.1; omega)]
        rw [← e]; omega) (by omega)
      have E := Lib.hid call
      clear call hown hown2 hml
      go_wp2_with fail
      refine E.out.mono ?_
      rintro e w2 ⟨rfl, t2⟩
      go_wp2_with fail
      go_ret
      exact ⟨rfl, HN.out.2.1.trans (ht.trans t2)⟩
end Go.Proofs.YtbkpbcmjgbdbkaaGreatDoor

/-! B0 -/
namespace Go.Proofs.YtbkpbcmjgbdbkaaGreatDoor
open Go.RowKit Go.Lib
set_option linter.unusedVariables false
set_option linter.unusedSimpArgs false
set_option maxRecDepth 100000

theorem size88 : (Tryz.prog.info? 88).map (·.size) = some 2 := by kernel_rfl
theorem lies88 : liesAt Tryz.prog Tryz.prog.depth 90 (2 / Tryz.prog.cellsOf 90) 0 88 1 = true := by kernel_rfl
/-- The writer holds these bytes, in a row of its own (blocks from B on). -/
def BufIs (w : World) (B b : Nat) (l : List UInt8) : Prop :=
  ∃ p v, (p = .pointer none ∨ p = .pointer (some ⟨b, 0, none⟩)) ∧ w.heap[b]? = some (.cells #[p, v] 90 (0, 0)) ∧ w.ownsRow B 5 1 v l.length (byteVals l) ∧ v.ownBlock ≠ some b
theorem ccheck_any (b : Nat) (p v : Value) (hp : p = .pointer none ∨ p = .pointer (some ⟨b, 0, none⟩)) (w : World) (hb : w.heap[b]? = some (.cells #[p, v] 90 (0, 0))) :
    Calls Tryz.prog 95 #[.pointer (some ⟨b, 0, none⟩)] w fun e w' => e = .returned (.tuple #[]) ∧ w'.heap[b]? = some (.cells #[.pointer (some ⟨b, 0, none⟩), v] 90 (0, 0)) ∧ Turn (fun k => k = b) w w' := by
  obtain ⟨j, hj, hjs⟩ := Option.map_eq_some_iff.1 size88
  have hsh : w.shape? b = some (90, 2) := by simp [World.shape?, hb]
  have c0 : w.cell? ⟨b, 0, none⟩ = some p := cell_of_block hb 0
  have f0 : w.frozen? ⟨b, 0, none⟩ = false := free_of_block hb 0
  rcases hp with rfl | rfl
  · go_enter Tryz.func95, Tryz.ntmps95
    go_wp2_with fail
    rw [Lib.run_to_unsafe w ⟨b, 0, none⟩ Tryz.underlying86 Tryz.underlying113 hj (by rw [hjs]; decide) hsh (Nat.zero_lt_succ 1)]
    simp only [Result.andThen]
    rw [Oper.upon_value]
    go_wp2_with fail
    rw [run_callFunc_extern Tryz.func106 (by kernel_rfl) (by kernel_rfl) (by kernel_rfl) (e := Extern.AbiNoEscape.same) (by kernel_rfl)]
    rw [Lib.run_noEscape]
    simp only [Result.andThen]
    rw [Oper.upon_value]
    go_wp2_with fail
    rw [Lib.run_from_unsafe w ⟨b, 0, none⟩ Tryz.underlying113 Tryz.underlying86 hj hsh lies88]
    simp only [Result.andThen]
    rw [Oper.upon_value]
    go_wp2_with fail
    go_end0
    exact ⟨rfl, block_setCell hb 0 _, (Turn.refl (fun k => k = b) w).setCell (p := ⟨b, 0, none⟩) _ (fun _ => rfl)⟩
  · go_enter Tryz.func95, Tryz.ntmps95
    go_wp2_with fail
    rw [Lib.run_neq_ptr_same w _ Tryz.underlying86 hj]
    go_wp2_with fail
    go_end0
    exact ⟨rfl, hb, Turn.refl _ _⟩
theorem info5 : (Tryz.prog.info? 5).map (fun i => (i.zero, i.size, i.bytes)) = some (some (.int .u8 0), 1, 1) := by kernel_rfl
theorem strCells_bytes (l : List UInt8) : Lib.strCells ⟨l.toArray⟩ = byteVals l := by
  simp [Lib.strCells, byteVals]
theorem byteVals_app (a b : List UInt8) : byteVals a ++ byteVals b = byteVals (a ++ b) := by simp [byteVals]
/-- An owned row's slice, and that it is not a block of another kind. -/
theorem own_form {w : World} {B b : Nat} {v : Value} {n : Nat} {xs : List Value} {e size : Nat} {cs : Array Value} {T : TypeId} (h : w.ownsRow B e size v n xs) (hb : w.heap[b]? = some (.cells cs T (0, 0))) (ht : T ≠ e) :
    ∃ ao cap, v = .slice ao n cap ∧ v.ownBlock ≠ some b := by
  rcases h.2 with ⟨hv, h0⟩ | ⟨g, cap, cur, hv, r⟩
  · exact ⟨none, 0, by rw [hv, h0], by rw [hv]; simp [Value.ownBlock]⟩
  · refine ⟨_, _, hv, ?_⟩
    rw [hv]
    intro he
    have hgb : g = b := by simpa [Value.ownBlock] using he
    have h1 := r.2.1
    rw [hgb, hb] at h1
    cases h1
    exact ht rfl
theorem own1_low {w : World} {B : Nat} {v : Value} {n : Nat} {xs : List Value} {e size k : Nat} (h : w.ownsRow B e size v n xs) (hk : v.ownBlock = some k) : B ≤ k := (h.lt k hk).1
theorem own_cells {w : World} {B : Nat} {v : Value} {n : Nat} {xs : List Value} {e size k : Nat} (h : w.ownsRow B e size v n xs) (hk : v.ownBlock = some k) : ∃ cs, w.heap[k]? = some (.cells cs e (0, 0)) := by
  rcases h.2 with ⟨hv, _⟩ | ⟨g, cap, cur, hv, _, r, _⟩
  · rw [hv] at hk; cases hk
  · rw [hv] at hk
    have : g = k := Option.some.inj hk
    subst this
    exact ⟨cur, r⟩
/-- The blocks that writing may turn: the writer's, and a row of bytes from B on. -/
def BufT (w : World) (B b k : Nat) : Prop := k = b ∨ (B ≤ k ∧ ∃ cs, w.heap[k]? = some (.cells cs 5 (0, 0)))
theorem BufT.trans {B b : Nat} {w w1 w2 : World} (h : Turn (BufT w B b) w w1) (k : Turn (BufT w1 B b) w1 w2) : Turn (BufT w B b) w w2 :=
  ⟨k.os.trans h.os, k.tape.trans h.tape, k.output.trans h.output, Nat.le_trans h.size k.size, fun i hi hF =>
    (k.block i (Nat.lt_of_lt_of_le hi h.size) (fun g => by
      rcases g with g | ⟨g1, cs, g2⟩
      · exact hF (Or.inl g)
      · exact hF (Or.inr ⟨g1, cs, (h.block i hi hF).symm.trans g2⟩))).trans (h.block i hi hF)⟩
theorem BufT.low {B b : Nat} {w w1 : World} (h : Turn (BufT w B b) w w1) (hB : B ≤ b) : Turn (fun k => B ≤ k) w w1 := h.mono (fun k _ e => by
  rcases e with e | e
  · omega
  · exact e.1)
set_option maxHeartbeats 1000000 in
theorem wstr_any (B b : Nat) (l s : List UInt8) (w : World) (h : BufIs w B b l) (hB : B ≤ b) (hlen : l.length + s.length ≤ 100000000) :
    Calls Tryz.prog 65 #[.pointer (some ⟨b, 0, none⟩), .string ⟨s.toArray⟩] w fun e w' => e = .returned (.tuple #[.int .i64 (s.length : Int), .nilIface]) ∧ BufIs w' B b (l ++ s) ∧ Turn (BufT w B b) w w' := by
  obtain ⟨p, v, hp, hb, hown, hne⟩ := h
  obtain ⟨i0, hi, hz0, hz1, hz2⟩ := info_parts info5
  have hcc := ccheck_any b p v hp w hb
  have hbl := block_lt hb
  have hss : (⟨s.toArray⟩ : ByteArray).size = s.length := rfl
  have hB' : B ≤ w.heap.size := by omega
  go_enter Tryz.func65, Tryz.ntmps65
  go_wp2_with fail
  refine hcc.mono ?_
  rintro e w1 ⟨rfl, q1, q2⟩
  have own1 := ownsRow_turn hown q2 (fun g hg e => hne (by rw [hg, e]))
  have c1 : w1.cell? ⟨b, 1, none⟩ = some v := cell_of_block q1 1
  have hs1 := q2.size
  have H := Lib.hid (And.intro q1 q2)
  have HO := Lib.hid hown
  clear hcc hown hb q1 q2
  go_wp2_with (at_builtin; refine Lib.wpList_append_own_string _ rfl _ _ 49 9 rfl B 5 i0 Tryz.underlying49 Tryz.underlying9 hi hz0 hz1 hz2 _ _ _ rfl own1 ⟨s.toArray⟩ rfl ?c1 ?c2 ?c3 ?_)
  case c1 => unfold maxLen; omega
  case c2 => omega
  case c3 => omega
  intro v' w' own2 hgrow hnil
  obtain ⟨q1, q2⟩ := H.out
  have t2 := turn_of_grown hgrow
  have hb2 : w'.heap[b]? = some (.cells #[.pointer (some ⟨b, 0, none⟩), v] 90 (0, 0)) := (t2.block b (block_lt q1) hne).trans q1
  have hfr : w'.frozen? ⟨b, 1, none⟩ = false := free_of_block hb2 1
  have hce : w'.cell? ⟨b, 1, none⟩ = some v := cell_of_block hb2 1
  obtain ⟨ao, cap', hv', hne'⟩ := own_form own2 hb2 (by decide)
  subst hv'
  have hlen2 : l.length + s.length = (l ++ s).length := by rw [List.length_append]
  have hcs : byteVals l ++ Lib.strCells ⟨s.toArray⟩ = byteVals (l ++ s) := by rw [strCells_bytes, byteVals_app]
  rw [hcs, hlen2] at own2
  have t3 : Turn (BufT w B b) w w' := (q2.mono (fun i _ e => Or.inl e)).trans2 t2 (fun i hi e => Or.inr ⟨own1_low own1 e, own_cells HO.out e⟩)
  have H2 := Lib.hid (And.intro own2 (And.intro t3 (And.intro hb2 hne')))
  clear own2 t3 hb2 hne' own1 hgrow hnil t2 H q1 q2 hcs hlen2 c1
  go_wp2_with fail
  go_ret2
  obtain ⟨own2, t3, hb2, hne'⟩ := H2.out
  have t4 : Turn (fun k => k = b) w' (w'.setCell ⟨b, 1, none⟩ (.slice ao (l.length + s.length) cap')) := (Turn.refl (fun k => k = b) w').setCell (p := ⟨b, 1, none⟩) _ (fun _ => rfl)
  exact ⟨rfl, ⟨_, _, Or.inr rfl, block_setCell hb2 1 _, by rw [List.length_append] at own2 ⊢; exact ownsRow_turn own2 t4 (fun g hg e => hne' (by rw [hg, e])), hne'⟩, t3.trans2 t4 (fun i hi e => Or.inl e)⟩
end Go.Proofs.YtbkpbcmjgbdbkaaGreatDoor

/-! B1 -/
namespace Go.Proofs.YtbkpbcmjgbdbkaaGreatDoor
open Go.RowKit Go.Lib
set_option linter.unusedVariables false
set_option linter.unusedSimpArgs false
set_option maxRecDepth 100000

set_option maxHeartbeats 1000000 in
theorem wbyte_any (B b : Nat) (l : List UInt8) (c : UInt8) (w : World) (h : BufIs w B b l) (hB : B ≤ b) (hlen : l.length + 1 ≤ 100000000) :
    Calls Tryz.prog 67 #[.pointer (some ⟨b, 0, none⟩), .int .u8 (c.toNat : Int)] w fun e w' => e = .returned .nilIface ∧ BufIs w' B b (l ++ [c]) ∧ Turn (BufT w B b) w w' := by
  obtain ⟨p, v, hp, hb, hown, hne⟩ := h
  obtain ⟨i0, hi, hz0, hz1, hz2⟩ := info_parts info5
  have hcc := ccheck_any b p v hp w hb
  have hbl := block_lt hb
  have hB' : B ≤ w.heap.size := by omega
  go_enter Tryz.func67, Tryz.ntmps67
  go_wp2_with fail
  refine hcc.mono ?_
  rintro e w1 ⟨rfl, q1, q2⟩
  have own1 := ownsRow_turn hown q2 (fun g hg e => hne (by rw [hg, e]))
  have c1 : w1.cell? ⟨b, 1, none⟩ = some v := cell_of_block q1 1
  have hs1 := q2.size
  have H := Lib.hid (And.intro q1 q2)
  have HO := Lib.hid hown
  have own5 := own1.alloc (.cells #[.int .u8 (c.toNat : Int)] 5)
  clear hcc hown hb q1 q2
  go_wp2_with (at_builtin; refine wpList_append_own_at _ rfl _ _ 49 rfl B 5 i0 (.int .u8 0) 1 1 Tryz.underlying49 hi hz0 hz1 hz2 rfl (by decide) _ _ _ rfl own5 ⟨w1.heap.size, 0, none⟩ 1 1 [.int .u8 (c.toNat : Int)] rfl rfl (cell_one_new _ _ _) (by intro u hu; simp at hu; rw [hu]; rfl) (by unfold maxLen; omega) (by omega) (by simp; omega) ?_)
  intro v' w' own2 hgrow hwhere hlt
  obtain ⟨q1, q2⟩ := H.out
  have t2 := turn_of_grown hgrow
  have hb1 := block_alloc_old (o := .cells #[.int .u8 (c.toNat : Int)] 5) q1
  have hb2 : w'.heap[b]? = some (.cells #[.pointer (some ⟨b, 0, none⟩), v] 90 (0, 0)) := (t2.block b (block_lt hb1) hne).trans hb1
  have hfr : w'.frozen? ⟨b, 1, none⟩ = false := free_of_block hb2 1
  have hce : w'.cell? ⟨b, 1, none⟩ = some v := cell_of_block hb2 1
  obtain ⟨ao, cap', hv', hne'⟩ := own_form own2 hb2 (by decide)
  subst hv'
  have hcs : byteVals l ++ [.int .u8 (c.toNat : Int)] = byteVals (l ++ [c]) := by rw [← byteVals_app]; rfl
  rw [hcs] at own2
  have t3 : Turn (BufT w B b) w w' := (((q2.mono (fun i _ e => Or.inl e)).alloc (.cells #[.int .u8 (c.toNat : Int)] 5)).trans2 t2 (fun i hi e => Or.inr ⟨own1_low own1 e, own_cells HO.out e⟩))
  have H2 := Lib.hid (And.intro own2 (And.intro t3 (And.intro hb2 hne')))
  clear own2 t3 hb2 hne' own1 own5 hgrow hwhere hlt t2 H q1 q2 hcs c1 hb1
  go_wp2_with fail
  go_ret
  obtain ⟨own2, t3, hb2, hne'⟩ := H2.out
  have t4 : Turn (fun k => k = b) w' (w'.setCell ⟨b, 1, none⟩ (.slice ao (l.length + 1) cap')) := (Turn.refl (fun k => k = b) w').setCell (p := ⟨b, 1, none⟩) _ (fun _ => rfl)
  exact ⟨rfl, ⟨_, _, Or.inr rfl, block_setCell hb2 1 _, by rw [List.length_append]; exact ownsRow_turn own2 t4 (fun g hg e => hne' (by rw [hg, e])), hne'⟩, t3.trans2 t4 (fun i hi e => Or.inl e)⟩
end Go.Proofs.YtbkpbcmjgbdbkaaGreatDoor

/-! T0 -/
namespace Go.Proofs.YtbkpbcmjgbdbkaaGreatDoor
open Go
set_option linter.unusedVariables false

section
variable {P : Program} {ops : Array Oper} {md : Region.Mode} {C : World → Prop}

/-- Each operation ahead of n that is not listed in s is waited for by a later one, up to n. -/
def sink1 (md : Region.Mode) (ops : Array Oper) (n : Nat) (s : Array Bool) : Bool :=
  (List.range n).all fun i => s.getD i false || (List.range (n + 1)).any fun j => decide (i < j) && Region.waitsFor md ops j i

theorem tail_later {n : Nat} {s listed : Array Bool} (hs : sink1 md ops n s = true) (hc : Region.chainB md ops n = true) (hn : n < ops.size) (inv : HeadInv md ops n listed) (hsub : ∀ j, s.getD j false = true → listed.getD j false = true) :
    ∀ (d i : Nat), n - i ≤ d → i < n → listed.getD i false = false → ∀ t, n ≤ t → t ∉ Region.ready md ops listed := by
  intro d
  induction d with
  | zero => intro i h1 h2; omega
  | succ d ih =>
    intro i hd hi hun t ht hr
    obtain ⟨_, ot, hot, hall⟩ := mem_ready.1 hr
    have htlt : t < ops.size := (Array.getElem?_eq_some_iff.1 hot).1
    have waits : ∀ x, Region.waitsFor md ops t x = true → listed.getD x false = true := fun x hx => by
      obtain ⟨o', ho', e, he, hb, hon⟩ := Region.waitsFor_spec hx
      cases ho'.symm.trans hot
      rw [← hon]; exact hall e he hb
    rcases Nat.lt_or_ge n t with hlt | hge
    · have h1 := List.all_eq_true.1 hc t (List.mem_range.2 htlt)
      rcases Bool.or_eq_true _ _ ▸ h1 with h2 | h2
      · have := of_decide_eq_true h2; omega
      · have h3 := waits _ h2
        rw [getD_both (inv.tail (t - 1) (by omega) (by omega))] at h3
        cases h3
    · have htn : t = n := by omega
      subst htn
      have h1 := List.all_eq_true.1 hs i (List.mem_range.2 hi)
      rcases Bool.or_eq_true _ _ ▸ h1 with h2 | h2
      · rw [hsub i h2] at hun; cases hun
      · obtain ⟨j, hj, hj2⟩ := List.any_eq_true.1 h2
        rw [Bool.and_eq_true] at hj2
        have hij := of_decide_eq_true hj2.1
        have hjn := List.mem_range.1 hj
        by_cases hjt : j = t
        · subst hjt
          rw [waits i hj2.2] at hun; cases hun
        · obtain ⟨oj, hoj, e, he, hb, hon⟩ := Region.waitsFor_spec hj2.2
          cases hl : listed.getD j false with
          | true =>
            have := inv.closed j oj hoj hl e he hb
            rw [hon, hun] at this; cases this
          | false => exact ih j (by omega) (by omega) hl t (Nat.le_refl _) hr

/-- Whatever order the head is taken in: each step quiet in the class; then L. -/
def HeadQ (P : Program) (md : Region.Mode) (ops : Array Oper) (C : World → Prop) (n : Nat) (L : Array Bool → Act → Prop) : Nat → Array Bool → Act → Prop
  | 0, s, a => L s a
  | f + 1, s, a => Region.ready md ops s ≠ [] ∧ ∀ i ∈ Region.ready md ops s, i < n ∧ qOp P ops C i (HeadQ P md ops C n L f (s.setIfInBounds i true)) a

theorem any_of_headQ {n g : Nat} {L : Array Bool → Act → Prop} {Q' : Exit → Act → World → Prop} (hL : ∀ s a w, C w → L s a → wpAny P md ops Q' g s a w) :
    ∀ (f : Nat) (s : Array Bool) (a : Act) (w : World), C w → HeadQ P md ops C n L f s a → wpAny P md ops Q' (f + g) s a w := by
  intro f
  induction f with
  | zero => intro s a w hw h; rw [Nat.zero_add]; exact hL _ _ _ hw h
  | succ f ih =>
    intro s a w hw h
    rw [Nat.add_right_comm]
    exact ⟨fun h0 => absurd h0 h.1, fun i hi => wpOp_of_qOp hw (fun a' w' hw' h' => ih _ a' w' hw' h') (h.2 i hi).2⟩

theorem headQ_first {n i : Nat} {oi : Oper} {v : Value} {L : Array Bool → Act → Prop} {s : Array Bool} (hi : ops[i]? = some oi) (hsel : ∀ (j : Nat) (o : Oper) cs b, ops[j]? = some o → o.op ≠ .select cs b)
    (hs : sink1 md ops n s = true) (hc : Region.chainB md ops n = true) (hn : n < ops.size) (hin : i < n)
    (hdone : ∀ l a, L l a → ∀ j ∈ Region.ready md ops l, n ≤ j) :
    ∀ (f : Nat) (l : Array Bool) (a : Act), HeadInv md ops n l → (∀ j, s.getD j false = true → l.getD j false = true) →
      (∀ j oj, ops[j]? = some oj → j ≠ i → l.getD j true = false → (∀ e ∈ oj.after, Region.binds md e = true → e.on ≠ i) → oi.apart ops oj = true) →
      i ∈ Region.ready md ops l → YieldsIn P ops C oi v a →
      HeadQ P md ops C n L f (l.setIfInBounds i true) (a.put oi.dst v) → HeadQ P md ops C n L (f + 1) l a := by
  intro f
  induction f with
  | zero =>
    intro l a inv hsub _ hr hy H
    have hun := (mem_ready.1 hr).1
    refine ⟨fun h => (by rw [h] at hr; cases hr), fun j hj => ?_⟩
    have hjn : j < n := Nat.lt_of_not_le fun h => tail_later hs hc hn inv hsub _ i (Nat.le_refl _) hin (getD_both hun) j h hj
    refine ⟨hjn, ?_⟩
    by_cases hji : j = i
    · subst hji; exact hy.qOp hi H
    · exact absurd (hdone _ _ H j (ready_mono hj hji)) (by omega)
  | succ f ih =>
    intro l a inv hsub hfree hr hy H
    have hun := (mem_ready.1 hr).1
    refine ⟨fun h => (by rw [h] at hr; cases hr), fun j hj => ?_⟩
    have hjn : j < n := Nat.lt_of_not_le fun h => tail_later hs hc hn inv hsub _ i (Nat.le_refl _) hin (getD_both hun) j h hj
    refine ⟨hjn, ?_⟩
    by_cases hji : j = i
    · subst hji; exact hy.qOp hi H
    · obtain ⟨hjun, oj, hoj, hall⟩ := mem_ready.1 hj
      have hnot : ∀ e ∈ oj.after, Region.binds md e = true → e.on ≠ i := fun e he hb heq => by
        have := hall e he hb
        rw [heq, getD_both hun] at this; cases this
      have h2 := qOp_put hoj (hfree j oj hoj hji hjun hnot) (fun cs b => hsel i oi cs b hi) (fun cs b => hsel j oj cs b hoj) hy (H.2 j (ready_mono hj hji)).2
      refine qOp_mono (fun a' h3 => ih (l.setIfInBounds j true) a' (inv.set hj hjn) (fun k hk => getD_set_true (hsub k hk)) (fun k ok hk hki hk2 hno => ?_) (ready_mono hr (Ne.symm hji)) h3.1 ?_) h2
      · refine hfree k ok hk hki ?_ hno
        by_cases hjk : j = k
        · subst hjk; exact hjun
        · rwa [getD_set_ne true hjk] at hk2
      · rw [Array.setIfInBounds_comm _ _ hji]
        exact h3.2

theorem headQ_lex {n g : Nat} {Lq : Act → Prop} {s : Array Bool} (hsel : Region.noSelect ops = true) (hs : sink1 md ops n s = true) (hc : Region.chainB md ops n = true) (hn : n < ops.size) :
    ∀ (l : List Oper) (k : Nat) (li : Array Bool) (a : Act), (∀ j, j < l.length → l[j]? = ops[k + j]?) → k + l.length = n → HeadInv md ops n li → (∀ j, s.getD j false = true → li.getD j false = true) →
    Region.lexHead md ops g l.length k li = true → wpQuiet P ops C Lq l a →
    HeadQ P md ops C n (fun li' a' => Region.seqB md ops g n li' = true ∧ Lq a') l.length li a := by
  intro l
  induction l with
  | nil =>
    intro k li a _ hk _ _ hB h
    have : k = n := by simpa using hk
    subst this
    exact ⟨by simpa [Region.lexHead] using hB, h⟩
  | cons o l ih =>
    intro k li a hl hk inv hsub hB h
    have h0 : ops[k]? = some o := by simpa using (hl 0 (by simp)).symm
    simp only [List.length_cons, Region.lexHead, Bool.and_eq_true] at hB
    obtain ⟨⟨hr, hf⟩, hB'⟩ := hB
    simp only [List.length_cons] at hk
    have hkn : k < n := by omega
    have hr' : k ∈ Region.ready md ops li := by simpa using hr
    have hst : qOp P ops C k (wpQuiet P ops C Lq l) a := by unfold qOp; simp only [h0]; exact h
    obtain ⟨v, hy, hK⟩ := yieldsIn_of_qOp h0 hst
    exact headQ_first h0 (Region.noSelect_spec hsel) hs hc hn hkn (fun li' a' hL => seqB_ready hL.1) l.length li a inv hsub (Region.free_spec h0 hf) hr' hy
      (ih (k + 1) _ _ (fun j hj => by have := hl (j + 1) (by simp; omega); simpa [Nat.add_assoc, Nat.add_comm 1 j] using this) (by omega) (inv.set hr' hkn) (fun j hj => getD_set_true (hsub j hj)) hB' hK)

/-- The Bool over the region: one operation ahead (number 0), the head from 1 to n, the tail. -/
def lead1B (md : Region.Mode) (ops : Array Oper) (n : Nat) : Bool :=
  Region.noSelect ops && decide (n < ops.size) && decide (1 ≤ n) && sink1 md ops n ((Array.replicate ops.size false).setIfInBounds 0 true) && Region.chainB md ops n &&
    (Region.ready md ops (Array.replicate ops.size false)).contains 0 && Region.free md ops (Array.replicate ops.size false) 0 &&
    Region.lexHead md ops (ops.size - n) (n - 1) 1 ((Array.replicate ops.size false).setIfInBounds 0 true)

/-- THE THEOREM: operation 0 yields v0 in every world; the head is quiet in the class; the tail is walked from every world of the class. -/
theorem region_lead_tail {id : Nat} {Q : Exit → Act → World → Prop} {a : Act} {w : World} {l : List Oper} (n : Nat) (hm : P.follows .mixedOrders = true) (hB : lead1B .any l.toArray n = true) (hC : C { w with drawn := w.drawn + 1 })
    (o0 : Oper) (h0 : l[0]? = some o0) (v0 : Value) (hy : Yields P l.toArray o0 v0 a) (hQ : ∀ c a w, Q (.panic c) (a.put o0.dst v0) w → Q (.panic c) a w)
    (h : wpQuiet P l.toArray C (fun a' => ∀ w', C w' → wpList P l.toArray Q (l.drop n) a' w') ((l.drop 1).take (n - 1)) (a.put o0.dst v0)) : (Code.region id l.toArray true).wp P Q a w := by
  simp only [lead1B, Bool.and_eq_true, decide_eq_true_eq] at hB
  obtain ⟨⟨⟨⟨⟨⟨⟨hsel, hn⟩, hn1⟩, hs⟩, hc⟩, hr⟩, hf⟩, hlex⟩ := hB
  have hn' : n < l.length := by simpa using hn
  have hml : ((l.drop 1).take (n - 1)).length = n - 1 := by simp; omega
  have hdl : (l.drop n).length = l.toArray.size - n := by simp
  have h0' : l.toArray[0]? = some o0 := by simpa using h0
  have hr' : 0 ∈ Region.ready .any l.toArray (Array.replicate l.toArray.size false) := by simpa using hr
  have inv0 : HeadInv .any l.toArray n (Array.replicate l.toArray.size false) :=
    ⟨by simp, fun j oj _ hl => (by rw [getD_replicate_false] at hl; cases hl), fun t _ ht => getD_in (by simpa using ht) (getD_replicate_false _ _)⟩
  have inv1 := inv0.set hr' (by omega)
  refine wp_region_any hm ?_
  have hsz : l.toArray.size = (n - 1 + (l.toArray.size - n)) + 1 := by simp at hn ⊢; omega
  rw [hsz]
  refine wpAny_first h0' (Region.noSelect_spec hsel) hQ _ _ _ _ (by rw [← hsz]; exact Region.free_spec h0' hf) (by rw [← hsz]; exact hr') hy ?_
  rw [← hsz]
  have H := headQ_lex (md := .any) (g := l.toArray.size - n) hsel hs hc hn ((l.drop 1).take (n - 1)) 1 _ (a.put o0.dst v0) (fun j hj => by
    rw [hml] at hj
    simp only [List.getElem?_take, hj, if_true, List.getElem?_drop, List.getElem?_toArray]) (by rw [hml]; omega) inv1 (fun j hj => hj) (by rw [hml]; exact hlex) h
  rw [hml] at H
  exact any_of_headQ (fun li' a' w' hw' hL => by
    have := wpAny_of_seq (md := .any) (Q' := Q) (l.drop n) n li' a' w' (fun j => by simp [List.getElem?_drop]) (by rw [hdl]; exact hL.1) (hL.2 w' hw')
    rwa [hdl] at this) _ _ _ _ hC H
end
end Go.Proofs.YtbkpbcmjgbdbkaaGreatDoor

/-! B2 -/
namespace Go.Proofs.YtbkpbcmjgbdbkaaGreatDoor
open Go.RowKit Go.Lib
set_option linter.unusedVariables false
set_option linter.unusedSimpArgs false
set_option maxRecDepth 100000

theorem below_of_turn {w w' : World} (t : Turn (fun _ => False) w w') : Below w.heap.size w w' := t.below (Nat.le_refl _) (fun _ _ h => h)
theorem turn_of_below0 {w w' : World} (h : Below w.heap.size w w') : Turn (fun _ => False) w w' := ⟨h.os, h.tape, h.output, h.size, fun k hk _ => h.block k hk⟩
/-- w with whatever count of draws, and blocks laid behind it. -/
def Regr (w w' : World) : Prop := ∃ p : Regrown, w' = Sort.grow (redrawn w p.d) p.os
theorem regr_turn {w w' : World} (h : Regr w w') : Turn (fun _ => False) w w' := by
  obtain ⟨p, rfl⟩ := h
  exact turn_of_below0 (below_regrown w p.d p.os)
theorem regr_start (w : World) : Regr w { w with drawn := w.drawn + 1 } := ⟨⟨w.drawn + 1, #[]⟩, by rw [Sort.grow_empty]; rfl⟩
theorem BufIs.turn {w w' : World} {B b : Nat} {l : List UInt8} {F : Nat → Prop} (h : BufIs w B b l) (t : Turn F w w') (hF : ∀ k, B ≤ k → ¬ F k) (hB : B ≤ b) : BufIs w' B b l := by
  obtain ⟨p, v, hp, hb, hown, hne⟩ := h
  exact ⟨p, v, hp, (t.block b (block_lt hb) (hF b hB)).trans hb, ownsRow_turn hown t (fun g hg => hF g (own1_low hown hg)), hne⟩
theorem quiet_val {f : FuncId} {args : Array Value} {w : World} {v : Value} (h : ∀ W, Turn (fun _ => False) w W → Calls Tryz.prog f args W fun e w' => e = .returned v ∧ Turn (fun _ => False) W w') (d : Nat) (os : Array Obj) :
    Calls Tryz.prog f args (Sort.grow (redrawn w d) os) fun e w'' => e = .returned v ∧ ∃ p : Regrown, w'' = Sort.grow (redrawn w p.d) p.os :=
  Calls.regrown_of ((h _ (turn_of_below0 (below_regrown w d os))).mono fun e w' ⟨h1, h2⟩ => ⟨h1, below_of_turn h2⟩)
set_option maxHeartbeats 1000000 in
theorem wline_any (B b : Nat) (l : List UInt8) (ps : List (List UInt8)) (base : Nat) (v : Value) (n : Nat) (w : World) (h : BufIs w B b l) (hB : B ≤ b) (hv : w.ownsRow base 9 1 v n (strCells ps)) (hn : ps.length = n) (h0 : 0 < n)
    (hlen : l.length + (joinL 32 ps).length + 1 ≤ 100000000) (hps : n ≤ 1000000) :
    Calls Tryz.prog 32 #[.pointer (some ⟨b, 0, none⟩), v] w fun e w' => e = .returned (.tuple #[]) ∧ BufIs w' B b (l ++ joinL 32 ps ++ [10]) ∧ Turn (BufT w B b) w w' := by
  have hj := quiet_val (w := w) (f := 66) (args := #[v, .string ⟨#[32]⟩]) (v := .string ⟨(joinL 32 ps).toArray⟩) (fun W t => (pjoin 32 (ownsRow_turn hv t (fun _ _ h => h)) hn h0 (by omega) hps).mono fun e w' ⟨h1, h2⟩ => ⟨h1, h2⟩)
  have hmix : Tryz.prog.follows .mixedOrders = true := by kernel_rfl
  have H := Lib.hid (And.intro h hlen)
  obtain ⟨g, cap, rfl, _, hg⟩ := World.ownsRow.form hv h0
  clear h hv hlen
  go_enter Tryz.func32, Tryz.ntmps32
  go_wp2_with fail
  refine region_lead_tail (C := fun w' => ∃ p : Regrown, w' = Sort.grow (redrawn w p.d) p.os) 5 hmix (by kernel_rfl) (regr_start w) _ rfl _ (.inl ⟨rfl, fun w => rfl⟩) (fun _ _ _ h => h) ?_
  simp only [List.take_succ_cons, List.take_zero, List.drop_succ_cons, List.drop_zero]
  repeat (quiet_step (first | exact hj _ _))
  refine wpQuiet_nil ?_
  intro _ hw'
  obtain ⟨⟨dq, osq⟩, hw''⟩ := hw'
  subst hw''
  have t4 : Turn (fun _ => False) w (Sort.grow (redrawn w dq) osq) := turn_of_below0 (below_regrown w dq osq)
  generalize Sort.grow (redrawn w dq) osq = w2 at *
  obtain ⟨hbuf, hlen⟩ := H.out
  have b2 := hbuf.turn t4 (fun _ _ h => h) hB
  clear hj H hbuf
  go_wp2_with fail
  refine (wstr_any B b l (joinL 32 ps) _ b2 hB (by omega)).mono ?_
  rintro e w3 ⟨rfl, b3, t5⟩
  go_wp2_with fail
  refine (wbyte_any B b _ 10 _ b3 hB (by rw [List.length_append]; omega)).mono ?_
  rintro e w4 ⟨rfl, b4, t6⟩
  have t7 : Turn (BufT w B b) w w4 := BufT.trans (BufT.trans (t4.mono (fun _ _ h => h.elim)) t5) t6
  clear t4 t5 t6 b2 b3
  go_wp2_with fail
  go_end0
  exact ⟨rfl, b4, t7⟩
end Go.Proofs.YtbkpbcmjgbdbkaaGreatDoor

/-! U0 -/
namespace Go.Proofs.YtbkpbcmjgbdbkaaGreatDoor
open Go.RowKit Go.Lib
set_option linter.unusedVariables false
set_option linter.unusedSimpArgs false
set_option maxRecDepth 100000
set_option pp.maxSteps 3000

set_option maxHeartbeats 2000000 in
theorem wtext_any (B b : Nat) (l : List UInt8) (w : World) (h : BufIs w B b l) (h0 : l ≠ []) :
    Calls Tryz.prog 39 #[.pointer (some ⟨b, 0, none⟩)] w fun e w' => e = .returned (.string ⟨l.toArray⟩) ∧ Turn (fun k => B ≤ k) w w' := by
  obtain ⟨p, v, hp, hb, hown, hne⟩ := h
  have hl0 : l.length ≠ 0 := by simpa using h0
  obtain ⟨g, cap, cur, rfl, hbg, hg, hnc, hcm, hcs, htake⟩ : ∃ g cap cur, v = .slice (some ⟨g, 0, none⟩) l.length cap ∧ B ≤ g ∧ w.heap[g]? = some (.cells cur 5 (0, 0)) ∧ l.length ≤ cap ∧ cap ≤ maxLen ∧ cur.size = cap * 1 ∧ cur.toList.take (l.length * 1) = byteVals l := by
    rcases hown.2 with ⟨_, hz⟩ | ⟨g, cap, cur, hv, r⟩
    · exact absurd hz hl0
    · exact ⟨g, cap, cur, hv, r⟩
  have c1 : w.drew.cell? ⟨b, 1, none⟩ = some (.slice (some ⟨g, 0, none⟩) l.length cap) := cell_of_block (w := w.drew) hb 1
  have hSD : (Builtin.unsafeSliceData_ #[49] 141 #[.slice (some ⟨g, 0, none⟩) l.length cap]).run Tryz.prog w.drew = .ok (.pointer (some ⟨g, 0, none⟩)) w.drew :=
    Lib.run_unsafeSliceData_row _ _ _ _ _ _ (by omega)
  have hUS : (Builtin.unsafeString_ #[141, 3] 9 #[.pointer (some ⟨g, 0, none⟩), .int .i64 l.length]).run Tryz.prog w.drew = .ok (.string ⟨l.toArray⟩) (w.drew.freeze ⟨g, 0, none⟩ l.length) := by
    refine Lib.run_unsafeString_row w.drew 141 3 9 5 Tryz.lays169.t127 Tryz.Builder_Extra_169.cellsByte g cur.size (by have hg' : w.drew.heap[g]? = some (.cells cur 5 (0, 0)) := hg; simp [World.shape?, hg']) l h0 (by omega) (by unfold maxLen at hcm; omega) ?_
    intro j x hx
    exact hown.cells (g := g) rfl j (.int .u8 x.toNat) (by simp [byteVals, hx])
  clear hown htake
  go_enter Tryz.func39, Tryz.ntmps39
  go_wp2_with fail
  go_region
  all_goals
    go_wp2_with fail
    go_ret
    have hbl := Lib.below_freeze (Below.drew (Below.refl B w)) (p := ⟨g, 0, none⟩) hbg l.length
    exact ⟨rfl, ⟨hbl.os, hbl.tape, hbl.output, hbl.size, fun k hk hF => hbl.block k (by omega)⟩⟩
end Go.Proofs.YtbkpbcmjgbdbkaaGreatDoor

/-! F0 -/
namespace Go.Proofs.YtbkpbcmjgbdbkaaGreatDoor
open Go.RowKit Go.Lib
set_option linter.unusedVariables false
set_option linter.unusedSimpArgs false

theorem turn_grow (w : World) (k : Nat) (os : Array Obj) : Turn (fun _ => False) w (Sort.grow (w.drewN k) os) :=
  ((Turn.refl _ w).drewN k).trans ⟨rfl, rfl, rfl, by simp [Sort.grow], fun i hi _ => Sort.heap_grow_old _ _ hi⟩
theorem itoa_any (n : Nat) (hn : n ≤ 9223372036854775807) (w : World) (h : Env w) : Calls Tryz.prog 38 #[.int .i64 (n : Int)] w (TextPost (decL n) w) :=
  (Tryz.strconv_Itoa (n : Int) (by omega) (by omega) w h.pow10).mono fun e w' ⟨he, k, os, hw⟩ => ⟨by rw [he, itoa_dec], by rw [hw]; exact turn_grow _ _ _⟩
theorem and255 (x : Nat) (h : x < 4294967296) : bits .and .u32 (x : Int) 255 = ((x % 256 : Nat) : Int) := by
  have := u32_and_nat x 255 h (by omega)
  rw [nat_mask8] at this
  exact this
def octs (n : Nat) : List Nat := [n / 16777216, n / 65536 % 256, n / 256 % 256, n % 256]
theorem ipText_octs (n : Nat) : ipText n = joinL 46 ((octs n).map decL) := rfl
theorem decL_len3 (n : Nat) (h : n < 256) : (decL n).length ≤ 3 := by
  by_cases h1 : n < 10
  · rw [decL_one h1]; simp
  · rw [decL_more h1]
    by_cases h2 : n / 10 < 10
    · rw [decL_one h2]; simp
    · rw [decL_more h2, decL_one (show n / 10 / 10 < 10 by omega)]; simp
def octStr (n k : Nat) : List Value := strCells (((octs n).take k).map decL)

set_option maxRecDepth 100000 in
set_option maxHeartbeats 4000000 in
theorem pipText_any (n : Nat) (hn : n < 4294967296) (w : World) (he : Env w) : Calls Tryz.prog 33 #[.int .u32 (n : Int)] w (TextPost (ipText n) w) := by
  obtain ⟨i0, hi, hz0, hz1, hz2⟩ := info_parts info9
  obtain ⟨o0, ho0⟩ : ∃ o, o = n / 16777216 := ⟨_, rfl⟩
  obtain ⟨o1, ho1⟩ : ∃ o, o = n / 65536 % 256 := ⟨_, rfl⟩
  obtain ⟨o2, ho2⟩ : ∃ o, o = n / 256 % 256 := ⟨_, rfl⟩
  obtain ⟨o3, ho3⟩ : ∃ o, o = n % 256 := ⟨_, rfl⟩
  have ha0 : bits .and .u32 ((n : Int) / 16777216) 255 = (o0 : Int) := by rw [show (n : Int) / 16777216 = ((n / 16777216 : Nat) : Int) by omega, and255 _ (by omega)]; omega
  have ha1 : bits .and .u32 ((n : Int) / 65536) 255 = (o1 : Int) := by rw [show (n : Int) / 65536 = ((n / 65536 : Nat) : Int) by omega, and255 _ (by omega)]; omega
  have ha2 : bits .and .u32 ((n : Int) / 256) 255 = (o2 : Int) := by rw [show (n : Int) / 256 = ((n / 256 : Nat) : Int) by omega, and255 _ (by omega)]; omega
  have ha3 : bits .and .u32 (n : Int) 255 = (o3 : Int) := by rw [and255 _ hn]; omega
  have l0 : o0 < 256 := by omega
  have l1 : o1 < 256 := by omega
  have l2 : o2 < 256 := by omega
  have l3 : o3 < 256 := by omega
  have hoc : octs n = [o0, o1, o2, o3] := by unfold octs; rw [ho0, ho1, ho2, ho3]
  have HO := Lib.hid (And.intro hoc he)
  clear ho0 ho1 ho2 ho3 hoc he
  go_enter Tryz.func33, Tryz.ntmps33
  go_wp2_with fail
  go_loopw [3, 5] (fun v i wr => ∃ k : Nat, k ≤ 4 ∧ i = .int .i64 k ∧ wr.ownsRow w.heap.size 9 1 v k (octStr n k) ∧ Turn (fun _ => False) w wr) (fun _ i _ => 4 - (RowKit.intOf i).toNat)
  case atStart => exact ⟨0, by omega, rfl, World.ownsRow_nil _ _ _ _, Turn.refl _ _⟩
  case round =>
    obtain ⟨k, hk, rfl, hown, ht⟩ := hrel
    have henv : Env wr := HO.out.2.turn ht (fun _ _ h => h)
    by_cases hlt : k < 4
    · obtain ⟨o, ho⟩ : ∃ o, (octs n)[k]? = some o := ⟨_, List.getElem?_eq_getElem (by rw [HO.out.1]; exact hlt)⟩
      have hst : octStr n (k + 1) = octStr n k ++ [.string ⟨(decL o).toArray⟩] := by unfold octStr; rw [List.take_add_one, ho, List.map_append]; exact strCells_snoc _ _
      have ho2 := ho
      rw [HO.out.1] at ho2
      have call := fun h => itoa_any o h wr henv
      have E := Lib.hid (And.intro call hst)
      clear call hst ho henv
      rcases (show k = 0 ∨ k = 1 ∨ k = 2 ∨ k = 3 by omega) with rfl | rfl | rfl | rfl
      all_goals
        simp only [List.getElem?_cons_zero, List.getElem?_cons_succ, Option.some.injEq] at ho2
        have ho3 := ho2.symm
        subst ho3
        clear ho2
        go_wp2_with fail
        refine (E.out.1 (by omega)).mono ?_
        rintro e w2 ⟨rfl, t2⟩
        have hown1 := ownsRow_turn hown t2 (fun _ _ h => h)
        have t3 := ht.trans t2
        have o5 := hown1.alloc (.cells #[.string ⟨(decL o).toArray⟩] 9)
        clear hown hown1 t2 ht
        go_wp2_with (at_builtin; refine wpList_append_own_at _ rfl _ _ 54 rfl w.heap.size 9 i0 (.string ⟨#[]⟩) 1 16 Tryz.underlying54 hi hz0 hz1 hz2 rfl (by decide) u3 _ _ rfl o5 ⟨w2.heap.size, 0, none⟩ 1 1 [.string ⟨(decL o).toArray⟩] rfl rfl (cell_one_new _ _ _) (by intro u hu; simp at hu; rw [hu]; rfl) (by unfold maxLen; omega) (by omega) (by have := t3.size; simp; omega) ?_)
        intro v' w' hown' hgrow _ _
        have t4 : Turn (fun _ => False) w w' := (t3.alloc _).trans2 (turn_of_grown hgrow) (fun i hi e => by have := (o5.lt i e).1; omega)
        rw [← E.out.2] at hown'
        clear hgrow o5 t3
        go_wp2_with fail
        go_roundw
        case rel =>
          refine ⟨_, ?_, ?_, hown', t4⟩
          · omega
          · rfl
        case measure => simp [RowKit.intOf]
    · obtain rfl : k = 4 := by omega
      have hown2 : wr.ownsRow w.heap.size 9 1 u3 4 (strCells ((octs n).map decL)) := by unfold octStr at hown; rw [List.take_of_length_le (by rw [HO.out.1]; simp)] at hown; exact hown
      have hle : (joinL 46 ((octs n).map decL)).length ≤ 15 := by
        rw [HO.out.1]
        have := decL_len3 o0 l0; have := decL_len3 o1 l1; have := decL_len3 o2 l2; have := decL_len3 o3 l3
        simp only [List.map_cons, List.map_nil, joinL, List.length_append, List.length_cons]
        omega
      have call := pjoin 46 hown2 (by rw [List.length_map, HO.out.1]; rfl) (by omega) (by omega) (by omega)
      rw [← ipText_octs] at call
      have E := Lib.hid call
      clear call hown hown2 hle
      go_wp2_with fail
      refine E.out.mono ?_
      rintro e w2 ⟨rfl, t2⟩
      go_wp2_with fail
      go_ret
      exact ⟨rfl, ht.trans t2⟩
end Go.Proofs.YtbkpbcmjgbdbkaaGreatDoor

/-! H0 -/
namespace Go.Proofs.YtbkpbcmjgbdbkaaGreatDoor
open Go.RowKit
set_option linter.unusedVariables false
set_option linter.unusedSimpArgs false

/-- The call ended in the panic by which reading fails, with its place. -/
def Fails (pl : Nat) (F : Nat → Prop) (w : World) (e : Ending) (w' : World) : Prop :=
  ∃ p, e = .panicked [{ v := .iface 60 (.agg #[.pointer (some ⟨p, 0, none⟩)]), recovered := false }] ∧ w'.heap[p]? = some (.cells #[.int .i64 (pl : Int), .int .i64 60] 67 (0, 0)) ∧ w.heap.size ≤ p ∧ Turn F w w'

/-- A region that reads, then writes in one forced order: over a world with a name. -/
theorem region_tail {P : Program} {id : Nat} {Q : Exit → Act → World → Prop} {a : Act} {w : World} {l : List Oper} (n : Nat) (hm : P.follows .mixedOrders = true) (hB : Region.lexTailB .any l.toArray n = true) (W : World) (hW : W = w.drew)
    (h : wpStill P l.toArray W (fun a' => wpList P l.toArray Q (l.drop n) a' W) (l.take n) a) : (Code.region id l.toArray true).wp P Q a w := by
  subst hW
  exact wp_region_still_tail n hm hB h
theorem fail_any (n : Nat) (w : World) : Calls Tryz.prog 47 #[.int .i64 (n : Int)] w (Fails n (fun _ => False) w) := by
  go_enter Tryz.func47, Tryz.ntmps47
  go_wp2_with fail
  exact ⟨rfl, _, rfl, block_alloc_new _ _, Nat.le_refl _, (Turn.refl _ _).alloc _⟩
theorem cell_turn0 {F : Nat → Prop} {w w' : World} (t : Turn F w w') {k i : Nat} (h : k < w.heap.size) (hF : ¬ F k) : w'.cell? ⟨k, i, none⟩ = w.cell? ⟨k, i, none⟩ := World.cell?_of_block (t.block k h hF)
abbrev Wd := ByteArray × Nat
/-- A line: its words with their places, where it ends, how many were taken. -/
structure LineIs (w : World) (b g cap : Nat) (L : List Wd) (en n : Nat) : Prop where
  ex : w.heap[b]? = some (.cells #[.slice (some ⟨g, 0, none⟩) L.length cap, .int .i64 (en : Int), .int .i64 (n : Int)] 145 (0, 0)) ∧ b ≠ g ∧ g < w.heap.size ∧
    (∀ (i : Nat) (x : Wd), L[i]? = some x → w.cell? ⟨g, i * 2, none⟩ = some (.string x.1) ∧ w.cell? ⟨g, i * 2 + 1, none⟩ = some (.int .i64 (x.2 : Int)))
  len : L.length ≤ 1000000
  le : n ≤ L.length
  size : ∀ (i : Nat) (x : Wd), L[i]? = some x → x.1.size ≤ 1000000
  low : 7 ≤ b
theorem next_no (b g cap : Nat) (L : List Wd) (en : Nat) (w : World) (h : LineIs w b g cap L en L.length) : Calls Tryz.prog 51 #[.pointer (some ⟨b, 0, none⟩)] w (Fails en (fun _ => False) w) := by
  obtain ⟨h1, h2, h3, h4⟩ := h.ex
  have hb := block_lt h1
  have c0 : w.cell? ⟨b, 0, none⟩ = some (.slice (some ⟨g, 0, none⟩) L.length cap) := cell_of_block h1 0
  have c1 : w.cell? ⟨b, 1, none⟩ = some (.int .i64 (en : Int)) := cell_of_block h1 1
  have c2 : w.cell? ⟨b, 2, none⟩ = some (.int .i64 (L.length : Int)) := cell_of_block h1 2
  have W0 : Turn (fun _ => False) w (w.alloc (.cells #[.string ⟨#[]⟩, .int .i64 0] 108)) := (Turn.refl _ _).alloc _
  have c0 : (w.alloc (.cells #[.string ⟨#[]⟩, .int .i64 0] 108)).cell? ⟨b, 0, none⟩ = some (.slice (some ⟨g, 0, none⟩) L.length cap) := (cell_of_block (block_alloc_old h1) 0)
  have c1 : (w.alloc (.cells #[.string ⟨#[]⟩, .int .i64 0] 108)).cell? ⟨b, 1, none⟩ = some (.int .i64 (en : Int)) := (cell_of_block (block_alloc_old h1) 1)
  have c2 : (w.alloc (.cells #[.string ⟨#[]⟩, .int .i64 0] 108)).cell? ⟨b, 2, none⟩ = some (.int .i64 (L.length : Int)) := (cell_of_block (block_alloc_old h1) 2)
  go_enter Tryz.func51, Tryz.ntmps51
  go_wp2_with fail
  go_quiet (fail)
  go_wp2_with (go_at_call 47; refine (fail_any en _).mono ?_; rintro e w1 ⟨p, rfl, q1, q2, q3⟩)
  exact ⟨rfl, p, rfl, q1, Nat.le_trans (Nat.le_trans (by simp) (W0.drewN nq).size) q2, (W0.drewN nq).trans q3⟩
theorem next_world {w : World} {b g : Nat} {A B C v : Value} {o : Obj} {m : Nat} (h : w.heap[b]? = some (.cells #[A, B, C] 145 (0, 0))) (hbg : b ≠ g) (hg : g < w.heap.size) :
    ((((w.alloc o).drewN m).setCell ⟨b, 2, none⟩ v).drew).heap[b]? = some (.cells #[A, B, v] 145 (0, 0)) ∧ (∀ i, ((((w.alloc o).drewN m).setCell ⟨b, 2, none⟩ v).drew).cell? ⟨g, i, none⟩ = w.cell? ⟨g, i, none⟩) ∧
    ((((w.alloc o).drewN m).setCell ⟨b, 2, none⟩ v).drew).heap[w.heap.size]? = some o ∧ Turn (fun k => k = b) w ((((w.alloc o).drewN m).setCell ⟨b, 2, none⟩ v).drew) := by
  have t : Turn (fun k => k = b) w ((((w.alloc o).drewN m).setCell ⟨b, 2, none⟩ v).drew) := ((((Turn.refl (fun k => k = b) w).alloc o).drewN m).setCell (p := ⟨b, 2, none⟩) v (fun _ => rfl)).drew
  have h0 := block_lt h
  refine ⟨?_, fun i => World.cell?_of_block (t.block g hg (fun e => hbg e.symm)), ?_, t⟩
  · have : ((w.alloc o).drewN m).heap[b]? = some (.cells #[A, B, C] 145 (0, 0)) := (block_drewN _ _ _).trans (block_alloc_old h)
    exact block_setCell this 2 v
  · have : ((w.alloc o).drewN m).heap[w.heap.size]? = some o := (block_drewN _ _ _).trans (block_alloc_new _ _)
    show (((w.alloc o).drewN m).setCell ⟨b, 2, none⟩ v).heap[w.heap.size]? = _
    rw [Below.heap_setCell _ _ _ _ (show w.heap.size ≠ b by omega)]
    exact this
set_option maxRecDepth 100000 in
set_option maxHeartbeats 2000000 in
theorem next_ok (b g cap : Nat) (L : List Wd) (en n : Nat) (w : World) (h : LineIs w b g cap L en n) (s : ByteArray) (a : Nat) (hx : L[n]? = some (s, a)) :
    Calls Tryz.prog 51 #[.pointer (some ⟨b, 0, none⟩)] w fun e w' => e = .returned (.agg #[.string s, .int .i64 (a : Int)]) ∧ LineIs w' b g cap L en (n + 1) ∧ Turn (fun k => k = b) w w' := by
  obtain ⟨h1, h2, h3, h4⟩ := h.ex
  have hb := block_lt h1
  have hn : n < L.length := (List.getElem?_eq_some_iff.1 hx).1
  have hL := h.len
  have hSZ := Lib.hid (And.intro h.size h.low)
  have hbn : ¬ b = w.heap.size := by omega
  have hgn : ¬ g = w.heap.size := by omega
  obtain ⟨x1, x2⟩ := h4 n _ hx
  have c0 : (w.alloc (.cells #[.string ⟨#[]⟩, .int .i64 0] 108)).cell? ⟨b, 0, none⟩ = some (.slice (some ⟨g, 0, none⟩) L.length cap) := (cell_of_block (block_alloc_old h1) 0)
  have c2 : (w.alloc (.cells #[.string ⟨#[]⟩, .int .i64 0] 108)).cell? ⟨b, 2, none⟩ = some (.int .i64 (n : Int)) := (cell_of_block (block_alloc_old h1) 2)
  have ne : ((n : Int) == (L.length : Int)) = false := by rw [beq_eq_false_iff_ne]; omega
  have f2 : ∀ m, ((w.alloc (.cells #[.string ⟨#[]⟩, .int .i64 0] 108)).drewN m).frozen? ⟨b, 2, none⟩ = false := fun m => free_of_block ((block_drewN _ _ _).trans (block_alloc_old h1)) 2
  go_enter Tryz.func51, Tryz.ntmps51
  go_wp2_with fail
  go_quiet (fail)
  go_wp2_with fail
  obtain ⟨k1, k2, k3, k4⟩ := next_world (o := .cells #[.string ⟨#[]⟩, .int .i64 0] 108) (m := nq) (v := .int .i64 ((n : Int) + 1)) h1 h2 h3
  clear c0 c2 f2
  refine region_tail 11 (by kernel_rfl) (by kernel_rfl) _ rfl ?_
  generalize World.drew _ = W at *
  have c0 : W.cell? ⟨b, 0, none⟩ = some (.slice (some ⟨g, 0, none⟩) L.length cap) := cell_of_block k1 0
  have c2 : W.cell? ⟨b, 2, none⟩ = some (.int .i64 ((n : Int) + 1)) := cell_of_block k1 2
  have y1 : W.cell? ⟨g, n * 2, none⟩ = some (.string s) := (k2 _).trans x1
  have y2 : W.cell? ⟨g, n * 2 + 1, none⟩ = some (.int .i64 (a : Int)) := (k2 _).trans x2
  have r1 : W.frozen? ⟨w.heap.size, 0, none⟩ = false := free_of_block k3 0
  have r2 : W.frozen? ⟨w.heap.size, 1, none⟩ = false := free_of_block k3 1
  have r3 : W.cell? ⟨w.heap.size, 0, none⟩ = some (.string ⟨#[]⟩) := cell_of_block k3 0
  have r4 : W.cell? ⟨w.heap.size, 1, none⟩ = some (.int .i64 0) := cell_of_block k3 1
  have hwr : IntKind.i64.wrap (n : Int) = n := by rw [IntKind.wrap_i64]; omega
  have i1 : (0 : Int) ≤ (n : Int) := by omega
  have i2 : (n : Int) < (L.length : Int) := by omega
  have fin := And.intro k1 (And.intro k2 (And.intro k3 k4))
  have H4 := Lib.hid (And.intro h4 fin)
  clear h4 k2 k1 k3 k4 fin x1 x2 h hx
  simp only [List.take_succ_cons, List.take_zero, List.drop_succ_cons, List.drop_zero]
  repeat still_step
  try refine wpStill_nil ?_
  go_wp2_with fail
  obtain ⟨h4, k1, k2, k3, k4⟩ := H4.out
  have t3 : Turn (fun k => k = w.heap.size) W ((W.setCell ⟨w.heap.size, 0, none⟩ (.string s)).setCell ⟨w.heap.size, 1, none⟩ (.int .i64 (a : Int))) := ((Turn.refl (fun k => k = w.heap.size) W).setCell (p := ⟨w.heap.size, 0, none⟩) _ (fun _ => rfl)).setCell (p := ⟨w.heap.size, 1, none⟩) _ (fun _ => rfl)
  have z1 := block_setCell (block_setCell k3 0 (.string s)) 1 (.int .i64 (a : Int))
  generalize (W.setCell ⟨w.heap.size, 0, none⟩ (.string s)).setCell ⟨w.heap.size, 1, none⟩ (.int .i64 (a : Int)) = W2 at *
  have e0 : W2.cell? ⟨w.heap.size, 0, none⟩ = some (.string s) := cell_of_block z1 0
  have e1 : W2.cell? ⟨w.heap.size, 1, none⟩ = some (.int .i64 (a : Int)) := cell_of_block z1 1
  have hgW : g < W.heap.size := Nat.lt_of_lt_of_le h3 k4.size
  have hl : LineIs W2 b g cap L en (n + 1) := ⟨⟨(t3.block b (block_lt k1) hbn).trans k1, h2, Nat.lt_of_lt_of_le hgW t3.size, fun i x hi => by
    rw [cell_turn0 t3 hgW hgn, cell_turn0 t3 hgW hgn, k2, k2]; exact h4 i x hi⟩, hL, hn, hSZ.out.1, hSZ.out.2⟩
  have t2 : Turn (fun k => k = b) w W2 := k4.trans2 t3 (fun i hi e => absurd hi (by omega))
  have HF := Lib.hid (And.intro hl t2)
  clear hl t2 t3 z1 k1 k2 k3 k4 h4 H4
  exact bodyPost_ret (v := .agg #[.string s, .int .i64 (a : Int)]) (by simp [results, Tryz.results51, go_sem, e0, e1]) rfl ⟨rfl, HF.out.1, HF.out.2⟩
end Go.Proofs.YtbkpbcmjgbdbkaaGreatDoor

/-! F1 -/
namespace Go.Proofs.YtbkpbcmjgbdbkaaGreatDoor
open Go.RowKit Go.Lib
set_option linter.unusedVariables false
set_option linter.unusedSimpArgs false

set_option maxRecDepth 100000 in
set_option maxHeartbeats 4000000 in
theorem ripText_any (n : Nat) (hn : n < 4294967296) (w : World) : Calls Tryz.prog 40 #[.int .u32 (n : Int)] w fun e w' => e = .returned (.string ⟨(ipText n).toArray⟩) ∧ w = w' := by
  obtain ⟨o0, ho0⟩ : ∃ o, o = n / 16777216 := ⟨_, rfl⟩
  obtain ⟨o1, ho1⟩ : ∃ o, o = n / 65536 % 256 := ⟨_, rfl⟩
  obtain ⟨o2, ho2⟩ : ∃ o, o = n / 256 % 256 := ⟨_, rfl⟩
  obtain ⟨o3, ho3⟩ : ∃ o, o = n % 256 := ⟨_, rfl⟩
  have hb0 : (n : Int) / 16777216 = (o0 : Int) := by omega
  have ha1 : bits .and .u32 ((n : Int) / 65536) 255 = (o1 : Int) := by rw [show (n : Int) / 65536 = ((n / 65536 : Nat) : Int) by omega, and255 _ (by omega)]; omega
  have ha2 : bits .and .u32 ((n : Int) / 256) 255 = (o2 : Int) := by rw [show (n : Int) / 256 = ((n / 256 : Nat) : Int) by omega, and255 _ (by omega)]; omega
  have ha3 : bits .and .u32 (n : Int) 255 = (o3 : Int) := by rw [and255 _ hn]; omega
  have l0 : o0 < 256 := by omega
  have l1 : o1 < 256 := by omega
  have l2 : o2 < 256 := by omega
  have l3 : o3 < 256 := by omega
  obtain ⟨D0, hD0⟩ : ∃ D : ByteArray, D = ⟨(decL o0).toArray⟩ := ⟨_, rfl⟩
  obtain ⟨D1, hD1⟩ : ∃ D : ByteArray, D = ⟨(decL o1).toArray⟩ := ⟨_, rfl⟩
  obtain ⟨D2, hD2⟩ : ∃ D : ByteArray, D = ⟨(decL o2).toArray⟩ := ⟨_, rfl⟩
  obtain ⟨D3, hD3⟩ : ∃ D : ByteArray, D = ⟨(decL o3).toArray⟩ := ⟨_, rfl⟩
  have c0 := dec_any o0 (by omega)
  have c1 := dec_any o1 (by omega)
  have c2 := dec_any o2 (by omega)
  have c3 := dec_any o3 (by omega)
  rw [← hD0] at c0
  rw [← hD1] at c1
  rw [← hD2] at c2
  rw [← hD3] at c3
  have s0 : D0.size ≤ 3 := by rw [hD0]; show (decL o0).toArray.size ≤ 3; rw [List.size_toArray]; exact decL_len3 _ l0
  have s1 : D1.size ≤ 3 := by rw [hD1]; show (decL o1).toArray.size ≤ 3; rw [List.size_toArray]; exact decL_len3 _ l1
  have s2 : D2.size ≤ 3 := by rw [hD2]; show (decL o2).toArray.size ≤ 3; rw [List.size_toArray]; exact decL_len3 _ l2
  have s3 : D3.size ≤ 3 := by rw [hD3]; show (decL o3).toArray.size ≤ 3; rw [List.size_toArray]; exact decL_len3 _ l3
  have hip : ipText n = decL o0 ++ 46 :: (decL o1 ++ 46 :: (decL o2 ++ 46 :: decL o3)) := by rw [ho0, ho1, ho2, ho3]; rfl
  have H := Lib.hid (And.intro c0 (And.intro c1 (And.intro c2 (And.intro c3 (And.intro hip (And.intro hD0 (And.intro hD1 (And.intro hD2 hD3))))))))
  clear c0 c1 c2 c3 hip hD0 hD1 hD2 hD3 ho0 ho1 ho2 ho3
  go_enter Tryz.func40, Tryz.ntmps40
  go_wp2_with fail
  refine (H.out.1 _).mono ?_; rintro e w1 ⟨rfl, rfl⟩
  go_wp2_with fail
  refine (H.out.2.1 _).mono ?_; rintro e w1 ⟨rfl, rfl⟩
  go_wp2_with fail
  all_goals first
    | (exfalso; simp only [ByteArray.size_append] at *; have h1 : (⟨#[46]⟩ : ByteArray).size = 1 := rfl; omega)
    | skip
  refine (H.out.2.2.1 _).mono ?_; rintro e w1 ⟨rfl, rfl⟩
  go_wp2_with fail
  all_goals first
    | (exfalso; simp only [ByteArray.size_append] at *; have h1 : (⟨#[46]⟩ : ByteArray).size = 1 := rfl; omega)
    | skip
  refine (H.out.2.2.2.1 _).mono ?_; rintro e w1 ⟨rfl, rfl⟩
  go_wp2_with fail
  all_goals first
    | (exfalso; simp only [ByteArray.size_append] at *; have h1 : (⟨#[46]⟩ : ByteArray).size = 1 := rfl; omega)
    | skip
  go_ret
  refine ⟨?_, rfl⟩
  rw [H.out.2.2.2.2.1, H.out.2.2.2.2.2.1, H.out.2.2.2.2.2.2.1, H.out.2.2.2.2.2.2.2.1, H.out.2.2.2.2.2.2.2.2]
  have e46 : (⟨#[46]⟩ : ByteArray) = ⟨[46].toArray⟩ := rfl
  rw [e46]
  show Ending.returned (.string _) = _
  simp only [str_append, List.append_assoc, List.cons_append, List.nil_append]
end Go.Proofs.YtbkpbcmjgbdbkaaGreatDoor
