/- The reference's hexes. No condition but the number's bound. -/
import Derived.Test.YtbkpbcmjgbdbkaaDoorD9
import Derived.Deep.RegionHeld3
import Derived.Deep.AppendLies
namespace Go.Proofs.YtbkpbcmjgbdbkaaDoor
open Go.RowKit Go.Lib
set_option linter.unusedVariables false
set_option linter.unusedSimpArgs false

def digs : ByteArray := ⟨#[48, 49, 50, 51, 52, 53, 54, 55, 56, 57, 97, 98, 99, 100, 101, 102]⟩
theorem digs_cut (x : Nat) (h : x < 16) : digs.extract x (x + 1) = ⟨[hexD x].toArray⟩ := by
  rcases x with _ | _ | _ | _ | _ | _ | _ | _ | _ | _ | _ | _ | _ | _ | _ | _ | x
  case succ.succ.succ.succ.succ.succ.succ.succ.succ.succ.succ.succ.succ.succ.succ.succ => omega
  all_goals decide
theorem digs_at (x : Nat) (h : x < 16) : ∀ hx, (({ data := #[48, 49, 50, 51, 52, 53, 54, 55, 56, 57, 97, 98, 99, 100, 101, 102] } : ByteArray)[x]'hx) = hexD x := by
  intro hx
  rcases x with _ | _ | _ | _ | _ | _ | _ | _ | _ | _ | _ | _ | _ | _ | _ | _ | x
  case succ.succ.succ.succ.succ.succ.succ.succ.succ.succ.succ.succ.succ.succ.succ.succ => omega
  all_goals rfl
theorem and15 (b : Nat) (h : b < 256) : bits .and .u8 (b : Int) 15 = ((b % 16 : Nat) : Int) := by
  have := u8_and_nat b 15 h (by omega)
  rw [nat_mask4] at this
  exact this

set_option maxRecDepth 100000 in
set_option maxHeartbeats 2000000 in
theorem hexes_any (b : Nat) (hb : b < 256) (w : World) : Calls Tryd.prog 35 #[.int .u8 (b : Int)] w fun e w' => e = .returned (.string ⟨(hexL b).toArray⟩) ∧ Turn (fun _ => False) w w' := by
  obtain ⟨x, hx⟩ : ∃ x, x = b / 16 := ⟨_, rfl⟩
  obtain ⟨y, hy⟩ : ∃ y, y = b % 16 := ⟨_, rfl⟩
  have hx1 : x < 16 := by omega
  have hy1 : y < 16 := by omega
  have hsh : ((b : Int) / 16) = (x : Int) := by omega
  have han : bits .and .u8 (b : Int) 15 = (y : Int) := by rw [and15 b hb, hy]
  have cx := digs_cut x hx1
  have cy := digs_cut y hy1
  have HH := Lib.hid (And.intro hx (And.intro hy (And.intro cx cy)))
  have x0 : (0 : Int) ≤ (x : Int) := by omega
  have y0 : (0 : Int) ≤ (y : Int) := by omega
  have x16 : (x : Int) + 1 ≤ 16 := by omega
  have y16 : (y : Int) + 1 ≤ 16 := by omega
  clear hx hy cx cy
  go_enter Tryd.func35, Tryd.ntmps35
  go_wp2_with fail
  go_quiet (fail)
  go_wp2_with fail
  go_ret
  refine ⟨?_, (Turn.refl _ _).drewN _⟩
  show Ending.returned (.string (digs.extract x (x + 1) ++ digs.extract y (y + 1))) = _
  rw [HH.out.2.2.1, HH.out.2.2.2]
  unfold hexL
  rw [← HH.out.1, ← HH.out.2.1]
  rfl
def byteVals (l : List UInt8) : List Value := l.map fun (x : UInt8) => Value.int .u8 (x.toNat : Int)
theorem fold_push (l : List UInt8) (s : ByteArray) : (l.map fun (x : UInt8) => (x.toNat : Int)).foldl (fun r n => r.push (UInt8.ofNat n.toNat)) s = ⟨s.data ++ l.toArray⟩ := by
  induction l generalizing s with
  | nil => simp
  | cons c l ih =>
    rw [List.map_cons, List.foldl_cons, ih]
    have : UInt8.ofNat (c.toNat : Int).toNat = c := by rw [Int.toNat_natCast]; exact (byte_of rfl).symm
    rw [this]
    apply ByteArray.ext
    apply Array.ext'
    simp
theorem run_text_of_row {w : World} {base g cap n : Nat} {l : List UInt8} {t e dst : TypeId} (h : w.ownsRow base e 1 (.slice (some ⟨g, 0, none⟩) n cap) n (byteVals l)) (hl : l.length = n)
    (hs : Tryd.prog.underlying t = some (.slice e)) (he : Tryd.prog.underlying e = some (.int .u8)) (hd : Tryd.prog.underlying dst = some .string) :
    (convert t dst (.slice (some ⟨g, 0, none⟩) n cap)).run Tryd.prog w = .ok (.string ⟨l.toArray⟩) w := by
  rw [run_convert_bytes_string w t dst e _ n cap hs he hd]
  have hld : (loadCells ⟨g, 0, none⟩ n).run Tryd.prog w = .ok ((l.map fun (x : UInt8) => (x.toNat : Int)).map (Value.int .u8)).toArray w := by
    have := run_loadCells_list (P := Tryd.prog) w ⟨g, 0, none⟩ (byteVals l) (h.cells (g := g) rfl)
    rw [show (byteVals l).length = n by simp [byteVals, hl]] at this
    rw [this]
    simp [byteVals, Function.comp_def]
  rw [run_bytesToString w _ n cap _ hld, fold_push]
  simp
theorem text_snoc {w : World} {base : Nat} {v : Value} {L : List Nat} {k y p q : Nat} (hp : p = y / 16) (hq : q = y % 16) (hy : L[k]? = some y)
    (h : w.ownsRow base 5 1 v (2 * k + 2) (byteVals (keyText (L.take k)) ++ [.int .u8 ((hexD p).toNat : Int), .int .u8 ((hexD q).toNat : Int)])) :
    w.ownsRow base 5 1 v (2 * (k + 1)) (byteVals (keyText (L.take (k + 1)))) := by
  have e : keyText (L.take (k + 1)) = keyText (L.take k) ++ [hexD p, hexD q] := by
    rw [List.take_add_one, hy, hp, hq]
    simp [keyText, hexL]
  rw [e]
  unfold byteVals at h ⊢
  rw [List.map_append]
  exact h

set_option maxRecDepth 100000 in
set_option maxHeartbeats 2000000 in
theorem digitsText_any (L : List Nat) (hL : ∀ b ∈ L, b < 256) (hn : L.length ≤ 1000) (h0 : 0 < L.length) (b o c : Nat) (T : TypeId) (w : World) (hc : ∀ (i x : Nat), L[i]? = some x → w.cell? ⟨b, o + i, none⟩ = some (.int .u8 (x : Int))) (hb : b < w.heap.size) :
    Calls Tryd.prog 34 #[.slice (some ⟨b, o, none⟩) L.length c] w fun e w' => e = .returned (.string ⟨(keyText L).toArray⟩) ∧ Turn (fun _ => False) w w' := by
  obtain ⟨i0, hi, hz0, hz1, hz2⟩ := info_parts (show (Tryd.prog.info? 5).map (fun i => (i.zero, i.size, i.bytes)) = some (some (.int .u8 0), 1, 1) by kernel_rfl)
  have HC := Lib.hid (And.intro hc hL)
  clear hc hL
  go_enter Tryd.func34, Tryd.ntmps34
  go_wp2_with fail
  go_loopg [3, 8] L.length (fun g v i wr => ∃ k : Nat, g = L.length - k ∧ k ≤ L.length ∧ i = .int .i64 k ∧ wr.ownsRow w.heap.size 5 1 v (2 * k) (byteVals (keyText (L.take k))) ∧ Turn (fun _ => False) w wr)
  case atStart => exact ⟨0, rfl, Nat.zero_le _, rfl, World.ownsRow_nil _ _ _ _, Turn.refl _ _⟩
  case round =>
    obtain ⟨k, rfl, hk, rfl, hown, ht⟩ := hrel
    by_cases hlt : k < L.length
    · obtain ⟨y, hy⟩ : ∃ y, L[k]? = some y := ⟨_, List.getElem?_eq_getElem hlt⟩
      have hy256 := HC.out.2 y (List.mem_of_getElem? hy)
      have hcell : wr.cell? ⟨b, o + k, none⟩ = some (.int .u8 (y : Int)) := (World.cell?_of_block (ht.block b hb (fun h => h))).trans (HC.out.1 k y hy)
      obtain ⟨p, hp⟩ : ∃ p, p = y / 16 := ⟨_, rfl⟩
      obtain ⟨q, hq⟩ : ∃ q, q = y % 16 := ⟨_, rfl⟩
      have hsh : ((y : Int) / 16) = (p : Int) := by omega
      have han : bits .and .u8 (y : Int) 15 = (q : Int) := by rw [and15 y hy256, hq]
      have p0 : (0 : Int) ≤ (p : Int) := by omega
      have q0 : (0 : Int) ≤ (q : Int) := by omega
      have p16 : (p : Int) < 16 := by omega
      have q16 : (q : Int) < 16 := by omega
      have HP := Lib.hid (And.intro hp (And.intro hq hy))
      clear hp hq hy
      have gp := digs_at p (by omega)
      have gq := digs_at q (by omega)
      go_wp2_with fail
      clear hcell
      go_region_law (
        refine step_append_lies _ rfl (.tmp 12) (.tmp 19) 59 (by rfl) w.heap.size 5 i0 (.int .u8 0) 1 1 Tryd.underlying59 hi hz0 hz1 hz2 rfl (by decide) u3 (2 * k) _ (by rfl) (by exact hown.alloc _) _ 2 2 [.int .u8 ((hexD p).toNat : Int), .int .u8 ((hexD q).toNat : Int)] (by rfl) (by rfl) (by exact World.news_of_block (block_alloc_new _ _)) (by intro u hu; simp at hu; rcases hu with rfl | rfl <;> rfl) (by omega) (by unfold maxLen; omega) (by omega) (by have := ht.size; simp; omega) _ rfl ?_
        intro g cap w' hown' hgrow hwhere hlt')
      all_goals
        have t2 : Turn (fun _ => False) w w' := ((ht.alloc _).drew).trans2 (turn_of_grown hgrow) (fun i hi e => by have := (hown.lt i e).1; omega)
        have hown2 := text_snoc HP.out.1 HP.out.2.1 HP.out.2.2 hown'
        clear hgrow hwhere hown' hown ht gp gq han hsh
        go_wp2_with fail
        go_roundg (L.length - (k + 1))
        case measure => omega
        case rel => exact ⟨k + 1, rfl, by omega, by go_num, hown2, t2⟩
    · obtain rfl : k = L.length := by omega
      rw [List.take_length] at hown
      obtain ⟨g, cap, rfl, _, hg⟩ := World.ownsRow.form hown (by omega)
      have hcv := run_text_of_row hown (keyText_len L) Tryd.underlying59 Tryd.underlying5 Tryd.underlying9
      clear hown
      go_wp2_with fail
      go_ret
      exact ⟨rfl, ht⟩
end Go.Proofs.YtbkpbcmjgbdbkaaDoor
