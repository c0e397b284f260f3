/- Contracts of limit.Bucket's and lychref17.Bucket's methods. No condition but the numbers' bounds. -/
import Derived.Test.YtpnobcffglohnaaL0
namespace Go.Proofs.Ytpnobcffglohnaa
open Go.RowKit

/-- A bucket in block b: rate, burst, level. -/
def Bk (T : Nat) (w : World) (b : Nat) (r m l : Int) : Prop := w.heap[b]? = some (.cells #[.int .u32 r, .int .u32 m, .int .u32 l] T (0, 0))

/-- What a method leaves. -/
def Bkd (T : Nat) (w : World) (b : Nat) (v : Value) (r m l : Int) (e : Ending) (w' : World) : Prop :=
  e = .returned v ∧ Bk T w' b r m l ∧ Turn (fun k => k = b) w w'

theorem Bk.set {T : Nat} {w : World} {b : Nat} {r m l : Int} (h : Bk T w b r m l) (l' : Int) : Bk T (w.setCell ⟨b, 2, none⟩ (.int .u32 l')) b r m l' ∧ Turn (fun k => k = b) w (w.setCell ⟨b, 2, none⟩ (.int .u32 l')) :=
  ⟨block_setCell h 2 _, (Turn.refl _ _).setCell _ fun _ => rfl⟩
theorem Bk.set3 {T : Nat} {w : World} {b : Nat} {r m l : Int} (h : Bk T w b r m l) (r' m' l' : Int) :
    Bk T (((w.setCell ⟨b, 0, none⟩ (.int .u32 r')).setCell ⟨b, 1, none⟩ (.int .u32 m')).setCell ⟨b, 2, none⟩ (.int .u32 l')) b r' m' l' ∧
    Turn (fun k => k = b) w (((w.setCell ⟨b, 0, none⟩ (.int .u32 r')).setCell ⟨b, 1, none⟩ (.int .u32 m')).setCell ⟨b, 2, none⟩ (.int .u32 l')) :=
  ⟨block_setCell (block_setCell (block_setCell h 0 _) 1 _) 2 _,
    (((Turn.refl (fun k => k = b) w).setCell (p := ⟨b, 0, none⟩) (.int .u32 r') (fun _ => rfl)).setCell (p := ⟨b, 1, none⟩) (.int .u32 m') (fun _ => rfl)).setCell (p := ⟨b, 2, none⟩) (.int .u32 l') (fun _ => rfl)⟩
theorem Bk.turn {T : Nat} {w w' : World} {b : Nat} {r m l : Int} {F : Nat → Prop} (h : Bk T w b r m l) (t : Turn F w w') (hb : ¬ F b) : Bk T w' b r m l :=
  (t.block b (block_lt h) hb).trans h

set_option maxHeartbeats 400000 in
theorem new_any (r m : Int) (w : World) :
    Calls Try.prog 11 #[.int .u32 r, .int .u32 m] w fun e w' => e = .returned (.pointer (some ⟨w.heap.size, 0, none⟩)) ∧ w' = w.alloc (.cells #[.int .u32 r, .int .u32 m, .int .u32 m] 73) := by
  go_enter Try.func11, Try.ntmps11
  go_wp2
  go_ret
  exact ⟨rfl, rfl⟩

set_option maxHeartbeats 400000 in
theorem level_any (b : Nat) (r m l : Int) (w : World) (h : Bk 73 w b r m l) :
    Calls Try.prog 14 #[.pointer (some ⟨b, 0, none⟩)] w fun e w' => e = .returned (.int .u32 l) ∧ w = w' := by
  have c2 : w.cell? ⟨b, 2, none⟩ = some (.int .u32 l) := cell_of_block h 2
  clear h
  go_enter Try.func14, Try.ntmps14
  go_wp2
  go_ret
  exact ⟨rfl, rfl⟩

set_option maxHeartbeats 400000 in
theorem take_yes (b : Nat) (r m l n : Int) (w : World) (h : Bk 73 w b r m l) (h0 : 0 ≤ n) (hn : n ≤ l) (hl : l < 4294967296) :
    Calls Try.prog 13 #[.pointer (some ⟨b, 0, none⟩), .int .u32 n] w (Bkd 73 w b (.bool true) r m (l - n)) := by
  have c2 : w.cell? ⟨b, 2, none⟩ = some (.int .u32 l) := cell_of_block h 2
  have f2 : w.frozen? ⟨b, 2, none⟩ = false := free_of_block h 2
  have H := Lib.hid h
  clear h
  go_enter Try.func13, Try.ntmps13
  go_wp2
  go_ret
  exact ⟨rfl, H.out.set _⟩

set_option maxHeartbeats 400000 in
theorem take_no (b : Nat) (r m l n : Int) (w : World) (h : Bk 73 w b r m l) (hn : l < n) :
    Calls Try.prog 13 #[.pointer (some ⟨b, 0, none⟩), .int .u32 n] w (Bkd 73 w b (.bool false) r m l) := by
  have c2 : w.cell? ⟨b, 2, none⟩ = some (.int .u32 l) := cell_of_block h 2
  have H := Lib.hid h
  clear h
  go_enter Try.func13, Try.ntmps13
  go_wp2
  go_ret
  exact ⟨rfl, H.out, Turn.refl _ _⟩

/-- Take, whatever is asked. -/
theorem take_any (b : Nat) (r m l n : Int) (w : World) (h : Bk 73 w b r m l) (h0 : 0 ≤ n) (hl : l < 4294967296) :
    Calls Try.prog 13 #[.pointer (some ⟨b, 0, none⟩), .int .u32 n] w (Bkd 73 w b (.bool (decide (n ≤ l))) r m (if n ≤ l then l - n else l)) := by
  by_cases hn : n ≤ l
  · rw [decide_eq_true hn, if_pos hn]; exact take_yes b r m l n w h h0 hn hl
  · rw [decide_eq_false hn, if_neg hn]; exact take_no b r m l n w h (by omega)

set_option maxHeartbeats 1000000 in
theorem tick_any (b : Nat) (r m l : Int) (w : World) (h : Bk 73 w b r m l) (h0 : 0 ≤ r) (h1 : 0 ≤ l) (h2 : l ≤ m) (h3 : m < 4294967296) :
    Calls Try.prog 12 #[.pointer (some ⟨b, 0, none⟩)] w (Bkd 73 w b (.tuple #[]) r m (min (l + r) m)) := by
  have c0 : w.cell? ⟨b, 0, none⟩ = some (.int .u32 r) := cell_of_block h 0
  have c1 : w.cell? ⟨b, 1, none⟩ = some (.int .u32 m) := cell_of_block h 1
  have c2 : w.cell? ⟨b, 2, none⟩ = some (.int .u32 l) := cell_of_block h 2
  have f2 : w.frozen? ⟨b, 2, none⟩ = false := free_of_block h 2
  have H := Lib.hid h
  clear h
  go_enter Try.func12, Try.ntmps12
  go_wp2
  go_region
  all_goals go_wp2
  all_goals go_end0
  · have e : l + (m - l) = min (l + r) m := by omega
    rw [e]
    exact ⟨rfl, (H.out.set _).1, (H.out.set _).2.drew⟩
  · have e : l + r = min (l + r) m := by omega
    rw [← e]
    exact ⟨rfl, (H.out.set _).1, (H.out.set _).2.drew⟩

set_option maxHeartbeats 1000000 in
theorem set_any (b : Nat) (r m l r' m' : Int) (w : World) (h : Bk 73 w b r m l) :
    Calls Try.prog 17 #[.pointer (some ⟨b, 0, none⟩), .int .u32 r', .int .u32 m'] w (Bkd 73 w b (.tuple #[]) r' m' (min l m')) := by
  have c2 : w.cell? ⟨b, 2, none⟩ = some (.int .u32 l) := cell_of_block h 2
  have f0 : w.frozen? ⟨b, 0, none⟩ = false := free_of_block h 0
  have f1 : w.frozen? ⟨b, 1, none⟩ = false := free_of_block h 1
  have f2 : w.frozen? ⟨b, 2, none⟩ = false := free_of_block h 2
  have k0 : w.cell? ⟨b, 0, none⟩ = some (.int .u32 r) := cell_of_block h 0
  have k1 : w.cell? ⟨b, 1, none⟩ = some (.int .u32 m) := cell_of_block h 1
  have H := Lib.hid h
  clear h
  go_enter Try.func17, Try.ntmps17
  go_wp2
  all_goals go_end0
  · rw [show min l m' = m' by omega]; exact ⟨rfl, H.out.set3 _ _ _⟩
  · rw [show min l m' = l by omega]; exact ⟨rfl, H.out.set3 _ _ _⟩

set_option maxHeartbeats 400000 in
theorem rtake_yes (b : Nat) (r m l n : Int) (w : World) (h : Bk 37 w b r m l) (h0 : 0 ≤ n) (hn : n ≤ l) (hl : l < 4294967296) :
    Calls Try.prog 15 #[.pointer (some ⟨b, 0, none⟩), .int .u32 n] w (Bkd 37 w b (.bool true) r m (l - n)) := by
  have c2 : w.cell? ⟨b, 2, none⟩ = some (.int .u32 l) := cell_of_block h 2
  have f2 : w.frozen? ⟨b, 2, none⟩ = false := free_of_block h 2
  have H := Lib.hid h
  clear h
  go_enter Try.func15, Try.ntmps15
  go_wp2
  go_ret
  exact ⟨rfl, H.out.set _⟩

set_option maxHeartbeats 400000 in
theorem rtake_no (b : Nat) (r m l n : Int) (w : World) (h : Bk 37 w b r m l) (hn : l < n) :
    Calls Try.prog 15 #[.pointer (some ⟨b, 0, none⟩), .int .u32 n] w (Bkd 37 w b (.bool false) r m l) := by
  have c2 : w.cell? ⟨b, 2, none⟩ = some (.int .u32 l) := cell_of_block h 2
  have H := Lib.hid h
  clear h
  go_enter Try.func15, Try.ntmps15
  go_wp2
  go_ret
  exact ⟨rfl, H.out, Turn.refl _ _⟩

theorem rtake_any (b : Nat) (r m l n : Int) (w : World) (h : Bk 37 w b r m l) (h0 : 0 ≤ n) (hl : l < 4294967296) :
    Calls Try.prog 15 #[.pointer (some ⟨b, 0, none⟩), .int .u32 n] w (Bkd 37 w b (.bool (decide (n ≤ l))) r m (if n ≤ l then l - n else l)) := by
  by_cases hn : n ≤ l
  · rw [decide_eq_true hn, if_pos hn]; exact rtake_yes b r m l n w h h0 hn hl
  · rw [decide_eq_false hn, if_neg hn]; exact rtake_no b r m l n w h (by omega)

set_option maxHeartbeats 1000000 in
theorem rtick_any (b : Nat) (r m l : Int) (w : World) (h : Bk 37 w b r m l) (h0 : 0 ≤ r) (h1 : 0 ≤ l) (h2 : l < 4294967296) (h3 : m < 4294967296) (h4 : r < 4294967296) (h5 : 0 ≤ m) :
    Calls Try.prog 16 #[.pointer (some ⟨b, 0, none⟩)] w (Bkd 37 w b (.tuple #[]) r m (min (l + r) m)) := by
  have c0 : w.cell? ⟨b, 0, none⟩ = some (.int .u32 r) := cell_of_block h 0
  have c1 : w.cell? ⟨b, 1, none⟩ = some (.int .u32 m) := cell_of_block h 1
  have c2 : w.cell? ⟨b, 2, none⟩ = some (.int .u32 l) := cell_of_block h 2
  have f2 : w.frozen? ⟨b, 2, none⟩ = false := free_of_block h 2
  have H := Lib.hid h
  clear h
  go_enter Try.func16, Try.ntmps16
  go_wp2
  go_region
  all_goals go_wp2
  all_goals go_end0
  · rw [show min (l + r) m = m by omega]
    exact ⟨rfl, (H.out.set _).1, (H.out.set _).2.drew⟩
  · rw [show min (l + r) m = l + r by omega]
    exact ⟨rfl, (H.out.set _).1, (H.out.set _).2.drew⟩

set_option maxHeartbeats 1000000 in
theorem rset_any (b : Nat) (r m l r' m' : Int) (w : World) (h : Bk 37 w b r m l) :
    Calls Try.prog 18 #[.pointer (some ⟨b, 0, none⟩), .int .u32 r', .int .u32 m'] w (Bkd 37 w b (.tuple #[]) r' m' (min l m')) := by
  have c2 : w.cell? ⟨b, 2, none⟩ = some (.int .u32 l) := cell_of_block h 2
  have f0 : w.frozen? ⟨b, 0, none⟩ = false := free_of_block h 0
  have f1 : w.frozen? ⟨b, 1, none⟩ = false := free_of_block h 1
  have f2 : w.frozen? ⟨b, 2, none⟩ = false := free_of_block h 2
  have k0 : w.cell? ⟨b, 0, none⟩ = some (.int .u32 r) := cell_of_block h 0
  have k1 : w.cell? ⟨b, 1, none⟩ = some (.int .u32 m) := cell_of_block h 1
  have H := Lib.hid h
  clear h
  go_enter Try.func18, Try.ntmps18
  go_wp2
  all_goals go_end0
  · rw [show min l m' = m' by omega]; exact ⟨rfl, H.out.set3 _ _ _⟩
  · rw [show min l m' = l by omega]; exact ⟨rfl, H.out.set3 _ _ _⟩
end Go.Proofs.Ytpnobcffglohnaa
