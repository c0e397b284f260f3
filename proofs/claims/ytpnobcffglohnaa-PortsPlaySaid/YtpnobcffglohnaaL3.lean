/- LimitBounds: the walk. No condition. -/
import Derived.Test.YtpnobcffglohnaaL2
namespace Go.Proofs.Ytpnobcffglohnaa
open Go.RowKit

theorem wrap_u64_in {x : Int} (h0 : 0 ≤ x) (h1 : x < 18446744073709551616) : IntKind.u64.wrap x = x := by
  rw [IntKind.wrap_u64]; omega

set_option maxHeartbeats 1000000 in
theorem bounds_walk (r m : Int) (b off len cap : Nat) (zs : List Int) (w : World) (hr0 : 0 ≤ r) (hr1 : r < 4294967296) (hm0 : 0 ≤ m) (hm1 : m < 4294967296)
    (hb : b < w.heap.size) (hc : ∀ i, i < len → w.cell? ⟨b, off + i, none⟩ = some (.int .u32 (zs.getD i 0))) (hw : ∀ i, 0 ≤ zs.getD i 0 ∧ zs.getD i 0 < 4294967296) (hlen : len ≤ 100) :
    Calls Try.prog 3 #[.int .u32 r, .int .u32 m, .slice (some ⟨b, off, none⟩) len cap] w fun e w' => e = .returned (.bool true) ∧ Below w.heap.size w w' := by
  have HC := Lib.hid hc
  have HW := Lib.hid hw
  clear hc hw
  go_enter Try.func3, Try.ntmps3
  go_wp2_with fail
  refine (known20 _).mono ?_; rintro e w0 ⟨rfl, t0⟩
  go_wp2_with fail
  refine (new_any _ _ _).mono ?_; rintro e w1 ⟨rfl, hw1⟩
  have h1 : Bk 73 w1 w0.heap.size r m m := by rw [hw1]; exact block_alloc_new _ _
  have t1 : Below w.heap.size w w1 := by rw [hw1]; exact t0.alloc t0.size _
  have hB : w.heap.size ≤ w0.heap.size := t0.size
  clear hw1 t0
  generalize w0.heap.size = B at *
  go_wp2_with fail
  go_loopw [8, 9, 10] (fun tk tc i wr => ∃ (k : Nat) (ta tb l s : Int), k ≤ len ∧ i = .int .i64 k ∧ tk = .int .u64 ta ∧ tc = .int .u64 tb ∧ Bk 73 wr B r m l ∧ Below w.heap.size w wr ∧
      0 ≤ l ∧ l ≤ m ∧ 0 ≤ ta ∧ 0 ≤ tb ∧ tb ≤ k ∧ Hid (s = tb * r) ∧ 0 ≤ s ∧ s ≤ tb * 4294967295 ∧ ta + l ≤ m + s) (fun _ _ i _ => len - (intOf i).toNat)
  case atStart => exact ⟨0, 0, 0, m, 0, Nat.zero_le _, rfl, rfl, rfl, h1, t1, hm0, Int.le_refl _, Int.le_refl _, Int.le_refl _, Int.le_refl _, Lib.hid (by omega), by omega, by omega, by omega⟩
  case round =>
    obtain ⟨k, ta, tb, l, s, hk, rfl, rfl, rfl, hbk, ht, hl0, hl1, hta, htb, htk, HS, hs0, hs1, hinv⟩ := hrel
    by_cases hlt : k < len
    · have hcell : wr.cell? ⟨b, off + k, none⟩ = some (.int .u32 (zs.getD k 0)) := (ht.cell hb).trans (HC.out k hlt)
      have hz := HW.out k
      generalize zs.getD k 0 = z at *
      obtain ⟨hz0, hz1⟩ := hz
      go_wp2_with fail
      · refine (tick_any _ r m l _ hbk hr0 hl0 hl1 hm1).mono ?_; rintro e w2 ⟨rfl, h2, t2⟩
        have t3 := t2.onto ht (Nat.le_refl _) (fun i hi e => by omega)
        go_wp2_with fail
        go_roundw
        case rel => exact ⟨k + 1, ta, tb + 1, min (l + r) m, s + r, by omega, by go_num, rfl, rfl, h2, t3, by omega, by omega, hta, by omega, by omega, Lib.hid (by rw [HS.out, Int.add_mul]; omega), by omega, by omega, by omega⟩
        case measure => simp [intOf]; omega
      · have hmul : IntKind.u64.wrap (tb * r) = s := by rw [← HS.out]; exact wrap_u64_in hs0 (by omega)
        have hs2 : s ≤ 429496729500 := by omega
        by_cases hn : z / 2 ≤ l
        · refine (take_yes _ r m l (z / 2) _ hbk (by omega) hn (by omega)).mono ?_; rintro e w2 ⟨rfl, h2, t2⟩
          have t3 := t2.onto ht (Nat.le_refl _) (fun i hi e => by omega)
          go_wp2_with fail
          refine (level_any _ r m _ _ h2).mono ?_; rintro e w3 ⟨rfl, rfl⟩
          go_wp2_with fail
          go_roundw
          case rel => exact ⟨k + 1, ta + z / 2, tb, l - z / 2, s, by omega, by go_num, rfl, rfl, h2, t3, by omega, by omega, by omega, htb, by omega, HS, hs0, hs1, by omega⟩
          case measure => simp [intOf]; omega
        · refine (take_no _ r m l (z / 2) _ hbk (by omega)).mono ?_; rintro e w2 ⟨rfl, h2, t2⟩
          have t3 := t2.onto ht (Nat.le_refl _) (fun i hi e => by omega)
          go_wp2_with fail
          refine (level_any _ r m _ _ h2).mono ?_; rintro e w3 ⟨rfl, rfl⟩
          go_wp2_with fail
          go_roundw
          case rel => exact ⟨k + 1, ta, tb, l, s, by omega, by go_num, rfl, rfl, h2, t3, hl0, hl1, hta, htb, by omega, HS, hs0, hs1, hinv⟩
          case measure => simp [intOf]; omega
    · go_wp2_with fail
      go_ret
      exact ⟨rfl, ht⟩

set_option maxHeartbeats 1000000 in
theorem bounds_nil (r m : Int) (ao : Option Addr) (cap : Nat) (w : World) :
    Calls Try.prog 3 #[.int .u32 r, .int .u32 m, .slice ao 0 cap] w fun e w' => e = .returned (.bool true) ∧ Below w.heap.size w w' := by
  go_enter Try.func3, Try.ntmps3
  go_wp2_with fail
  refine (known20 _).mono ?_; rintro e w0 ⟨rfl, t0⟩
  go_wp2_with fail
  refine (new_any _ _ _).mono ?_; rintro e w1 ⟨rfl, hw1⟩
  have t1 : Below w.heap.size w w1 := by rw [hw1]; exact t0.alloc t0.size _
  clear hw1 t0
  generalize w0.heap.size = B at *
  go_wp2_with fail
  refine wp_loop_rounds 1 ?_; rw [rounds_succ]
  go_wp2_with fail
  go_ret
  exact ⟨rfl, t1⟩
set_option maxHeartbeats 1000000 in
theorem bounds_long (r m : Int) (ao : Option Addr) (len cap : Nat) (hlen : 100 < len) (hl : len ≤ maxLen) (w : World) :
    Calls Try.prog 3 #[.int .u32 r, .int .u32 m, .slice ao len cap] w fun e w' => e = .returned (.bool true) ∧ Below w.heap.size w w' := by
  unfold maxLen at hl
  go_enter Try.func3, Try.ntmps3
  go_wp2_with fail
  refine (known20 _).mono ?_; rintro e w0 ⟨rfl, t0⟩
  go_wp2_with fail
  go_ret
  exact ⟨rfl, t0⟩
theorem wf_u32 {n : Int} (h : (Lit.int .u32 n).wf = true) : 0 ≤ n ∧ n < 4294967296 := by
  simp [Lit.wf, IntKind.min, IntKind.max, IntKind.bits, IntKind.signed] at h; omega
theorem wf_u16 {n : Int} (h : (Lit.int .u16 n).wf = true) : 0 ≤ n ∧ n < 65536 := by
  simp [Lit.wf, IntKind.min, IntKind.max, IntKind.bits, IntKind.signed] at h; omega
theorem wf_u8 {n : Int} (h : (Lit.int .u8 n).wf = true) : 0 ≤ n ∧ n < 256 := by
  simp [Lit.wf, IntKind.min, IntKind.max, IntKind.bits, IntKind.signed] at h; omega

theorem bounds_all (a0 : Int) (a1 : Int) (a2 : Option Addr) (len2 cap2 : Nat) (z2 : List Int) (w : World) (w0 : (Lit.int .u32 a0).wf = true) (w1 : (Lit.int .u32 a1).wf = true) (w2 : IsRow .u32 w a2 len2 cap2 z2) :
    Calls Try.prog 3 #[.int .u32 a0, .int .u32 a1, .slice a2 len2 cap2] w fun e w' => e = .returned (.bool true) ∧ Below w.heap.size w w' := by
  by_cases h : 100 < len2
  · exact bounds_long a0 a1 a2 len2 cap2 h w2.len_le w
  · have hwf := fun i => wf_u32 (w2.wf (by decide) i)
    have b0 := wf_u32 w0
    have b1 := wf_u32 w1
    by_cases h0 : len2 = 0
    · subst h0; exact bounds_nil a0 a1 a2 cap2 w
    · obtain ⟨⟨b, off, spot⟩, rfl⟩ : ∃ x, a2 = some x := by
        rcases w2 with ⟨_, h1, _⟩ | ⟨x, h1, _⟩
        · exact absurd h1 h0
        · exact ⟨x, h1⟩
      obtain ⟨rfl, hb, hc⟩ := w2.cells (by omega)
      exact bounds_walk a0 a1 b off len2 cap2 z2 w b0.1 b0.2 b1.1 b1.2 hb hc hwf (by omega)
end Go.Proofs.Ytpnobcffglohnaa
