/- PortsPlay: an argument of acts opened; light. No condition. -/
import Derived.Test.YtpnobcffglohnaaR5
import Derived.Test.YtpnobcffglohnaaL6
namespace Go.Proofs.Ytpnobcffglohnaa
open Go.RowKit
set_option linter.unusedVariables false
set_option linter.unusedSimpArgs false

/-- One act of a script. -/
structure Act1 where
  wh : Int
  pr : Int
  pa : Option Addr
  pl : Nat
  pc : Nat
  lo : Nat
  hi : Nat
  wa : Nat
  ip : Int
  po : Nat
  k : Int
  P : Nat → Int
instance : Inhabited Act1 := ⟨⟨0, 0, none, 0, 0, 0, 0, 0, 0, 0, 0, fun _ => 0⟩⟩
def Act1.cells (x : Act1) : List Value := [.int .i64 x.wh, .int .u8 x.pr, .slice x.pa x.pl x.pc, .int .u16 (x.lo : Int), .int .u16 (x.hi : Int), .int .u16 (x.wa : Int), .int .u32 x.ip, .int .u16 (x.po : Int), .int .i64 x.k]
def PoolAt (w : World) (ao : Option Addr) (len : Nat) (P : Nat → Int) : Prop :=
  ∀ i, i < len → ∃ b off, ao = some ⟨b, off, none⟩ ∧ b < w.heap.size ∧ w.cell? ⟨b, off + i, none⟩ = some (.int .u32 (P i)) ∧ W32 (P i)
structure Act1.Ok (w : World) (x : Act1) : Prop where
  pr : W8 x.pr
  ip : W32 x.ip
  lo : x.lo < 65536
  hi : x.hi < 65536
  wa : x.wa < 65536
  po : x.po < 65536
  k : -9223372036854775808 ≤ x.k ∧ x.k ≤ 9223372036854775807
  pool : PoolAt w x.pa x.pl x.P
  len : x.pl ≤ maxLen
structure Acts61 (w : World) (b off len : Nat) (f : Nat → Act1) : Prop where
  lt : b < w.heap.size
  at' : ∀ i, i < len → ∀ (j : Nat) v, (f i).cells[j]? = some v → w.cell? ⟨b, off + i * 9 + j, none⟩ = some v
  ok : ∀ i, i < len → (f i).Ok w

theorem pool_open {H : Type} {enc : TypeId × Value → H} {w : World} {base : Nat} {spare : Nat → Bool} {held : Bool} {n : Nat} {cs : List Value} {y : DataW H × List MemPlace} (h : DataW.trod enc Try.prog w base spare held n 23 cs = some y) :
    ∃ ao len cap P, cs = [.slice ao len cap] ∧ PoolAt w ao len P ∧ len ≤ maxLen := by
  have key : ∀ ao len cap, cs = [.slice ao len cap] → len ≤ maxLen → ∃ ao len cap P, cs = [.slice ao len cap] ∧ PoolAt w ao len P ∧ len ≤ maxLen := by
    intro ao len cap hc hl
    have hT : DataW.Trod enc Try.prog w base spare held 23 (.slice ao len cap) y.1 y.2 := ⟨n, by show DataW.trod enc Try.prog w base spare held n 23 [.slice ao len cap] = some (y.1, y.2); rw [← hc]; exact h⟩
    by_cases h0 : 0 < len
    · obtain ⟨b, off, rfl, hb, _, _, hi⟩ := open_elems Try.underlying23 (C := 1) (by kernel_rfl) (by decide) hT h0
      have hall : ∀ i, ∃ x : Int, i < len → w.cell? ⟨b, off + i, none⟩ = some (.int .u32 x) ∧ W32 x := by
        intro i
        by_cases hl : i < len
        · obtain ⟨cs', m, z, hlen, ht, hc'⟩ := hi i hl
          obtain ⟨x, h1, _, h3⟩ := DataW.trod_int Try.underlying22 ht
          refine ⟨x, fun _ => ⟨?_, h3⟩⟩
          have := hc' 0 (.int .u32 x) (by rw [h1]; rfl)
          simpa using this
        · exact ⟨0, fun h => absurd h hl⟩
      obtain ⟨f, hf⟩ := Classical.axiomOfChoice hall
      exact ⟨_, _, _, f, hc, fun i h => ⟨b, off, rfl, hb, (hf i h).1, (hf i h).2⟩, hl⟩
    · exact ⟨_, _, _, fun _ => 0, hc, fun i h => absurd h (by omega), hl⟩
  rcases Deep.open_slice Try.underlying23 h with ⟨hcs, _⟩ | ⟨a, len', cap', m, n', D, Pl, hcs, hb, hl, hm, _⟩
  · exact key _ _ _ hcs (by omega)
  · exact key _ _ _ hcs (by omega)

theorem act61_cells : Try.prog.cellsOf 61 = 9 := by kernel_rfl

theorem u16_nat {n : Int} (h : (Lit.int .u16 n).wf = true) : ∃ m : Nat, n = (m : Int) ∧ m < 65536 := by
  have := wf_u16 h
  exact ⟨n.toNat, by omega, by omega⟩
theorem wf_i64 {n : Int} (h : (Lit.int .i64 n).wf = true) : -9223372036854775808 ≤ n ∧ n ≤ 9223372036854775807 := by
  simp [Lit.wf, IntKind.min, IntKind.max, IntKind.bits, IntKind.signed] at h; omega

set_option maxHeartbeats 1000000 in
theorem acts61_open {H : Type} {enc : TypeId × Value → H} {w : World} {base : Nat} {spare : Nat → Bool} {held : Bool} {ao : Option Addr} {len cap : Nat} {d : DataW H} {p : List MemPlace}
    (h : DataW.Trod enc Try.prog w base spare held 54 (.slice ao len cap) d p) (h0 : 0 < len) :
    ∃ b off f, ao = some ⟨b, off, none⟩ ∧ Acts61 w b off len f := by
  obtain ⟨b, off, rfl, hb, _, _, hi⟩ := open_elems Try.underlying54 act61_cells (by decide) h h0
  have hall : ∀ i, ∃ x : Act1, i < len → (∀ (j : Nat) v, x.cells[j]? = some v → w.cell? ⟨b, off + i * 9 + j, none⟩ = some v) ∧ x.Ok w := by
    intro i
    by_cases hl : i < len
    · obtain ⟨cs, m, y, hlen, ht, hc⟩ := hi i hl
      obtain ⟨a0, k0, _⟩ := field_int Try.underlying61 ht 0 _ rfl .i64 Try.underlying3 (by kernel_rfl)
      obtain ⟨a1, k1, q1⟩ := field_int Try.underlying61 ht 1 _ rfl .u8 Try.underlying5 (by kernel_rfl)
      obtain ⟨n2, y2, t2⟩ := field_sub Try.underlying61 ht 2 _ rfl
      obtain ⟨pa, pl, pc, P, e2, pool, plen⟩ := pool_open t2
      obtain ⟨a3, k3, q3⟩ := field_int Try.underlying61 ht 3 _ rfl .u16 Try.underlying32 (by kernel_rfl)
      obtain ⟨a4, k4, q4⟩ := field_int Try.underlying61 ht 4 _ rfl .u16 Try.underlying32 (by kernel_rfl)
      obtain ⟨a5, k5, q5⟩ := field_int Try.underlying61 ht 5 _ rfl .u16 Try.underlying32 (by kernel_rfl)
      obtain ⟨n6, y6, t6⟩ := field_sub Try.underlying61 ht 6 _ rfl
      obtain ⟨a6, k6, q6⟩ := field_int Try.underlying45 t6 0 _ rfl .u32 Try.underlying22 (by kernel_rfl)
      obtain ⟨a7, k7, q7⟩ := field_int Try.underlying45 t6 1 _ rfl .u16 Try.underlying32 (by kernel_rfl)
      obtain ⟨a8, k8, q8⟩ := field_int Try.underlying61 ht 7 _ rfl .i64 Try.underlying3 (by kernel_rfl)
      obtain ⟨m3, rfl, l3⟩ := u16_nat q3
      obtain ⟨m4, rfl, l4⟩ := u16_nat q4
      obtain ⟨m5, rfl, l5⟩ := u16_nat q5
      obtain ⟨m7, rfl, l7⟩ := u16_nat q7
      have c45 : Try.prog.cellsOf 45 = 2 := by kernel_rfl
      have c23 : Try.prog.cellsOf 23 = 1 := by kernel_rfl
      have k2 : cs[2]? = some (.slice pa pl pc) := one_of_drop (by rw [← c23]; exact e2)
      have k6' : cs[6]? = some (.int .u32 a6) := by
        have : ((cs.drop 6).take 2)[0]? = some (.int .u32 a6) := by rw [← c45]; exact k6
        simpa using this
      have k7' : cs[7]? = some (.int .u16 (m7 : Int)) := by
        have : ((cs.drop 6).take 2)[1]? = some (.int .u16 (m7 : Int)) := by rw [← c45]; exact k7
        simpa using this
      refine ⟨⟨a0, a1, pa, pl, pc, m3, m4, m5, a6, m7, a8, P⟩, fun _ => ⟨fun j v hv => hc j v ?_, ⟨q1, q6, l3, l4, l5, l7, wf_i64 q8, pool, plen⟩⟩⟩
      rcases j with _ | _ | _ | _ | _ | _ | _ | _ | _ | j <;> simp [Act1.cells] at hv <;> subst hv
      · exact k0
      · exact k1
      · exact k2
      · exact k3
      · exact k4
      · exact k5
      · exact k6'
      · exact k7'
      · exact k8
    · exact ⟨default, fun h => absurd h hl⟩
  obtain ⟨f, hf⟩ := Classical.axiomOfChoice hall
  exact ⟨b, off, f, rfl, ⟨hb, fun i h => (hf i h).1, fun i h => (hf i h).2⟩⟩

/-- light says nothing, or that the script is short, its pools small. -/
def LightPost (len : Nat) (f : Nat → Act1) (w : World) (e : Ending) (w' : World) : Prop :=
  ∃ b, (b = true → len ≤ 60 ∧ ∀ i, i < len → (f i).pl ≤ 10) ∧ e = .returned (.bool b) ∧ w' = w

set_option maxHeartbeats 1000000 in
theorem light_any (b off len cap : Nat) (f : Nat → Act1) (w : World) (hA : Acts61 w b off len f) (hlen : len ≤ maxLen) :
    Calls Try.prog 23 #[.slice (some ⟨b, off, none⟩) len cap] w (LightPost len f w) := by
  unfold maxLen at hlen
  have HA := Lib.hid hA
  clear hA
  go_enter Try.func23, Try.ntmps23
  go_wp2_with fail
  go_loopw [3] (fun i wr => ∃ (k : Nat), k ≤ len ∧ k ≤ 60 ∧ i = .int .i64 k ∧ wr = w ∧ Hid (∀ j, j < k → (f j).pl ≤ 10)) (fun i _ => 60 - (intOf i).toNat)
  case atStart => exact ⟨0, Nat.zero_le _, by decide, rfl, rfl, fun j hj => absurd hj (Nat.not_lt_zero _)⟩
  case round =>
    obtain ⟨k, hk, hk6, rfl, rfl, hall⟩ := hrel
    by_cases hlt : k < len
    · by_cases h6 : k < 60
      · have c2 : wr.cell? ⟨b, off + k * 9 + 2, none⟩ = some (.slice (f k).pa (f k).pl (f k).pc) := HA.out.at' k hlt 2 _ rfl
        have hpl := (HA.out.ok k hlt).len
        unfold maxLen at hpl
        obtain ⟨pl, hpl'⟩ : ∃ pl, pl = (f k).pl := ⟨_, rfl⟩
        rw [← hpl'] at c2 hpl
        have HPL := Lib.hid hpl'
        clear hpl'
        by_cases h10 : 10 < pl
        · go_wp2_with fail
          go_ret
          exact ⟨false, by simp, rfl, rfl⟩
        · go_wp2_with fail
          go_roundw
          case rel => exact ⟨k + 1, by omega, by omega, by go_num, by trivial, fun j hj => by
            by_cases h : j < k
            · exact hall.out j h
            · rw [show j = k by omega, ← HPL.out]; omega⟩
          case measure => simp [intOf]; omega
      · go_wp2_with fail
        go_ret
        refine ⟨_, fun h => ?_, rfl, rfl⟩
        have h : len ≤ 60 := by simp at h; omega
        exact ⟨h, fun i hi => hall.out i (by omega)⟩
    · go_wp2_with fail
      go_ret
      refine ⟨_, fun h => ?_, rfl, rfl⟩
      have h : len ≤ 60 := by simp at h; omega
      exact ⟨h, fun i hi => hall.out i (by omega)⟩
end Go.Proofs.Ytpnobcffglohnaa
