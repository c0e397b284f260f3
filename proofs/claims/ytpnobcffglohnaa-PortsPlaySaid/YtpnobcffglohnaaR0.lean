/- A slice of marks that a call owns, its array longer than its capacity maybe; append onto it. No condition. -/
import Derived.Test.YtpnobcffglohnaaM5
import Derived.Deep.AppendLies
namespace Go.Proofs.Ytpnobcffglohnaa
open Go.RowKit
set_option linter.unusedVariables false
set_option linter.unusedSimpArgs false

/-- A slice value of n marks, its cells xs, its array among the blocks G. -/
def RowR (w : World) (G : Nat → Prop) (v : Value) (n : Nat) (xs : List Value) : Prop :=
  xs.length = n * 3 ∧ ((v = .slice none 0 0 ∧ n = 0) ∨
    ∃ g cap cur, v = .slice (some ⟨g, 0, none⟩) n cap ∧ G g ∧ w.heap[g]? = some (.cells cur 64 (0, 0)) ∧ n ≤ cap ∧ cap ≤ maxLen ∧ cap * 3 ≤ cur.size ∧ cur.toList.take (n * 3) = xs)

theorem RowR.turn {w w' : World} {G F : Nat → Prop} {v : Value} {n : Nat} {xs : List Value} (h : RowR w G v n xs) (t : Turn F w w') (hF : ∀ g, G g → ¬ F g) : RowR w' G v n xs := by
  obtain ⟨h1, h2 | ⟨g, cap, cur, rfl, h3, h4, h5⟩⟩ := h
  · exact ⟨h1, Or.inl h2⟩
  · exact ⟨h1, Or.inr ⟨g, cap, cur, rfl, h3, (t.block g (block_lt h4) (hF g h3)).trans h4, h5⟩⟩

theorem info64 : (Try.prog.info? 64).map (fun i => (i.zero, i.size, i.bytes)) = some (some (.agg #[.int .u8 0, .int .u32 0, .int .u16 0]), 3, 12) := by kernel_rfl

theorem RowR.cells {w : World} {G : Nat → Prop} {g n cap : Nat} {xs : List Value} (h : RowR w G (.slice (some ⟨g, 0, none⟩) n cap) n xs) (j : Nat) (hj : j < n * 3) : w.cell? ⟨g, j, none⟩ = xs[j]? := by
  obtain ⟨h1, ⟨h2, _⟩ | ⟨g', cap', cur, hv, h3, h4, h5, h6, h7, h8⟩⟩ := h
  · cases h2
  · cases hv
    rw [cell_of_block h4, ← h8, List.getElem?_take, if_pos hj]
    simp

/-- append: the new value, owned by G or by a new block. -/
theorem run_append_R {w : World} {G : Nat → Prop} {v : Value} {n : Nat} {xs : List Value} (h : RowR w G v n xs) (hn : n ≤ 4000000) (ty : TypeId)
    (ad : Addr) (m c : Nat) (news : List Value) (hm : m ≤ 4000000) (hl : news.length = m * 3) (hnews : ∀ j u, news[j]? = some u → w.cell? (ad.add j) = some u) (h1 : ∀ u ∈ news, u.oneCell' = true) (hm0 : v = .slice none 0 0 → 0 < m) :
    ∃ g cap w', (Builtin.append_ #[57, 57] ty #[v, .slice (some ad) m c]).run Try.prog w = .ok (.slice (some ⟨g, 0, none⟩) (n + m) cap) w' ∧
      RowR w' (fun k => G k ∨ k = w.heap.size) (.slice (some ⟨g, 0, none⟩) (n + m) cap) (n + m) (xs ++ news) ∧ Turn G w w' := by
  obtain ⟨i, hi, hz, hsize, hby⟩ := info_parts info64
  have ht := Try.underlying57
  have hl' : news.length = m * i.size := by rw [hsize]; exact hl
  have grown : ∀ (old : Nat), old < n + m →
      RowR (w.drew.alloc (.cells (xs.toArray ++ news.toArray ++ Builtin.zeroCells (Value.agg #[.int .u8 0, .int .u32 0, .int .u16 0]).cells (grownCap w (n + m) old 64 - (n + m))) 64)) (fun k => G k ∨ k = w.heap.size)
        (.slice (some ⟨w.heap.size, 0, none⟩) (n + m) (grownCap w (n + m) old 64)) (n + m) (xs ++ news) ∧
      Turn G w (w.drew.alloc (.cells (xs.toArray ++ news.toArray ++ Builtin.zeroCells (Value.agg #[.int .u8 0, .int .u32 0, .int .u16 0]).cells (grownCap w (n + m) old 64 - (n + m))) 64)) := by
    intro old ho
    have hge := grownCap_ge w (n + m) old 64
    have hcm : grownCap w (n + m) old 64 ≤ maxLen := grownCap_le_maxLen w (n + m) old 64 (by unfold maxLen; omega)
    have hlen : (xs ++ news).length = (n + m) * 3 := by rw [List.length_append, h.1, hl]; omega
    refine ⟨⟨hlen, .inr ⟨w.heap.size, _, _, rfl, Or.inr rfl, heap_alloc_new w.drew _, hge, hcm, ?_, ?_⟩⟩, ((Turn.refl _ _).drew).alloc _⟩
    · simp only [Array.size_append, List.size_toArray, size_zeroCells, h.1, hl, Value.cells]
      simp
      omega
    · simp only [Array.toList_append, List.append_assoc]
      rw [← List.append_assoc, ← hlen]
      exact List.take_left
  rcases h.2 with ⟨rfl, rfl⟩ | ⟨g, cap, cur, rfl, hG, hg, hnc, hcm, hcs, htake⟩
  · have hx : xs = [] := List.eq_nil_of_length_eq_zero (by simpa using h.1)
    subst hx
    have hr := run_append_nil (P := Try.prog) w 57 ty 64 i _ ht hi hz ad m c news hl' hnews (hm0 rfl) (by omega) (by rw [hby]; omega)
    have hm1 := hm0 rfl
    have hgr := grown 0 (by omega)
    simp only [Nat.zero_add, List.nil_append, Array.empty_append] at hgr ⊢
    exact ⟨_, _, _, hr, hgr.1, hgr.2⟩
  · by_cases hroom : n + m ≤ cap
    · have hr := run_append_room (P := Try.prog) w 57 ty 64 i ht hi g n cap cur hg ad m c news hl' hnews h1 hroom (by rw [hsize, hl]; omega)
      refine ⟨_, _, _, hr, ⟨by rw [List.length_append, h.1, hl]; omega, .inr ⟨g, cap, _, rfl, Or.inl hG, setRow_heap w g cur _ 64 _ hg, hroom, hcm, ?_, ?_⟩⟩, ⟨rfl, rfl, rfl, by simp, fun k hk hne => setRow_other w g k _ (fun e => hne (e ▸ hG))⟩⟩
      · simp only [List.size_toArray, List.length_append, List.length_take, List.length_drop, Array.length_toList, hsize, hl]
        omega
      · rw [hsize, htake]
        have : (n + m) * 3 = (xs ++ news).length := by rw [List.length_append, h.1, hl]; omega
        rw [this]
        exact List.take_left
    · have holds : ∀ j u, xs[j]? = some u → w.cell? ((⟨g, 0, none⟩ : Addr).add j) = some u := fun j u hu => by
        have hj : j < n * 3 := by rw [← h.1]; exact (List.getElem?_eq_some_iff.1 hu).1
        have e : (⟨g, 0, none⟩ : Addr).add j = ⟨g, j, none⟩ := by unfold Addr.add; split <;> simp_all
        rw [e, h.cells j hj, hu]
      have hnext : Builtin.nextslicecap (n + m) cap * 12 ≤ 281474976710656 := growslice_fits (by omega) (by omega)
      have hr := run_append_grow (P := Try.prog) w 57 ty 64 i _ ht hi hz ⟨g, 0, none⟩ n cap xs (by rw [hsize]; exact h.1) holds ad m c news hl' hnews (by omega) (by omega) (by rw [hby]; exact hnext)
      have hgr := grown cap (by omega)
      exact ⟨_, _, _, hr, hgr.1, hgr.2⟩

theorem wp_append_R {w : World} {o : Oper} {a : Act} {K : Act → World → Prop} {Q : Exit → Act → World → Prop} (s x : Operand)
    (ho : o.op = .call { callee := .builtin .append, args := #[s, x], argTypes := #[57, 57] }) {G : Nat → Prop} {v : Value} {n : Nat} {xs : List Value} (hs : a.eval s = v) (h : RowR w G v n xs) (hn : n ≤ 4000000)
    (ad : Addr) (m c : Nat) (news : List Value) (hx : a.eval x = .slice (some ad) m c) (hm : m ≤ 4000000) (hl : news.length = m * 3) (hnews : ∀ j u, news[j]? = some u → w.cell? (ad.add j) = some u) (h1 : ∀ u ∈ news, u.oneCell' = true) (hm0 : v = .slice none 0 0 → 0 < m)
    (hk : ∀ g cap w', RowR w' (fun k => G k ∨ k = w.heap.size) (.slice (some ⟨g, 0, none⟩) (n + m) cap) (n + m) (xs ++ news) → Turn G w w' → K (a.put o.dst (.slice (some ⟨g, 0, none⟩) (n + m) cap)) w') : o.wp Try.prog a w K Q := by
  obtain ⟨g, cap, w', hr, h2, h3⟩ := run_append_R h hn o.type ad m c news hm hl hnews h1 hm0
  unfold Oper.wp execOp
  simp only [ho, resolve, invoke, builtin, Sem.run_bind, Sem.run_pure, Result.andThen_ok, List.map_toArray, List.map_cons, List.map_nil, hs, hx, hr]
  exact hk g cap w' h2 h3

theorem step_append_R {w : World} {ops : Array Oper} {o : Oper} {a : Act} {K : Act → World → Prop} {Q : Exit → Act → World → Prop} {E : Prop} (hgd : o.guard = none) (s x : Operand)
    (ho : o.op = .call { callee := .builtin .append, args := #[s, x], argTypes := #[57, 57] }) {G : Nat → Prop} {v : Value} {n : Nat} {xs : List Value} (hs : a.eval s = v) (h : RowR w G v n xs) (hn : n ≤ 4000000)
    (ad : Addr) (m c : Nat) (news : List Value) (hx : a.eval x = .slice (some ad) m c) (hm : m ≤ 4000000) (hl : news.length = m * 3) (hnews : ∀ j u, news[j]? = some u → w.cell? (ad.add j) = some u) (h1 : ∀ u ∈ news, u.oneCell' = true) (hm0 : v = .slice none 0 0 → 0 < m)
    (hk : ∀ g cap w', RowR w' (fun k => G k ∨ k = w.heap.size) (.slice (some ⟨g, 0, none⟩) (n + m) cap) (n + m) (xs ++ news) → Turn G w w' → K (a.put o.dst (.slice (some ⟨g, 0, none⟩) (n + m) cap)) w') :
    if Region.wanted o (yielded ops a.tmps) = true then Oper.wp Try.prog o a w K Q else E := by
  have hw : Region.wanted o (yielded ops a.tmps) = true := by simp [Region.wanted, hgd]
  rw [if_pos hw]
  exact wp_append_R s x ho hs h hn ad m c news hx hm hl hnews h1 hm0 hk
end Go.Proofs.Ytpnobcffglohnaa
