/- The words of settings that may be; their text spread over lines; how long it is; the settings of the statements. No condition. -/
import Derived.Test.YtbkpbcmjgbdbkaaGreatDoorMG
import Derived.Test.YtbkpbcmjgbdbkaaGreatDoorMK
import Derived.Test.YtbkpbcmjgbdbkaaGreatDoorV0
namespace Go.Proofs.YtbkpbcmjgbdbkaaGreatDoor
open Go.RowKit Go.Lib
set_option linter.unusedVariables false
set_option linter.unusedSimpArgs false
set_option maxRecDepth 100000

theorem plain_range {l : List UInt8} (h : ∀ b ∈ l, 45 ≤ b.toNat) : Plain l := fun b hb => by have := h b hb; omega
theorem decL_high (n : Nat) : ∀ b ∈ decL n, 45 ≤ b.toNat := fun b hb => by have := decL_digits n b hb; omega
theorem decL_good (n : Nat) : Good (decL n) := ⟨decL_ne n, plain_range (decL_high n)⟩
theorem joinL_high {c : UInt8} (hc : 45 ≤ c.toNat) (ps : List (List UInt8)) (h : ∀ p ∈ ps, ∀ b ∈ p, 45 ≤ b.toNat) : ∀ b ∈ joinL c ps, 45 ≤ b.toNat := by
  induction ps with
  | nil => intro b hb; simp [joinL] at hb
  | cons p ps ih =>
    match ps, ih, h with
    | [], _, h => exact h p (by simp)
    | q :: r, ih, h =>
      intro b hb
      have hb : b ∈ p ++ c :: joinL c (q :: r) := hb
      rcases List.mem_append.1 hb with hb | hb
      · exact h p (by simp) b hb
      · rcases List.mem_cons.1 hb with rfl | hb
        · exact hc
        · exact ih (fun x hx => h x (List.mem_cons_of_mem _ hx)) b hb
theorem joinL_ne {c : UInt8} (p : List UInt8) (ps : List (List UInt8)) (h : p ≠ []) : joinL c (p :: ps) ≠ [] := by
  cases ps with
  | nil => exact h
  | cons q r => show p ++ c :: joinL c (q :: r) ≠ []; simp
theorem ipText_good (n : Nat) : Good (ipText n) :=
  ⟨joinL_ne _ _ (decL_ne _), plain_range (joinL_high (by decide) _ (fun p hp => by
    simp only [List.mem_cons, List.not_mem_nil, or_false] at hp
    rcases hp with rfl | rfl | rfl | rfl <;> exact decL_high _))⟩
theorem hexL_high {b : Nat} (hb : b < 256) : ∀ c ∈ hexL b, 45 ≤ c.toNat := fun c hc => by
  simp only [hexL, List.mem_cons, List.not_mem_nil, or_false] at hc
  rcases hc with rfl | rfl
  · have := hexD_range (show b / 16 < 16 by omega); omega
  · have := hexD_range (show b % 16 < 16 by omega); omega
theorem macText_good {m : List Nat} (h6 : m.length = 6) (h : ∀ b ∈ m, b < 256) : Good (macText m) := by
  refine ⟨?_, plain_range (joinL_high (by decide) _ (fun p hp => ?_))⟩
  · cases m with
    | nil => cases h6
    | cons x m => exact joinL_ne _ _ (by simp [hexL])
  · obtain ⟨b, hb, rfl⟩ := List.mem_map.1 hp
    exact hexL_high (h b hb)
theorem keyText_good {m : List Nat} (h8 : m.length = 8) (h : ∀ b ∈ m, b < 256) : Good (keyText m) := by
  refine ⟨fun e => ?_, plain_range (fun c hc => ?_)⟩
  · have := keyText_len m
    rw [e, h8] at this
    cases this
  · unfold keyText at hc
    obtain ⟨p, hp, hc⟩ := List.mem_flatten.1 hc
    obtain ⟨b, hb, rfl⟩ := List.mem_map.1 hp
    exact hexL_high (h b hb) c hc
theorem good_of {l : List UInt8} (h0 : l ≠ []) (h : (l.all fun b => decide (45 ≤ b.toNat)) = true) : Good l :=
  ⟨h0, plain_range (fun b hb => by simpa using List.all_eq_true.1 h b hb)⟩
theorem filterL_good (f : Int) : Good (filterL f) := by
  unfold filterL
  split
  · exact good_of (by simp) (by decide)
  · split
    · exact good_of (by simp) (by decide)
    · exact good_of (by simp) (by decide)
theorem words_good {c : Cfg} (h : OkCfg c) (hn : ∀ t ∈ c.tens, Good t.name.data.toList) : ∀ ps ∈ linesC c, ∀ l ∈ ps, Good l := by
  have g0 : Good gwB := good_of (by decide) (by decide)
  have g1 : Good drB := good_of (by decide) (by decide)
  have g2 : Good tenB := good_of (by decide) (by decide)
  have g3 : Good vniB := good_of (by decide) (by decide)
  have g4 : Good keyB := good_of (by decide) (by decide)
  have g5 : Good vtepB := good_of (by decide) (by decide)
  have g6 : Good hostB := good_of (by decide) (by decide)
  have g7 : Good poolB := good_of (by decide) (by decide)
  have g8 : Good portsB := good_of (by decide) (by decide)
  have g9 : Good filtB := good_of (by decide) (by decide)
  have ga : Good statB := good_of (by decide) (by decide)
  have gb : Good twicB := good_of (by decide) (by decide)
  have gc : Good quotaB := good_of (by decide) (by decide)
  have gd : Good rateB := good_of (by decide) (by decide)
  intro ps hps l hl
  rcases List.mem_cons.1 hps with rfl | hps
  · simp only [headW, List.mem_cons, List.not_mem_nil, or_false] at hl
    rcases hl with rfl | rfl | rfl | rfl | rfl | rfl | rfl | rfl
    · exact g0
    · exact ipText_good _
    · exact macText_good h.mac.1 h.mac.2
    · exact macText_good h.out.1 h.out.2
    · exact macText_good h.next.1 h.next.2
    · exact keyText_good h.key.1 h.key.2
    · exact g1
    · exact decL_good _
  · obtain ⟨t, ht, hps⟩ := List.mem_flatMap.1 hps
    have ok := h.tens t ht
    rcases List.mem_cons.1 hps with rfl | hps
    · simp only [tenW, List.mem_cons, List.not_mem_nil, or_false] at hl
      rcases hl with rfl | rfl | rfl | rfl | rfl | rfl | rfl | rfl | rfl | rfl | rfl
      · exact g2
      · exact hn t ht
      · exact g3
      · exact decL_good _
      · exact g4
      · exact keyText_good ok.key.1 ok.key.2
      · exact g5
      · exact ipText_good _
      · exact macText_good ok.vmac.1 ok.vmac.2
      · exact g6
      · exact macText_good ok.host.1 ok.host.2
    · unfold restW at hps
      simp only [List.mem_append, List.mem_cons, List.mem_map, List.not_mem_nil, or_false] at hps
      rcases hps with hps | rfl | rfl | ⟨x, hx, rfl⟩ | ⟨x, hx, rfl⟩ | rfl | rfl
      · split at hps
        · simp at hps
        · rw [List.mem_singleton] at hps
          subst hps
          simp only [poolW, List.mem_cons, List.mem_map] at hl
          rcases hl with rfl | ⟨x, _, rfl⟩
          · exact g7
          · exact ipText_good _
      · simp only [portsW, List.mem_cons, List.not_mem_nil, or_false] at hl
        rcases hl with rfl | rfl | rfl
        · exact g8
        · exact decL_good _
        · exact decL_good _
      · simp only [filtW, List.mem_cons, List.not_mem_nil, or_false] at hl
        rcases hl with rfl | rfl
        · exact g9
        · exact filterL_good _
      · simp only [statW, List.mem_cons, List.not_mem_nil, or_false] at hl
        rcases hl with rfl | rfl | rfl
        · exact ga
        · exact ipText_good _
        · exact ipText_good _
      · simp only [twicW, List.mem_cons, List.not_mem_nil, or_false] at hl
        rcases hl with rfl | rfl | rfl
        · exact gb
        · exact ipText_good _
        · exact ipText_good _
      · simp only [quotaW, List.mem_cons, List.not_mem_nil, or_false] at hl
        rcases hl with rfl | rfl | rfl
        · exact gc
        · exact decL_good _
        · exact decL_good _
      · simp only [rateW, List.mem_cons, List.not_mem_nil, or_false] at hl
        rcases hl with rfl | rfl | rfl
        · exact gd
        · exact decL_good _
        · exact decL_good _
theorem lines_ne (c : Cfg) : ∀ ps ∈ linesC c, ps ≠ [] := by
  intro ps hps
  rcases List.mem_cons.1 hps with rfl | hps
  · simp [headW]
  · obtain ⟨t, ht, hps⟩ := List.mem_flatMap.1 hps
    rcases List.mem_cons.1 hps with rfl | hps
    · simp [tenW]
    · unfold restW at hps
      simp only [List.mem_append, List.mem_cons, List.mem_map, List.not_mem_nil, or_false] at hps
      rcases hps with hps | rfl | rfl | ⟨x, hx, rfl⟩ | ⟨x, hx, rfl⟩ | rfl | rfl
      · split at hps
        · simp at hps
        · rw [List.mem_singleton] at hps; subst hps; simp [poolW]
      · simp [portsW]
      · simp [filtW]
      · simp [statW]
      · simp [twicW]
      · simp [quotaW]
      · simp [rateW]
/-! ### plain lines -/
theorem spl_line : ∀ (ps : List (List UInt8)), ps ≠ [] → SpL ps (lineL ps)
  | [], h => absurd rfl h
  | [p], _ => .last p [10] (Or.inl rfl)
  | p :: q :: r, _ => by
    have := SpL.more p 0 (q :: r) _ (spl_line (q :: r) (by simp))
    have e : lineL (p :: q :: r) = (p ++ 32 :: List.replicate 0 32) ++ lineL (q :: r) := by
      unfold lineL
      show (p ++ 32 :: joinL 32 (q :: r)) ++ [10] = _
      simp
    rw [e]
    exact this
theorem spt_lines : ∀ (Ls : List (List (List UInt8))), (∀ ps ∈ Ls, ps ≠ []) → SpT Ls (Ls.flatMap lineL)
  | [], _ => .nil
  | ps :: Ls, h => by
    rw [List.flatMap_cons]
    exact .cons _ _ _ _ (spl_line ps (h ps (by simp))) (spt_lines Ls (fun x hx => h x (List.mem_cons_of_mem _ hx)))
theorem spt_text (c : Cfg) : SpT (linesC c) (textL c) := by
  rw [textL_lines]
  exact spt_lines _ (lines_ne c)
/-- A text that spreads settings' lines is read as the settings. -/
theorem configP_spread {c : Cfg} (h : OkCfg c) (hn : ∀ t ∈ c.tens, Good t.name.data.toList) {s : ByteArray} (hs : SpT (linesC c) s.data.toList) (hl : s.size ≤ 32768) : configP s = .ok c := by
  unfold configP
  rw [if_neg (by omega)]
  exact from_lines h (lines_spread hs (words_good h hn))
/-! ### lengths -/
theorem line_len (ps : List (List UInt8)) (h : ps ≠ []) : (lineL ps).length = (ps.map List.length).sum + ps.length := by
  have key : ∀ ps : List (List UInt8), ps ≠ [] → (joinL 32 ps).length + 1 = (ps.map List.length).sum + ps.length := by
    intro ps
    induction ps with
    | nil => intro h; exact absurd rfl h
    | cons p ps ih =>
      intro _
      cases ps with
      | nil => simp [joinL]
      | cons q r =>
        have := ih (by simp)
        show (p ++ 32 :: joinL 32 (q :: r)).length + 1 = _
        simp only [List.length_append, List.length_cons, List.map_cons, List.sum_cons] at this ⊢
        omega
  have := key ps h
  simp only [lineL, List.length_append, List.length_singleton]
  exact this
theorem ipText_len (n : Nat) (h : n < 4294967296) : (ipText n).length ≤ 15 := by
  have e : (ipText n).length = (decL (n / 16777216)).length + ((decL (n / 65536 % 256)).length + ((decL (n / 256 % 256)).length + (decL (n % 256)).length + 1) + 1) + 1 := by
    simp [ipText, joinL]; omega
  have := decL_len3 (n / 16777216) (by omega)
  have := decL_len3 (n / 65536 % 256) (by omega)
  have := decL_len3 (n / 256 % 256) (by omega)
  have := decL_len3 (n % 256) (by omega)
  omega
theorem decL_len10 (n : Nat) (h : n < 4294967296) : (decL n).length ≤ 10 := decL_short 10 n (by omega) (by omega)
theorem macText_len {M : List Nat} (h : M.length = 6) : (macText M).length ≤ 18 := by
  have := macAt_len M 6
  unfold macAt at this
  rw [List.take_of_length_le (by omega)] at this
  exact this
/-! ### the settings of the statements -/
theorem quad_lt {a b c d : Nat} (h1 : a < 256) (h2 : b < 256) (h3 : c < 256) (h4 : d < 256) : quad a b c d < 4294967296 := by unfold quad; omega
theorem seatName (i : Nat) (hi : i < 4) : nameOf [(97 + UInt8.ofNat i)] = true ∧ Good [(97 + UInt8.ofNat i)] := by
  rcases i with _ | _ | _ | _ | i
  · exact ⟨by decide +kernel, good_of (by simp) (by decide)⟩
  · exact ⟨by decide +kernel, good_of (by simp) (by decide)⟩
  · exact ⟨by decide +kernel, good_of (by simp) (by decide)⟩
  · exact ⟨by decide +kernel, good_of (by simp) (by decide)⟩
  · omega
theorem seat_pool {i kind x : Nat} (hi : i < 4) (h : x ∈ (seatTen i kind).pool) : x < 4294967296 := by
  unfold seatTen at h
  simp only at h
  split at h
  · simp only [List.mem_cons, List.not_mem_nil, or_false] at h
    rcases h with rfl | rfl <;> exact quad_lt (by omega) (by omega) (by omega) (by omega)
  · simp only [List.mem_cons, List.not_mem_nil, or_false] at h
    subst h; exact quad_lt (by omega) (by omega) (by omega) (by omega)
theorem seat_stat {i kind : Nat} {x : Nat × Nat} (hi : i < 4) (h : x ∈ (seatTen i kind).statics) : x.1 < 4294967296 ∧ x.2 < 4294967296 := by
  unfold seatTen at h
  simp only at h
  split at h
  · simp only [List.mem_cons, List.not_mem_nil, or_false] at h
    subst h
    exact ⟨quad_lt (by omega) (by omega) (by omega) (by omega), quad_lt (by omega) (by omega) (by omega) (by omega)⟩
  · simp at h
theorem seat_twic {i kind : Nat} {x : Nat × Nat} (hi : i < 4) (h : x ∈ (seatTen i kind).twices) : x.1 < 4294967296 ∧ x.2 < 4294967296 := by
  unfold seatTen at h
  simp only at h
  split at h
  · simp only [List.mem_cons, List.not_mem_nil, or_false] at h
    rcases h with rfl | rfl <;> exact ⟨quad_lt (by omega) (by omega) (by omega) (by omega), quad_lt (by omega) (by omega) (by omega) (by omega)⟩
  · simp at h
theorem seat_lens (i kind : Nat) : (seatTen i kind).pool.length ≤ 2 ∧ (seatTen i kind).statics.length ≤ 1 ∧ (seatTen i kind).twices.length ≤ 2 := by
  unfold seatTen
  refine ⟨?_, ?_, ?_⟩ <;> (simp only; split <;> simp)
theorem six_lt (l : List Nat) (h : (l.all fun b => decide (b < 256)) = true) : ∀ b ∈ l, b < 256 := fun b hb => by simpa using List.all_eq_true.1 h b hb
theorem seatTen_ok (i kind : Nat) (hi : i < 4) (hk : kind < 65536) : OkTen (seatTen i kind) where
  name := (seatName i hi).1
  vni := by show 100 + i ≤ _; omega
  key := ⟨rfl, six_lt _ (by rcases i with _ | _ | _ | _ | i <;> first | rfl | omega)⟩
  vtep := quad_lt (by omega) (by omega) (by omega) (by omega)
  vmac := ⟨rfl, six_lt _ (by rcases i with _ | _ | _ | _ | i <;> first | rfl | omega)⟩
  host := ⟨rfl, six_lt _ (by rcases i with _ | _ | _ | _ | i <;> first | rfl | omega)⟩
  pool := fun x hx => seat_pool hi hx
  lo := by unfold seatTen; simp only; split <;> omega
  hi := by unfold seatTen; simp only; split <;> omega
  filter := by show ((kind % 3 : Nat) : Int) = 0 ∨ ((kind % 3 : Nat) : Int) = 1 ∨ ((kind % 3 : Nat) : Int) = 2; omega
  statics := fun x hx => seat_stat hi hx
  twices := fun x hx => seat_twic hi hx
  sess := by show 0 ≤ ((kind / 512 % 8 + 1 : Nat) : Int) ∧ ((kind / 512 % 8 + 1 : Nat) : Int) ≤ 65535; omega
  queue := by show 0 ≤ ((kind / 4096 % 4 + 1 : Nat) : Int) ∧ ((kind / 4096 % 4 + 1 : Nat) : Int) ≤ 65535; omega
  rate := by show kind / 16384 % 4 ≤ _; omega
  burst := by show kind / 8192 % 8 + 3 ≤ _; omega
theorem seat_mem : ∀ (ks : List Nat) (n : Nat) (t : Ten), t ∈ seatTens n ks → ∃ i kind, n ≤ i ∧ i < n + ks.length ∧ kind ∈ ks ∧ t = seatTen i kind
  | [], n, t, h => by simp [seatTens] at h
  | k :: ks, n, t, h => by
    rcases List.mem_cons.1 h with rfl | h
    · exact ⟨n, k, Nat.le_refl _, by simp, by simp, rfl⟩
    · obtain ⟨i, kind, h1, h2, h3, h4⟩ := seat_mem ks (n + 1) t h
      exact ⟨i, kind, by omega, by simp; omega, by simp [h3], h4⟩
theorem seat_tens {ks : List Nat} {d : Nat} {t : Ten} (hk : ∀ x ∈ ks, x < 65536) (h : t ∈ (seatCfg ks d).tens) : ∃ i kind, i < 4 ∧ kind < 65536 ∧ t = seatTen i kind := by
  obtain ⟨i, kind, h1, h2, h3, h4⟩ := seat_mem _ _ _ h
  exact ⟨i, kind, by rw [List.length_take] at h2; omega, hk _ (List.mem_of_mem_take h3), h4⟩
theorem seatCfg_ok {ks : List Nat} (hk : ∀ x ∈ ks, x < 65536) (d : Nat) : OkCfg (seatCfg ks d) where
  ip := quad_lt (by omega) (by omega) (by omega) (by omega)
  mac := ⟨rfl, six_lt _ rfl⟩
  out := ⟨rfl, six_lt _ rfl⟩
  next := ⟨rfl, six_lt _ rfl⟩
  key := ⟨rfl, six_lt _ rfl⟩
  drain := by show d % 8 ≤ _; omega
  tens := fun t ht => by
    obtain ⟨i, kind, h1, h2, rfl⟩ := seat_tens hk ht
    exact seatTen_ok i kind h1 h2
theorem seatCfg_names {ks : List Nat} (hk : ∀ x ∈ ks, x < 65536) (d : Nat) : ∀ t ∈ (seatCfg ks d).tens, Good t.name.data.toList := fun t ht => by
  obtain ⟨i, kind, h1, h2, rfl⟩ := seat_tens hk ht
  exact (seatName i h1).2
theorem OkTen.rng {t : Ten} (h : OkTen t) (hn : t.name.size ≤ 1000000) (hp : t.pool.length ≤ 999999) : RngTen t where
  name := hn
  vni := by have := h.vni; omega
  key := h.key.2
  vtep := h.vtep
  vmac := h.vmac.2
  host := h.host.2
  pool := h.pool
  lo := by have := h.lo; omega
  hi := by have := h.hi; omega
  statics := h.statics
  twices := h.twices
  sess := by have := h.sess; omega
  queue := by have := h.queue; omega
  rate := by have := h.rate; omega
  burst := by have := h.burst; omega
  plen := hp
theorem seatCfg_rng {ks : List Nat} (hk : ∀ x ∈ ks, x < 65536) (d : Nat) : RngCfg (seatCfg ks d) where
  ip := (seatCfg_ok hk d).ip
  mac := (seatCfg_ok hk d).mac.2
  out := (seatCfg_ok hk d).out.2
  next := (seatCfg_ok hk d).next.2
  key := (seatCfg_ok hk d).key.2
  drain := by have := (seatCfg_ok hk d).drain; omega
  tens := fun t ht => by
    have ok := (seatCfg_ok hk d).tens t ht
    obtain ⟨i, kind, h1, h2, rfl⟩ := seat_tens hk ht
    exact ok.rng (by show (1 : Nat) ≤ _; omega) (by have := (seat_lens i kind).1; omega)
theorem flat_len {α : Type} (f : α → List UInt8) (N : Nat) (l : List α) (h : ∀ x ∈ l, (f x).length ≤ N) : (l.flatMap f).length ≤ l.length * N := by
  induction l with
  | nil => simp
  | cons x l ih =>
    have h1 := h x (by simp)
    have h2 := ih (fun y hy => h y (by simp [hy]))
    rw [List.flatMap_cons, List.length_append, List.length_cons, Nat.succ_mul]
    omega
theorem pair_len {w : List UInt8} (x : Nat × Nat) (h1 : x.1 < 4294967296) (h2 : x.2 < 4294967296) (hw : w.length ≤ 10) : (lineL [w, ipText x.1, ipText x.2]).length ≤ 45 := by
  rw [line_len _ (by simp)]
  have := ipText_len _ h1
  have := ipText_len _ h2
  simp
  omega
theorem tenL_len {t : Ten} (h : OkTen t) (hn : t.name.data.toList.length ≤ 10) (hp : t.pool.length ≤ 2) (hs : t.statics.length ≤ 1) (hq : t.twices.length ≤ 2) : (tenL t).length ≤ 500 := by
  have a1 : (tenHeadL t).length ≤ 150 := by
    unfold tenHeadL
    rw [line_len _ (by simp)]
    have := decL_len10 t.vni (by have := h.vni; omega)
    have := keyText_len t.key
    have := h.key.1
    have := ipText_len _ h.vtep
    have := macText_len h.vmac.1
    have := macText_len h.host.1
    simp [tenB, vniB, keyB, vtepB, hostB]
    simp at hn
    omega
  have a2 : (poolL t).length ≤ 40 := by
    unfold poolL
    split
    · simp
    · rw [line_len _ (by simp)]
      have : ∀ l : List Nat, (∀ x ∈ l, x < 4294967296) → ((l.map ipText).map List.length).sum ≤ l.length * 15 := by
        intro l
        induction l with
        | nil => intro _; simp
        | cons x l ih =>
          intro hx
          have h1 := ih (fun y hy => hx y (by simp [hy]))
          have h2 := ipText_len x (hx x (by simp))
          simp only [List.map_cons, List.sum_cons, List.length_cons, Nat.succ_mul]
          omega
      have := this t.pool h.pool
      simp only [List.map_cons, List.sum_cons, List.length_cons, List.length_map, poolB] at this ⊢
      simp only [List.length_nil]
      omega
  have a3 : (portsL t).length ≤ 30 := by
    unfold portsL
    rw [line_len _ (by simp)]
    have := decL_len10 t.lo (by have := h.lo; omega)
    have := decL_len10 t.hi (by have := h.hi; omega)
    simp [portsB]
    omega
  have a4 : (filtL t).length ≤ 20 := by
    unfold filtL
    rw [line_len _ (by simp)]
    rcases h.filter with e | e | e <;> rw [e] <;> decide
  have a5 : (t.statics.flatMap statL).length ≤ t.statics.length * 45 := flat_len _ _ _ (fun x hx => pair_len x (h.statics x hx).1 (h.statics x hx).2 (by decide))
  have a6 : (t.twices.flatMap twicL).length ≤ t.twices.length * 45 := flat_len _ _ _ (fun x hx => pair_len x (h.twices x hx).1 (h.twices x hx).2 (by decide))
  have a7 : (quotaL t).length ≤ 30 := by
    unfold quotaL
    rw [line_len _ (by simp)]
    have := decL_len10 t.sess.toNat (by have := h.sess; omega)
    have := decL_len10 t.queue.toNat (by have := h.queue; omega)
    simp [quotaB]
    omega
  have a8 : (rateL t).length ≤ 30 := by
    unfold rateL
    rw [line_len _ (by simp)]
    have := decL_len10 t.rate (by have := h.rate; omega)
    have := decL_len10 t.burst (by have := h.burst; omega)
    simp [rateB]
    omega
  unfold tenL
  simp only [List.length_append]
  omega
theorem seatText_len {ks : List Nat} (hk : ∀ x ∈ ks, x < 65536) (d : Nat) : (textL (seatCfg ks d)).length ≤ 2200 := by
  have ok := seatCfg_ok hk d
  have a1 : (headL (seatCfg ks d)).length ≤ 200 := by
    unfold headL
    rw [line_len _ (by simp)]
    have := ipText_len _ ok.ip
    have := macText_len ok.mac.1
    have := macText_len ok.out.1
    have := macText_len ok.next.1
    have := keyText_len (seatCfg ks d).key
    have := ok.key.1
    have := decL_len10 (seatCfg ks d).drain (by have := ok.drain; omega)
    simp [gwB, drB]
    omega
  have a2 := flat_len tenL 500 (seatCfg ks d).tens (fun t ht => by
    have o := ok.tens t ht
    obtain ⟨i, kind, h1, h2, rfl⟩ := seat_tens hk ht
    have := seat_lens i kind
    exact tenL_len o (by show (1 : Nat) ≤ _; omega) this.1 this.2.1 this.2.2)
  have a3 : (seatCfg ks d).tens.length ≤ 4 := by
    have : ∀ (l : List Nat) (n : Nat), (seatTens n l).length = l.length := by
      intro l
      induction l with
      | nil => intro n; rfl
      | cons x l ih => intro n; show (seatTens (n + 1) l).length + 1 = _; rw [ih]; rfl
    show (seatTens 0 (ks.take 4)).length ≤ 4
    rw [this, List.length_take]
    omega
  unfold textL
  rw [List.length_append]
  omega
/-- The closed text of the statements. -/
def badText : ByteArray := ⟨#[103, 97, 116, 101, 119, 97, 121, 32, 49, 48, 46, 48, 46, 48, 46, 49, 32, 120]⟩
theorem badText_at : configP badText = .error 17 := by kernel_rfl
end Go.Proofs.YtbkpbcmjgbdbkaaGreatDoor
