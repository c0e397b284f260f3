/- The reference's line: any line. Conditions: Env; lengths. -/
import Derived.Test.YtbkpbcmjgbdbkaaGreatDoorX9
import Derived.Test.YtbkpbcmjgbdbkaaGreatDoorMI
namespace Go.Proofs.YtbkpbcmjgbdbkaaGreatDoor
open Go.RowKit Go.Lib
set_option linter.unusedVariables false
set_option linter.unusedSimpArgs false
set_option maxRecDepth 100000

theorem rline_any {lo b g cap en C : Nat} {L : List Wd} {c : Cfg} {tv : Value} {l : List TenM} {w : World} {x : Wd} (h : RLine w lo b g cap L en (.ok 0) C c tv l) (hx : L[0]? = some x) (hlen : l.length ≤ 1000000)
    (hb : ∀ y ∈ l, y.1.pool.length + L.length ≤ 10000000 ∧ y.1.statics.length ≤ 10000000 ∧ y.1.twices.length ≤ 10000000) :
    Calls Tryz.prog 28 #[.pointer (some ⟨b, 0, none⟩), .pointer (some ⟨C, 0, none⟩)] w (RLinePost w lo b g cap L en C (bodyR c L en)) := by
  obtain ⟨xw, a0⟩ := x
  by_cases h0 : xw = tenName
  · subst h0; exact rline_tenant h hx hlen
  rcases List.eq_nil_or_concat l with rfl | ⟨l0, y, rfl⟩
  · exact rline_empty h hx h0
  · rw [List.concat_eq_append] at *
    obtain ⟨b1, b2, b3⟩ := hb y (by simp)
    have hl0 : l0.length ≤ 1000000 := by simp at hlen; omega
    by_cases h1 : xw = poolName
    · subst h1; exact rline_pool h hx hl0 b1
    by_cases h2 : xw = portsName
    · subst h2; exact rline_ports h hx hl0
    by_cases h3 : xw = filtName
    · subst h3; exact rline_filter h hx hl0
    by_cases h4 : xw = statName
    · subst h4; exact rline_static h hx hl0 b2
    by_cases h5 : xw = twiceName
    · subst h5; exact rline_twice h hx hl0 b3
    by_cases h6 : xw = quotaName
    · subst h6; exact rline_quota h hx hl0
    by_cases h7 : xw = rateName
    · subst h7; exact rline_rate h hx hl0
    · exact rline_none h hx hl0 h0 h1 h2 h3 h4 h5 h6 h7
end Go.Proofs.YtbkpbcmjgbdbkaaGreatDoor
