/- The reference's readers, of what was read so far. No condition. -/
import Derived.Test.YtbkpbcmjgbdbkaaGreatDoorI1
namespace Go.Proofs.YtbkpbcmjgbdbkaaGreatDoor
open Go.RowKit Go.Lib
set_option linter.unusedVariables false
set_option linter.unusedSimpArgs false

/-- What a reader of the reference leaves: its value V; the line moved on. -/
def SPost {α : Type} (V : Value) (r : Except Nat (α × Nat)) (w : World) (b g cap : Nat) (L : List Wd) (en : Nat) (e : Ending) (w' : World) : Prop :=
  e = .returned V ∧ RefIs w' b g cap L en (r.map (·.2)) ∧ Turn (fun k => k = b) w w'
theorem rIp_any (b g cap : Nat) (L : List Wd) (en : Nat) (st : Except Nat Nat) (w : World) (h : RefIs w b g cap L en st) :
    ∃ v : Nat, Calls Tryz.prog 24 #[.pointer (some ⟨b, 0, none⟩)] w (SPost (.int .u32 (v : Int)) (readS ipOf st L en) w b g cap L en) ∧ ∀ x m, readS ipOf st L en = .ok (x, m) → x = v := by
  obtain ⟨s, a, hc, hsz, hw⟩ := rword_any b g cap L en st w h
  cases hf : ipOf s.data.toList with
  | some v =>
    obtain ⟨e1, e2⟩ := readS_yes hw hf
    refine ⟨v, ?_, e2⟩
    unfold SPost
    rw [e1]
    exact sip_good (v : Int) b g cap L en st w h s a hc (fun W _ => (rip_any s hsz W).mono fun e w' ⟨h1, h2⟩ => ⟨by rw [h1, hf]; rfl, h2⟩)
  | none =>
    obtain ⟨e1, e2⟩ := readS_no hw hf
    refine ⟨0, ?_, fun x m hx => absurd hx (e2 x m)⟩
    unfold SPost
    rw [e1]
    exact sip_bad 0 60 (by omega) b g cap L en st w h s a hc (fun W _ => (rip_any s hsz W).mono fun e w' ⟨h1, h2⟩ => ⟨by rw [h1, hf]; rfl, h2⟩)
theorem rNum_any (most : Nat) (hm : most < 4294967296) (b g cap : Nat) (L : List Wd) (en : Nat) (st : Except Nat Nat) (w : World) (h : RefIs w b g cap L en st) :
    ∃ v : Nat, Calls Tryz.prog 27 #[.pointer (some ⟨b, 0, none⟩), .int .u32 (most : Int)] w (SPost (.int .u32 (v : Int)) (readS (fun l => numOf l most) st L en) w b g cap L en) ∧ v ≤ most ∧ ∀ x m, readS (fun l => numOf l most) st L en = .ok (x, m) → x = v := by
  obtain ⟨s, a, hc, hsz, hw⟩ := rword_any b g cap L en st w h
  cases hf : numOf s.data.toList most with
  | some v =>
    obtain ⟨e1, e2⟩ := readS_yes (f := fun l => numOf l most) hw hf
    refine ⟨v, ?_, numOf_le hf, e2⟩
    unfold SPost
    rw [e1]
    exact snum_good most (v : Int) b g cap L en st w h s a hc (fun W _ => (rnum_ok hm (by omega) hf W).mono fun e w' ⟨h1, h2⟩ => ⟨h1, by rw [h2]; exact Turn.refl _ _⟩)
  | none =>
    obtain ⟨e1, e2⟩ := readS_no (f := fun l => numOf l most) hw hf
    refine ⟨0, ?_, Nat.zero_le _, fun x m hx => absurd hx (e2 x m)⟩
    unfold SPost
    rw [e1]
    exact snum_bad most 0 60 (by omega) b g cap L en st w h s a hc (fun W _ => (rnum_no hm (by omega) hf W).mono fun e w' ⟨h1, h2⟩ => ⟨h1, by rw [h2]; exact Turn.refl _ _⟩)
theorem rMac_any (b g cap : Nat) (L : List Wd) (en : Nat) (st : Except Nat Nat) (w : World) (h : RefIs w b g cap L en st) :
    ∃ v : List Nat, v.length = 6 ∧ Calls Tryz.prog 25 #[.pointer (some ⟨b, 0, none⟩)] w (SPost (.agg (u8row v)) (readS macOf st L en) w b g cap L en) ∧ ∀ x m, readS macOf st L en = .ok (x, m) → x = v := by
  obtain ⟨s, a, hc, hsz, hw⟩ := rword_any b g cap L en st _ (h.turn ((Turn.refl (fun _ => False) w).alloc (.cells #[.int .u8 0, .int .u8 0, .int .u8 0, .int .u8 0, .int .u8 0, .int .u8 0] 25)) (fun h => h) (fun h => h))
  cases hf : macOf s.data.toList with
  | some v =>
    obtain ⟨e1, e2⟩ := readS_yes hw hf
    have h6 := (macOf_read hf).2.1
    refine ⟨v, h6, ?_, e2⟩
    unfold SPost
    rw [e1]
    obtain ⟨m0, m1, m2, m3, m4, m5, rfl⟩ := list6 v h6
    exact smac_good m0 m1 m2 m3 m4 m5 b g cap L en st w h s a hc (fun W _ => (rmac_any s hsz W).mono fun e w' ⟨h1, h2⟩ => ⟨by rw [h1, hf]; rfl, h2⟩)
  | none =>
    obtain ⟨e1, e2⟩ := readS_no hw hf
    refine ⟨[0, 0, 0, 0, 0, 0], rfl, ?_, fun x m hx => absurd hx (e2 x m)⟩
    unfold SPost
    rw [e1]
    exact smac_bad 0 0 0 0 0 0 60 (by omega) b g cap L en st w h s a hc (fun W _ => (rmac_any s hsz W).mono fun e w' ⟨h1, h2⟩ => ⟨by rw [h1, hf]; rfl, h2⟩)
theorem rKey_any (b g cap : Nat) (L : List Wd) (en : Nat) (st : Except Nat Nat) (w : World) (h : RefIs w b g cap L en st) :
    ∃ v : List Nat, v.length = 8 ∧ Calls Tryz.prog 26 #[.pointer (some ⟨b, 0, none⟩)] w (SPost (.agg (u8row v)) (readS keyOf st L en) w b g cap L en) ∧ ∀ x m, readS keyOf st L en = .ok (x, m) → x = v := by
  obtain ⟨s, a, hc, hsz, hw⟩ := rword_any b g cap L en st _ (h.turn ((Turn.refl (fun _ => False) w).alloc (.cells #[.int .u8 0, .int .u8 0, .int .u8 0, .int .u8 0, .int .u8 0, .int .u8 0, .int .u8 0, .int .u8 0] 26)) (fun h => h) (fun h => h))
  cases hf : keyOf s.data.toList with
  | some v =>
    obtain ⟨e1, e2⟩ := readS_yes hw hf
    have h8 := (keyOf_read hf).2.1
    refine ⟨v, h8, ?_, e2⟩
    unfold SPost
    rw [e1]
    obtain ⟨m0, m1, m2, m3, m4, m5, m6, m7, rfl⟩ := list8 v h8
    exact skey_good m0 m1 m2 m3 m4 m5 m6 m7 b g cap L en st w h s a hc (fun W _ => (rkey_any s hsz W).mono fun e w' ⟨h1, h2⟩ => ⟨by rw [h1, hf]; rfl, h2⟩)
  | none =>
    obtain ⟨e1, e2⟩ := readS_no hw hf
    refine ⟨[0, 0, 0, 0, 0, 0, 0, 0], rfl, ?_, fun x m hx => absurd hx (e2 x m)⟩
    unfold SPost
    rw [e1]
    exact skey_bad 0 0 0 0 0 0 0 0 60 (by omega) b g cap L en st w h s a hc (fun W _ => (rkey_any s hsz W).mono fun e w' ⟨h1, h2⟩ => ⟨by rw [h1, hf]; rfl, h2⟩)
end Go.Proofs.YtbkpbcmjgbdbkaaGreatDoor
