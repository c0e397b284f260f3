/- The reference's IpText. Condition: the number's bound. -/
import Derived.Test.YtbkpbcmjgbdbkaaDoorF0
namespace Go.Proofs.YtbkpbcmjgbdbkaaDoor
open Go.RowKit Go.Lib
set_option linter.unusedVariables false
set_option linter.unusedSimpArgs false

set_option maxRecDepth 100000 in
set_option maxHeartbeats 4000000 in
theorem ripText_any (n : Nat) (hn : n < 4294967296) (w : World) : Calls Tryd.prog 23 #[.int .u32 (n : Int)] w fun e w' => e = .returned (.string ⟨(ipText n).toArray⟩) ∧ w = w' := by
  obtain ⟨o0, ho0⟩ : ∃ o, o = n / 16777216 := ⟨_, rfl⟩
  obtain ⟨o1, ho1⟩ : ∃ o, o = n / 65536 % 256 := ⟨_, rfl⟩
  obtain ⟨o2, ho2⟩ : ∃ o, o = n / 256 % 256 := ⟨_, rfl⟩
  obtain ⟨o3, ho3⟩ : ∃ o, o = n % 256 := ⟨_, rfl⟩
  have hb0 : (n : Int) / 16777216 = (o0 : Int) := by omega
  have ha1 : bits .and .u32 ((n : Int) / 65536) 255 = (o1 : Int) := by rw [show (n : Int) / 65536 = ((n / 65536 : Nat) : Int) by omega, and255 _ (by omega)]; omega
  have ha2 : bits .and .u32 ((n : Int) / 256) 255 = (o2 : Int) := by rw [show (n : Int) / 256 = ((n / 256 : Nat) : Int) by omega, and255 _ (by omega)]; omega
  have ha3 : bits .and .u32 (n : Int) 255 = (o3 : Int) := by rw [and255 _ hn]; omega
  have l0 : o0 < 256 := by omega
  have l1 : o1 < 256 := by omega
  have l2 : o2 < 256 := by omega
  have l3 : o3 < 256 := by omega
  obtain ⟨D0, hD0⟩ : ∃ D : ByteArray, D = ⟨(decL o0).toArray⟩ := ⟨_, rfl⟩
  obtain ⟨D1, hD1⟩ : ∃ D : ByteArray, D = ⟨(decL o1).toArray⟩ := ⟨_, rfl⟩
  obtain ⟨D2, hD2⟩ : ∃ D : ByteArray, D = ⟨(decL o2).toArray⟩ := ⟨_, rfl⟩
  obtain ⟨D3, hD3⟩ : ∃ D : ByteArray, D = ⟨(decL o3).toArray⟩ := ⟨_, rfl⟩
  have c0 := dec_any o0 (by omega)
  have c1 := dec_any o1 (by omega)
  have c2 := dec_any o2 (by omega)
  have c3 := dec_any o3 (by omega)
  rw [← hD0] at c0
  rw [← hD1] at c1
  rw [← hD2] at c2
  rw [← hD3] at c3
  have s0 : D0.size ≤ 3 := by rw [hD0]; show (decL o0).toArray.size ≤ 3; rw [List.size_toArray]; exact decL_len3 _ l0
  have s1 : D1.size ≤ 3 := by rw [hD1]; show (decL o1).toArray.size ≤ 3; rw [List.size_toArray]; exact decL_len3 _ l1
  have s2 : D2.size ≤ 3 := by rw [hD2]; show (decL o2).toArray.size ≤ 3; rw [List.size_toArray]; exact decL_len3 _ l2
  have s3 : D3.size ≤ 3 := by rw [hD3]; show (decL o3).toArray.size ≤ 3; rw [List.size_toArray]; exact decL_len3 _ l3
  have hip : ipText n = decL o0 ++ 46 :: (decL o1 ++ 46 :: (decL o2 ++ 46 :: decL o3)) := by rw [ho0, ho1, ho2, ho3]; rfl
  have H := Lib.hid (And.intro c0 (And.intro c1 (And.intro c2 (And.intro c3 (And.intro hip (And.intro hD0 (And.intro hD1 (And.intro hD2 hD3))))))))
  clear c0 c1 c2 c3 hip hD0 hD1 hD2 hD3 ho0 ho1 ho2 ho3
  go_enter Tryd.func23, Tryd.ntmps23
  go_wp2_with fail
  refine (H.out.1 _).mono ?_; rintro e w1 ⟨rfl, rfl⟩
  go_wp2_with fail
  refine (H.out.2.1 _).mono ?_; rintro e w1 ⟨rfl, rfl⟩
  go_wp2_with fail
  all_goals first
    | (exfalso; simp only [ByteArray.size_append] at *; have h1 : (⟨#[46]⟩ : ByteArray).size = 1 := rfl; omega)
    | skip
  refine (H.out.2.2.1 _).mono ?_; rintro e w1 ⟨rfl, rfl⟩
  go_wp2_with fail
  all_goals first
    | (exfalso; simp only [ByteArray.size_append] at *; have h1 : (⟨#[46]⟩ : ByteArray).size = 1 := rfl; omega)
    | skip
  refine (H.out.2.2.2.1 _).mono ?_; rintro e w1 ⟨rfl, rfl⟩
  go_wp2_with fail
  all_goals first
    | (exfalso; simp only [ByteArray.size_append] at *; have h1 : (⟨#[46]⟩ : ByteArray).size = 1 := rfl; omega)
    | skip
  go_ret
  refine ⟨?_, rfl⟩
  rw [H.out.2.2.2.2.1, H.out.2.2.2.2.2.1, H.out.2.2.2.2.2.2.1, H.out.2.2.2.2.2.2.2.1, H.out.2.2.2.2.2.2.2.2]
  have e46 : (⟨#[46]⟩ : ByteArray) = ⟨[46].toArray⟩ := rfl
  rw [e46]
  show Ending.returned (.string _) = _
  simp only [str_append, List.append_assoc, List.cons_append, List.nil_append]
end Go.Proofs.YtbkpbcmjgbdbkaaDoor
