/-
  Residues: impl.residue.
-/
import Derived.Test.YtljdneobfbimiaaK1
namespace Go.Proofs.Ytljdneobfbimiaa
open Go.RowKit

theorem tmod_residue (a m : Int) (hm : 0 < m) : (a.tmod m + m).tmod m = a % m := by
  have h1 : -m < a.tmod m ∧ a.tmod m < m := ⟨Int.neg_lt_of_neg_lt (by have := Int.lt_tmod_of_pos a hm; omega), Int.tmod_lt_of_pos a hm⟩
  rw [Int.tmod_eq_emod_of_nonneg (by omega), Int.add_emod_right]
  rw [Int.tmod_eq_emod]
  split
  · rw [show ((0 : Nat) : Int) = 0 from rfl, Int.sub_zero, Int.emod_emod_of_dvd _ (Int.dvd_refl m)]
  · rw [show a % m - m.natAbs = a % m - m by omega, Int.sub_emod, Int.emod_self, Int.sub_zero, Int.emod_emod_of_dvd _ (Int.dvd_refl m), Int.emod_emod_of_dvd _ (Int.dvd_refl m)]

theorem residue_ok (a m : Int) (w : World) (hm : 1 ≤ m ∧ m ≤ 1000000000) :
    Calls Try.prog 44 #[.int .i64 a, .int .i64 m] w fun e w' => e = .returned (.int .i64 (a % m)) ∧ w = w' := by
  have h1 : -m < a.tmod m ∧ a.tmod m < m := ⟨by have := Int.lt_tmod_of_pos a (show 0 < m by omega); omega, Int.tmod_lt_of_pos a (by omega)⟩
  have e0 := tmod_residue a m (by omega)
  have e1 : IntKind.i64.wrap (a.tmod m) = a.tmod m := IntWalk.i64_in _ (by omega)
  have e2 : IntKind.i64.wrap (a.tmod m + m) = a.tmod m + m := IntWalk.i64_in _ (by omega)
  have h3 : 0 ≤ a % m ∧ a % m < m := ⟨Int.emod_nonneg _ (by omega), Int.emod_lt_of_pos _ (by omega)⟩
  have e3 : IntKind.i64.wrap (a % m) = a % m := IntWalk.i64_in _ (by omega)
  have hm0 : (m == 0) = false := by simp; omega
  have hm1 : ¬ m = 0 := by omega
  have hm2 : ¬ m = -1 := by omega
  go_enter Try.func44, Try.ntmps44
  go_wp2
  go_ret
  exact ⟨rfl, rfl⟩

end Go.Proofs.Ytljdneobfbimiaa
