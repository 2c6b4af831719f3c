/-
  ClassSizes on both sides.
-/
import Derived.Test.YtljdneobfbimiaaK7
import Derived.Test.YtljdneobfbimiaaSClsSz
import Derived.Test.YtljdneobfbimiaaSSClsSz
namespace Go.Proofs.Ytljdneobfbimiaa
open Go.RowKit

open Classical in
/-- what both sides hand back -/
noncomputable def szL (P : Pr) : List Int := if clsCode P (iconsB P) = 0 then iSizes P else []

theorem szL_len (P : Pr) : (szL P).length ≤ 128 := by
  unfold szL
  split
  · rename_i h
    have hlen : (iCls P).length ≤ (ordP P).toNat := iClsTo_len P _
    have h128 : ordP P ≤ 128 := by
      cases hi : iconsB P with
      | false => rw [hi] at h; simp [clsCode] at h
      | true => rw [hi] at h; simp only [clsCode, if_true] at h; split at h <;> omega
    unfold iSizes; rw [List.length_map]; omega
  · simp

theorem iSizes2_ok (P : Pr) (w : World) (pv : Value) (Sp : Nat → Prop) (hpv : PresV Sp w pv P) :
    Calls Try.prog 9 #[pv] w (Ret w fun w' v => ∃ a n c, v = .tuple #[.slice a n c, .int .i64 (clsCode P (iconsB P))] ∧ Own w.heap.size w' (.slice a n c) (szL P)) := by
  refine Calls.mono (iClassSizes_ok P w pv Sp hpv) ?_
  rintro e w' ⟨v, rfl, hg, r, rfl, h⟩
  rcases h with ⟨hz, rfl⟩ | ⟨hz, hO⟩
  · exact ⟨_, rfl, hg, _, _, _, rfl, by unfold szL; rw [if_neg hz]; exact World.ownsRow_nil _ _ _ _⟩
  · have hl := szL_len P
    have e : szL P = iSizes P := by unfold szL; rw [if_pos hz]
    rw [e] at hl
    obtain ⟨a, c, rfl, _⟩ := (hO.ints (by omega)).shape
    exact ⟨_, rfl, hg, _, _, _, rfl, by rw [e]; exact hO⟩

theorem sSizes2_ok (P : Pr) (w : World) (pv : Value) (Sp : Nat → Prop) (hpv : PresV Sp w pv P) :
    Calls Try.prog 7 #[pv] w (Ret w fun w' v => ∃ a n c, v = .tuple #[.slice a n c, .int .i64 (clsCode P (iconsB P))] ∧ Own w.heap.size w' (.slice a n c) (szL P)) := by
  refine Calls.mono (sClassSizes_ok P (fun h _ => (grp_of_r h).rCls_bd) w pv Sp hpv) ?_
  rintro e w' ⟨v, rfl, hg, r, rfl, h⟩
  rw [← icons_eq P] at h ⊢
  rcases h with ⟨hz, rfl⟩ | ⟨hz, hO⟩
  · exact ⟨_, rfl, hg, _, _, _, rfl, by unfold szL; rw [if_neg hz]; exact World.ownsRow_nil _ _ _ _⟩
  · have hl := szL_len P
    have hr : rconsB P = true := by
      rw [← icons_eq P]
      cases hi : iconsB P with
      | false => rw [hi] at hz; simp [clsCode] at hz
      | true => rfl
    have e : szL P = rSizes P := by unfold szL; rw [if_pos hz]; exact (grp_of_r hr).sizes_eq
    rw [e] at hl
    obtain ⟨a, c, rfl, _⟩ := (hO.ints (by omega)).shape
    exact ⟨_, rfl, hg, _, _, _, rfl, by rw [e]; exact hO⟩

end Go.Proofs.Ytljdneobfbimiaa
