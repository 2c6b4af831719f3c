/-
  The Moebius values as they lie in the vector, from the last place to the first.
-/
import Derived.Test.YtigbpdaomgagiaaGreatK8
namespace Go.Proofs.YtigbpdaomgagiaaGreat
open Go.RowKit

theorem w64 (x : Int) : IntKind.i64.wrap x = wrap64 x := by
  rw [IntKind.wrap_i64]; unfold wrap64; omega

def wmob (ms : List Nat) : List Int := (mobL ms).map IntKind.i64.wrap
/-- the last k places are set -/
def vW (ms : List Nat) (k : Nat) : List Int := (List.range ms.length).map fun j => if ms.length ≤ j + k then IntKind.i64.wrap (gt (mobL ms) j) else 0

theorem wmob_len (ms : List Nat) : (wmob ms).length = ms.length := by unfold wmob; rw [List.length_map, mobL_len]
theorem vW_len (ms : List Nat) (k : Nat) : (vW ms k).length = ms.length := by unfold vW; simp
theorem gt_vW (ms : List Nat) (k : Nat) {j : Nat} (hj : j < ms.length) : gt (vW ms k) j = if ms.length ≤ j + k then IntKind.i64.wrap (gt (mobL ms) j) else 0 := by
  unfold vW
  rw [gt_map _ _ _ (by simpa using hj)]
  have : gt (List.range ms.length) j = j := by rw [gt_eq _ _ (by simpa using hj)]; simp
  rw [this]
theorem vW_zero (ms : List Nat) : vW ms 0 = List.replicate ms.length 0 := by
  refine ext_gt (by rw [vW_len, List.length_replicate]) fun i hi => ?_
  rw [vW_len] at hi
  rw [gt_vW ms 0 hi, if_neg (by omega), gt_replicate]
theorem vW_full (ms : List Nat) : vW ms ms.length = wmob ms := by
  refine ext_gt (by rw [vW_len, wmob_len]) fun i hi => ?_
  rw [vW_len] at hi
  rw [gt_vW ms _ hi, if_pos (by omega)]
  unfold wmob
  rw [gt_map _ _ _ (by rw [mobL_len]; exact hi)]
theorem vW_set (ms : List Nat) {i k : Nat} (h : i + k + 1 = ms.length) : (vW ms k).set i (IntKind.i64.wrap (gt (mobL ms) i)) = vW ms (k + 1) := by
  refine ext_gt (by rw [List.length_set, vW_len, vW_len]) fun j hj => ?_
  rw [List.length_set, vW_len] at hj
  rw [gt_vW ms _ hj]
  by_cases hij : i = j
  · subst hij
    rw [gt_set_eq _ _ _ (by rw [vW_len]; exact hj), if_pos (by omega)]
  · rw [gt_set_ne _ _ _ _ hij, gt_vW ms _ hj]
    by_cases hc : ms.length ≤ j + k
    · rw [if_pos hc, if_pos (by omega)]
    · rw [if_neg hc, if_neg (by omega)]

/-- the sum at place i so far, wrapped -/
def sW (ms : List Nat) (i t : Nat) : Int := IntKind.i64.wrap (sumTo ms (mobL ms) i t)
def nW (ms : List Nat) (i t : Nat) : Int := IntKind.i64.wrap (- sumTo ms (mobL ms) i t)
theorem sW_zero (ms : List Nat) (i : Nat) : sW ms i 0 = 0 := rfl
theorem nW_zero (ms : List Nat) (i : Nat) : nW ms i 0 = 0 := rfl
theorem nW_sW (ms : List Nat) (i t : Nat) : IntKind.i64.wrap (- sW ms i t) = nW ms i t := wrap_neg _
theorem sW_no {ms : List Nat} {i t : Nat} (h : inM (gt ms i) (gt ms (i + 1 + t)) = false) : sW ms i (t + 1) = sW ms i t := by
  unfold sW; simp only [sumTo, h]; simp
theorem nW_no {ms : List Nat} {i t : Nat} (h : inM (gt ms i) (gt ms (i + 1 + t)) = false) : nW ms i (t + 1) = nW ms i t := by
  unfold nW; simp only [sumTo, h]; simp
theorem sW_yes {ms : List Nat} {i t : Nat} (h : inM (gt ms i) (gt ms (i + 1 + t)) = true) : sW ms i (t + 1) = IntKind.i64.wrap (sW ms i t + IntKind.i64.wrap (gt (mobL ms) (i + 1 + t))) := by
  unfold sW; simp only [sumTo, h, if_true]; exact (wrap_add _ _).symm
theorem nW_yes {ms : List Nat} {i t : Nat} (h : inM (gt ms i) (gt ms (i + 1 + t)) = true) : nW ms i (t + 1) = IntKind.i64.wrap (nW ms i t - IntKind.i64.wrap (gt (mobL ms) (i + 1 + t))) := by
  unfold nW; simp only [sumTo, h, if_true]
  rw [wrap_sub]; congr 1; omega
theorem nW_end {ms : List Nat} {i k : Nat} (h : i + k + 1 = ms.length) (hk : k ≠ 0) : nW ms i k = IntKind.i64.wrap (gt (mobL ms) i) := by
  unfold nW
  rw [gt_mobL ms i (by omega), if_neg (by omega), show ms.length - (i + 1) = k by omega]
theorem vW_last {ms : List Nat} {i : Nat} (h : i + 0 + 1 = ms.length) : (vW ms 0).set i 1 = vW ms 1 := by
  have := vW_set ms (i := i) (k := 0) (by omega)
  rw [gt_mobL ms i (by omega), if_pos (by omega)] at this
  exact this
/-- the value at a later place -/
theorem gt_vW_set (ms : List Nat) {i k t : Nat} (x : Int) (h : i + k + 1 = ms.length) (ht : t < k) : gt ((vW ms k).set i x) (i + 1 + t) = IntKind.i64.wrap (gt (mobL ms) (i + 1 + t)) := by
  rw [gt_set_ne _ _ _ _ (by omega), gt_vW ms _ (by omega), if_pos (by omega)]
theorem gt_vW_at (ms : List Nat) {i k t : Nat} (h : i + k + 1 = ms.length) (ht : t < k) : gt (vW ms k) (i + 1 + t) = IntKind.i64.wrap (gt (mobL ms) (i + 1 + t)) := by
  rw [gt_vW ms _ (by omega), if_pos (by omega)]

end Go.Proofs.YtigbpdaomgagiaaGreat
