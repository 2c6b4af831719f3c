/-
  cmp.Compare at int64 and slices.Compare at []int64.
-/
import Derived.Test.YtdfjgpioaomceaaAllEl
namespace Go.Proofs.Ytdfjgpioaomceaa
open Go.RowKit

def cmpI (a b : Int) : Int := if a < b then -1 else if b < a then 1 else 0

theorem isNaN_ok (a : Int) (w : World) : Calls Try.prog 76 #[.int .i64 a] w fun e w' => e = .returned (.bool false) ∧ w' = w := by
  go_enter Try.func76, Try.ntmps76
  go_wp2
  exact bodyPost_ret (v := .bool false) (by simp [results, Try.results76, go_sem]) rfl ⟨rfl, rfl⟩

set_option maxHeartbeats 1000000 in
theorem cmpI_ok (a b : Int) (w : World) : Calls Try.prog 61 #[.int .i64 a, .int .i64 b] w fun e w' => e = .returned (.int .i64 (cmpI a b)) ∧ w' = w := by
  go_enter Try.func61, Try.ntmps61
  go_wp2_with fail
  refine Calls.mono (isNaN_ok a w) ?_
  rintro e1 w1 ⟨rfl, rfl⟩
  go_wp2_with fail
  refine Calls.mono (isNaN_ok b _) ?_
  rintro e1 w1 ⟨rfl, rfl⟩
  by_cases h1 : a < b
  · go_wp2
    exact bodyPost_ret (v := .int .i64 (-1)) (by simp [results, Try.results61, go_sem]) rfl ⟨by simp [cmpI, h1], rfl⟩
  · by_cases h2 : b < a
    · have h1' : b ≤ a := by omega
      go_wp2
      exact bodyPost_ret (v := .int .i64 1) (by simp [results, Try.results61, go_sem]) rfl ⟨by simp [cmpI, h1, h2], rfl⟩
    · have h1' : b = a := by omega
      subst h1'
      clear h1 h2
      go_wp2
      exact bodyPost_ret (v := .int .i64 0) (by simp [results, Try.results61, go_sem]) rfl ⟨by simp [cmpI], rfl⟩

/-- the order of slices.Compare -/
def cmpL : List Int → List Int → Int
  | [], [] => 0
  | [], _ :: _ => -1
  | _ :: _, [] => 1
  | x :: xs, y :: ys => if cmpI x y = 0 then cmpL xs ys else cmpI x y

theorem drop_gt {l : List Int} {k : Nat} (h : k < l.length) : l.drop k = gt l k :: l.drop (k + 1) := by
  rw [List.drop_eq_getElem_cons h]; simp [gt, h]

set_option maxHeartbeats 4000000 in
theorem sCompare_ok (a b : Value) (X Y : List Int) (w : World) (Sa Sb : Nat → Prop) (ha : Ints Sa w a X) (hb : Ints Sb w b Y) :
    Calls Try.prog 46 #[a, b] w fun e w' => e = .returned (.int .i64 (cmpL X Y)) ∧ w' = w := by
  obtain ⟨aa, capa, rfl, hla, _⟩ := ha.shape
  obtain ⟨ab, capb, rfl, hlb, _⟩ := hb.shape
  go_enter Try.func46, Try.ntmps46
  go_wp2
  go_loopw [11] (fun v wr => ∃ k : Nat, v = .int .i64 k ∧ k ≤ X.length ∧ k ≤ Y.length ∧ wr = w ∧ cmpL X Y = cmpL (X.drop k) (Y.drop k)) (fun v _ => X.length - (intOf v).toNat)
  case atStart => exact ⟨0, rfl, by omega, by omega, rfl, by simp⟩
  case round =>
    obtain ⟨k, rfl, hk, hkY, rfl, hcmp⟩ := hrel
    by_cases hlt : k < X.length
    · obtain ⟨ba, oa, rfl, _, _, hca⟩ := Ints.at ha k hlt
      by_cases hltY : k < Y.length
      · obtain ⟨bb, ob, rfl, _, _, hcb⟩ := Ints.at hb k hltY
        rw [drop_gt hlt, drop_gt hltY] at hcmp
        simp only [cmpL] at hcmp
        have HC := Lib.hid hcmp; clear hcmp
        go_wp2_with fail
        refine Calls.mono (cmpI_ok (gt X k) (gt Y k) _) ?_
        rintro e1 w1 ⟨rfl, rfl⟩
        by_cases hz : cmpI (gt X k) (gt Y k) = 0
        · have hcn := HC.out
          rw [if_pos hz] at hcn
          have HC2 := Lib.hid hcn; clear hcn HC
          go_wp2
          go_roundw
          case rel => exact ⟨k + 1, by go_num, by omega, by omega, trivial, HC2.out⟩
          case measure => simp [intOf]; omega
        · have hcn := HC.out
          rw [if_neg hz] at hcn
          have HC2 := Lib.hid hcn; clear hcn HC
          go_wp2
          exact bodyPost_ret (v := .int .i64 (cmpI (gt X k) (gt Y k))) (by simp [results, Try.results46, go_sem]) rfl ⟨by rw [HC2.out], rfl⟩
      · have hke : k = Y.length := by omega
        subst hke
        rw [drop_gt hlt, List.drop_length] at hcmp
        simp only [cmpL] at hcmp
        have HC := Lib.hid hcmp; clear hcmp
        go_wp2
        exact bodyPost_ret (v := .int .i64 1) (by simp [results, Try.results46, go_sem]) rfl ⟨by rw [HC.out], rfl⟩
    · have hke : k = X.length := by omega
      subst hke
      rw [List.drop_length] at hcmp
      by_cases hltY : X.length < Y.length
      · rw [drop_gt hltY] at hcmp
        simp only [cmpL] at hcmp
        have HC := Lib.hid hcmp; clear hcmp
        go_wp2
        exact bodyPost_ret (v := .int .i64 (-1)) (by simp [results, Try.results46, go_sem]) rfl ⟨by rw [HC.out], rfl⟩
      · have hle : Y.length ≤ X.length := by omega
        rw [List.drop_of_length_le hle] at hcmp
        simp only [cmpL] at hcmp
        have HC := Lib.hid hcmp; clear hcmp
        go_wp2
        exact bodyPost_ret (v := .int .i64 0) (by simp [results, Try.results46, go_sem]) rfl ⟨by rw [HC.out], rfl⟩

end Go.Proofs.Ytdfjgpioaomceaa
