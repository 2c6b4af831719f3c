/-
  The laws' look at marked rows of rows: laws.heldInt64SS, heldInt64SSS.
-/
import Derived.Test.YtdklekdpdbjfiaaGreatK2
namespace Go.Proofs.YtdklekdpdbjfiaaGreat
open Go.RowKit

set_option maxHeartbeats 1000000 in
theorem heldInt64SSS_ok (v : Value) (xs : List (List (List Int))) (q : Int) (w : World) (S : Nat → Prop) (h : Rows3 S w v (up3 q xs)) (hq0 : 0 ≤ q ∧ q + tot3 xs ≤ 1000000000) :
    Calls Tryz.prog 37 #[v, .int .i64 q] w (Ret w fun _ r => r = .int .i64 (q + tot3 xs)) := by
  have hq : 0 ≤ q ∧ q + szTo tot2 xs xs.length ≤ 1000000000 := hq0
  clear hq0
  obtain ⟨a, cap, rfl, hcap, hmax⟩ := Sl.shape h
  have hul : (up3 q xs).length = xs.length := mixTo_len _ _ _ _ _
  rw [hul] at h hmax ⊢
  have HU := Lib.hid hul; clear hul
  go_enter Tryz.func37, Tryz.ntmps37
  go_wp2
  go_loopw [1, 5] (fun qv iv wr => ∃ k : Nat, iv = .int .i64 k ∧ qv = .int .i64 (q + szTo tot2 xs k) ∧ k ≤ xs.length ∧ Ext w wr) (fun _ iv _ => xs.length - (intOf iv).toNat)
  case atStart => exact ⟨0, rfl, by simp [szTo], by omega, Ext.refl _⟩
  case round =>
    obtain ⟨k, rfl, rfl, hk, hg⟩ := hrel
    by_cases hlt : k < xs.length
    · obtain ⟨b, off, a2, cap2, rfl, _, _, hc2, hi2⟩ := Rows3.at (Rows3.ext h hg) k (by rw [HU.out]; exact hlt)
      have hgu : gt (up3 q xs) k = up2 (q + szTo tot2 xs k) (gt xs k) := by
        unfold up3; rw [gt_mixTo _ _ _ _ _ _ hlt, if_pos hlt]
      have hm := szTo_mono tot2 xs (show k + 1 ≤ xs.length by omega)
      have hst : szTo tot2 xs (k + 1) = szTo tot2 xs k + tot2 (gt xs k) := rfl
      have hqk : 0 ≤ q + (szTo tot2 xs k : Nat) ∧ q + (szTo tot2 xs k : Nat) + (tot2 (gt xs k) : Nat) ≤ 1000000000 := by omega
      have h0 : 0 ≤ q + (szTo tot2 xs k : Nat) + (tot2 (gt xs k) : Nat) := by omega
      have h1 : ¬ (q + (szTo tot2 xs k : Nat) + (tot2 (gt xs k) : Nat) < 0) := by omega
      have hi3 : Rows2 S wr (.slice a2 (gt (up3 q xs) k).length cap2) (up2 (q + szTo tot2 xs k) (gt xs k)) := by rw [← hgu]; exact hi2
      have HQ := Lib.hid (And.intro hqk (And.intro hm hst)); clear hqk hm hst hi2 hgu
      generalize (gt (up3 q xs) k).length = m2 at *
      go_wp2_with fail
      refine Calls.mono (heldInt64SS_ok _ ((gt xs k)) (q + (szTo tot2 xs k : Nat)) wr S hi3 HQ.out.1) ?_
      rintro eA wA ⟨vA, rfl, hgA, rfl⟩
      clear hc2 hi3
      go_wp2
      go_roundw
      case rel => exact ⟨k + 1, by go_num, by simp [szTo]; omega, by omega, grown_trans hg hgA⟩
      case measure => simp [intOf]; omega
    · have hke : k = xs.length := by omega
      subst hke
      go_wp2
      go_ret
      exact ⟨_, rfl, hg, rfl⟩

end Go.Proofs.YtdklekdpdbjfiaaGreat
