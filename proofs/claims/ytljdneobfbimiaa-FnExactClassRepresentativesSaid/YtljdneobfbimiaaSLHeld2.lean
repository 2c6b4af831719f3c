/-
  The laws' look at marked rows of rows: laws.heldInt64SS, heldInt64SSS.
-/
import Derived.Test.YtljdneobfbimiaaK4
namespace Go.Proofs.Ytljdneobfbimiaa
open Go.RowKit

set_option maxHeartbeats 1000000 in
theorem heldInt64SS_ok (v : Value) (xs : List (List Int)) (q : Int) (w : World) (S : Nat → Prop) (h : Rows2 S w v (up2 q xs)) (hq0 : 0 ≤ q ∧ q + tot2 xs ≤ 1000000000) :
    Calls Try.prog 19 #[v, .int .i64 q] w (Ret w fun _ r => r = .int .i64 (q + tot2 xs)) := by
  have hq : 0 ≤ q ∧ q + szTo List.length xs xs.length ≤ 1000000000 := hq0
  clear hq0
  obtain ⟨a, cap, rfl, hcap, hmax⟩ := Sl.shape h
  have hul : (up2 q xs).length = xs.length := mixTo_len _ _ _ _ _
  rw [hul] at h hmax ⊢
  have HU := Lib.hid hul; clear hul
  go_enter Try.func19, Try.ntmps19
  go_wp2
  go_loopw [1, 5] (fun qv iv wr => ∃ k : Nat, iv = .int .i64 k ∧ qv = .int .i64 (q + szTo List.length xs k) ∧ k ≤ xs.length ∧ Ext w wr) (fun _ iv _ => xs.length - (intOf iv).toNat)
  case atStart => exact ⟨0, rfl, by simp [szTo], by omega, Ext.refl _⟩
  case round =>
    obtain ⟨k, rfl, rfl, hk, hg⟩ := hrel
    by_cases hlt : k < xs.length
    · obtain ⟨b, off, a2, cap2, rfl, _, _, hc2, hi2⟩ := Rows2.at (Rows2.ext h hg) k (by rw [HU.out]; exact hlt)
      have hgu : gt (up2 q xs) k = up1 (q + szTo List.length xs k) (gt xs k) := by
        unfold up2; rw [gt_mixTo _ _ _ _ _ _ hlt, if_pos hlt]
      have hm := szTo_mono List.length xs (show k + 1 ≤ xs.length by omega)
      have hst : szTo List.length xs (k + 1) = szTo List.length xs k + List.length (gt xs k) := rfl
      have hqk : 0 ≤ q + (szTo List.length xs k : Nat) ∧ q + (szTo List.length xs k : Nat) + (List.length (gt xs k) : Nat) ≤ 1000000000 := by omega
      have h0 : 0 ≤ q + (szTo List.length xs k : Nat) + (List.length (gt xs k) : Nat) := by omega
      have h1 : ¬ (q + (szTo List.length xs k : Nat) + (List.length (gt xs k) : Nat) < 0) := by omega
      have hi3 : Ints S wr (.slice a2 (gt (up2 q xs) k).length cap2) (up1 (q + szTo List.length xs k) (gt xs k)) := by rw [← hgu]; exact hi2
      have HQ := Lib.hid (And.intro hqk (And.intro hm hst)); clear hqk hm hst hi2 hgu
      generalize (gt (up2 q xs) k).length = m2 at *
      go_wp2_with fail
      refine Calls.mono (heldInt64S_ok _ ((gt xs k).length) (q + (szTo List.length xs k : Nat)) wr S hi3 HQ.out.1) ?_
      rintro eA wA ⟨vA, rfl, hgA, rfl⟩
      clear hc2 hi3
      go_wp2
      go_roundw
      case rel => exact ⟨k + 1, by go_num, by simp [szTo]; omega, by omega, grown_trans hg hgA⟩
      case measure => simp [intOf]; omega
    · have hke : k = xs.length := by omega
      subst hke
      go_wp2
      go_ret
      exact ⟨_, rfl, hg, rfl⟩

end Go.Proofs.Ytljdneobfbimiaa
