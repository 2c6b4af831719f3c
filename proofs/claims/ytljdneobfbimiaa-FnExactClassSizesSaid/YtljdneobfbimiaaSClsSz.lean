/-
  impl.ClassSizes.
-/
import Derived.Test.YtljdneobfbimiaaK7
namespace Go.Proofs.Ytljdneobfbimiaa
open Go.Proofs Go.RowKit

set_option maxRecDepth 100000 in
set_option maxHeartbeats 8000000 in
theorem iClassSizes_ok (P : Pr) (w : World) (pv : Value) (Sp : Nat → Prop) (hpv : PresV Sp w pv P) :
    Calls Try.prog 9 #[pv] w (Ret w fun w' v => ∃ r, v = .tuple #[r, .int .i64 (clsCode P (iconsB P))] ∧ ((clsCode P (iconsB P) ≠ 0 ∧ r = .slice none 0 0) ∨ (clsCode P (iconsB P) = 0 ∧ Own w.heap.size w' r (iSizes P)))) := by
  obtain ⟨vo, vp, vc, rfl, h3⟩ := hpv
  have hp0 := PresP.box h3 30
  have hg0 : Ext w (w.alloc (.cells #[vo, vp, vc] 30)) := World.grownBy_alloc _ _ _
  go_enter Try.func9, Try.ntmps9
  go_wp2_with fail
  refine Calls.mono (classesOf_ok P _ _ _ hp0) ?_
  rintro eA wA ⟨vA, rfl, hgA, r, rfl, hr⟩
  have hgw := grown_trans hg0 hgA
  rcases hr with ⟨hz, rfl⟩ | ⟨hz, hC⟩
  · have hz' : (clsCode P (iconsB P) != 0) = true := by simpa using hz
    go_wp2
    exact bodyPost_ret (v := .tuple #[.slice none 0 0, .int .i64 (clsCode P (iconsB P))]) (by simp [results, Try.results9, go_sem]) rfl ⟨_, rfl, hgw, _, rfl, .inl ⟨hz, rfl⟩⟩
  · have hlen : (iCls P).length ≤ (ordP P).toNat := iClsTo_len P _
    have h128 : ordP P ≤ 128 := by
      cases hi : iconsB P with
      | false => rw [hi] at hz; simp [clsCode] at hz
      | true => rw [hi] at hz; simp only [clsCode, if_true] at hz; split at hz <;> omega
    have hCd := Rows3D.rows (hC.toD (by omega))
    obtain ⟨ac, capc, rfl, _, _⟩ := Sl.shape hCd
    have HZ := Lib.hid hz
    rw [hz]
    clear hz
    go_wp2
    go_loopw [6, 18] (fun v kv wr => ∃ k : Nat, kv = .int .i64 k ∧ k ≤ (iCls P).length ∧ Ext wA wr ∧ Own wA.heap.size wr v ((iSizes P).take k)) (fun _ kv _ => (iCls P).length - (intOf kv).toNat)
    case atStart => exact ⟨0, rfl, by omega, Ext.refl _, World.ownsRow_nil _ _ _ _⟩
    case round =>
      obtain ⟨k, rfl, hk, hg, hO⟩ := hrel
      by_cases hlt : k < (iCls P).length
      · have hlt' : (k : Int) < (iCls P).length := by omega
        obtain ⟨b3, o3, a3, c3, rfl, _, _, hc3, hi3⟩ := Rows3.at (hCd.ext hg) k hlt
        have hsl : (iSizes P).length = (iCls P).length := by simp [iSizes]
        have hsz : gt (iSizes P) k = ((gt (iCls P) k).length : Int) := gt_map _ _ _ hlt
        have htk : (iSizes P).take (k + 1) = (iSizes P).take k ++ [((gt (iCls P) k).length : Int)] := by
          rw [← hsz, List.take_add_one]; simp [gt, show k < (iSizes P).length by omega]
        have HT := Lib.hid (And.intro htk hsl); clear htk hsl hsz
        clear hi3
        go_wp2_with (at_builtin; go_must (refine wp_app_ints rfl _ _ rfl wA.heap.size _ ((iSizes P).take k) rfl (hO.ext0 (World.grownBy_alloc _ _ _)) _ [((gt (iCls P) k).length : Int)] rfl Any (Own.ints (World.ownsRow_lit wr #[.int .i64 ((gt (iCls P) k).length : Int)] 1 (Nat.zero_le _) (by decide) rfl) (by simp)) (by simp; omega) (by have := hg.size; simp; omega) ?_); intro v5 w5 hO5 hg5 _)
        have hgx : Ext wA w5 := grown_own (grown_trans hg (World.grownBy_alloc _ _ _)) hg5 (fun j hj hlt => by have := (hO.lt j hj).1; omega)
        go_roundw
        case rel => exact ⟨k + 1, by go_num, by omega, hgx, by rw [HT.out.1]; exact hO5⟩
        case measure => simp [intOf]; omega
      · have hke : k = (iCls P).length := by omega
        subst hke
        have htk : (iSizes P).take (iCls P).length = iSizes P := List.take_of_length_le (by simp [iSizes])
        rw [htk] at hO
        clear htk
        obtain ⟨az, caps, rfl, _, _⟩ := (hO.ints (by simp [iSizes]; omega)).shape
        go_wp2
        exact bodyPost_ret (v := .tuple #[.slice az (iSizes P).length caps, .int .i64 0]) (by simp [results, Try.results9, go_sem]) rfl ⟨_, rfl, grown_trans hgw hg, _, by rw [HZ.out], .inr ⟨HZ.out, hO.weak hgw.size⟩⟩

end Go.Proofs.Ytljdneobfbimiaa
