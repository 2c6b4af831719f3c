/-
  spec.l02Unit, l12Whole: the whole group's sequence.
-/
import Derived.Test.YtigbpdaomgagiaaGreatSMeetW
import Derived.Test.YtigbpdaomgagiaaGreatSCoreLaw
namespace Go.Proofs.YtigbpdaomgagiaaGreat
open Go.RowKit

set_option maxRecDepth 100000 in
set_option maxHeartbeats 2000000 in
theorem l02Unit_ok (n : Nat) (w : World) (hn : n ≤ 6) : Calls Tryz.prog 207 #[.int .i64 n] w (Ret w fun w' v => Rows2 Any w' v (gensOf n)) := by
  have hgl := gensOf_len n
  have HGL := Lib.hid hgl; clear hgl
  go_enter Tryz.func207, Tryz.ntmps207
  go_wp2
  go_loopw [3, 4] (fun ov iv wr => ∃ (k : Nat) (v4 : Value), v4 = ov ∧ iv = .int .i64 k ∧ k ≤ n ∧ Ext w wr ∧ RowsO w.heap.size wr v4 ((gensOf n).take k)) (fun _ iv _ => n - (intOf iv).toNat)
  case atStart => exact ⟨0, _, rfl, rfl, by omega, World.grownBy_alloc _ _ _, [], fun _ _ => False, rfl, World.ownsRow_lit w #[] 0 (Nat.le_refl _) (by decide) rfl, by simp, by simp, by simp⟩
  case round =>
    obtain ⟨k, v4, rfl, rfl, hk, hg, hO⟩ := hrel
    by_cases hlt : k < n
    · have hlt' : (k : Int) < n := by omega
      have hstep : (gensOf n).take (k + 1) = (gensOf n).take k ++ [unitV n k] := by rw [take_succ_gt _ k (by rw [HGL.out]; exact hlt), gensOf_at n k hlt]
      have htl : ((gensOf n).take k).length ≤ 1000000 := by rw [List.length_take]; omega
      have hul : (unitV n k).length = n := by simp [unitV]
      have HST := Lib.hid (And.intro hstep (And.intro htl hul)); clear hstep htl hul
      go_wp2_with (first
        | (at_make; refine wp_make_ints rfl _ _ rfl wr.heap.size n wr.heap.size rfl _ rfl rfl rfl (by omega) (Nat.le_refl _) ?_; intro w1 ho1 hg1 hlt1; have hc := ho1.cell k (by simp; omega); have hf := ho1.frozen k)
        | (at_builtin; go_must (refine wp_app_row rfl _ _ rfl w.heap.size wr _ v4 _ ((gensOf n).take k) (unitV n k) rfl hO (grown_own hg1 (ho1.store k 1).2 (fun j hj hlt => by cases hj; omega)) (OwnIn.of (base := wr.heap.size) (F := From wr.heap.size) (l := unitV n k) (ho1.store k 1).1 (by have := HST.out.2.2; omega) (fun j h1 _ => h1)) rfl (congrArg (fun z => Value.slice (some ⟨z, 0, none⟩) 1 1) (show w1.heap.size = (w1.setCell ⟨wr.heap.size, k, none⟩ (.int .i64 1)).heap.size by simp [World.setCell])) HST.out.2.1 hg.size ?_); intro v5 w5 hO5 hg5 hg6; have hgw5 := hO.extw hg (Nat.le_refl _) hg5)
        | fail)
      go_roundw
      case rel => exact ⟨k + 1, v5, rfl, by go_num, by omega, hgw5, by rw [HST.out.1]; exact hO5⟩
      case measure => simp [intOf]; omega
    · have hke : k = n := by omega
      subst hke
      rw [List.take_of_length_le (by rw [HGL.out]; exact Nat.le_refl _)] at hO
      have hR := RowsD.rows (hO.toD (by rw [HGL.out]; omega))
      obtain ⟨az, capz, hvz, _, _⟩ := Sl.shape hR
      subst hvz
      go_wp2
      go_ret
      exact ⟨_, rfl, hg, Rows2.sub hR (fun _ _ _ => trivial)⟩

theorem l12Whole_ok (P : Pr) (hP : Valid P) (w : World) (pv : Value) (Sp : Nat → Prop) (hpv : PresV Sp w pv P) :
    Calls Tryz.prog 156 #[pv] w (Ret w fun w' v => Rows2 Any w' v (gensOf P.orders.length)) := by
  obtain ⟨vo, vp, vc, rfl, h3⟩ := hpv
  have hp0 := PresP.box h3 31
  have hg0 : Ext w (w.alloc (.cells #[vo, vp, vc] 31)) := World.grownBy_alloc _ _ _
  have hn6 := hP.n6
  obtain ⟨ao, capo, hco, hoi⟩ := hp0.ordAt
  go_enter Tryz.func156, Tryz.ntmps156
  go_wp2_with fail
  refine Calls.mono (l02Unit_ok P.orders.length _ hn6) ?_
  rintro e1 w1 ⟨v1, rfl, hg1, hR⟩
  have hgl := gensOf_len P.orders.length
  have HGL := Lib.hid hgl; clear hgl
  obtain ⟨az, capz, hvz, _, _⟩ := Sl.shape hR
  subst hvz
  go_wp2
  go_ret
  exact ⟨_, rfl, grown_trans hg0 hg1, hR⟩

end Go.Proofs.YtigbpdaomgagiaaGreat
