/-
  impl.ClassRepresentatives: the first rows of the classes; each lies in a block of its own.
-/
import Derived.Test.YtljdneobfbimiaaK7
import Derived.Test.YtljdneobfbimiaaK3
import Derived.Test.YtljdneobfbimiaaSRepsEq
namespace Go.Proofs.Ytljdneobfbimiaa
open Go.Proofs Go.RowKit

theorem iCls_ne {P : Pr} (G : Grp P) : ∀ C ∈ iCls P, 0 < C.length := by
  intro C hC
  have : ∀ k, k ≤ (ordP P).toNat → ∀ C ∈ iClsTo P k, 0 < C.length := by
    intro k
    induction k with
    | zero => intro _ C h; cases h
    | succ k ih =>
      intro hk C h
      rw [iClsTo] at h
      split at h
      · exact ih (by omega) C h
      · rcases List.mem_append.1 h with h1 | h1
        · exact ih (by omega) C h1
        · rw [List.mem_singleton.1 h1]
          have hx := elAt_vec G.v (k : Int) (by omega)
          have := (G.sortL_ok hx).2 _ |>.2 (G.Cj_refl hx)
          exact List.length_pos_of_mem this
  exact this _ (Nat.le_refl _) C hC

set_option maxRecDepth 100000 in
set_option maxHeartbeats 8000000 in
theorem iClassReps_ok (P : Pr) (w : World) (pv : Value) (Sp : Nat → Prop) (hpv : PresV Sp w pv P) :
    Calls Try.prog 16 #[pv] w (Ret w fun w' v => ∃ r, v = .tuple #[r, .int .i64 (clsCode P (iconsB P))] ∧ ((clsCode P (iconsB P) ≠ 0 ∧ r = .slice none 0 0) ∨ (clsCode P (iconsB P) = 0 ∧ RowsO w.heap.size w' r (repsOf P)))) := by
  obtain ⟨vo, vp, vc, rfl, h3⟩ := hpv
  have hp0 := PresP.box h3 30
  have hg0 : Ext w (w.alloc (.cells #[vo, vp, vc] 30)) := World.grownBy_alloc _ _ _
  go_enter Try.func16, Try.ntmps16
  go_wp2_with fail
  refine Calls.mono (classesOf_ok P _ _ _ hp0) ?_
  rintro eA wA ⟨vA, rfl, hgA, r, rfl, hr⟩
  have hgw := grown_trans hg0 hgA
  rcases hr with ⟨hz, rfl⟩ | ⟨hz, hC⟩
  · have hz' : (clsCode P (iconsB P) != 0) = true := by simpa using hz
    go_wp2
    exact bodyPost_ret (v := .tuple #[.slice none 0 0, .int .i64 (clsCode P (iconsB P))]) (by simp [results, Try.results16, go_sem]) rfl ⟨_, rfl, hgw, _, rfl, .inl ⟨hz, rfl⟩⟩
  · have hlen : (iCls P).length ≤ (ordP P).toNat := iClsTo_len P _
    have hi : iconsB P = true := by
      cases hi : iconsB P with
      | false => rw [hi] at hz; simp [clsCode] at hz
      | true => rfl
    have h128 : ordP P ≤ 128 := by
      rw [hi] at hz; simp only [clsCode, if_true] at hz; split at hz <;> omega
    have GP : Grp P := grp_of_r (by rw [← icons_eq P]; exact hi)
    have hne := iCls_ne GP
    clear hi
    obtain ⟨G, H, hA, hG⟩ := SlD.g (hC.toD (by omega))
    obtain ⟨ac, capc, hv, hl, hcell⟩ := hG
    subst hv
    -- the first rows, by index
    have hrow : ∀ i, i < (iCls P).length → ∃ u : Value × Value, ∃ b off b2 off2 a2 n2 c2, ac = some ⟨b, off, none⟩ ∧ b < wA.heap.size ∧ wA.cell? ⟨b, off + i, none⟩ = some u.1 ∧ u.1 = .slice a2 n2 c2 ∧ 0 < n2 ∧ a2 = some ⟨b2, off2, none⟩ ∧ b2 < wA.heap.size ∧
        wA.cell? ⟨b2, off2, none⟩ = some u.2 ∧ OwnIn (fun k => G i k ∧ k < wA.heap.size) wA u.2 (gt (gt (iCls P) i) 0) := fun i hi => by
      obtain ⟨b, off, u, e1, e2, e3, e4, e5⟩ := hcell i hi
      obtain ⟨G2, H2, hA2, a2, c2, rfl, hl2, hc2⟩ := SlD.g e5
      have h0 := hne _ (gt_mem hi)
      obtain ⟨b2, off2, u2, f1, f2, f3, f4, f5⟩ := hc2 0 h0
      refine ⟨(.slice a2 (gt (iCls P) i).length c2, u2), b, off, b2, off2, a2, _, c2, e1, e3, e4, rfl, h0, f1, f3, by simpa using f4, rdOwn.mono f5 (fun k hk hlt => ⟨⟨(hA2.2.1 0 k h0 hk).1, hlt⟩, hlt, rfl⟩)⟩
    obtain ⟨U, hU⟩ := Go.Deep.choose_lt (α := Value × Value) hrow
    have HU := Lib.hid hU; clear hU hrow hcell
    have HZ := Lib.hid hz
    rw [hz]
    clear hz
    go_wp2
    go_loopw [6, 18] (fun v kv wr => ∃ k : Nat, kv = .int .i64 k ∧ k ≤ (iCls P).length ∧ Ext wA wr ∧ OwnV wA.heap.size 22 wr v ((List.range k).map (fun i => (U i).2))) (fun _ kv _ => (iCls P).length - (intOf kv).toNat)
    case atStart => exact ⟨0, rfl, by omega, Ext.refl _, World.ownsRow_nil _ _ _ _⟩
    case round =>
      obtain ⟨k, rfl, hk, hg, hO⟩ := hrel
      by_cases hlt : k < (iCls P).length
      · have hlt' : (k : Int) < (iCls P).length := by omega
        obtain ⟨b, off, b2, off2, a2, n2, c2, e1, e2, e3, e4, e5, e6, e7, e8, e9⟩ := HU.out k hlt
        cases e1; cases e6
        rw [e4] at e3
        obtain ⟨au, nu, cu, hu⟩ : ∃ au nu cu, (U k).2 = .slice au nu cu := by obtain ⟨a, c, hv, _⟩ := e9.ints.shape; exact ⟨_, _, _, hv⟩
        have hone : (U k).2.oneCell' = true := rdOwn.one e9
        rw [hu] at e8
        have hc1 := hg.cell e3 (by simp)
        have hc2 := hg.cell e8 (by simp)
        have hn0 : (0 : Int) < n2 := by omega
        have HK := Lib.hid (And.intro hu hone); clear e3 e4 e8 e9 hu hone
        have hnews : ∀ j, j < 1 → ∃ b off, (some (⟨wr.heap.size, 0, none⟩ : Addr)) = some ⟨b, off, none⟩ ∧ (wr.alloc (.cells #[.slice au nu cu] 22)).cell? ⟨b, off + j, none⟩ = some (gt [Value.slice au nu cu] j) := fun j hj => by
          have h0 : j = 0 := by omega
          subst h0
          exact ⟨wr.heap.size, 0, rfl, by rw [World.cell?_alloc_at _ _ _ _ rfl]; rfl⟩
        have hO1 : OwnV wA.heap.size 22 (wr.alloc (.cells #[.slice au nu cu] 22)) u6 ((List.range k).map (fun i => (U i).2)) := hO.kept (World.grownBy_alloc wr _ none) (by cases _hv : Value.ownBlock u6 <;> simp)
        have HN := Lib.hid (And.intro hnews hO1); clear hnews hO1
        go_wp2_with (at_builtin; go_must (refine wp_app 23 22 (.slice none 0 0) 24 und_rows Try.infoRow rfl (by decide) rfl _ _ rfl wA.heap.size _ ((List.range k).map (fun i => (U i).2)) rfl HN.out.2 (some ⟨wr.heap.size, 0, none⟩) 1 1 [.slice au nu cu] rfl rfl (by simp) HN.out.1 (fun u hu => by simp at hu; subst hu; rfl) (by simp; omega) (by have := hg.size; simp; omega) ?_); intro v5 w5 hO5 hg5 _ _)
        have hgx : Ext wA w5 := grown_own (grown_trans hg (World.grownBy_alloc _ _ _)) hg5 (fun j hj hlt => by have := (hO.lt j hj).1; omega)
        go_roundw
        case rel => exact ⟨k + 1, by go_num, by omega, hgx, by rw [List.range_succ, List.map_append, List.map_cons, List.map_nil, HK.out.1]; exact hO5⟩
        case measure => simp [intOf]; omega
      · have hke : k = (iCls P).length := by omega
        subst hke
        have hfin : RowsO w.heap.size wr u6 (repsOf P) := by
          have hlr : (repsOf P).length = (iCls P).length := by unfold repsOf; rw [List.length_map]
          have hgV : ∀ i, i < (iCls P).length → gt ((List.range (iCls P).length).map (fun i => (U i).2)) i = (U i).2 := fun i hi => by simp [gt, hi]
          refine ⟨(List.range (iCls P).length).map (fun i => (U i).2), fun i k => G i k ∧ k < wA.heap.size, by rw [hlr]; simp, ?_, fun i k hi hk => ?_, fun i j k hi hj hk hk' => ?_, fun i hi => ?_⟩
          · obtain ⟨q1, q2⟩ := hO
            refine ⟨q1, q2.imp id (fun ⟨g, cap, cur, a1, a2, a3⟩ => ⟨g, cap, cur, a1, by have := hgw.size; omega, a3⟩)⟩
          · rw [hlr] at hi
            have h1 := (hA.2.1 i k hi hk.1).1
            have h2 : w.heap.size ≤ k := by have h1 : _ ≤ k := h1; have := hg0.size; omega
            exact ⟨h2, fun e => by have := (hO.lt k e).1; omega, by have := hg.size; omega⟩
          · rw [hlr] at hi hj
            exact hA.2.2 i j k hi hj hk.1 hk'.1
          · rw [hlr] at hi
            obtain ⟨_, _, _, _, _, _, _, _, _, _, _, _, _, _, _, e9⟩ := HU.out i hi
            rw [hgV i hi]
            have hgr : gt (repsOf P) i = gt (gt (iCls P) i) 0 := gt_map _ _ _ hi
            rw [hgr]
            exact rdOwn.mono e9 (fun k hk hlt => ⟨hk, Nat.lt_of_lt_of_le hlt hg.size, hg.block k hlt (by simp)⟩)
        have hlr : (repsOf P).length ≤ 128 := by unfold repsOf; rw [List.length_map]; omega
        obtain ⟨az, caps, hvz, _, _⟩ := SlD.shape (hfin.toD (by omega))
        subst hvz
        clear hO
        go_wp2
        exact bodyPost_ret (v := .tuple #[.slice az (repsOf P).length caps, .int .i64 0]) (by simp [results, Try.results16, go_sem]) rfl ⟨_, rfl, grown_trans hgw hg, _, by rw [HZ.out], .inr ⟨HZ.out, hfin⟩⟩

end Go.Proofs.Ytljdneobfbimiaa
