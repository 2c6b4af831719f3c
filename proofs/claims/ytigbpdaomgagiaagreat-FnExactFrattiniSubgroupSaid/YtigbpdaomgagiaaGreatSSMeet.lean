/-
  The reference's intersections, conjugates and sizes of product sets: spec.l13Meet, l13Conj, l13Size; impl.productSize.
-/
import Derived.Test.YtigbpdaomgagiaaGreatSMeetW
import Derived.Test.YtigbpdaomgagiaaGreatSConjsW
namespace Go.Proofs.YtigbpdaomgagiaaGreat
open Go.RowKit

open Classical in
noncomputable def inF (E : List (List Int)) (K : List Int → Prop) (k : Nat) : List (List Int) := (E.take k).filter (fun x => decide (K x))

theorem inF_succ {E : List (List Int)} {K : List Int → Prop} {k : Nat} (hk : k < E.length) (hK : K (gt E k)) : inF E K (k + 1) = inF E K k ++ [gt E k] := by
  unfold inF
  rw [take_succ_gt E k hk, List.filter_append]
  simp [hK]
theorem inF_skip {E : List (List Int)} {K : List Int → Prop} {k : Nat} (hk : k < E.length) (hK : ¬ K (gt E k)) : inF E K (k + 1) = inF E K k := by
  unfold inF
  rw [take_succ_gt E k hk, List.filter_append]
  simp [hK]
theorem inF_len (E : List (List Int)) (K : List Int → Prop) (k : Nat) : (inF E K k).length ≤ E.length := by
  unfold inF
  have h1 := List.length_filter_le (fun x => (by classical exact decide (K x) : Bool)) (E.take k)
  rw [List.length_take] at h1
  have : ((E.take k).filter (fun x => (by classical exact decide (K x) : Bool))).length ≤ E.length := by omega
  exact this
theorem inF_mem {P : Pr} (hP : Valid P) {H K : List Int → Prop} (S : Sub P H) {E : List (List Int)} (hE : E = elemsIn P H) (x : List Int) : x ∈ inF E K E.length ↔ (H x ∧ K x) := by
  unfold inF
  rw [List.take_length, hE, List.mem_filter, elemsIn_mem hP S.vec]
  simp

set_option maxRecDepth 100000 in
set_option maxHeartbeats 4000000 in
theorem l13Meet_ok (P : Pr) (G : Grp P) (w : World) (pv uv vv : Value) (H K : List Int → Prop) (Sp Su Sv : Nat → Prop) (S : Sub P H) (R : Sub P K) (hpv : PresV Sp w pv P) (hu : Rows2 Su w uv (cseq P H)) (hv : Rows2 Sv w vv (cseq P K)) :
    Calls Tryz.prog 157 #[pv, uv, vv] w (Ret w fun w' v => Rows2 Any w' v (cseq P (fun x => H x ∧ K x))) := by
  have hP := G.v
  have hn6 := hP.n6
  obtain ⟨vo, vp, vc, rfl, h3⟩ := hpv
  have hp0 := PresP.box h3 31
  have hg0 : Ext w (w.alloc (.cells #[vo, vp, vc] 31)) := World.grownBy_alloc _ _ _
  have hu0 := Rows2.ext hu hg0
  have hv0 := Rows2.ext hv hg0
  obtain ⟨au, capu, rfl, _, _⟩ := Sl.shape hu
  obtain ⟨av, capv, rfl, _, _⟩ := Sl.shape hv
  obtain ⟨vo6, vp6, vc6, _, _, hc0, hc1, hc2, h36⟩ := hp0.at
  simp only [Nat.zero_add] at hc1 hc2
  have hbx : ∀ w', Ext (w.alloc (.cells #[vo, vp, vc] 31)) w' → w'.cell? ⟨w.heap.size, 0, none⟩ = some vo6 ∧ w'.cell? ⟨w.heap.size, 1, none⟩ = some vp6 ∧ w'.cell? ⟨w.heap.size, 2, none⟩ = some vc6 := fun w' h => ⟨h.cell hc0 (by simp), h.cell hc1 (by simp), h.cell hc2 (by simp)⟩
  have HB := Lib.hid hbx; clear hbx hp0 hu hv
  have hE := l12Elements_ok P G (w.alloc (.cells #[vo, vp, vc] 31)) _ _ H Any Su S ⟨_, _, _, rfl, h36⟩ hu0
  obtain ⟨E, hEe⟩ : ∃ E, E = elemsIn P H := ⟨_, rfl⟩
  have hEl : E.length ≤ 729 := by rw [hEe]; exact elemsIn_len hP H
  rw [← hEe] at hE
  have HE := Lib.hid hEe; clear hEe
  go_enter Tryz.func157, Tryz.ntmps157
  go_wp2_with fail
  clear hc0 hc1 hc2
  generalize hw0 : w.alloc (.cells #[vo, vp, vc] 31) = w0 at *
  clear hw0
  refine Calls.mono hE ?_
  rintro e1 w1 ⟨v1, rfl, hg1, hO⟩
  clear hE
  have hER := RowsD.rows (hO.toD (by omega))
  obtain ⟨ae, cape, hve, _, _⟩ := Sl.shape hER
  subst hve
  have hER1 : Rows2 Any w1 (.slice ae E.length cape) E := Rows2.sub hER (fun _ _ _ => trivial)
  clear hO hER
  go_wp2
  go_loopw [8, 9] (fun ov iv wr => ∃ (i : Nat) (v4 : Value), v4 = ov ∧ iv = .int .i64 i ∧ i ≤ E.length ∧ Ext w1 wr ∧ ShQ (fun _ => False) w1.heap.size wr v4 (inF E K i)) (fun _ iv _ => E.length - (intOf iv).toNat)
  case atStart => exact ⟨0, _, rfl, rfl, by omega, World.grownBy_alloc _ _ _, by
    have : inF E K 0 = [] := by simp [inF]
    rw [this]; exact ShQ.lit _ _ _ (Nat.le_refl _)⟩
  case round =>
    obtain ⟨i, v4, rfl, rfl, hi, hg, hQ⟩ := hrel
    have hg0r := grown_trans hg1 hg
    by_cases hlt : i < E.length
    · have hlt' : (i : Int) < E.length := by omega
      obtain ⟨bb, off, a2, cap2, rfl, _, _, hc, hr⟩ := Rows2.at hER1 i hlt
      have hcr := hg.cell hc (by simp)
      have hXV : Vec P.orders (gt E i) := S.vec _ ((elemsIn_mem hP S.vec _).1 (by rw [← HE.out]; exact gtMem hlt))
      have hfl := inF_len E K i
      have HXV := Lib.hid (And.intro hXV hfl); clear hXV hfl
      have e1 : ∀ w', Ext wr w' → w'.cell? ⟨w.heap.size, 0, none⟩ = some vo6 := fun w' h => (HB.out w' (grown_trans hg0r h)).1
      have e2 : ∀ w', Ext wr w' → w'.cell? ⟨w.heap.size, 1, none⟩ = some vp6 := fun w' h => (HB.out w' (grown_trans hg0r h)).2.1
      have e3 : ∀ w', Ext wr w' → w'.cell? ⟨w.heap.size, 2, none⟩ = some vc6 := fun w' h => (HB.out w' (grown_trans hg0r h)).2.2
      have e4 : ∀ w', Ext wr w' → w'.cell? ⟨bb, off + i, none⟩ = some (.slice a2 (gt E i).length cap2) := fun w' h => h.cell hcr (by simp)
      clear hcr
      go_wp2
      go_region_held3 (fun w' => Ext wr w') (first | exact grown_drew _ _ | assumption)
        (first
          | (go_at_call 155; refine Calls.mono (Calls.rel (w0 := wr) (by assumption) (l12Has_ok P G _ _ _ _ K (gt E i) Any Any Any R ⟨_, _, _, rfl, Pres3.ext h36 (grown_trans hg0r (by assumption))⟩ (Rows2.sub (Rows2.ext hv0 (grown_trans hg0r (by assumption))) (fun _ _ _ => trivial)) (Ints.sub (Ints.ext hr (grown_trans hg (by assumption))) (fun _ _ _ => trivial)) HXV.out.1)) ?_; rintro eA wA ⟨vA, rfl, hgA, hsA, r, rfl, hrA⟩; have HRA := Lib.hid hrA; clear hrA))
      clear e1 e2 e3 e4
      have hgA1 := grown_trans hg hgA
      have hcA := hgA1.cell hc (by simp)
      cases r with
      | false =>
        have hst := inF_skip hlt (fun h => by have := HRA.out.2 h; cases this)
        have HST := Lib.hid hst; clear hst
        go_wp2
        go_roundw
        case rel => exact ⟨i + 1, v4, rfl, by go_num, by omega, hgA1, by rw [HST.out]; exact hQ.ext hgA⟩
        case measure => simp [intOf]; omega
      | true =>
        have hst := inF_succ hlt (HRA.out.1 rfl)
        have HST := Lib.hid hst; clear hst
        have hrA : Ints (fun k => ¬ False ∧ v4.ownBlock ≠ some k) wA (.slice a2 (gt E i).length cap2) (gt E i) := Ints.mono hr (fun k _ hk => ⟨⟨id, fun e => by have := (hQ.lt k e).1; omega⟩, Nat.lt_of_lt_of_le hk hgA1.size, hgA1.block k hk (by simp)⟩)
        go_wp2_with (first | (at_builtin; refine wp_shq_app rfl _ _ rfl (fun _ => False) w1.heap.size v4 _ (inF E K i) (gt E i) rfl wA (hQ.ext hgA) rfl hrA rfl (by have := HXV.out.2; omega) hgA1.size ?_; intro v5 w5 hQ5 hg5 hb5; have hgw5 := grown_own hgA1 hg5 (fun j hj hlt => by have := (hQ.lt j hj).1; omega)) | fail)
        clear hcA
        go_roundw
        case rel => exact ⟨i + 1, v5, rfl, by go_num, by omega, hgw5, by rw [HST.out]; exact hQ5⟩
        case measure => simp [intOf]; omega
    · have hie : i = E.length := by omega
      subst hie
      have hgen : genP P (fun x => x ∈ inF E K E.length) = fun x => H x ∧ K x := genP_list (S.and R) (inF_mem hP S HE.out)
      have hvec : ∀ x ∈ inF E K E.length, Vec P.orders x := fun x hx => S.vec x ((inF_mem hP S HE.out x).1 hx).1
      have hfl := inF_len E K E.length
      have HG := Lib.hid (And.intro hgen (And.intro hvec hfl)); clear hgen hvec hfl
      obtain ⟨hb0, hb1, hb2⟩ := HB.out wr hg0r
      have hQR := hQ.rows
      obtain ⟨aq, capq, hvq, _, _⟩ := Sl.shape hQR
      subst hvq
      go_wp2_with fail
      clear hb0 hb1 hb2
      refine Calls.mono (l12Close_ok P G wr _ _ (inF E K E.length) Any Any ⟨_, _, _, rfl, Pres3.ext h36 hg0r⟩ hQR HG.out.2.1 (by have := HG.out.2.2; omega)) ?_
      rintro eF wF ⟨vF, rfl, hgF, hRF⟩
      rw [HG.out.1] at hRF
      go_wp2
      go_ret
      exact ⟨_, rfl, grown_trans hg0 (grown_trans hg0r hgF), hRF⟩

end Go.Proofs.YtigbpdaomgagiaaGreat
