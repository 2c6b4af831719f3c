/-
  The reference's reduced sequence: spec.l12Full.
  The reference's sifting: spec.l12Strip.
  The reference's closure: spec.l01Own2, l01Inv, l10Comm, l12Close.
  The reference's closure: spec.l12Close.
  The codes and orders of Hall subgroups: impl.hallOrder, isPrimeSet, hallCode; spec.l20Primes, l20Code.
  The codes of Hall subgroups: impl.hallCode; spec.l20Primes, l20Code.
  spec.l01Part, l20Part: the part of an order for a set of primes.
  impl.factors at the orders of groups: the primes that divide, ascending. (Printed by gen_fac.py.)
  spec.l20Divisors: the group primes that divide the order, ascending; the order divides a power of 210.
  append of a row that lay there before: the list takes it out of the set of blocks that it avoids.
  [][]int64{row} as a list of the call's own.
-/
import Derived.Test.YtdklekdpdbjfiaaGreatK7
import Derived.Test.YtdklekdpdbjfiaaGreatK6
import Derived.Test.YtdklekdpdbjfiaaGreatK1
import Derived.Test.YtdklekdpdbjfiaaGreatK2
/- The reference's reduced sequence: spec.l12Full. -/
namespace Go.Proofs.YtdklekdpdbjfiaaGreat
open Go.RowKit

theorem seqOf_succ (n : Nat) (r : Nat → List Int) : seqOf (n + 1) r = seqOf n r ++ (if r n = [] then [] else [r n]) := by
  unfold seqOf
  rw [List.range_succ, List.filterMap_append]
  congr 1
  by_cases h : r n = [] <;> simp [h]

theorem seqOf_len (n : Nat) (r : Nat → List Int) : (seqOf n r).length ≤ n := by rw [sq_all]; exact sq_len _ _ _

/-- a list of shared rows reads as rows -/
theorem ShQ.rows {bad : Nat → Prop} {B : Nat} {w : World} {v : Value} {xs : List (List Int)} (h : ShQ bad B w v xs) : Rows2 Any w v xs := by
  obtain ⟨vs, hl, hq, hr⟩ := h
  rcases hq with ⟨rfl, rfl⟩ | ⟨g, off, cap, cur, rfl, hb, hg, hnc, hcm, hsz, hc⟩
  · have : xs = [] := List.eq_nil_of_length_eq_zero (by simpa using hl.symm)
    subst this
    exact ⟨none, 0, rfl, ⟨by simp, by simp, fun _ => rfl⟩, fun i hi => by simp at hi⟩
  · refine ⟨_, cap, by rw [hl], ⟨by omega, by unfold maxLen at hcm; omega, fun h => by cases h⟩, fun i hi => ⟨g, off, gt vs i, rfl, trivial, (Array.getElem?_eq_some_iff.1 hg).1, ?_, Ints.sub (hr i hi) (fun _ _ _ => trivial)⟩⟩
    simp only [World.cell?, hg, Option.isSome_none, Bool.false_eq_true, if_false]
    exact hc i (by omega)

theorem ShQ.lit (bad : Nat → Prop) (B : Nat) (w : World) (hB : B ≤ w.heap.size) : ShQ bad B (w.alloc (.cells #[] 22)) (.slice (some ⟨w.heap.size, 0, none⟩) 0 0) [] :=
  ⟨[], rfl, QOwn.of (World.ownsRow_lit w #[] 0 hB (by decide) rfl), fun i hi => by simp at hi⟩

theorem CanInv.congr {P : Pr} {H : List Int → Prop} {b r r' : Nat → List Int} {m : Nat} (h : CanInv P H b r m) (he : ∀ e, m ≤ e → e < P.orders.length → r' e = r e) : CanInv P H b r' m :=
  ⟨fun e h1 h2 => by rw [he e h1 h2]; exact h.nil e h1 h2, fun e h1 h2 h3 => by rw [he e h1 h2] at h3 ⊢; exact h.mem e h1 h2 h3,
    fun e e' h1 h2 h3 h4 h5 => by rw [he e h1 (by omega)] at h4 ⊢; rw [he e' (by omega) h3] at h5; exact h.red e e' h1 h2 h3 h4 h5⟩

set_option maxRecDepth 100000 in
set_option maxHeartbeats 4000000 in
theorem l12Full_ok (P : Pr) (G : Grp P) (w : World) (pv tv : Value) (b : List (List Int)) (H : List Int → Prop) (Sp Sb : Nat → Prop) (hpv : PresV Sp w pv P) (ht : Rows2 Sb w tv b) (hlb : b.length = P.orders.length) (hI : Ind P H (gt b)) :
    Calls Tryz.prog 116 #[pv, tv] w (Ret w fun w' v => Rows2 Any w' v (cseq P H)) := by
  have hP := G.v
  have hn6 := hP.n6
  obtain ⟨vo, vp, vc, rfl, h3⟩ := hpv
  have hp0 := PresP.box h3 31
  have hg0 : Ext w (w.alloc (.cells #[vo, vp, vc] 31)) := World.grownBy_alloc _ _ _
  have hs0 : (w.alloc (.cells #[vo, vp, vc] 31)).heap.size = w.heap.size + 1 := by simp
  obtain ⟨at_, capt, hvt, _, _⟩ := Sl.shape ht
  rw [hlb] at hvt
  subst hvt
  have HI := Lib.hid (And.intro hI hlb); clear hI hlb
  obtain ⟨vo6, vp6, vc6, _, _, hc0, hc1, hc2, h36⟩ := hp0.at
  simp only [Nat.zero_add] at hc1 hc2
  clear hp0
  have hwn : IntKind.i64.wrap ((P.orders.length : Int) - 1) = (P.orders.length : Int) - 1 := IntWalk.i64_in _ (by omega)
  go_enter Tryz.func116, Tryz.ntmps116
  go_wp2_with (first | (at_make; refine wp_make_tab rfl _ _ rfl w.heap.size P.orders.length (w.heap.size + 1) (by simp) _ rfl rfl rfl (by omega) (by omega) ?_; intro w1 hT1 hg1 hlt1) | fail)
  clear hwn
  have HS := Lib.hid hs0; clear hs0
  generalize hw0 : w.alloc (.cells #[vo, vp, vc] 31) = w0 at *
  clear hw0
  have hT := hT1 (fun _ => False)
  clear hT1
  go_loopw [6] (fun dv wr => ∃ (m : Nat) (dl : List (List Int)), dv = .int .i64 ((m : Int) - 1) ∧ m ≤ P.orders.length ∧ Ext w0 wr ∧ TabAt w.heap.size (fun _ => False) wr (w.heap.size + 1) P.orders.length dl ∧ Hid (CanInv P H (gt b) (gt dl) m ∧ ∀ e, e < m → gt dl e = [])) (fun dv _ => (intOf dv + 1).toNat)
  case atStart => exact ⟨P.orders.length, _, rfl, Nat.le_refl _, hg1, hT, Lib.hid ⟨⟨fun e h1 h2 => by omega, fun e h1 h2 => by omega, fun e e' h1 h2 h3 => by omega⟩, fun e he => by simp [gt, he]⟩⟩
  case round =>
    clear hT
    obtain ⟨m, dl, rfl, hm, hg, hT, hC⟩ := hrel
    by_cases hm0 : m = 0
    · subst hm0
      have hneg : ((0 : Nat) : Int) - 1 = -1 := rfl
      rw [hneg]
      have hend := G.can_end HI.out.1 hC.out.1
      rw [← sq_all] at hend
      have HE := Lib.hid hend; clear hend
      have hdl := hT.len
      have hrows := hT.rows (by omega)
      obtain ⟨wo, rfl⟩ : ∃ wo : World, wo = wr := ⟨_, rfl⟩
      go_wp2
      go_loopw [9, 10] (fun ov iv wr => ∃ (i : Nat) (v4 : Value), v4 = ov ∧ iv = .int .i64 i ∧ i ≤ P.orders.length ∧ Ext wo wr ∧ ShQ (fun _ => False) wo.heap.size wr v4 (seqOf i (gt dl))) (fun _ iv _ => P.orders.length - (intOf iv).toNat)
      case atStart => exact ⟨0, _, rfl, rfl, by omega, World.grownBy_alloc _ _ _, ShQ.lit _ _ _ (Nat.le_refl _)⟩
      case round =>
        obtain ⟨i, v4, rfl, rfl, hi, hgi, hQ⟩ := hrel
        by_cases hlt : i < P.orders.length
        · have hlt' : (i : Int) < P.orders.length := by omega
          have hst := seqOf_succ i (gt dl)
          obtain ⟨_, hcc⟩ := hT.at i hlt
          rcases hcc with ⟨h0, hcell⟩ | ⟨hne, ab, capb, hcell, hbI⟩
          · rw [if_pos h0, List.append_nil] at hst
            have HST := Lib.hid hst; clear hst h0
            have hcr := hgi.cell hcell (by simp)
            go_wp2
            go_roundw
            case rel => exact ⟨i + 1, v4, rfl, by go_num, by omega, hgi, by rw [HST.out]; exact hQ⟩
            case measure => simp [intOf]; omega
          · rw [if_neg hne] at hst
            have hln : (0 : Int) < (gt dl i).length := by
              have : 0 < (gt dl i).length := List.length_pos_iff.2 hne
              omega
            have hsl := seqOf_len i (gt dl)
            have HST := Lib.hid hst; clear hst hne
            have hcr := hgi.cell hcell (by simp)
            have hrI : Ints (fun k => ¬ False ∧ v4.ownBlock ≠ some k) wr (.slice (some ab) (gt dl i).length capb) (gt dl i) := Ints.mono hbI (fun k _ hk => ⟨⟨id, fun e => by have := (hQ.lt k e).1; omega⟩, Nat.lt_of_lt_of_le hk hgi.size, hgi.block k hk (by simp)⟩)
            go_wp2_with (first | (at_builtin; refine wp_shq_app rfl _ _ rfl (fun _ => False) wo.heap.size v4 _ (seqOf i (gt dl)) (gt dl i) rfl wr hQ rfl hrI rfl (by omega) hgi.size ?_; intro v5 w5 hQ5 hg5 hb5; have hgw5 := grown_own hgi hg5 (fun j hj hlt => by have := (hQ.lt j hj).1; omega)) | fail)
            go_roundw
            case rel => exact ⟨i + 1, v5, rfl, by go_num, by omega, hgw5, by rw [HST.out]; exact hQ5⟩
            case measure => simp [intOf]; omega
        · have hie : i = P.orders.length := by omega
          subst hie
          rw [HE.out] at hQ
          obtain ⟨az, capz, hvz, _⟩ := hQ.shape
          subst hvz
          go_wp2
          go_ret
          exact ⟨_, rfl, grown_trans hg0 (grown_trans hg hgi), hQ.rows⟩
    · obtain ⟨d, rfl⟩ : ∃ d, m = d + 1 := ⟨m - 1, by omega⟩
      rw [show (((d + 1 : Nat)) : Int) - 1 = d by omega]
      have hdn : d < P.orders.length := by omega
      have hdn' : (d : Int) < P.orders.length := by omega
      have hd0 : (0 : Int) ≤ d := by omega
      have hwd : IntKind.i64.wrap ((d : Int) - 1) = (d : Int) - 1 := IntWalk.i64_in _ (by omega)
      obtain ⟨bb, off, a2, cap2, hat, _, _, hc, hr⟩ := Rows2.at ht d (by rw [HI.out.2]; exact hdn)
      subst hat
      have hgw := grown_trans hg0 hg
      have hcr := hgw.cell hc (by simp)
      clear hc hm0
      by_cases hb : gt b d = []
      · have hbl : ((((gt b d).length : Nat) : Int) == 0) = true := by rw [hb]; rfl
        have hC2 : CanInv P H (gt b) (gt dl) d := (can_skip (k := P.orders.length - (d + 1)) hC.out.1 hb).1.congr (fun e h1 h2 => by
          by_cases he : e = d
          · subst he; rw [if_pos rfl]; exact hC.out.2 e (by omega)
          · rw [if_neg he])
        have HC2 : Hid (CanInv P H (gt b) (gt dl) d ∧ ∀ e, e < d → gt dl e = []) := Lib.hid ⟨hC2, fun e he => hC.out.2 e (by omega)⟩
        clear hC2 hb
        go_wp2
        go_roundw
        case rel => exact ⟨d, dl, rfl, by omega, hg, hT, HC2⟩
        case measure => simp [intOf]
      · have hbl : ((((gt b d).length : Nat) : Int) == 0) = false := by
          have : 0 < (gt b d).length := List.length_pos_iff.2 hb
          simp; omega
        have hXV : Vec P.orders (gt b d) := (HI.out.1.mem d hdn hb).2.1.1
        have hxI0 : Ints (fun k => k ≠ w.heap.size + 1) wr (.slice a2 (gt b d).length cap2) (gt b d) := Ints.mono hr (fun k _ hk => ⟨by omega, Nat.lt_of_lt_of_le hk hgw.size, hgw.block k hk (by simp)⟩)
        have HB := Lib.hid (And.intro hb hXV); clear hb hXV
        obtain ⟨wo, rfl⟩ : ∃ wo : World, wo = wr := ⟨_, rfl⟩
        go_wp2
        clear hbl hcr
        go_loopw [7, 8] (fun xv ev wr => ∃ (e : Nat) (Y : List Int), ev = .int .i64 e ∧ d + 1 ≤ e ∧ e ≤ P.orders.length ∧ Ext wo wr ∧ Ints (fun k => k ≠ w.heap.size + 1) wr xv Y ∧ Hid (FullTo P (gt dl) (d + 1) (gt b d) e Y)) (fun _ ev _ => P.orders.length - (intOf ev).toNat)
        case atStart => exact ⟨d + 1, _, by go_num, Nat.le_refl _, by omega, Ext.refl _, hxI0, Lib.hid (G.fullTo_zero HB.out.2)⟩
        case round =>
          clear hxI0
          obtain ⟨e, Y, rfl, hde, he, hge, hY, hF⟩ := hrel
          have hYV := hF.out.vec
          have hYl : Y.length = P.orders.length := hYV.1
          obtain ⟨ay, capy, hvy, _, _⟩ := hY.shape
          rw [hYl] at hvy
          subst hvy
          by_cases hlt : e < P.orders.length
          · have hlt' : (e : Int) < P.orders.length := by omega
            have he0 : (0 : Int) ≤ e := by omega
            obtain ⟨by_, oy, rfl, _, _, hcy⟩ := Ints.at hY e (by omega)
            obtain ⟨_, hcc⟩ := hT.at e hlt
            rcases hcc with ⟨h0, hcell⟩ | ⟨hne, ab, capb, hcell, hbI⟩
            · have hF2 := Lib.hid (hF.out.skip (.inl h0)); clear h0 hYV
              have hcr := hge.cell hcell (by simp)
              go_wp2
              go_roundw
              case rel => exact ⟨e + 1, Y, by go_num, by omega, by omega, hge, hY, hF2⟩
              case measure => simp [intOf]; omega
            · have hln : (0 : Int) < (gt dl e).length := by
                have : 0 < (gt dl e).length := List.length_pos_iff.2 hne
                omega
              have hcr := hge.cell hcell (by simp)
              by_cases hy : gt Y e = 0
              · have hyb : (gt Y e != 0) = false := by simp [hy]
                have hF2 := Lib.hid (hF.out.skip (.inr hy)); clear hYV hy hne
                go_wp2
                go_roundw
                case rel => exact ⟨e + 1, Y, by go_num, by omega, by omega, hge, hY, hF2⟩
                case measure => simp [intOf]; omega
              · have hyb : (gt Y e != 0) = true := by simp [hy]
                have hyd := hYV.2 e hlt
                have ho := hP.ord7 e hlt
                have hwn : IntKind.i64.wrap (-(gt Y e)) = -(gt Y e) := IntWalk.i64_in _ (by omega)
                obtain ⟨_, m2, m3⟩ := hC.out.1.mem e (by omega) hlt hne
                have hF2 := Lib.hid (G.fullTo_step HB.out.2 (by omega) hlt hne ⟨m2, m3⟩ hF.out)
                have hpV := G.pwZ_vec m2.1 (-(gt Y e))
                have hpl : (pwZ P (gt dl e) (-(gt Y e))).length ≤ 6 := by rw [hpV.1]; omega
                have HD := Lib.hid (And.intro m2.1 (And.intro hpV (And.intro hpl (And.intro hYV (And.intro hyd ho))))); clear m2 m3 hpV hpl hYV hyd ho hne hy
                have hg0e := grown_trans hg hge
                have e1 : ∀ w', Ext wr w' → w'.cell? ⟨w.heap.size, 0, none⟩ = some vo6 := fun w' h => (grown_trans hg0e h).cell hc0 (by simp)
                have e2 : ∀ w', Ext wr w' → w'.cell? ⟨w.heap.size, 1, none⟩ = some vp6 := fun w' h => (grown_trans hg0e h).cell hc1 (by simp)
                have e3 : ∀ w', Ext wr w' → w'.cell? ⟨w.heap.size, 2, none⟩ = some vc6 := fun w' h => (grown_trans hg0e h).cell hc2 (by simp)
                have e4 : ∀ w', Ext wr w' → w'.cell? ⟨w.heap.size + 1, e, none⟩ = some (.slice (some ab) (gt dl e).length capb) := fun w' h => h.cell hcr (by simp)
                have e5 : ∀ w', Ext wr w' → w'.cell? ⟨by_, oy + e, none⟩ = some (.int .i64 (gt Y e)) := fun w' h => h.cell hcy (by simp)
                go_wp2
                clear hcr hcy hcell
                go_region_held3 (fun w' => Ext wr w') (first | exact grown_drew _ _ | assumption)
                  (first
                    | (go_at_call 113; refine Calls.mono (Calls.rel (w0 := wr) (by assumption) (l10Pow_ok P G _ _ _ (gt dl e) _ Any Any ⟨_, _, _, rfl, Pres3.ext (Pres3.ext h36 hg0e) (by assumption)⟩ (Ints.sub (Ints.ext (Ints.ext hbI hge) (by assumption)) (fun _ _ _ => trivial)) HD.out.1 (by have := HD.out.2.2.2.2.1; have := HD.out.2.2.2.2.2; omega))) ?_; rintro eA wA ⟨vA, rfl, hgA, hsA, hOA⟩; have hOA2 := hOA.ints (by have := HD.out.2.2.1; omega))
                    | (go_at_call 176; refine Calls.mono (Calls.rel (w0 := wr) (by assumption) (l08Mul_ok P hP _ _ _ _ Y _ Any Any Any ⟨_, _, _, rfl, Pres3.ext (Pres3.ext h36 hg0e) (by assumption)⟩ (Ints.sub (Ints.ext hY (by assumption)) (fun _ _ _ => trivial)) hOA2 HD.out.2.2.2.1 HD.out.2.1)) ?_; rintro eB wB ⟨vB, rfl, hgB, hsB, hOB⟩))
                clear e1 e2 e3 e4 e5
                have hYB : Ints (fun k => k ≠ w.heap.size + 1) wB vB (rMul P Y (pwZ P (gt dl e) (-(gt Y e)))) := ints_of_own hOB (by rw [hF2.out.vec.1]; omega) (fun k hk => by have := (hOB.lt k hk).1; have := hT.lt; have := hge.size; omega)
                go_wp2
                go_roundw
                case rel => exact ⟨e + 1, _, by go_num, by omega, by omega, grown_trans hge hgB, hYB, hF2⟩
                case measure => simp [intOf]; omega
          · have hee : e = P.orders.length := by omega
            subst hee
            have hYne : Y ≠ [] := fun h => by rw [h] at hYl; simp at hYl; omega
            have hTr := hT.ext hge
            obtain ⟨hs5, hg5⟩ := hTr.put d (u := .slice ay P.orders.length capy) (y := Y) (Ints.sub hY (fun k hk _ => ⟨hk, id⟩)) hYne
            obtain ⟨hfr, hcc⟩ := hTr.at d hdn
            have hcd : wr.cell? ⟨w.heap.size + 1, d, none⟩ = some (.slice none 0 0) := hcc.elim (fun h => h.2) (fun h => absurd (hC.out.2 d (by omega)) h.1)
            have hst := (G.can_step (k := P.orders.length - (d + 1)) HI.out.1 hC.out.1 (by omega) HB.out.1 (hF.out.repTo hC.out.1 (by omega))).1
            have hC2 : CanInv P H (gt b) (gt (dl.set d Y)) d := hst.congr (fun i h1 h2 => by
              by_cases hi : i = d
              · subst hi; rw [if_pos rfl, gt_set_eq _ _ _ (by rw [hT.len]; omega)]
              · rw [if_neg hi, gt_set_ne _ _ _ _ (fun h => hi h.symm)])
            have HC2 : Hid (CanInv P H (gt b) (gt (dl.set d Y)) d ∧ ∀ i, i < d → gt (dl.set d Y) i = []) := Lib.hid ⟨hC2, fun i hi => by rw [gt_set_ne _ _ _ _ (by omega)]; exact hC.out.2 i (by omega)⟩
            have hg0n : Ext w0 (wr.setCell ⟨w.heap.size + 1, d, none⟩ (.slice ay P.orders.length capy)) := grown_own (grown_trans hg hge) hg5 (fun j hj hlt => by cases hj; have := HS.out; omega)
            clear hcc hst hC2 hYV hTr hg5
            go_wp2
            go_roundw
            case rel => exact ⟨d, dl.set d Y, rfl, by omega, hg0n, hs5, HC2⟩
            case measure => simp [intOf]

end Go.Proofs.YtdklekdpdbjfiaaGreat

/- The reference's sifting: spec.l12Strip. -/
namespace Go.Proofs.YtdklekdpdbjfiaaGreat
open Go.RowKit

set_option maxRecDepth 100000 in
set_option maxHeartbeats 2000000 in
theorem l12Strip_ok (P : Pr) (G : Grp P) (w : World) (pv tv xv : Value) (b : List (List Int)) (X : List Int) (Sp Sb Sx : Nat → Prop) (hpv : PresV Sp w pv P) (ht : Rows2 Sb w tv b) (hx : Ints Sx w xv X) (hX : Vec P.orders X)
    (hlb : b.length = P.orders.length) (htab : ∀ d, d < P.orders.length → gt b d ≠ [] → T P d (gt b d) ∧ gt (gt b d) d = 1) :
    Calls Tryz.prog 112 #[pv, tv, xv] w (Ret w fun w' v => ∃ (d : Nat) (r : Value) (Y : List Int), v = .tuple #[.int .i64 d, r] ∧ Own w.heap.size w' r Y ∧ StripTo P b X d Y ∧ d ≤ P.orders.length ∧ (d < P.orders.length → gt Y d ≠ 0 ∧ gt b d = [])) := by
  have hP := G.v
  have hn6 := hP.n6
  obtain ⟨vo, vp, vc, rfl, h3⟩ := hpv
  have hp0 := PresP.box h3 31
  have hg0 : Ext w (w.alloc (.cells #[vo, vp, vc] 31)) := World.grownBy_alloc _ _ _
  have hx0 := hx.ext hg0
  have ht0 := Rows2.ext ht hg0
  have hXl : X.length ≤ 6 := by rw [hX.1]; omega
  have hs0 : (w.alloc (.cells #[vo, vp, vc] 31)).heap.size = w.heap.size + 1 := by simp
  obtain ⟨at_, capt, hvt, _, _⟩ := Sl.shape ht
  rw [hlb] at hvt
  subst hvt
  have HI := Lib.hid (And.intro htab (And.intro hX hlb)); clear htab hX hlb
  obtain ⟨vo6, vp6, vc6, _, _, hc0, hc1, hc2, h36⟩ := hp0.at
  simp only [Nat.zero_add] at hc1 hc2
  clear hp0
  go_enter Tryz.func112, Tryz.ntmps112
  go_wp2_with fail
  have HS := Lib.hid hs0; clear hs0
  generalize hw0 : w.alloc (.cells #[vo, vp, vc] 31) = w0 at *
  clear hw0
  refine Calls.mono (l01Own_ok w0 xv X Sx hx0 (by omega)) ?_
  rintro e1 w1 ⟨ov, rfl, hg1, hO1⟩
  go_wp2
  go_loopw [8, 9] (fun ov iv wr => ∃ (d : Nat) (Y : List Int), iv = .int .i64 d ∧ d ≤ P.orders.length ∧ Ext w0 wr ∧ Own w.heap.size wr ov Y ∧ Hid (StripTo P b X d Y)) (fun _ iv _ => P.orders.length - (intOf iv).toNat)
  case atStart => exact ⟨0, X, rfl, by omega, hg1, hO1.weak (by have := HS.out; omega), Lib.hid (stripTo_zero HI.out.2.1)⟩
  case round =>
    clear hO1
    obtain ⟨d, Y, rfl, hd, hg, hO, hR⟩ := hrel
    have hYV := hR.out.vec.1
    have hYl : Y.length = P.orders.length := hYV.1
    have hYi := hO.ints (by omega)
    obtain ⟨ay, capy, hvy, _, _⟩ := hYi.shape
    rw [hYl] at hvy
    subst hvy
    by_cases hlt : d < P.orders.length
    · have hlt' : (d : Int) < P.orders.length := by omega
      obtain ⟨bb, off, a2, cap2, rfl, _, _, hc, hr⟩ := Rows2.at (Rows2.ext ht0 hg) d (by rw [HI.out.2.2]; exact hlt)
      obtain ⟨by_, oy, rfl, _, _, hcy⟩ := Ints.at hYi d (by omega)
      by_cases hy : gt Y d = 0
      · have hyb : (gt Y d == 0) = true := by simp [hy]
        have hR2 := Lib.hid (hR.out.skip hy); clear hYV hy
        go_wp2
        go_roundw
        case rel => exact ⟨d + 1, Y, by go_num, by omega, hg, hO, hR2⟩
        case measure => simp [intOf]; omega
      · have hyb : (gt Y d == 0) = false := by simp [hy]
        by_cases hb : gt b d = []
        · have hbl : ((((gt b d).length : Nat) : Int) == 0) = true := by rw [hb]; rfl
          have HB := Lib.hid (And.intro hb hy); clear hb hYV hy
          go_wp2
          go_ret2
          exact ⟨_, rfl, grown_trans hg0 hg, d, _, Y, rfl, hO, hR.out, by omega, fun _ => ⟨HB.out.2, HB.out.1⟩⟩
        · have hbl : ((((gt b d).length : Nat) : Int) == 0) = false := by
            have : 0 < (gt b d).length := List.length_pos_iff.2 hb
            simp; omega
          have hyd := hYV.2 d hlt
          have ho := hP.ord7 d hlt
          have hwn : IntKind.i64.wrap (-(gt Y d)) = -(gt Y d) := IntWalk.i64_in _ (by omega)
          obtain ⟨m2, m3⟩ := HI.out.1 d hlt hb
          have hR2 := Lib.hid (G.stripTo_step hlt hb ⟨m2, m3⟩ hy hR.out)
          have hpV := G.pwZ_vec m2.1 (-(gt Y d))
          have hpl : (pwZ P (gt b d) (-(gt Y d))).length ≤ 6 := by rw [hpV.1]; omega
          have HB := Lib.hid (And.intro m2.1 (And.intro hpV (And.intro hpl (And.intro hYV (And.intro hyd ho))))); clear m2 m3 hpV hpl hYV hyd ho hb hy
          have e1 : ∀ w', Ext wr w' → w'.cell? ⟨w.heap.size, 0, none⟩ = some vo6 := fun w' h => (grown_trans hg h).cell hc0 (by simp)
          have e2 : ∀ w', Ext wr w' → w'.cell? ⟨w.heap.size, 1, none⟩ = some vp6 := fun w' h => (grown_trans hg h).cell hc1 (by simp)
          have e3 : ∀ w', Ext wr w' → w'.cell? ⟨w.heap.size, 2, none⟩ = some vc6 := fun w' h => (grown_trans hg h).cell hc2 (by simp)
          have e4 : ∀ w', Ext wr w' → w'.cell? ⟨bb, off + d, none⟩ = some (.slice a2 (gt b d).length cap2) := fun w' h => h.cell hc (by simp)
          have e5 : ∀ w', Ext wr w' → w'.cell? ⟨by_, oy + d, none⟩ = some (.int .i64 (gt Y d)) := fun w' h => h.cell hcy (by simp)
          go_wp2
          clear hc hcy
          go_region_held3 (fun w' => Ext wr w') (first | exact grown_drew _ _ | assumption)
            (first
              | (go_at_call 113; refine Calls.mono (Calls.rel (w0 := wr) (by assumption) (l10Pow_ok P G _ _ _ (gt b d) _ Any Any ⟨_, _, _, rfl, Pres3.ext (Pres3.ext h36 hg) (by assumption)⟩ (Ints.sub (Ints.ext hr (by assumption)) (fun _ _ _ => trivial)) HB.out.1 (by have := HB.out.2.2.2.2.1; have := HB.out.2.2.2.2.2; omega))) ?_; rintro eA wA ⟨vA, rfl, hgA, hsA, hOA⟩; have hOA2 := hOA.ints (by have := HB.out.2.2.1; omega))
              | (go_at_call 176; refine Calls.mono (Calls.rel (w0 := wr) (by assumption) (l08Mul_ok P hP _ _ _ _ Y _ Any Any Any ⟨_, _, _, rfl, Pres3.ext (Pres3.ext h36 hg) (by assumption)⟩ (Ints.sub (Ints.ext hYi (by assumption)) (fun _ _ _ => trivial)) hOA2 HB.out.2.2.2.1 HB.out.2.1)) ?_; rintro eB wB ⟨vB, rfl, hgB, hsB, hOB⟩))
          clear e1 e2 e3 e4 e5
          go_wp2
          go_roundw
          case rel => exact ⟨d + 1, _, by go_num, by omega, grown_trans hg hgB, hOB.weak (by have := hg.size; have := HS.out; omega), hR2⟩
          case measure => simp [intOf]; omega
    · have hde : d = P.orders.length := by omega
      subst hde
      go_wp2
      go_ret2
      exact ⟨_, rfl, grown_trans hg0 hg, _, _, Y, rfl, hO, hR.out, by omega, fun h => absurd h (by omega)⟩

end Go.Proofs.YtdklekdpdbjfiaaGreat

/- The reference's closure: spec.l01Own2, l01Inv, l10Comm, l12Close. -/
namespace Go.Proofs.YtdklekdpdbjfiaaGreat
open Go.RowKit

/-- v[:k] at rows -/
theorem run_head_rows (w : World) (a : Option Addr) (n cap : Nat) (k : Int) (h0 : 0 ≤ k) (h1 : k ≤ cap) :
    (Instr.slice 23 (.slice a n cap) none (some (.int .i64 k)) none).run Tryz.prog w = .ok (.slice a k.toNat cap) w := by
  rw [run_slice_h w 23 a n cap (by kernel_rfl) .i64 k h0 h1]
  have : (sizeOf (Tryz.prog.elem 23)).run Tryz.prog w = .ok 1 w := by kernel_rfl
  rw [this]
  cases a with
  | none => simp [Result.andThen, sliced]
  | some a => simp [Result.andThen, sliced, Addr.add]

theorem QOwn.init {B E n cap : Nat} {w : World} {a : Option Addr} {x : Value} {vs : List Value} (h : QOwn B E w (.slice a n cap) (vs ++ [x])) : QOwn B E w (.slice a vs.length cap) vs := by
  rcases h with ⟨_, h⟩ | ⟨g, off, cap', cur, hv, hb, hg, h1, h2, h3, h4⟩
  · simp at h
  · simp only [Value.slice.injEq] at hv
    obtain ⟨rfl, rfl, rfl⟩ := hv
    simp only [List.length_append, List.length_singleton] at h1 h4
    exact .inr ⟨g, off, cap, cur, rfl, hb, hg, by omega, h2, h3, fun i hi => by rw [h4 i (by omega), gt_append_left _ _ _ hi]⟩

/-- the stack without its last -/
theorem ShQ.init {bad : Nat → Prop} {B n cap : Nat} {w : World} {a : Option Addr} {x : List Int} {xs : List (List Int)} (h : ShQ bad B w (.slice a n cap) (xs ++ [x])) : ShQ bad B w (.slice a xs.length cap) xs := by
  obtain ⟨vs, hl, hq, hr⟩ := h
  obtain ⟨ws, u, rfl⟩ : ∃ ws u, vs = ws ++ [u] := by
    refine ⟨vs.dropLast, vs.getLast (fun e => by rw [e] at hl; simp at hl), (List.dropLast_concat_getLast _).symm⟩
  have hl2 : ws.length = xs.length := by simpa using hl
  refine ⟨ws, hl2, by rw [← hl2]; exact hq.init, fun i hi => ?_⟩
  have h2 := hr i (by simp; omega)
  rw [gt_append_left _ _ _ (by omega), gt_append_left _ _ _ hi] at h2
  exact Ints.sub h2 (fun k hk _ => ⟨hk.1, fun e => hk.2 (by cases a <;> exact e)⟩)

set_option maxHeartbeats 1000000 in
theorem l01Own2_ok (w : World) (v : Value) (L : List (List Int)) (S : Nat → Prop) (hv : Rows2 S w v L) (hL : ∀ x ∈ L, x.length ≤ 1000000) (hlen : L.length ≤ 1000000) :
    Calls Tryz.prog 65 #[v] w (Ret w fun w' r => RowsO w.heap.size w' r L) := by
  obtain ⟨a, cap, rfl, _, _⟩ := Sl.shape hv
  have HL := Lib.hid hL; clear hL
  go_enter Tryz.func65, Tryz.ntmps65
  go_wp2
  go_loopw [3, 4] (fun ov iv wr => ∃ (i : Nat) (v4 : Value), v4 = ov ∧ iv = .int .i64 i ∧ i ≤ L.length ∧ Ext w wr ∧ RowsO w.heap.size wr v4 (L.take i)) (fun _ iv _ => L.length - (intOf iv).toNat)
  case atStart => exact ⟨0, _, rfl, rfl, by omega, World.grownBy_alloc _ _ _, [], fun _ _ => False, rfl, World.ownsRow_lit w #[] 0 (Nat.le_refl _) (by decide) rfl, by simp, by simp, by simp⟩
  case round =>
    obtain ⟨i, v4, rfl, rfl, hi, hg, hO⟩ := hrel
    by_cases hlt : i < L.length
    · have hlt' : (i : Int) < L.length := by omega
      obtain ⟨b, off, a2, cap2, rfl, _, _, hc, hr⟩ := Rows2.at (Rows2.ext hv hg) i hlt
      have hstep := take_succ_gt L i hlt
      have hll := HL.out _ (gtMem hlt)
      have htl : (L.take i).length ≤ 1000000 := by rw [List.length_take]; omega
      have HST := Lib.hid (And.intro hstep hll); clear hstep hll
      go_wp2_with fail
      refine Calls.mono (l01Own_ok wr _ (gt L i) _ hr (by have := HST.out.2; omega)) ?_
      rintro eC wC ⟨vC, rfl, hgC, hOC⟩
      have hYO : OwnIn (From wr.heap.size) wC vC (gt L i) := OwnIn.of hOC (by have := HST.out.2; omega) (fun j h1 _ => h1)
      obtain ⟨ay, capy, hvy, _, _⟩ := hYO.ints.shape
      subst hvy
      clear hc
      go_wp2_with (first | (at_builtin; refine wp_app_row rfl _ _ rfl w.heap.size wr wC v4 _ (L.take i) (gt L i) rfl hO hgC hYO rfl rfl htl hg.size ?_; intro v5 w5 hO5 hg5 hg6; have hgw5 := hO.extw hg (Nat.le_refl _) hg5) | fail)
      go_roundw
      case rel => exact ⟨i + 1, v5, rfl, by go_num, by omega, hgw5, by rw [HST.out.1]; exact hO5⟩
      case measure => simp [intOf]; omega
    · have hie : i = L.length := by omega
      subst hie
      rw [List.take_length] at hO
      obtain ⟨az, capz, hvz, _, _⟩ := SlD.shape (hO.toD (by omega))
      subst hvz
      go_wp2
      go_ret
      exact ⟨_, rfl, hg, hO⟩

set_option maxRecDepth 100000 in
set_option maxHeartbeats 2000000 in
theorem l10Comm_ok (P : Pr) (G : Grp P) (w : World) (pv a b : Value) (A B : List Int) (Sp Sa Sb : Nat → Prop) (hp : PresV Sp w pv P) (ha : Ints Sa w a A) (hb : Ints Sb w b B) (hA : Vec P.orders A) (hB : Vec P.orders B) :
    Calls Tryz.prog 115 #[pv, a, b] w (Ret w fun w' v => Own w.heap.size w' v (comR P A B)) := by
  have hP := G.v
  obtain ⟨vo, vp, vc, rfl, h3⟩ := hp
  have hn6 := hP.n6
  have hV1 := G.mulV hB hA
  have hV2 := G.invV hV1
  have hV3 := G.mulV hA hB
  have HV := Lib.hid (And.intro hV1 (And.intro hV2 hV3)); clear hV1 hV2 hV3
  have hg0 : Ext w (w.alloc (.cells #[vo, vp, vc] 31)) := World.grownBy_alloc _ _ _
  have hBx := PresP.box h3 31
  have ha0 := ha.ext hg0
  have hb0 := hb.ext hg0
  have hs0 : (w.alloc (.cells #[vo, vp, vc] 31)).heap.size = w.heap.size + 1 := by simp
  have HS := Lib.hid hs0; clear hs0 ha hb
  go_enter Tryz.func115, Tryz.ntmps115
  go_wp2
  generalize hw0 : w.alloc (.cells #[vo, vp, vc] 31) = w0 at *
  clear hw0
  obtain ⟨vo6, vp6, vc6, _, _, hc0, hc1, hc2, h36⟩ := hBx.at
  have e1 : ∀ w', Ext w0 w' → w'.cell? ⟨w.heap.size, 0, none⟩ = some vo6 := fun w' h => h.cell hc0 (by simp)
  have e2 : ∀ w', Ext w0 w' → w'.cell? ⟨w.heap.size, 1, none⟩ = some vp6 := fun w' h => h.cell (by simpa using hc1) (by simp)
  have e3 : ∀ w', Ext w0 w' → w'.cell? ⟨w.heap.size, 2, none⟩ = some vc6 := fun w' h => h.cell (by simpa using hc2) (by simp)
  clear hc0 hc1 hc2
  go_region_held3 (fun w' => Ext w0 w') (first | exact grown_drew _ _ | assumption)
    (first
      | (revert hOF2; intro hOF2; go_at_call 176; refine Calls.mono (Calls.rel (w0 := w0) (by assumption) (l08Mul_ok P hP _ _ _ _ _ _ Any Any Any ⟨_, _, _, rfl, Pres3.ext h36 (by assumption)⟩ hOB2 hOF2 HV.out.2.1 HV.out.2.2)) ?_; rintro eC wC ⟨vC, rfl, hgC, hsC, hOC⟩)
      | (revert hOB; intro hOB; go_at_call 176; refine Calls.mono (Calls.rel2 (w0 := w0) (by assumption) (l08Mul_ok P hP _ _ _ _ A B Any Sa Sb ⟨_, _, _, rfl, Pres3.ext h36 (by assumption)⟩ (Ints.ext ha0 (by assumption)) (Ints.ext hb0 (by assumption)) hA hB)) ?_; rintro eF wF ⟨vF, rfl, hgF, hgF2, hsF, hOF⟩; have hOB2 := (hOB.ext0 hgF2).ints (by rw [HV.out.2.1.1]; omega); have hOF2 := hOF.ints (by rw [HV.out.2.2.1]; omega))
      | (go_at_call 178; refine Calls.mono (Calls.rel (w0 := w0) (by assumption) (l10Inv_ok P hP _ _ _ _ Any Any ⟨_, _, _, rfl, Pres3.ext h36 (by assumption)⟩ hOA2 HV.out.1)) ?_; rintro eB wB ⟨vB, rfl, hgB, hsB, hOB⟩)
      | (go_at_call 176; refine Calls.mono (Calls.rel (w0 := w0) (by assumption) (l08Mul_ok P hP _ _ _ _ B A Any Sb Sa ⟨_, _, _, rfl, Pres3.ext h36 (by assumption)⟩ (Ints.ext hb0 (by assumption)) (Ints.ext ha0 (by assumption)) hB hA)) ?_; rintro eA wA ⟨vA, rfl, hgA, hsA, hOA⟩; have hOA2 := hOA.ints (by rw [HV.out.1.1]; omega)))
  clear e1 e2 e3
  go_wp2
  go_ret
  exact ⟨_, rfl, grown_trans hg0 hgC, hOC.weak (by have := HS.out; omega)⟩

theorem l01Mod_ok (a m : Int) (w : World) (h1 : 0 ≤ a) (h2 : a < m) :
    Calls Tryz.prog 179 #[.int .i64 a, .int .i64 m] w fun e w' => e = .returned (.int .i64 a) ∧ w = w' := by
  have e1 : a.tmod m = a := Int.tmod_eq_of_lt h1 h2
  have hm0 : m ≠ 0 := by omega
  have hmb : (m == 0) = false := by simp; omega
  go_enter Tryz.func179, Tryz.ntmps179
  go_wp2
  go_ret
  exact ⟨rfl, rfl⟩

theorem inv_ex {a m : Int} (hm : m = 2 ∨ m = 3 ∨ m = 5 ∨ m = 7) (h1 : 1 ≤ a) (h2 : a < m) : ∃ y : Int, 1 ≤ y ∧ y < m ∧ (a * y) % m = 1 := by
  rcases hm with rfl | rfl | rfl | rfl
  · have : a = 1 := by omega
    subst this; exact ⟨1, by decide, by decide, by decide⟩
  · rcases (show a = 1 ∨ a = 2 by omega) with rfl | rfl
    · exact ⟨1, by decide, by decide, by decide⟩
    · exact ⟨2, by decide, by decide, by decide⟩
  · rcases (show a = 1 ∨ a = 2 ∨ a = 3 ∨ a = 4 by omega) with rfl | rfl | rfl | rfl
    · exact ⟨1, by decide, by decide, by decide⟩
    · exact ⟨3, by decide, by decide, by decide⟩
    · exact ⟨2, by decide, by decide, by decide⟩
    · exact ⟨4, by decide, by decide, by decide⟩
  · rcases (show a = 1 ∨ a = 2 ∨ a = 3 ∨ a = 4 ∨ a = 5 ∨ a = 6 by omega) with rfl | rfl | rfl | rfl | rfl | rfl
    · exact ⟨1, by decide, by decide, by decide⟩
    · exact ⟨4, by decide, by decide, by decide⟩
    · exact ⟨5, by decide, by decide, by decide⟩
    · exact ⟨2, by decide, by decide, by decide⟩
    · exact ⟨3, by decide, by decide, by decide⟩
    · exact ⟨6, by decide, by decide, by decide⟩

set_option maxHeartbeats 1000000 in
/-- the least inverse, as the reference looks for it -/
theorem l01Inv_ok (a m : Int) (w : World) (hm : m = 2 ∨ m = 3 ∨ m = 5 ∨ m = 7) (h1 : 1 ≤ a) (h2 : a < m) :
    Calls Tryz.prog 114 #[.int .i64 a, .int .i64 m] w (Ret w fun _ v => ∃ k : Int, v = .int .i64 k ∧ 0 ≤ k ∧ k < m ∧ (k * a) % m = 1) := by
  have hex := inv_ex hm h1 h2
  have HE := Lib.hid hex; clear hex
  have hm7 : 2 ≤ m ∧ m ≤ 7 := by omega
  obtain ⟨hm2, hm7⟩ := hm7
  clear hm
  have hcon := l01Mod_ok a m w (by omega) h2
  go_enter Tryz.func114, Tryz.ntmps114
  go_wp2
  go_loopw [5] (fun xv wr => ∃ x : Int, xv = .int .i64 x ∧ 1 ≤ x ∧ x ≤ m ∧ w = wr ∧ Hid (∀ y, 1 ≤ y → y < x → (a * y) % m ≠ 1)) (fun xv _ => (m - intOf xv).toNat)
  case atStart => exact ⟨1, rfl, by omega, by omega, rfl, Lib.hid (fun y h1 h2 => by omega)⟩
  case round =>
    obtain ⟨x, rfl, hx1, hxm, rfl, hN⟩ := hrel
    by_cases hlt : x < m
    · have hax0 : 0 ≤ a * x := Int.mul_nonneg (by omega) (by omega)
      have hax : a * x ≤ 7 * 7 := Int.mul_le_mul (by omega) (by omega) (by omega) (by omega)
      have e1 : IntKind.i64.wrap (a * x) = a * x := IntWalk.i64_in _ (by omega)
      have e2 : (a * x).tmod m = (a * x) % m := Int.tmod_eq_emod_of_nonneg hax0
      have hm0 : (m == 0) = false := by simp; omega
      by_cases hq : (a * x) % m = 1
      · have hb : ((a * x) % m == 1) = true := by simp [hq]
        have hq2 : (x * a) % m = 1 := by rw [Int.mul_comm]; exact hq
        have HQ := Lib.hid hq2; clear hq hq2
        go_wp2_with fail
        refine Calls.mono hcon ?_
        rintro e5 w5 ⟨rfl, rfl⟩
        clear hcon
        go_wp2
        go_ret
        exact ⟨_, rfl, Ext.refl _, x, rfl, by omega, hlt, HQ.out⟩
      · have hb : ((a * x) % m == 1) = false := by simp [hq]
        have HQ := Lib.hid hq; clear hq
        go_wp2_with fail
        refine Calls.mono hcon ?_
        rintro e5 w5 ⟨rfl, rfl⟩
        clear hcon
        go_wp2
        go_roundw
        case rel => exact ⟨x + 1, by go_num, by omega, by omega, trivial, Lib.hid (fun y h1 h2 => by
          by_cases hy : y = x
          · rw [hy]; exact HQ.out
          · exact hN.out y h1 (by omega))⟩
        case measure => simp [intOf]; omega
    · obtain ⟨y, h1, h2, h3⟩ := HE.out
      exact absurd h3 (hN.out y h1 (by omega))

end Go.Proofs.YtdklekdpdbjfiaaGreat

/- The reference's closure: spec.l12Close. -/
namespace Go.Proofs.YtdklekdpdbjfiaaGreat
open Go.RowKit

theorem tab_kept {B gb n W : Nat} {wI w2 : World} {v1 v2 : Value} {b : List (List Int)} (h : TabAt B (fun k => v1.ownBlock = some k) wI gb n b) (hv : ∀ k, v1.ownBlock = some k → W ≤ k) (hgb : gb < W)
    (hg2 : wI.grownBy w2 v1.ownBlock) (hb2 : v2.ownBlock = v1.ownBlock ∨ ∀ k, v2.ownBlock = some k → wI.heap.size ≤ k) : TabAt B (fun k => v2.ownBlock = some k) w2 gb n b := by
  refine h.kept hg2.size (fun k hk hc => hg2.block k hk (fun e => ?_)) (fun k hk e => ?_)
  · rcases hc with rfl | hc
    · have := hv _ e.symm; omega
    · exact hc e.symm
  · rcases hb2 with h | h
    · rw [← h]; exact e
    · have := h k e; omega

/-- rows in blocks of their own, as a stack -/
theorem SlO.shq {bad : Nat → Prop} {B : Nat} {w : World} {v : Value} {xs : List (List Int)} (h : RowsO B w v xs) (hbad : ∀ k, bad k → k < B) : ShQ bad B w v xs := by
  obtain ⟨vs, G, hl, hO, hG, _, hE⟩ := h
  refine ⟨vs, hl, QOwn.of hO, fun i hi => Ints.sub (hE i hi).ints (fun k hk _ => ?_)⟩
  obtain ⟨h1, h2, _⟩ := hG i k hi hk
  exact ⟨fun h => by have := hbad k h; omega, h2⟩

/-- the world has grown from w0, and block g is as it was in w1 -/
def HeldB (w0 w1 : World) (g : Nat) (w' : World) : Prop := Ext w0 w' ∧ w'.heap[g]? = w1.heap[g]?
theorem heldB_ext {w0 w1 w' : World} {g : Nat} (h0 : Ext w0 w1) (hg : g < w1.heap.size) (h : Ext w1 w') : HeldB w0 w1 g w' := ⟨grown_trans h0 h, h.block g hg (by simp)⟩
theorem HeldB.cell {w0 w1 w' : World} {g i : Nat} {v : Value} (h : HeldB w0 w1 g w') (hc : w1.cell? ⟨g, i, none⟩ = some v) : w'.cell? ⟨g, i, none⟩ = some v := (World.cell?_of_block (w := w1) h.2).trans hc

set_option maxRecDepth 100000 in
set_option maxHeartbeats 8000000 in
theorem l12Close_ok (P : Pr) (G : Grp P) (w : World) (pv lv : Value) (L : List (List Int)) (Sp Sr : Nat → Prop) (hpv : PresV Sp w pv P) (hl : Rows2 Sr w lv L) (hL : ∀ x ∈ L, Vec P.orders x) (hlen : L.length ≤ 10000) :
    Calls Tryz.prog 64 #[pv, lv] w (Ret w fun w' v => Rows2 Any w' v (cseq P (genP P (fun x => x ∈ L)))) := by
  have hP := G.v
  have hn6 := hP.n6
  obtain ⟨vo, vp, vc, rfl, h3⟩ := hpv
  have hp0 := PresP.box h3 31
  have hg0 : Ext w (w.alloc (.cells #[vo, vp, vc] 31)) := World.grownBy_alloc _ _ _
  have hs0 : (w.alloc (.cells #[vo, vp, vc] 31)).heap.size = w.heap.size + 1 := by simp
  obtain ⟨vo6, vp6, vc6, _, _, hc0, hc1, hc2, h36⟩ := hp0.at
  simp only [Nat.zero_add] at hc1 hc2
  obtain ⟨ao, capo, rfl, _, _⟩ := h36.o.shape
  clear hp0
  obtain ⟨al, capl, rfl, _, _⟩ := Sl.shape hl
  have hLl : ∀ x ∈ L, x.length ≤ 1000000 := fun x hx => by rw [(hL x hx).1]; omega
  have HL := Lib.hid (And.intro hL hLl); clear hL hLl
  go_enter Tryz.func64, Tryz.ntmps64
  go_wp2_with (first | (at_make; refine wp_make_tab rfl _ _ rfl w.heap.size P.orders.length (w.heap.size + 1) (by simp) _ rfl rfl rfl (by omega) (by omega) ?_; intro w1 hT1 hg1 hlt1) | fail)
  have HS := Lib.hid hs0; clear hs0
  generalize hw0 : w.alloc (.cells #[vo, vp, vc] 31) = w0 at *
  clear hw0
  have hl0 := Rows2.ext hl hg0
  clear hl
  have hgb1 : w.heap.size + 1 < w1.heap.size := hlt1
  refine Calls.mono (l01Own2_ok w1 _ L Sr (Rows2.ext hl0 hg1) HL.out.2 (by omega)) ?_
  rintro e2 w2 ⟨qv0, rfl, hg2, hQ2⟩
  have hq2 : ShQ (fun k => k = w.heap.size + 1) w1.heap.size w2 qv0 L := hQ2.shq (fun k hk => by omega)
  have hg02 := grown_trans hg1 hg2
  have hown2 : ∀ k, qv0.ownBlock = some k → w1.heap.size ≤ k := fun k hk => (hq2.lt k hk).1
  have hT2 : TabAt w.heap.size (fun k => qv0.ownBlock = some k) w2 (w.heap.size + 1) P.orders.length (List.replicate P.orders.length []) := (hT1 _).ext hg2
  clear hT1 hQ2 hl0
  -- facts of the box and the orders
  have hbx : ∀ w', Ext w0 w' → w'.cell? ⟨w.heap.size, 0, none⟩ = some (.slice ao P.orders.length capo) ∧ w'.cell? ⟨w.heap.size, 1, none⟩ = some vp6 ∧ w'.cell? ⟨w.heap.size, 2, none⟩ = some vc6 := fun w' h => ⟨h.cell hc0 (by simp), h.cell hc1 (by simp), h.cell hc2 (by simp)⟩
  have HB := Lib.hid hbx; clear hbx hc0 hc1 hc2
  obtain ⟨Q, hQ⟩ : ∃ Q : List Int → Prop, Q = fun x => x = zeros P.orders.length ∨ x ∈ L.reverse := ⟨_, rfl⟩
  have hst : ∃ R, AddInv P Q (gt (List.replicate P.orders.length [])) L.reverse R := by
    rw [hQ]; exact ⟨_, G.addInv_start G.ind_one (fun x hx => HL.out.1 x (List.mem_reverse.1 hx))⟩
  have hQL : genP P Q = genP P (fun x => x ∈ L) := by
    rw [hQ, genP_one]
    congr 1
    funext x
    simp
  have HST := Lib.hid (And.intro hst hQL); clear hst hQL hQ
  go_wp2
  go_loopg [7] (miss (List.replicate P.orders.length ([] : List Int)) P.orders.length * (P.orders.length + 3) + L.length) (fun gk qv wr => ∃ (b q : List (List Int)), gk ≤ 20000 ∧ gk = miss b P.orders.length * (P.orders.length + 3) + q.length ∧ Ext w0 wr ∧
    TabAt w.heap.size (fun k => qv.ownBlock = some k) wr (w.heap.size + 1) P.orders.length b ∧ ShQ (fun k => k = w.heap.size + 1) w1.heap.size wr qv q ∧ Hid (∃ R, AddInv P Q (gt b) q.reverse R))
  case atStart =>
    have hk0 : miss (List.replicate P.orders.length ([] : List Int)) P.orders.length * (P.orders.length + 3) + L.length ≤ 20000 := by
      have h3 : miss (List.replicate P.orders.length ([] : List Int)) P.orders.length * (P.orders.length + 3) ≤ 6 * 9 := Nat.mul_le_mul (by have := miss_le (List.replicate P.orders.length ([] : List Int)) P.orders.length; omega) (by omega)
      omega
    exact ⟨_, L, hk0, rfl, hg02, hT2, hq2, Lib.hid HST.out.1⟩
  case round =>
    clear hT2 hq2 hown2 hg02
    obtain ⟨b, q, hgkb, hgk, hg, hT, hq, hA⟩ := hrel
    have hlb := hT.len
    obtain ⟨hb1, hb2, hb3⟩ := HB.out wr hg
    have hqc : q = [] ∨ ∃ q1 y, q = q1 ++ [y] := by
      rcases List.eq_nil_or_concat q with h | ⟨q1, y, h⟩
      · exact .inl h
      · exact .inr ⟨q1, y, by rw [h, List.concat_eq_append]⟩
    rcases hqc with rfl | ⟨q1, y, rfl⟩
    · obtain ⟨aq, capq, rfl, _⟩ := hq.shape
      have hI : Ind P (genP P Q) (gt b) := by obtain ⟨R, hA⟩ := hA.out; exact G.addInv_end hA
      have HI := Lib.hid hI; clear hI hA
      go_wp2_with fail
      refine Calls.mono (l12Full_ok P G wr _ _ b (genP P Q) Any _ ⟨_, _, _, rfl, Pres3.ext h36 hg⟩ (hT.rows (by omega)) hlb HI.out) ?_
      rintro eF wF ⟨vF, rfl, hgF, hRF⟩
      rw [HST.out.2] at hRF
      go_wp2
      go_ret
      exact ⟨_, rfl, grown_trans hg0 (grown_trans hg hgF), hRF⟩
    · obtain ⟨aq, capq, rfl, _⟩ := hq.shape
      obtain ⟨k1, hk1⟩ : ∃ k1, k1 = q1.length := ⟨_, rfl⟩
      obtain ⟨gq, off, u, rfl, hgB, hglt, hcell, hyI⟩ := ShQ.head hq q1.length (by simp)
      rw [gt_concat] at hyI
      have hcap : k1 ≤ capq := by
        obtain ⟨vs, hvl, hqo, _⟩ := hq
        rcases hqo with ⟨h, _⟩ | ⟨g, o, cp, cur, hv, _, _, h1, _⟩
        · simp at h
        · simp only [Value.slice.injEq] at hv
          obtain ⟨_, _, rfl⟩ := hv
          simp at hvl; omega
      have hq1 := hq.init
      rw [← hk1] at hcell hq1
      have hml : (q1 ++ [y]).length = k1 + 1 := by simp [hk1]
      obtain ⟨m, hm⟩ : ∃ m, m = (q1 ++ [y]).length := ⟨_, rfl⟩
      rw [← hm] at hml hgk ⊢
      have hyV : Vec P.orders y := by obtain ⟨R, hA⟩ := hA.out; exact hA.vec _ (hA.que _ (by simp))
      have htab : ∀ d, d < P.orders.length → gt b d ≠ [] → T P d (gt b d) ∧ gt (gt b d) d = 1 := by obtain ⟨R, hA⟩ := hA.out; exact fun d hd h => (hA.tab d hd h).2
      have hA1 : ∃ R, AddInv P Q (gt b) (y :: q1.reverse) R := by
        obtain ⟨R, hA⟩ := hA.out
        rw [List.reverse_append] at hA
        exact ⟨R, hA⟩
      obtain ⟨ay, capy, hvy, _, _⟩ := hyI.shape
      rw [hyV.1] at hvy
      subst hvy
      have HY := Lib.hid (And.intro hyV (And.intro htab (And.intro hA1 (And.intro hk1 hgk)))); clear hyV htab hA1 hA hk1 hgk
      have hmb : m ≤ 20000 := by have := HY.out.2.2.2.2; omega
      have hmi : (0 : Int) < m := by omega
      have hwm : IntKind.i64.wrap ((m : Int) - 1) = (k1 : Int) := by rw [show (m : Int) - 1 = (k1 : Int) by omega]; exact IntWalk.i64_in _ (by omega)
      have hkm : (k1 : Int) < m := by omega
      have hk0 : (0 : Int) ≤ k1 := by omega
      have hrt := run_head_rows wr (some ⟨gq, off, none⟩) m capq (k1 : Int) hk0 (by omega)
      rw [show ((k1 : Int)).toNat = k1 by omega] at hrt
      have HM := Lib.hid (And.intro hml hm); clear hml hm
      have hTr := hT.rows (by omega)
      go_wp2_with fail
      refine Calls.mono (l12Strip_ok P G wr _ _ _ b y Any _ _ ⟨_, _, _, rfl, Pres3.ext h36 hg⟩ hTr hyI HY.out.1 hlb HY.out.2.1) ?_
      rintro eS wS ⟨vS, rfl, hgS, d, rv, Y, rfl, hOY, hSY, hdn, hdY⟩
      have hYV := hSY.vec.1
      have hYi := hOY.ints (by rw [hYV.1]; omega)
      have hA2 : ∃ R, AddInv P Q (gt b) (Y :: q1.reverse) R := by
        obtain ⟨R, hA⟩ := HY.out.2.2.1
        exact hSY.inv _ _ _ hA
      obtain ⟨ar, capr, hvr, _, _⟩ := hYi.shape
      rw [hYV.1] at hvr
      subst hvr
      have hgT := grown_trans hg hgS
      have hqS := hq1.ext hgS
      have hTS : TabAt w.heap.size (fun k => (Value.slice (some ⟨gq, off, none⟩) k1 capq).ownBlock = some k) wS (w.heap.size + 1) P.orders.length b := hT.ext hgS
      have HLB := Lib.hid hlb
      clear hT hq hq1 hTr hyI hcell hrt hwm hb1 hb2 hb3 hlb
      have hT0 := hSY.vec
      have HA2 := Lib.hid (And.intro hA2 (And.intro hT0 hYV)); clear hA2 hT0 hYV hSY
      by_cases hd : d = P.orders.length
      · have hY0 : Y = zeros P.orders.length := T.top hP (by rw [← hd]; exact HA2.out.2.1)
        have hA3 : Hid (∃ R, AddInv P Q (gt b) q1.reverse R) := by
          obtain ⟨R, hA⟩ := HA2.out.1
          exact Lib.hid ⟨R, addInv_drop hA hY0⟩
        clear hdY hY0
        subst hd
        go_wp2
        go_roundg (gk - 1)
        case measure => have := HY.out.2.2.2.2; omega
        case rel => exact ⟨b, q1, by omega, by have := HY.out.2.2.2.2; have := HY.out.2.2.2.1; have := HM.out.1; omega, hgT, hTS, hqS, hA3⟩
      · have hdl : d < P.orders.length := by omega
        obtain ⟨hy0, hbd⟩ := hdY hdl
        clear hdY
        have hdi : ((d : Int) == (P.orders.length : Int)) = false := by simp; omega
        have hYV := HA2.out.2.2
        have ho := hP.ord7 d hdl
        have hpr := hP.ord d hdl
        have hyd := hYV.2 d hdl
        obtain ⟨br, or_, rfl, _, _, hcr⟩ := Ints.at hYi d (by rw [hYV.1]; exact hdl)
        obtain ⟨bo, oo, rfl, _, _, hco⟩ := Ints.at (Ints.ext h36.o hgT) d hdl
        have hyd1 : 1 ≤ gt Y d := by omega
        have HD := Lib.hid (And.intro hbd (And.intro hpr (And.intro hy0 hd))); clear hbd hpr hy0 hd
        have hd0 : (0 : Int) ≤ d := by omega
        have hdn' : (d : Int) < P.orders.length := by omega
        have e1 : ∀ w', Ext wS w' → w'.cell? ⟨w.heap.size, 0, none⟩ = some (.slice (some ⟨bo, oo, none⟩) P.orders.length capo) := fun w' h => (HB.out w' (grown_trans hgT h)).1
        have e2 : ∀ w', Ext wS w' → w'.cell? ⟨w.heap.size, 1, none⟩ = some vp6 := fun w' h => (HB.out w' (grown_trans hgT h)).2.1
        have e3 : ∀ w', Ext wS w' → w'.cell? ⟨w.heap.size, 2, none⟩ = some vc6 := fun w' h => (HB.out w' (grown_trans hgT h)).2.2
        have e4 : ∀ w', Ext wS w' → w'.cell? ⟨br, or_ + d, none⟩ = some (.int .i64 (gt Y d)) := fun w' h => h.cell hcr (by simp)
        have e5 : ∀ w', Ext wS w' → w'.cell? ⟨bo, oo + d, none⟩ = some (.int .i64 (gt P.orders d)) := fun w' h => h.cell hco (by simp)
        clear hcr hco
        go_wp2
        go_region_held3 (fun w' => Ext wS w') (first | exact grown_drew _ _ | assumption)
          (first
            | (go_at_call 114; refine Calls.mono (Calls.rel (w0 := wS) (by first | exact grown_drew _ _ | assumption) (l01Inv_ok (gt Y d) (gt P.orders d) _ HD.out.2.1 hyd1 hyd.2)) ?_; rintro eI wI ⟨vI, rfl, hgI, hsI, kk, rfl, hk1', hk2', hkk⟩; have HK := Lib.hid hkk; clear hkk)
            | (go_at_call 113; refine Calls.mono (Calls.rel (w0 := wS) (by assumption) (l10Pow_ok P G _ _ _ Y _ Any Any ⟨_, _, _, rfl, Pres3.ext (Pres3.ext h36 hgT) (by assumption)⟩ (Ints.sub (Ints.ext hYi (by assumption)) (fun _ _ _ => trivial)) hYV (by omega))) ?_; rintro eZ wZ ⟨zv, rfl, hgZ, hsZ, hOZ⟩))
        clear e1 e2 e3 e4 e5
        rw [pwZ_nat _ _ _ hk1'] at hOZ
        obtain ⟨Z, hZ⟩ : ∃ Z, Z = pw P Y kk.toNat := ⟨_, rfl⟩
        rw [← hZ] at hOZ
        have hZV : Vec P.orders Z := by rw [hZ]; exact G.pw_vec hYV _
        have hZl : Z.length = P.orders.length := hZV.1
        have hZne : Z ≠ [] := fun h => by rw [h] at hZl; simp at hZl; omega
        have hgwZ := grown_trans hgT hgZ
        have hszS := hgS.size
        have hZI : Ints (fun k => k ≠ w.heap.size + 1 ∧ ¬ ((Value.slice (some ⟨gq, off, none⟩) k1 capq).ownBlock = some k)) wZ zv Z := ints_of_own hOZ (by omega) (fun k hk => by
          have h1 := (hOZ.lt k hk).1
          exact ⟨by omega, fun e => by have := own_blk e; omega⟩)
        obtain ⟨az, capz, hvz, _, _⟩ := hZI.shape
        rw [hZl] at hvz
        subst hvz
        obtain ⟨hT5, hg5⟩ := (hTS.ext hgZ).put d hZI hZne
        obtain ⟨hfr, hcc⟩ := (hTS.ext hgZ).at d hdl
        have hcd : wZ.cell? ⟨w.heap.size + 1, d, none⟩ = some (.slice none 0 0) := hcc.elim (fun h => h.2) (fun h => absurd HD.out.1 h.1)
        have hfar : ∀ (S : Nat → Prop) k, (k ≠ w.heap.size + 1 ∧ S k) → k < wZ.heap.size → (k ≠ w.heap.size + 1 ∧ S k) ∧ k < (wZ.setCell ⟨w.heap.size + 1, d, none⟩ (.slice az P.orders.length capz)).heap.size ∧ (wZ.setCell ⟨w.heap.size + 1, d, none⟩ (.slice az P.orders.length capz)).heap[k]? = wZ.heap[k]? := fun S k hk hlt => ⟨hk, Nat.lt_of_lt_of_le hlt hg5.size, hg5.block k hlt (fun e => hk.1 (by cases e; rfl))⟩
        have hZ5 := Ints.mono hZI (hfar _)
        have hr5 : Ints (fun k => k ≠ w.heap.size + 1 ∧ ¬ ((Value.slice (some ⟨gq, off, none⟩) k1 capq).ownBlock = some k)) (wZ.setCell ⟨w.heap.size + 1, d, none⟩ (.slice az P.orders.length capz)) (.slice (some ⟨br, or_, none⟩) P.orders.length capr) Y := Ints.mono (ints_of_own (hOY.ext0 hgZ) (by rw [hYV.1]; omega) (fun k hk => by
          have h1 := ((hOY.ext0 hgZ).lt k hk).1
          exact ⟨by omega, fun e => by have := own_blk e; omega⟩)) (hfar _)
        have hq5 : ShQ (fun k => k = w.heap.size + 1) w1.heap.size (wZ.setCell ⟨w.heap.size + 1, d, none⟩ (.slice az P.orders.length capz)) (.slice (some ⟨gq, off, none⟩) k1 capq) q1 := (hqS.ext hgZ).kept hg5.size (fun j hj hc => hg5.block j hj (fun e => by
          have e := Option.some.inj e
          subst e
          rcases hc with hc | hc
          · have := own_blk hc; omega
          · exact hc rfl)) (fun _ _ h => h)
        have hgw5 : Ext w0 (wZ.setCell ⟨w.heap.size + 1, d, none⟩ (.slice az P.orders.length capz)) := grown_own hgwZ hg5 (fun j hj hlt => by cases hj; have := HS.out; omega)
        have hqown : ∀ k, (Value.slice (some ⟨gq, off, none⟩) k1 capq).ownBlock = some k → w1.heap.size ≤ k := fun k hk => by have := own_blk hk; omega
        have HZ := Lib.hid (And.intro hZ (And.intro hZV (And.intro hZl hZne))); clear hZ hZV hZl hZne hcc hTS hqS hOZ hOY hZI
        have hq1l : q1.length ≤ 20000 := by have := HY.out.2.2.2.1; omega
        generalize hw5 : wZ.setCell ⟨w.heap.size + 1, d, none⟩ (.slice az P.orders.length capz) = w5 at *
        have hs5 : w1.heap.size ≤ w5.heap.size := by have := hgw5.size; have := hg5.size; have := hgZ.size; omega
        go_wp2_with (first | (at_builtin; refine wp_shq_app rfl _ _ rfl (fun k => k = w.heap.size + 1) w1.heap.size _ _ q1 Y rfl w5 hq5 rfl hr5 rfl (by omega) hs5 ?_; intro v6 w6 hq6 hg6 hb6; have hgw6 := grown_own hgw5 hg6 (fun j hj hlt => by have := hqown j hj; have := HS.out; omega)) | fail)
        have hT6 := tab_kept hT5 hqown hgb1 hg6 hb6
        have hZ6 : Ints (fun k => ¬ (k = w.heap.size + 1) ∧ v6.ownBlock ≠ some k) w6 (.slice az P.orders.length capz) Z := Ints.mono hZ5 (q_kept (bad := fun k => k = w.heap.size + 1) hg6 hb6)
        have hs6 : w1.heap.size ≤ w6.heap.size := by have := hg6.size; omega
        have hqlt6 : ∀ k, v6.ownBlock = some k → w1.heap.size ≤ k := fun k hk => (hq6.lt k hk).1
        clear hw5 hfar hT5 hg5 hZ5 hr5 hq5 hg6 hb6 hfr hcd hqown
        have hTV : Vec P.orders (pw P Z (gt P.orders d).toNat) := G.pw_vec HZ.out.2.1 _
        have hTl : (pw P Z (gt P.orders d).toNat).length ≤ 6 := by rw [hTV.1]; omega
        have hTe : pwZ P Z (gt P.orders d) = pw P Z (gt P.orders d).toNat := pwZ_nat _ _ _ (by omega)
        have HTV := Lib.hid (And.intro hTl hTe); clear hTl hTe hTV
        have e1 : ∀ w', Ext w0 w' → w'.cell? ⟨w.heap.size, 0, none⟩ = some (.slice (some ⟨bo, oo, none⟩) P.orders.length capo) := fun w' h => (HB.out w' h).1
        have e2 : ∀ w', Ext w0 w' → w'.cell? ⟨w.heap.size, 1, none⟩ = some vp6 := fun w' h => (HB.out w' h).2.1
        have e3 : ∀ w', Ext w0 w' → w'.cell? ⟨w.heap.size, 2, none⟩ = some vc6 := fun w' h => (HB.out w' h).2.2
        obtain ⟨_, _, hbb, _, _, hco⟩ := Ints.at h36.o d hdl
        have e5 : ∀ w', Ext w0 w' → w'.cell? ⟨bo, oo + d, none⟩ = some (.int .i64 (gt P.orders d)) := fun w' h => h.cell (by cases hbb; exact hco) (by simp)
        clear hco hbb
        go_region_held3 (fun w' => Ext w0 w') (first | exact grown_trans hgw6 (grown_drew _ _) | assumption | exact grown_trans hgwT (World.grownBy_alloc _ _ _))
          (first
            | (go_at_call 113; refine Calls.mono (Calls.rel2 (w0 := w6) (grown_drew _ _) (l10Pow_ok P G _ _ _ Z (gt P.orders d) Any _ ⟨_, _, _, rfl, Pres3.ext h36 (grown_trans hgw6 (grown_drew _ _))⟩ (hZ6.ext (grown_drew _ _)) HZ.out.2.1 (by omega))) ?_; rintro eT wT ⟨vT, rfl, hgT6, hgT7, hsT, hOT⟩; have hgwT := grown_trans hgw6 hgT6; rw [HTV.out.2] at hOT; have hTI : Ints (fun k => ¬ (k = w.heap.size + 1) ∧ v6.ownBlock ≠ some k) wT vT (pw P Z (gt P.orders d).toNat) := ints_of_own hOT (by have := HTV.out.1; omega) (fun k hk => by
                have h1 := (hOT.lt k hk).1
                have h3 := hgw6.size
                exact ⟨by omega, fun e => by have := (hq6.lt k e).2; omega⟩); obtain ⟨aT, capT, hvT, _, _⟩ := hTI.shape; subst hvT)
            | (refine step_shq_app rfl _ _ rfl (fun k => k = w.heap.size + 1) w1.heap.size v6 _ (q1 ++ [Y]) _ rfl wT (hq6.ext hgT6) rfl hTI rfl (by simp; omega) (by have := hgT6.size; omega) ?_; intro v7 w7 hq7 hg7 hb7; have hgw7 := grown_own hgwT hg7 (fun j hj hlt => by have := hqlt6 j hj; have := HS.out; omega)))
        clear e1 e2 e3 e5
        have hs7 : w1.heap.size ≤ w7.heap.size := by have := hg7.size; have := hgT6.size; omega
        have hT7 := tab_kept (hT6.ext hgT6) hqlt6 hgb1 hg7 hb7
        have hZ7 : Ints (fun k => ¬ (k = w.heap.size + 1) ∧ v7.ownBlock ≠ some k) w7 (.slice az P.orders.length capz) Z := Ints.mono (hZ6.ext hgT6) (q_kept (bad := fun k => k = w.heap.size + 1) hg7 hb7)
        obtain ⟨T1, hT1e⟩ : ∃ T1, T1 = pw P Z (gt P.orders d).toNat := ⟨_, rfl⟩
        rw [← hT1e] at hq7
        have HT1 := Lib.hid hT1e; clear hT1e hq6 hT6 hZ6 hqlt6 hTI hOT hg7 hb7
        go_wp2
        go_loopw [7, 12] (fun qv ev wr2 => ∃ (e : Nat) (v8 : Value), v8 = qv ∧ ev = .int .i64 e ∧ e ≤ P.orders.length ∧ w1.heap.size ≤ wr2.heap.size ∧ Ext w0 wr2 ∧ TabAt w.heap.size (fun j => v8.ownBlock = some j) wr2 (w.heap.size + 1) P.orders.length (b.set d Z) ∧
          ShQ (fun k => k = w.heap.size + 1) w1.heap.size wr2 v8 (q1 ++ [Y] ++ [T1] ++ comsR P b Z e) ∧ Ints (fun j => ¬ (j = w.heap.size + 1) ∧ v8.ownBlock ≠ some j) wr2 (.slice az P.orders.length capz) Z) (fun _ ev _ => P.orders.length - (intOf ev).toNat)
        case atStart => exact ⟨0, v7, rfl, rfl, by omega, hs7, hgw7, hT7, by simpa [comsR] using hq7, hZ7⟩
        case round =>
          obtain ⟨e, v8, rfl, rfl, he, hs8, hg8, hT8, hq8, hZ8⟩ := hrel
          clear hT7 hq7 hZ7
          have hqlt8 : ∀ j, v8.ownBlock = some j → w1.heap.size ≤ j := fun j hj => (hq8.lt j hj).1
          by_cases he2 : e < P.orders.length
          · have he' : (e : Int) < P.orders.length := by omega
            have he0 : (0 : Int) ≤ e := by omega
            by_cases hed : e = d
            · have hcs : comsR P b Z (e + 1) = comsR P b Z e := by simp only [comsR]; rw [if_pos (by rw [hed]; exact HD.out.1), List.append_nil]
              have hne : ((e : Int) != (d : Int)) = false := by simp [hed]
              have HC := Lib.hid hcs; clear hcs hed
              go_wp2
              go_roundw
              case rel => exact ⟨e + 1, v8, rfl, by go_num, by omega, hs8, hg8, hT8, by rw [HC.out]; exact hq8, hZ8⟩
              case measure => simp [intOf]; omega
            · have hne : ((e : Int) != (d : Int)) = true := by simp; omega
              have hbe : gt (b.set d Z) e = gt b e := gt_set_ne _ _ _ _ (fun h => hed h.symm)
              obtain ⟨_, hcc⟩ := hT8.at e he2
              rw [hbe] at hcc
              clear hbe hed
              rcases hcc with ⟨h0, hcell⟩ | ⟨hnn, ab, capb, hcell, hbI⟩
              · have hcs : comsR P b Z (e + 1) = comsR P b Z e := by simp only [comsR]; rw [if_pos h0, List.append_nil]
                have HC := Lib.hid hcs; clear hcs h0
                go_wp2
                go_roundw
                case rel => exact ⟨e + 1, v8, rfl, by go_num, by omega, hs8, hg8, hT8, by rw [HC.out]; exact hq8, hZ8⟩
                case measure => simp [intOf]; omega
              · have hcs : comsR P b Z (e + 1) = comsR P b Z e ++ [comR P Z (gt b e)] := by simp only [comsR]; rw [if_neg hnn]
                have hbV := (HY.out.2.1 e he2 hnn).1.1
                have hcV : Vec P.orders (comR P Z (gt b e)) := G.mulV (G.invV (G.mulV hbV HZ.out.2.1)) (G.mulV HZ.out.2.1 hbV)
                have hbl : (0 : Int) < (gt b e).length := by
                  have : 0 < (gt b e).length := List.length_pos_iff.2 hnn
                  omega
                have hcl := comsR_len P b Z e
                have HC := Lib.hid (And.intro hcs (And.intro hbV (And.intro hcV hcl))); clear hcs hbV hcV hcl hnn
                have hgbl : w.heap.size + 1 < wr.heap.size := by have := hT8.lt; omega
                go_wp2
                have e1 : ∀ w', HeldB w0 wr (w.heap.size + 1) w' → w'.cell? ⟨w.heap.size, 0, none⟩ = some (.slice (some ⟨bo, oo, none⟩) P.orders.length capo) := fun w' h => (HB.out w' h.1).1
                have e2 : ∀ w', HeldB w0 wr (w.heap.size + 1) w' → w'.cell? ⟨w.heap.size, 1, none⟩ = some vp6 := fun w' h => (HB.out w' h.1).2.1
                have e3 : ∀ w', HeldB w0 wr (w.heap.size + 1) w' → w'.cell? ⟨w.heap.size, 2, none⟩ = some vc6 := fun w' h => (HB.out w' h.1).2.2
                have e4 : ∀ w', HeldB w0 wr (w.heap.size + 1) w' → w'.cell? ⟨w.heap.size + 1, e, none⟩ = some (.slice (some ab) (gt b e).length capb) := fun w' h => h.cell hcell
                clear hcell
                go_region_held3 (fun w' => HeldB w0 wr (w.heap.size + 1) w') (first | exact heldB_ext hg8 hgbl (grown_drew _ _) | assumption | exact heldB_ext hg8 hgbl hgC | exact heldB_ext hg8 hgbl (grown_trans hgC (World.grownBy_alloc _ _ _)))
                  (first
                    | (go_at_call 115; refine Calls.mono (Calls.rel2 (w0 := wr) (grown_drew _ _) (l10Comm_ok P G _ _ _ _ Z (gt b e) Any _ _ ⟨_, _, _, rfl, Pres3.ext h36 (grown_trans hg8 (grown_drew _ _))⟩ (hZ8.ext (grown_drew _ _)) (Ints.ext hbI (grown_drew _ _)) HZ.out.2.1 HC.out.2.1)) ?_; rintro eC wC ⟨vC, rfl, hgC, hgC2, hsC, hOC⟩; have hCI : Ints (fun k => ¬ (k = w.heap.size + 1) ∧ v8.ownBlock ≠ some k) wC vC (comR P Z (gt b e)) := ints_of_own hOC (by rw [HC.out.2.2.1.1]; omega) (fun k hk => by
                        have h1 := (hOC.lt k hk).1
                        exact ⟨by omega, fun e => by have := (hq8.lt k e).2; omega⟩); obtain ⟨aC, capC, hvC, _, _⟩ := hCI.shape; subst hvC)
                    | (refine step_shq_app rfl _ _ rfl (fun k => k = w.heap.size + 1) w1.heap.size v8 _ (q1 ++ [Y] ++ [T1] ++ comsR P b Z e) _ rfl wC (hq8.ext hgC) rfl hCI rfl (by have := HC.out.2.2.2; simp; omega) (by have := hgC.size; omega) ?_; intro v9 w9 hq9 hg9 hb9; have hH9 : HeldB w0 wr (w.heap.size + 1) w9 := ⟨grown_own (grown_trans hg8 hgC) hg9 (fun j hj hlt => by have := hqlt8 j hj; have := HS.out; omega), (hg9.block _ (by have := hgC.size; omega) (fun e => by have := hqlt8 _ e.symm; omega)).trans (hgC.block _ hgbl (by simp))⟩))
                clear e1 e2 e3 e4
                have hs9 : w1.heap.size ≤ w9.heap.size := by have := hg9.size; have := hgC.size; omega
                have hT9 := tab_kept (hT8.ext hgC) hqlt8 hgb1 hg9 hb9
                have hZ9 : Ints (fun k => ¬ (k = w.heap.size + 1) ∧ v9.ownBlock ≠ some k) w9 (.slice az P.orders.length capz) Z := Ints.mono (hZ8.ext hgC) (q_kept (bad := fun k => k = w.heap.size + 1) hg9 hb9)
                clear hq8 hT8 hZ8 hg9 hb9 hCI hOC
                go_wp2
                go_roundw
                case rel => exact ⟨e + 1, v9, rfl, by go_num, by omega, hs9, hH9.1, hT9, by rw [HC.out.1, ← List.append_assoc]; exact hq9, hZ9⟩
                case measure => simp [intOf]; omega
          · have hee : e = P.orders.length := by omega
            subst hee
            have hms := miss_set (b := b) (z := Z) HD.out.1 HZ.out.2.2.2 P.orders.length (by rw [HLB.out]; exact Nat.le_refl _)
            rw [if_pos hdl] at hms
            have hcl := comsR_len P b Z P.orders.length
            have hll : (q1 ++ [Y] ++ [T1] ++ comsR P b Z P.orders.length).length ≤ q1.length + 2 + P.orders.length := by simp; omega
            have hmul : miss b P.orders.length * (P.orders.length + 3) = miss (b.set d Z) P.orders.length * (P.orders.length + 3) + (P.orders.length + 3) := by rw [← hms, Nat.add_mul, Nat.one_mul]
            have hA5 : Hid (∃ R, AddInv P Q (gt (b.set d Z)) (q1 ++ [Y] ++ [T1] ++ comsR P b Z P.orders.length).reverse R) := by
              obtain ⟨R, hA⟩ := HA2.out.1
              have hst := G.close_step (q' := (q1 ++ [Y] ++ [T1] ++ comsR P b Z P.orders.length).reverse) hA hdl HA2.out.2.1 HD.out.1 HLB.out kk hk1' HK.out (fun x => by
                rw [← HZ.out.1, ← HT1.out]
                simp only [List.mem_reverse, List.mem_append, List.mem_singleton, or_assoc])
              rw [← HZ.out.1] at hst
              exact Lib.hid hst
            have hlt5 : miss (b.set d Z) P.orders.length * (P.orders.length + 3) + (q1 ++ [Y] ++ [T1] ++ comsR P b Z P.orders.length).length < gk := by
              have := HY.out.2.2.2.2; have := HY.out.2.2.2.1; have := HM.out.1; omega
            have HX := Lib.hid (And.intro hll (And.intro hlt5 (And.intro hmul hms))); clear hll hmul hms hlt5 hcl hZ8
            go_wp2
            go_roundg (miss (b.set d Z) P.orders.length * (P.orders.length + 3) + (q1 ++ [Y] ++ [T1] ++ comsR P b Z P.orders.length).length)
            case measure => exact HX.out.2.1
            case rel => exact ⟨b.set d Z, _, by have := HX.out.2.1; omega, rfl, hg8, hT8, hq8, hA5⟩

end Go.Proofs.YtdklekdpdbjfiaaGreat

/- The codes and orders of Hall subgroups: impl.hallOrder, isPrimeSet, hallCode; spec.l20Primes, l20Code. -/
namespace Go.Proofs.YtdklekdpdbjfiaaGreat
open Go.RowKit

set_option maxRecDepth 100000 in
set_option maxHeartbeats 1000000 in
theorem indexInt_ok (l : List Int) (x : Int) (w : World) (v : Value) (S : Nat → Prop) (hv : Ints S w v l) :
    Calls Tryz.prog 186 #[v, .int .i64 x] w (Ret w fun _ r => ∃ k : Int, r = .int .i64 k ∧ (0 ≤ k ↔ x ∈ l)) := by
  obtain ⟨a, c, rfl, _, _⟩ := hv.shape
  have HV := Lib.hid hv; clear hv
  go_enter Tryz.func186, Tryz.ntmps186
  go_wp2
  go_loopw [8] (fun iv wr => ∃ i : Nat, iv = .int .i64 i ∧ i ≤ l.length ∧ Ext w wr ∧ Hid (∀ j, j < i → gt l j ≠ x)) (fun iv _ => l.length - (intOf iv).toNat)
  case atStart => exact ⟨0, by go_num, by omega, Ext.refl _, Lib.hid (fun j hj => by omega)⟩
  case round =>
    obtain ⟨i, rfl, hi, hg, hN⟩ := hrel
    by_cases hlt : i < l.length
    · have hlt' : (i : Int) < l.length := by omega
      obtain ⟨b, o, hab, _, _, hc⟩ := Ints.at HV.out i hlt
      subst hab
      have hcr := hg.cell hc (by simp)
      by_cases he : gt l i = x
      · have hd : x ∈ l := by rw [← he]; exact gt_mem hlt
        rw [he] at hcr
        have HD := Lib.hid hd; clear hd he hc
        go_wp2
        go_ret
        exact ⟨_, rfl, hg, (i : Int), rfl, ⟨fun _ => HD.out, fun _ => by omega⟩⟩
      · have hne : (x == gt l i) = false := by
          have : ¬ x = gt l i := fun e => he e.symm
          simpa using this
        have hN2 : ∀ j, j < i + 1 → gt l j ≠ x := fun j hj => by
          rcases Nat.lt_succ_iff_lt_or_eq.1 hj with h | h
          · exact hN.out j h
          · rw [h]; exact he
        have HN2 := Lib.hid hN2; clear hN2 he hc hN
        generalize gt l i = y at *
        go_wp2
        clear hne
        go_roundw
        case rel => exact ⟨i + 1, by go_num, by omega, hg, HN2⟩
        case measure => simp [intOf]; omega
    · have hie : i = l.length := by omega
      have hd : ¬ x ∈ l := fun h => by
        obtain ⟨j, hj, e⟩ := mem_gt h
        exact hN.out j (by omega) e
      have hnl : ¬ (i : Int) < l.length := by omega
      have HD := Lib.hid hd; clear hd hie hN
      go_wp2
      go_ret
      exact ⟨_, rfl, hg, -1, rfl, ⟨fun h => by omega, fun h => absurd h HD.out⟩⟩

set_option maxRecDepth 100000 in
set_option maxHeartbeats 1000000 in
theorem containsInt_ok (l : List Int) (x : Int) (w : World) (v : Value) (S : Nat → Prop) (hv : Ints S w v l) :
    Calls Tryz.prog 121 #[v, .int .i64 x] w (Ret w fun _ r => r = .bool (decide (x ∈ l))) := by
  have hi := indexInt_ok l x w v S hv
  obtain ⟨a, c, rfl, _, _⟩ := hv.shape
  go_enter Tryz.func121, Tryz.ntmps121
  go_wp2_with fail
  refine Calls.mono hi ?_
  rintro e1 w1 ⟨v1, rfl, hg1, k, rfl, hk⟩
  have HK := Lib.hid hk; clear hk hi
  go_wp2
  go_ret
  refine ⟨_, rfl, hg1, ?_⟩
  show Value.bool (decide (0 ≤ k)) = _
  rw [decide_eq_decide.2 HK.out]

theorem hallTo_le {P : Pr} (hP : Valid P) (pr : List Int) : ∀ k, k ≤ P.orders.length → 1 ≤ hallTo P pr k ∧ hallTo P pr k ≤ prodTo P.orders k
  | 0, _ => ⟨Int.le_refl 1, Int.le_refl 1⟩
  | k + 1, h => by
    obtain ⟨h1, h2⟩ := hallTo_le hP pr k (by omega)
    have ho := hP.ord7 k (by omega)
    have h3 : 1 * 1 ≤ hallTo P pr k * gt P.orders k := Int.mul_le_mul h1 (by omega) (by omega) (by omega)
    have h4 : hallTo P pr k * gt P.orders k ≤ prodTo P.orders k * gt P.orders k := Int.mul_le_mul_of_nonneg_right h2 (by omega)
    have h5 : prodTo P.orders k * 1 ≤ prodTo P.orders k * gt P.orders k := Int.mul_le_mul_of_nonneg_left (by omega) (by omega)
    unfold hallTo prodTo
    split <;> omega
theorem hallTo_729 {P : Pr} (hP : Valid P) (pr : List Int) (k : Nat) (hk : k ≤ P.orders.length) : 1 ≤ hallTo P pr k ∧ hallTo P pr k ≤ 729 := by
  have h1 := hallTo_le hP pr k hk
  have h2 := hP.pre k hk
  omega
theorem hallTo_yes {P : Pr} {pr : List Int} {k : Nat} (h : gt P.orders k ∈ pr) : hallTo P pr (k + 1) = hallTo P pr k * gt P.orders k := by rw [hallTo, if_pos h]
theorem hallTo_no {P : Pr} {pr : List Int} {k : Nat} (h : ¬ gt P.orders k ∈ pr) : hallTo P pr (k + 1) = hallTo P pr k := by rw [hallTo, if_neg h]

set_option maxRecDepth 100000 in
set_option maxHeartbeats 1000000 in
theorem hallOrder_ok (P : Pr) (hP : Valid P) (pr : List Int) (w : World) (p v : Value) (Sp S : Nat → Prop) (hp : PresP Sp w p P) (hv : Ints S w v pr) :
    Calls Tryz.prog 70 #[p, v] w (Ret w fun _ r => r = .int .i64 (hallO P pr)) := by
  have hn6 := hP.n6
  obtain ⟨pb, po, rfl⟩ := hp.shape
  obtain ⟨ao, capo, hco0, hoi⟩ := hp.ordAt
  obtain ⟨a, c, rfl, _, _⟩ := hv.shape
  have HV := Lib.hid hv; clear hv
  go_enter Tryz.func70, Tryz.ntmps70
  go_wp2
  clear hco0
  go_loopw [5, 13] (fun ov iv wr => ∃ i : Nat, ov = .int .i64 (hallTo P pr i) ∧ iv = .int .i64 i ∧ i ≤ P.orders.length ∧ Ext w wr) (fun _ iv _ => P.orders.length - (intOf iv).toNat)
  case atStart => exact ⟨0, rfl, by go_num, by omega, Ext.refl _⟩
  case round =>
    obtain ⟨i, rfl, rfl, hi, hg⟩ := hrel
    by_cases hlt : i < P.orders.length
    · have hlt' : (i : Int) < P.orders.length := by omega
      obtain ⟨b, o, hab, _, _, hc⟩ := Ints.at hoi i hlt
      subst hab
      have hcr := hg.cell hc (by simp)
      have hb := hallTo_729 hP pr i hi
      have hb1 := hallTo_729 hP pr (i + 1) hlt
      have hyes := @hallTo_yes P pr i
      have hno := @hallTo_no P pr i
      obtain ⟨q, hq⟩ : ∃ q, q = gt P.orders i := ⟨_, rfl⟩
      obtain ⟨h0, hh0⟩ : ∃ h, h = hallTo P pr i := ⟨_, rfl⟩
      rw [← hq] at hcr hyes hno
      rw [← hh0] at hb hyes hno ⊢
      have hcon := containsInt_ok pr q wr _ S (Ints.ext HV.out hg)
      have HY := Lib.hid (And.intro hyes (And.intro hno hb1)); clear hyes hno hb1 hc hq hh0
      go_wp2_with fail
      refine Calls.mono hcon ?_
      rintro e1 w1 ⟨v1, rfl, hg1, rfl⟩
      clear hcon hcr
      have hg01 := grown_trans hg hg1
      by_cases hm : q ∈ pr
      · have hd : decide (q ∈ pr) = true := decide_eq_true hm
        have hst := HY.out.1 hm
        have hbd := HY.out.2.2
        rw [hst] at hbd
        have hw : wrap64 (h0 * q) = h0 * q := IntWalk.wrap64_in _ (by omega)
        rw [hd]
        have HS := Lib.hid hst; clear hst hm hd
        go_wp2
        go_roundw
        case rel => exact ⟨i + 1, by rw [HS.out], by go_num, by omega, hg01⟩
        case measure => simp [intOf]; omega
      · have hd : decide (q ∈ pr) = false := decide_eq_false hm
        have hst := HY.out.2.1 hm
        rw [hd]
        have HS := Lib.hid hst; clear hst hm hd
        go_wp2
        go_roundw
        case rel => exact ⟨i + 1, by rw [HS.out], by go_num, by omega, hg01⟩
        case measure => simp [intOf]; omega
    · have hie : i = P.orders.length := by omega
      have hnl : ¬ (i : Int) < P.orders.length := by omega
      subst hie
      go_wp2
      go_ret
      exact ⟨_, rfl, hg, rfl⟩

end Go.Proofs.YtdklekdpdbjfiaaGreat

/- The codes of Hall subgroups: impl.hallCode; spec.l20Primes, l20Code. -/
namespace Go.Proofs.YtdklekdpdbjfiaaGreat
open Go.RowKit

theorem l01PrimeR_ok (n : Int) (w : World) : Calls Tryz.prog 110 #[.int .i64 n] w (Ret w fun _ v => v = .bool (primeB n)) := by
  refine Calls.mono (l01Prime_ok n w) ?_
  rintro e w' ⟨rfl, rfl⟩
  exact ⟨_, rfl, Ext.refl _, rfl⟩

end Go.Proofs.YtdklekdpdbjfiaaGreat

/- spec.l01Part, l20Part: the part of an order for a set of primes. -/
namespace Go.Proofs.YtdklekdpdbjfiaaGreat
open Go.RowKit

/-- the greatest power of p that divides n, with fuel -/
def prtN (p : Nat) : Nat → Nat → Nat
  | 0, _ => 1
  | f + 1, n => if n % p = 0 then p * prtN p f (n / p) else 1
theorem prtN_fuel {p : Nat} (hp : 2 ≤ p) : ∀ f g n, 1 ≤ n → n ≤ f → n ≤ g → prtN p f n = prtN p g n
  | 0, g, n, h1, h2, _ => by omega
  | f + 1, 0, n, h1, _, h3 => by omega
  | f + 1, g + 1, n, h1, h2, h3 => by
    unfold prtN
    by_cases h : n % p = 0
    · rw [if_pos h, if_pos h]
      have hd : n / p < n := Nat.div_lt_self h1 hp
      have hpos : 1 ≤ n / p := by
        rcases Nat.eq_zero_or_pos (n / p) with h4 | h4
        · have := Nat.div_add_mod n p
          rw [h4, h] at this
          omega
        · exact h4
      rw [prtN_fuel hp f g (n / p) hpos (by omega) (by omega)]
    · rw [if_neg h, if_neg h]
theorem prt_ex (p n : Nat) : ∃ k, k = prtN p n n := ⟨_, rfl⟩
/-- with fuel enough (by choice, so that nothing computes it) -/
noncomputable def prt (p n : Nat) : Nat := Classical.choose (prt_ex p n)
theorem prt_def (p n : Nat) : prt p n = prtN p n n := Classical.choose_spec (prt_ex p n)
theorem prt_mul {p n : Nat} (hp : 2 ≤ p) (hn : 1 ≤ n) : prt p (p * n) = p * prt p n := by
  have h1 : 1 ≤ p * n := Nat.mul_pos (by omega) hn
  have h2 : n < p * n := by
    have : 2 * n ≤ p * n := Nat.mul_le_mul_right n hp
    omega
  rw [prt_def, prt_def]
  obtain ⟨k, hk⟩ : ∃ k, p * n = k + 1 := ⟨p * n - 1, by omega⟩
  rw [hk]
  conv => lhs; unfold prtN
  rw [← hk, Nat.mul_mod_right, if_pos rfl, Nat.mul_div_cancel_left n (by omega)]
  rw [prtN_fuel hp k n n hn (by omega) (Nat.le_refl _)]
theorem prt_other {p : Nat} (hp : 2 ≤ p) {q : Nat} (hq : 1 ≤ q) (hc : ∀ m, p ∣ q * m → p ∣ m) : ∀ n, 1 ≤ n → prt p (q * n) = prt p n := by
  intro n
  induction n using Nat.strongRecOn with
  | ind n ih =>
    intro hn
    by_cases h : p ∣ n
    · obtain ⟨m, rfl⟩ := h
      have hm : 1 ≤ m := by
        rcases Nat.eq_zero_or_pos m with h | h
        · subst h; simp at hn
        · exact h
      have hlt : m < p * m := by
        have : 2 * m ≤ p * m := Nat.mul_le_mul_right m hp
        omega
      rw [Nat.mul_left_comm, prt_mul hp (Nat.mul_pos hq hm), prt_mul hp hm, ih m hlt hm]
    · have h1 : ¬ p ∣ q * n := fun hh => h (hc n hh)
      have e : ∀ k, 1 ≤ k → ¬ p ∣ k → prt p k = 1 := fun k hk hn => by
        rw [prt_def]
        obtain ⟨j, rfl⟩ : ∃ j, k = j + 1 := ⟨k - 1, by omega⟩
        unfold prtN
        rw [if_neg (fun hh => hn (Nat.dvd_of_mod_eq_zero hh))]
      rw [e _ (Nat.mul_pos hq hn) h1, e _ hn h]

theorem prime_cancel {p q : Nat} (hp : p = 2 ∨ p = 3 ∨ p = 5 ∨ p = 7) (hq : q = 2 ∨ q = 3 ∨ q = 5 ∨ q = 7) (hne : p ≠ q) (m : Nat) (h : p ∣ q * m) : p ∣ m :=
  Nat.Coprime.dvd_of_dvd_mul_left (cop7 hp hq hne) h

section
variable {P : Pr}
/-- the part of a product of orders -/
theorem prt_prd (G : Grp P) (Q : Nat → Prop) {p : Nat} (hp : p = 2 ∨ p = 3 ∨ p = 5 ∨ p = 7) : ∀ f d, d + f = P.orders.length → prt p (prd P Q f d) = prd P (fun k => Q k ∧ gt P.orders k = (p : Int)) f d
  | 0, d, _ => by
    show prt p 1 = 1
    rw [prt_def]
    unfold prtN
    rw [if_neg]
    rcases hp with rfl | rfl | rfl | rfl <;> decide
  | f + 1, d, h => by
    have ih := prt_prd G Q hp f (d + 1) (by omega)
    have hpos := prd_pos G Q f (d + 1) (by omega)
    have hp2 : 2 ≤ p := by omega
    obtain ⟨q, h1, h2, h3⟩ := ordN G (show d < P.orders.length by omega)
    unfold prd
    by_cases hQ : Q d
    · rw [if_pos hQ, h2]
      by_cases he : gt P.orders d = (p : Int)
      · have : q = p := by omega
        subst this
        rw [if_pos ⟨hQ, he⟩, prt_mul hp2 hpos, ih]
      · have hne : p ≠ q := fun e => he (by rw [h1, e])
        rw [if_neg (fun hh => he hh.2), Nat.one_mul, prt_other hp2 (by omega) (fun m hm => prime_cancel hp h3 hne m hm) _ hpos, ih]
    · rw [if_neg hQ, if_neg (fun hh => hQ hh.1), Nat.one_mul, Nat.one_mul, ih]
theorem prd_le (G : Grp P) (Q R : Nat → Prop) (h : ∀ k, k < P.orders.length → Q k → R k) : prd P Q P.orders.length 0 ≤ prd P R P.orders.length 0 := by
  have h1 : prd P Q P.orders.length 0 ∣ prd P R P.orders.length 0 := by
    have hm := prd_mul (P := P) (Q := Q) (R := fun k => R k ∧ ¬ Q k) P.orders.length 0 (fun k _ _ hk hh => hh.2 hk)
    have hc : prd P (fun k => Q k ∨ (R k ∧ ¬ Q k)) P.orders.length 0 = prd P R P.orders.length 0 := prd_congr _ _ (fun k _ hk => ⟨fun hh => hh.elim (h k (by omega)) (fun hh => hh.1), fun hh => by
      by_cases e : Q k
      · exact .inl e
      · exact .inr ⟨hh, e⟩⟩)
    rw [← hc, ← hm]
    exact Nat.dvd_mul_right _ _
  exact Nat.le_of_dvd (prd_pos G R _ _ (Nat.zero_add _)) h1
theorem prd_all (G : Grp P) : ((prd P (fun _ => True) P.orders.length 0 : Nat) : Int) = ordP P := by
  have key : ∀ k, k ≤ P.orders.length → ((prF P (fun _ => True) k : Nat) : Int) = prodTo P.orders k := by
    intro k
    induction k with
    | zero => intro _; rfl
    | succ k ih =>
      intro h
      obtain ⟨q, h1, h2, h3⟩ := ordN G (show k < P.orders.length by omega)
      rw [prF_succ, if_pos trivial, Int.natCast_mul, ih (by omega), h2, prodTo, h1]
  exact key _ (Nat.le_refl _)
theorem prd_729 (G : Grp P) (Q : Nat → Prop) : 1 ≤ prd P Q P.orders.length 0 ∧ prd P Q P.orders.length 0 ≤ 729 := by
  have h1 := prd_pos G Q _ _ (Nat.zero_add _)
  have h2 := prd_le G Q (fun _ => True) (fun _ _ _ => trivial)
  have h3 := prd_all G
  have h4 : ordP P ≤ 729 := G.v.le729
  omega
end

theorem w64n (k : Nat) (h : k ≤ 100000) : wrap64 (k : Int) = (k : Int) := IntWalk.wrap64_in _ (by omega)
set_option maxRecDepth 100000 in
set_option maxHeartbeats 1000000 in
theorem l01Part_ok (n p : Nat) (hn : 1 ≤ n) (hp : 2 ≤ p) (hn2 : n ≤ 100000) (hp2 : p ≤ 100000) (w : World) :
    Calls Tryz.prog 62 #[.int .i64 (n : Int), .int .i64 (p : Int)] w (Ret w fun _ r => r = .int .i64 ((prt p n : Nat) : Int)) := by
  go_enter Tryz.func62, Tryz.ntmps62
  go_wp2
  go_loopw [0, 5] (fun nv ov wr => ∃ m o : Nat, nv = .int .i64 (m : Int) ∧ ov = .int .i64 (o : Int) ∧ 1 ≤ m ∧ m ≤ n ∧ o * m ≤ n ∧ 1 ≤ o ∧ w = wr ∧ Hid (o * prt p m = prt p n)) (fun nv _ _ => (intOf nv).toNat)
  case atStart => exact ⟨n, 1, rfl, rfl, hn, Nat.le_refl _, by omega, by omega, rfl, Lib.hid (Nat.one_mul _)⟩
  case round =>
    obtain ⟨m, o, rfl, rfl, hm1, hm2, hom, ho1, rfl, hI⟩ := hrel
    have hmo : o ≤ n := Nat.le_trans (Nat.le_mul_of_pos_right o (by omega)) hom
    have hc1 : ((m : Int) % (p : Int)) = ((m % p : Nat) : Int) := (Int.natCast_emod m p).symm
    have hpos : (0 : Int) < (p : Int) := by omega
    by_cases hz : m % p = 0
    · have hz' : (m : Int) % (p : Int) = 0 := by rw [hc1, hz]; rfl
      have hd := Nat.div_add_mod m p
      rw [hz, Nat.add_zero] at hd
      obtain ⟨q, hq⟩ : ∃ q, q = m / p := ⟨_, rfl⟩
      rw [← hq] at hd
      have hq1 : 1 ≤ q := by
        rcases Nat.eq_zero_or_pos q with h | h
        · rw [h] at hd; simp at hd; omega
        · exact h
      have hqm : q < m := by
        have : 2 * q ≤ p * q := Nat.mul_le_mul_right q hp
        omega
      have hdiv : (m : Int) / (p : Int) = (q : Int) := by
        rw [hq]; exact (Int.natCast_ediv m p).symm
      have hop : o * p * q ≤ n := by rw [Nat.mul_assoc, hd]; exact hom
      have hop1 : o * p ≤ n := Nat.le_trans (Nat.le_mul_of_pos_right (o * p) hq1) hop
      have hopc : (o : Int) * (p : Int) = ((o * p : Nat) : Int) := (Int.natCast_mul o p).symm
      have hop2 : 1 ≤ o * p := Nat.mul_pos ho1 (by omega)
      have hI2 : Hid (o * p * prt p q = prt p n) := Lib.hid (by rw [← hI.out, ← hd, prt_mul hp hq1, Nat.mul_assoc])
      have hqn : q ≤ n := by omega
      have HH := Lib.hid (And.intro hop (And.intro hop2 hqm)); clear hop hop2 hd hq hc1 hz hom hI hqm
      generalize o * p = op at *
      have hw2 := w64n op (Nat.le_trans hop1 hn2)
      go_wp2
      go_roundw
      case rel => exact ⟨q, op, rfl, by first | rfl | exact congrArg (Value.int .i64) hw2, hq1, hqn, HH.out.1, HH.out.2.1, by first | trivial | rfl, hI2⟩
      case measure => have := HH.out.2.2; simp [intOf]; omega
    · have hne : ¬ (m : Int) % (p : Int) = 0 := by rw [hc1]; omega
      have he : prt p m = 1 := by
        rw [prt_def]
        obtain ⟨k, rfl⟩ : ∃ k, m = k + 1 := ⟨m - 1, by omega⟩
        unfold prtN
        rw [if_neg hz]
      have hfin : (o : Int) = ((prt p n : Nat) : Int) := by rw [← hI.out, he, Nat.mul_one]
      have HF := Lib.hid hfin; clear hfin he hI hc1 hz
      go_wp2
      go_ret
      refine ⟨_, rfl, Ext.refl _, ?_⟩
      show Value.int .i64 (o : Int) = _
      rw [HF.out]

end Go.Proofs.YtdklekdpdbjfiaaGreat

/- impl.factors at the orders of groups: the primes that divide, ascending. (Printed by gen_fac.py.) -/
namespace Go.Proofs.YtdklekdpdbjfiaaGreat
open Go.RowKit

def fdn : Nat → Nat → Nat → Nat
  | 0, n, _ => n
  | f + 1, n, p => if n % p = 0 then fdn f (n / p) p else n
theorem fdn_stop (f n p : Nat) (h : ¬ n % p = 0) : fdn f n p = n := by
  cases f with
  | zero => rfl
  | succ f => unfold fdn; rw [if_neg h]
def fjump (n p : Nat) : Nat := if n < p * p then n else p
def fac : Nat → Nat → Nat → List Int → Option (List Int)
  | 0, _, _, _ => none
  | f + 1, n, p, ps => if n ≤ 1 then some ps else fac f (fdn 10 n (fjump n p)) (fjump n p + 1) (if n % fjump n p = 0 then ps ++ [(fjump n p : Int)] else ps)
/-- the group primes that divide -/
def dvs (n : Int) : List Int := ([2, 3, 5, 7] : List Int).filter (fun q => n % q == 0)
theorem fac_all : ((List.range 730).all fun n => n == 0 || 85766121000000 % n != 0 || decide (fac 40 n 2 [] = some (dvs (n : Int)))) = true := by decide +kernel
theorem fac_dvs {n : Nat} (h1 : 1 ≤ n) (h2 : n ≤ 729) (h3 : n ∣ 210 ^ 6) : fac 40 n 2 [] = some (dvs (n : Int)) := by
  have h := (List.all_eq_true.1 fac_all) n (List.mem_range.2 (by omega))
  have e : 85766121000000 % n = 0 := Nat.mod_eq_zero_of_dvd h3
  rw [e] at h
  simp only [Bool.or_eq_true, beq_iff_eq, bne_self_eq_false, decide_eq_true_eq] at h
  rcases h with (h | h) | h
  · omega
  · cases h
  · exact h

/-- blocks of two growing lists -/
def Dis (v e : Value) : Prop := v.ownBlock = none ∨ e.ownBlock = none ∨ v.ownBlock ≠ e.ownBlock
theorem Dis.l {v e : Value} (h : Dis v e) : v.ownBlock = none ∨ v.ownBlock ≠ e.ownBlock := by
  rcases h with h | h | h
  · exact .inl h
  · rw [h]; cases hv : v.ownBlock
    · exact .inl rfl
    · exact .inr (fun hh => by cases hh)
  · exact .inr h
theorem Dis.symm {v e : Value} (h : Dis v e) : Dis e v := by
  rcases h with h | h | h
  · exact .inr (.inl h)
  · exact .inl h
  · exact .inr (.inr (fun hh => h hh.symm))
theorem Dis.app {B : Nat} {w : World} {v v' e : Value} {l : List Int} (h : Dis v e) (he : Own B w e l) (hv : v'.ownBlock = v.ownBlock ∨ v'.ownBlock = some w.heap.size) : Dis v' e := by
  rcases hv with hv | hv
  · unfold Dis; rw [hv]; exact h
  · refine .inr (.inr (fun hh => ?_))
    rw [hv] at hh
    have := (he.lt _ hh.symm).2
    omega

theorem wp_app_ints4 {ops : Array Oper} {rest : List Oper} {o : Oper} {a : Act} {Q : Exit → Act → World → Prop} {w : World} (hgd : o.guard = none) (s x : Operand)
    (ho : o.op = Op.call { callee := Callee.builtin Builtin.append, args := #[s, x], argTypes := #[22, 22] }) (base : Nat) (v : Value) (l : List Int) (hs : a.eval s = v) (hown : Own base w v l)
    (u : Value) (m : List Int) (hx : a.eval x = u) (S : Nat → Prop) (hu : Ints S w u m) (hlen : l.length + m.length ≤ 2147483648) (hbase : base ≤ w.heap.size)
    (h : ∀ v' w', Own base w' v' (l ++ m) → w.grownBy w' v.ownBlock → (v'.ownBlock = v.ownBlock ∨ v'.ownBlock = some w.heap.size) → wpList Tryz.prog ops Q rest (a.put o.dst v') w') :
    wpList Tryz.prog ops Q (o :: rest) a w := by
  obtain ⟨sa, cap, rfl, ⟨_, _, hn⟩, hc⟩ := hu
  refine wp_app 22 2 (.int .i64 0) 8 und_ints Tryz.infoInt rfl (by decide) hgd s x ho base v (l.map (Value.int .i64)) hs hown.v sa m.length cap (m.map (Value.int .i64)) hx (by simp) hn ?_ ?_ (by simpa using hlen) hbase ?_
  · intro j hj
    obtain ⟨b, off, u, h1, _, _, h2, h3⟩ := hc j hj
    exact ⟨b, off, h1, by rw [h2, h3]; simp [gt, hj]⟩
  · intro u hu
    simp at hu
    obtain ⟨x, _, rfl⟩ := hu; rfl
  · intro v' w' h1 h2 _ h4
    exact h v' w' (Own.of (by rw [List.map_append]; exact h1)) h2 h4

theorem i64n6 (k : Nat) (h : k ≤ 730 * 730) : IntKind.i64.wrap (k : Int) = (k : Int) := IntWalk.i64_in _ (by omega)
theorem w64n6 (k : Nat) (h : k ≤ 730 * 730) : wrap64 (k : Int) = (k : Int) := IntWalk.wrap64_in _ (by omega)

set_option maxRecDepth 100000 in
set_option maxHeartbeats 4000000 in
theorem factors_ok (n : Nat) (hn1 : 1 ≤ n) (hn2 : n ≤ 729) (hn3 : n ∣ 210 ^ 6) (w : World) :
    Calls Tryz.prog 67 #[.int .i64 (n : Int)] w (Ret w fun w' r => ∃ v e, r = .tuple #[v, e] ∧ Own w.heap.size w' v (dvs (n : Int))) := by
  have HA := Lib.hid (fac_dvs hn1 hn2 hn3); clear hn3
  obtain ⟨N, hN⟩ : ∃ N, N = dvs (n : Int) := ⟨_, rfl⟩
  rw [← hN] at HA ⊢
  clear hN
  go_enter Tryz.func67, Tryz.ntmps67
  go_wp2
  go_loopg [0, 4, 5, 6] 40 (fun gk nv psv esv pv wr => ∃ (m p : Nat) (ps es : List Int) (vp ve : Value), vp = psv ∧ ve = esv ∧ nv = .int .i64 (m : Int) ∧ pv = .int .i64 (p : Int) ∧ 1 ≤ m ∧ m ≤ 729 ∧ 2 ≤ p ∧ p ≤ 730 ∧ ps.length + gk ≤ 40 ∧ es.length + gk ≤ 40 ∧ Ext w wr ∧ Own w.heap.size wr vp ps ∧ Own w.heap.size wr ve es ∧ Dis vp ve ∧ Hid (fac gk m p ps = some N))
  case atStart => exact ⟨n, 2, [], [], _, _, rfl, rfl, rfl, rfl, hn1, hn2, Nat.le_refl _, by omega, by simp, by simp, Ext.refl _, World.ownsRow_nil _ _ _ _, World.ownsRow_nil _ _ _ _, .inl rfl, HA⟩
  case round =>
    obtain ⟨m, p, ps, es, vp, ve, rfl, rfl, rfl, rfl, hm1, hm2, hp1, hp2, hlp, hle, hg, hOp, hOe, hD, hF⟩ := hrel
    have hgk : ∃ g', gk = g' + 1 := by
      cases gk with
      | zero => have := hF.out; cases this
      | succ g' => exact ⟨g', rfl⟩
    obtain ⟨g', hg'⟩ := hgk
    rw [hg'] at hF
    have HG := Lib.hid hg'
    have hF2 := hF.out
    unfold fac at hF2
    by_cases hm : m ≤ 1
    · rw [if_pos hm] at hF2
      have hps : ps = N := Option.some.inj hF2
      subst hps
      have hm0 : m = 1 := by omega
      subst hm0
      clear hF2 hF
      go_wp2
      go_ret2
      exact ⟨_, rfl, hg, _, _, rfl, hOp⟩
    · rw [if_neg hm] at hF2
      by_cases hj : m < p * p
      · have hjj : fjump m p = m := by unfold fjump; rw [if_pos hj]
        rw [hjj] at hF2
        have hq2 : 2 ≤ m := by omega
        have hq7 : m ≤ 729 := hm2
        have HF := Lib.hid hF2; clear hF2 hF hjj
        have hm10 : m < 2 ^ 10 := by omega
        have HM10 := Lib.hid hm10; clear hm10
        have hppc : (p : Int) * (p : Int) = ((p * p : Nat) : Int) := (Int.natCast_mul p p).symm
        have hpp2 : p * p ≤ 730 * 730 := Nat.mul_le_mul hp2 hp2
        generalize p * p = pp at *
        have hwp := i64n6 pp hpp2
        have hwp2 := w64n6 pp hpp2
        go_wp2
        clear hppc hpp2 hwp hwp2 hj
        go_loopg [0, 7] 10 (fun gk nv ev wr2 => ∃ k e : Nat, nv = .int .i64 (k : Int) ∧ ev = .int .i64 (e : Int) ∧ e + gk = 10 ∧ 1 ≤ k ∧ k ≤ 729 ∧ wr = wr2 ∧ Hid (k < 2 ^ gk ∧ fdn gk k m = fdn 10 m m ∧ (e = 0 → k = m) ∧ (0 < e → m % m = 0)))
        case atStart => exact ⟨m, 0, rfl, rfl, rfl, hm1, hm2, rfl, Lib.hid ⟨HM10.out, rfl, fun _ => rfl, fun h => by omega⟩⟩
        case round =>
          obtain ⟨k, e, rfl, rfl, hge, hk1, hk2, rfl, hI⟩ := hrel
          have hc1 : ((k : Int) % (m : Int)) = ((k % m : Nat) : Int) := (Int.natCast_emod k m).symm
          have hpos : (0 : Int) < (m : Int) := by omega
          have hq0 : ((m : Int) == 0) = false := by simp; omega
          by_cases hz : k % m = 0
          · have hz' : (k : Int) % (m : Int) = 0 := by rw [hc1, hz]; rfl
            have hd := Nat.div_add_mod k m
            rw [hz, Nat.add_zero] at hd
            obtain ⟨ge', hge'⟩ : ∃ g2, gk = g2 + 1 := by
              cases gk with
              | zero => have := hI.out.1; simp at this; omega
              | succ g2 => exact ⟨g2, rfl⟩
            obtain ⟨c, hc⟩ : ∃ c, c = k / m := ⟨_, rfl⟩
            rw [← hc] at hd
            have hcq1 : 1 ≤ c := by
              rcases Nat.eq_zero_or_pos c with h | h
              · rw [h] at hd; simp at hd; omega
              · exact h
            have hcm : 2 * c ≤ k := by
              have : 2 * c ≤ m * c := Nat.mul_le_mul_right c hq2
              omega
            have hdiv : (k : Int) / (m : Int) = (c : Int) := by
              rw [hc]; exact (Int.natCast_ediv k m).symm
            have hI2 : Hid (c < 2 ^ ge' ∧ fdn ge' c m = fdn 10 m m ∧ (e + 1 = 0 → c = m) ∧ (0 < e + 1 → m % m = 0)) := by
              obtain ⟨i1, i2, i3, i4⟩ := hI.out
              refine Lib.hid ⟨?_, ?_, fun h => by omega, fun _ => ?_⟩
              · rw [hge', Nat.pow_succ] at i1; omega
              · rw [← i2, hge', hc]; show fdn ge' (k / m) m = if k % m = 0 then fdn ge' (k / m) m else k; rw [if_pos hz]
              · rcases Nat.eq_zero_or_pos e with h | h
                · rw [i3 h] at hz; exact hz
                · exact i4 h
            have hc729 : c ≤ 729 := by omega
            have HH := Lib.hid (And.intro hge' hd); clear hI hd hc hc1 hz hcm
            go_wp2
            go_roundg ge'
            case rel => exact ⟨c, e + 1, rfl, by go_num, by have := HH.out.1; omega, hcq1, hc729, rfl, hI2⟩
            case measure => have := HH.out.1; omega
          · have hne : ¬ (k : Int) % (m : Int) = 0 := by rw [hc1]; omega
            obtain ⟨i1, i2, i3, i4⟩ := hI.out
            rw [fdn_stop _ _ _ hz] at i2
            rw [← i2] at HF
            clear hc1 hI i1 i2
            by_cases he : 0 < e
            · have hmz := i4 he
              have HF2 := HF.out
              rw [if_pos hmz] at HF2
              have HF3 := Lib.hid HF2; clear HF HF2 i3 i4 hmz hz
              have hep : (0 : Int) < (e : Int) := by omega
              go_wp2_with (first
                | (at_builtin; refine wp_app_ints4 rfl _ _ rfl w.heap.size _ ps rfl (hOp.ext0 (World.grownBy_alloc _ _ _)) _ [(m : Int)] rfl Any (Own.ints (World.ownsRow_lit wr #[.int .i64 (m : Int)] 1 (Nat.zero_le _) (by decide) rfl) (by simp)) (by simp; omega) (by have := hg.size; simp; omega) ?_; intro v5 w5 hO5 hg5 hb5; have hgx : Ext w w5 := grown_own (grown_trans hg (World.grownBy_alloc _ _ _)) hg5 (fun j hj hlt => by have := (hOp.lt j hj).1; omega); have hOe5 : Own w.heap.size w5 ve es := (hOe.ext0 (World.grownBy_alloc _ _ _)).ext hg5 (Dis.symm hD).l; have hD5 : Dis v5 ve := hD.app (hOe.ext0 (World.grownBy_alloc _ _ _)) hb5; clear hg5 hb5 hD hOp hOe)
                | (at_builtin; refine wp_app_ints4 rfl _ _ rfl w.heap.size _ es rfl (hOe5.ext0 (World.grownBy_alloc _ _ _)) _ [(e : Int)] rfl Any (Own.ints (World.ownsRow_lit w5 #[.int .i64 (e : Int)] 1 (Nat.zero_le _) (by decide) rfl) (by simp)) (by simp; omega) (by have := hgx.size; simp; omega) ?_; intro v6 w6 hO6 hg6 hb6; have hgy : Ext w w6 := grown_own (grown_trans hgx (World.grownBy_alloc _ _ _)) hg6 (fun j hj hlt => by have := (hOe5.lt j hj).1; omega); have hOp6 : Own w.heap.size w6 v5 (ps ++ [(m : Int)]) := (hO5.ext0 (World.grownBy_alloc _ _ _)).ext hg6 hD5.l; have hD6 : Dis v6 v5 := (Dis.symm hD5).app (hO5.ext0 (World.grownBy_alloc _ _ _)) hb6))
              go_roundg g'
              case rel => exact ⟨k, m + 1, _, _, _, _, rfl, rfl, rfl, by go_num, hk1, hk2, by omega, by omega, by have := HG.out; simp; omega, by have := HG.out; simp; omega, hgy, hOp6, hO6, hD6.symm, HF3⟩
              case measure => have := HG.out; omega
            · have he0 : e = 0 := by omega
              subst he0
              have hkm := i3 rfl
              have hmz : ¬ m % m = 0 := by rw [hkm] at hz; exact hz
              have HF2 := HF.out
              rw [if_neg hmz] at HF2
              have HF3 := Lib.hid HF2; clear HF HF2 i3 i4 hmz hz hkm
              go_wp2
              go_roundg g'
              case rel => exact ⟨k, m + 1, _, _, _, _, rfl, rfl, rfl, by go_num, hk1, hk2, by omega, by omega, by have := HG.out; omega, by have := HG.out; omega, hg, hOp, hOe, hD, HF3⟩
              case measure => have := HG.out; omega
      · have hjj : fjump m p = p := by unfold fjump; rw [if_neg hj]
        rw [hjj] at hF2
        have hq2 : 2 ≤ p := by omega
        have hq7 : p ≤ 729 := by have h0 : 1 * p ≤ p * p := Nat.mul_le_mul_right p (by omega); omega
        have HF := Lib.hid hF2; clear hF2 hF hjj
        have hm10 : m < 2 ^ 10 := by omega
        have HM10 := Lib.hid hm10; clear hm10
        have hppc : (p : Int) * (p : Int) = ((p * p : Nat) : Int) := (Int.natCast_mul p p).symm
        have hpp2 : p * p ≤ 730 * 730 := Nat.mul_le_mul hp2 hp2
        generalize p * p = pp at *
        have hwp := i64n6 pp hpp2
        have hwp2 := w64n6 pp hpp2
        go_wp2
        clear hppc hpp2 hwp hwp2 hj
        go_loopg [0, 7] 10 (fun gk nv ev wr2 => ∃ k e : Nat, nv = .int .i64 (k : Int) ∧ ev = .int .i64 (e : Int) ∧ e + gk = 10 ∧ 1 ≤ k ∧ k ≤ 729 ∧ wr = wr2 ∧ Hid (k < 2 ^ gk ∧ fdn gk k p = fdn 10 m p ∧ (e = 0 → k = m) ∧ (0 < e → m % p = 0)))
        case atStart => exact ⟨m, 0, rfl, rfl, rfl, hm1, hm2, rfl, Lib.hid ⟨HM10.out, rfl, fun _ => rfl, fun h => by omega⟩⟩
        case round =>
          obtain ⟨k, e, rfl, rfl, hge, hk1, hk2, rfl, hI⟩ := hrel
          have hc1 : ((k : Int) % (p : Int)) = ((k % p : Nat) : Int) := (Int.natCast_emod k p).symm
          have hpos : (0 : Int) < (p : Int) := by omega
          have hq0 : ((p : Int) == 0) = false := by simp; omega
          by_cases hz : k % p = 0
          · have hz' : (k : Int) % (p : Int) = 0 := by rw [hc1, hz]; rfl
            have hd := Nat.div_add_mod k p
            rw [hz, Nat.add_zero] at hd
            obtain ⟨ge', hge'⟩ : ∃ g2, gk = g2 + 1 := by
              cases gk with
              | zero => have := hI.out.1; simp at this; omega
              | succ g2 => exact ⟨g2, rfl⟩
            obtain ⟨c, hc⟩ : ∃ c, c = k / p := ⟨_, rfl⟩
            rw [← hc] at hd
            have hcq1 : 1 ≤ c := by
              rcases Nat.eq_zero_or_pos c with h | h
              · rw [h] at hd; simp at hd; omega
              · exact h
            have hcm : 2 * c ≤ k := by
              have : 2 * c ≤ p * c := Nat.mul_le_mul_right c hq2
              omega
            have hdiv : (k : Int) / (p : Int) = (c : Int) := by
              rw [hc]; exact (Int.natCast_ediv k p).symm
            have hI2 : Hid (c < 2 ^ ge' ∧ fdn ge' c p = fdn 10 m p ∧ (e + 1 = 0 → c = m) ∧ (0 < e + 1 → m % p = 0)) := by
              obtain ⟨i1, i2, i3, i4⟩ := hI.out
              refine Lib.hid ⟨?_, ?_, fun h => by omega, fun _ => ?_⟩
              · rw [hge', Nat.pow_succ] at i1; omega
              · rw [← i2, hge', hc]; show fdn ge' (k / p) p = if k % p = 0 then fdn ge' (k / p) p else k; rw [if_pos hz]
              · rcases Nat.eq_zero_or_pos e with h | h
                · rw [i3 h] at hz; exact hz
                · exact i4 h
            have hc729 : c ≤ 729 := by omega
            have HH := Lib.hid (And.intro hge' hd); clear hI hd hc hc1 hz hcm
            go_wp2
            go_roundg ge'
            case rel => exact ⟨c, e + 1, rfl, by go_num, by have := HH.out.1; omega, hcq1, hc729, rfl, hI2⟩
            case measure => have := HH.out.1; omega
          · have hne : ¬ (k : Int) % (p : Int) = 0 := by rw [hc1]; omega
            obtain ⟨i1, i2, i3, i4⟩ := hI.out
            rw [fdn_stop _ _ _ hz] at i2
            rw [← i2] at HF
            clear hc1 hI i1 i2
            by_cases he : 0 < e
            · have hmz := i4 he
              have HF2 := HF.out
              rw [if_pos hmz] at HF2
              have HF3 := Lib.hid HF2; clear HF HF2 i3 i4 hmz hz
              have hep : (0 : Int) < (e : Int) := by omega
              go_wp2_with (first
                | (at_builtin; refine wp_app_ints4 rfl _ _ rfl w.heap.size _ ps rfl (hOp.ext0 (World.grownBy_alloc _ _ _)) _ [(p : Int)] rfl Any (Own.ints (World.ownsRow_lit wr #[.int .i64 (p : Int)] 1 (Nat.zero_le _) (by decide) rfl) (by simp)) (by simp; omega) (by have := hg.size; simp; omega) ?_; intro v5 w5 hO5 hg5 hb5; have hgx : Ext w w5 := grown_own (grown_trans hg (World.grownBy_alloc _ _ _)) hg5 (fun j hj hlt => by have := (hOp.lt j hj).1; omega); have hOe5 : Own w.heap.size w5 ve es := (hOe.ext0 (World.grownBy_alloc _ _ _)).ext hg5 (Dis.symm hD).l; have hD5 : Dis v5 ve := hD.app (hOe.ext0 (World.grownBy_alloc _ _ _)) hb5; clear hg5 hb5 hD hOp hOe)
                | (at_builtin; refine wp_app_ints4 rfl _ _ rfl w.heap.size _ es rfl (hOe5.ext0 (World.grownBy_alloc _ _ _)) _ [(e : Int)] rfl Any (Own.ints (World.ownsRow_lit w5 #[.int .i64 (e : Int)] 1 (Nat.zero_le _) (by decide) rfl) (by simp)) (by simp; omega) (by have := hgx.size; simp; omega) ?_; intro v6 w6 hO6 hg6 hb6; have hgy : Ext w w6 := grown_own (grown_trans hgx (World.grownBy_alloc _ _ _)) hg6 (fun j hj hlt => by have := (hOe5.lt j hj).1; omega); have hOp6 : Own w.heap.size w6 v5 (ps ++ [(p : Int)]) := (hO5.ext0 (World.grownBy_alloc _ _ _)).ext hg6 hD5.l; have hD6 : Dis v6 v5 := (Dis.symm hD5).app (hO5.ext0 (World.grownBy_alloc _ _ _)) hb6))
              go_roundg g'
              case rel => exact ⟨k, p + 1, _, _, _, _, rfl, rfl, rfl, by go_num, hk1, hk2, by omega, by omega, by have := HG.out; simp; omega, by have := HG.out; simp; omega, hgy, hOp6, hO6, hD6.symm, HF3⟩
              case measure => have := HG.out; omega
            · have he0 : e = 0 := by omega
              subst he0
              have hkm := i3 rfl
              have hmz : ¬ m % p = 0 := by rw [hkm] at hz; exact hz
              have HF2 := HF.out
              rw [if_neg hmz] at HF2
              have HF3 := Lib.hid HF2; clear HF HF2 i3 i4 hmz hz hkm
              go_wp2
              go_roundg g'
              case rel => exact ⟨k, p + 1, _, _, _, _, rfl, rfl, rfl, by go_num, hk1, hk2, by omega, by omega, by have := HG.out; omega, by have := HG.out; omega, hg, hOp, hOe, hD, HF3⟩
              case measure => have := HG.out; omega

end Go.Proofs.YtdklekdpdbjfiaaGreat

/- spec.l20Divisors: the group primes that divide the order, ascending; the order divides a power of 210. -/
namespace Go.Proofs.YtdklekdpdbjfiaaGreat
open Go.RowKit

def dvsK (n q : Int) : List Int := ([2, 3, 5, 7] : List Int).filter (fun x => decide (x < q) && n % x == 0)
theorem dvsK_step0 (n q : Int) (h2 : 2 ≤ q) (h7 : q ≤ 7) : dvsK n (q + 1) = if (primeB q && n % q == 0) = true then dvsK n q ++ [q] else dvsK n q := by
  have hq : q = 2 ∨ q = 3 ∨ q = 4 ∨ q = 5 ∨ q = 6 ∨ q = 7 := by omega
  unfold dvsK primeB
  rcases hq with rfl | rfl | rfl | rfl | rfl | rfl <;> simp only [List.filter_cons, List.filter_nil] <;> generalize (n % 2 == 0) = b2 <;> generalize (n % 3 == 0) = b3 <;> generalize (n % 4 == 0) = b4 <;> generalize (n % 5 == 0) = b5 <;> generalize (n % 6 == 0) = b6 <;> generalize (n % 7 == 0) = b7 <;> revert b2 b3 b4 b5 b6 b7 <;> decide
theorem dvsK_step (n : Int) (q : Nat) (h2 : 2 ≤ q) (h7 : q ≤ 7) : dvsK n ((q + 1 : Nat) : Int) = if primeB (q : Int) = true ∧ n % (q : Int) = 0 then dvsK n q ++ [(q : Int)] else dvsK n q := by
  have h := dvsK_step0 n (q : Int) (by omega) (by omega)
  rw [show ((q + 1 : Nat) : Int) = (q : Int) + 1 from rfl, h]
  by_cases h1 : primeB (q : Int) = true
  · by_cases h3 : n % (q : Int) = 0
    · rw [if_pos (by rw [h1, h3]; rfl), if_pos ⟨h1, h3⟩]
    · rw [if_neg (fun hh => h3 (by simpa [h1] using hh)), if_neg (fun hh => h3 hh.2)]
  · rw [if_neg (fun hh => h1 (Bool.and_eq_true_iff.1 hh).1), if_neg (fun hh => h1 hh.1)]
theorem dvsK_all (n : Int) : dvsK n 8 = dvs n := by
  unfold dvsK dvs
  refine List.filter_congr (fun x hx => ?_)
  simp only [List.mem_cons, List.not_mem_nil, or_false] at hx
  rcases hx with rfl | rfl | rfl | rfl <;> simp
theorem dvsK_two (n : Int) : dvsK n 2 = [] := by
  unfold dvsK
  simp [List.filter]
theorem dvsK_len (n q : Int) : (dvsK n q).length ≤ 4 := List.length_filter_le _ _
theorem dvs_len (n : Int) : (dvs n).length ≤ 4 := List.length_filter_le _ _
theorem dvs_mem {n q : Int} (h : q ∈ dvs n) : (q = 2 ∨ q = 3 ∨ q = 5 ∨ q = 7) ∧ n % q = 0 := by
  unfold dvs at h
  have h' := List.mem_filter.1 h
  simpa using h'
theorem dvs_sorted (n : Int) : (dvs n).Pairwise (· < ·) := List.Pairwise.filter _ (by decide)

section
variable {P : Pr}
theorem prd_210 (G : Grp P) (Q : Nat → Prop) : ∀ f d, d + f = P.orders.length → prd P Q f d ∣ 210 ^ f
  | 0, d, _ => Nat.dvd_refl _
  | f + 1, d, h => by
    have ih := prd_210 G Q f (d + 1) (by omega)
    obtain ⟨q, h1, h2, h3⟩ := ordN G (show d < P.orders.length by omega)
    unfold prd
    rw [Nat.pow_succ, Nat.mul_comm (210 ^ f)]
    refine Nat.mul_dvd_mul ?_ ih
    by_cases hQ : Q d
    · rw [if_pos hQ, h2]
      rcases h3 with rfl | rfl | rfl | rfl <;> decide
    · rw [if_neg hQ]; exact Nat.one_dvd _
/-- the order as a natural number that divides a power of 210 -/
theorem ord_210 (G : Grp P) : ∃ N : Nat, ordP P = (N : Int) ∧ 1 ≤ N ∧ N ≤ 729 ∧ N ∣ 210 ^ 6 := by
  refine ⟨prd P (fun _ => True) P.orders.length 0, (prd_all G).symm, (prd_729 G _).1, (prd_729 G _).2, ?_⟩
  exact Nat.dvd_trans (prd_210 G _ _ _ (Nat.zero_add _)) (Nat.pow_dvd_pow 210 G.v.n6)
end

/-- the program's primes of the order -/
theorem factorsP_ok (P : Pr) (G : Grp P) (w : World) : Calls Tryz.prog 67 #[.int .i64 (ordP P)] w (Ret w fun w' r => ∃ v e, r = .tuple #[v, e] ∧ Own w.heap.size w' v (dvs (ordP P))) := by
  obtain ⟨N, hN, h1, h2, h3⟩ := ord_210 G
  rw [hN]
  exact factors_ok N h1 h2 h3 w

theorem own_litI {B H : Nat} {w : World} (hB : B ≤ w.heap.size) (hH : w.heap.size = H) : Own B (w.alloc (.cells #[] 2)) (.slice (some ⟨H, 0, none⟩) 0 0) [] := by
  subst hH; exact World.ownsRow_lit w #[] 0 hB (by decide) rfl

set_option maxRecDepth 100000 in
set_option maxHeartbeats 2000000 in
theorem l20Divisors_ok (P : Pr) (hP : Valid P) (w : World) (pv : Value) (Sp : Nat → Prop) (hpv : PresV Sp w pv P) :
    Calls Tryz.prog 60 #[pv] w (Ret w fun w' v => Own w.heap.size w' v (dvs (ordP P))) := by
  have h729 : ordP P ≤ 729 := hP.le729
  have hpos := hP.ordP_pos
  obtain ⟨vo, vp, vc, rfl, h3⟩ := hpv
  have hp0 := PresP.box h3 31
  have hg0 : Ext w (w.alloc (.cells #[vo, vp, vc] 31)) := World.grownBy_alloc _ _ _
  obtain ⟨vo6, vp6, vc6, _, _, hc0, hc1, hc2, h36⟩ := hp0.at
  simp only [Nat.zero_add] at hc1 hc2
  have hbx : ∀ w', Ext (w.alloc (.cells #[vo, vp, vc] 31)) w' → w'.cell? ⟨w.heap.size, 0, none⟩ = some vo6 ∧ w'.cell? ⟨w.heap.size, 1, none⟩ = some vp6 ∧ w'.cell? ⟨w.heap.size, 2, none⟩ = some vc6 := fun w' h => ⟨h.cell hc0 (by simp), h.cell hc1 (by simp), h.cell hc2 (by simp)⟩
  have HB := Lib.hid hbx; clear hbx hp0 hc0 hc1 hc2
  have hs0 : (w.alloc (.cells #[vo, vp, vc] 31)).heap.size = w.heap.size + 1 := by simp
  obtain ⟨n, hn⟩ : ∃ n, n = ordP P := ⟨_, rfl⟩
  rw [← hn] at h729 hpos ⊢
  have HN := Lib.hid hn; clear hn
  go_enter Tryz.func60, Tryz.ntmps60
  go_wp2_with fail
  generalize hw0 : w.alloc (.cells #[vo, vp, vc] 31) = w0 at *
  clear hw0
  have hl0 := own_litI (B := w0.heap.size) (Nat.le_refl _) hs0
  have HL0 := Lib.hid hl0; clear hl0 hs0
  go_loopw [3, 4] (fun ov qv wr => ∃ (q : Nat) (ow : Value), ow = ov ∧ qv = .int .i64 (q : Int) ∧ 2 ≤ q ∧ q ≤ 8 ∧ Ext w0 wr ∧ Own w0.heap.size wr ow (dvsK n q)) (fun _ qv _ => 8 - (intOf qv).toNat)
  case atStart => exact ⟨2, _, rfl, by go_num, Nat.le_refl _, by omega, World.grownBy_alloc _ _ _, by show Own _ _ _ (dvsK n 2); rw [dvsK_two]; exact HL0.out⟩
  case round =>
    obtain ⟨q, ow, rfl, rfl, hq2, hq8, hg, hO⟩ := hrel
    by_cases hlt : q ≤ 7
    · have hlt' : (q : Int) ≤ 7 := by omega
      have hpr := l01PrimeR_ok (q : Int) wr
      have hst := dvsK_step n q hq2 hlt
      obtain ⟨b, hb⟩ : ∃ b, b = primeB (q : Int) := ⟨_, rfl⟩
      rw [← hb] at hpr hst
      have HS := Lib.hid hst; clear hst hb
      have hql := dvsK_len n q
      go_wp2_with fail
      refine Calls.mono hpr ?_
      rintro e1 w1 ⟨v1, rfl, hg1, rfl⟩
      clear hpr
      have hg01 := grown_trans hg hg1
      cases b with
      | false =>
        have hs := HS.out
        rw [if_neg (fun hh => by cases hh.1)] at hs
        have HS2 := Lib.hid hs; clear hs HS
        go_wp2
        go_roundw
        case rel => exact ⟨q + 1, _, rfl, by go_num, by omega, by omega, hg01, by rw [HS2.out]; exact hO.ext0 hg1⟩
        case measure => simp [intOf]; omega
      | true =>
        have hor := l10Order_ok w1 (.agg #[vo6, vp6, vc6]) P Any hP ⟨_, _, _, rfl, Pres3.ext h36 hg01⟩
        rw [← HN.out] at hor
        obtain ⟨hc0, hc1, hc2⟩ := HB.out w1 hg01
        go_wp2_with fail
        clear hc0 hc1 hc2
        refine Calls.mono hor ?_
        rintro e2 w2 ⟨v2, rfl, hg2, rfl⟩
        clear hor
        have hg02 := grown_trans hg01 hg2
        have hO2 := (hO.ext0 hg1).ext0 hg2
        have hqp : (0 : Int) < (q : Int) := by omega
        have hq0 : ((q : Int) == 0) = false := by simp; omega
        by_cases hz : n % (q : Int) = 0
        · have hs := HS.out
          rw [if_pos ⟨by first | rfl | trivial, hz⟩] at hs
          have HS2 := Lib.hid hs; clear hs HS
          go_wp2_with (at_builtin; go_must (refine wp_app_ints4 rfl _ _ rfl w0.heap.size _ (dvsK n q) rfl (hO2.ext0 (World.grownBy_alloc _ _ _)) _ [(q : Int)] rfl Any (Own.ints (World.ownsRow_lit w2 #[.int .i64 (q : Int)] 1 (Nat.zero_le _) (by decide) rfl) (by simp)) (by simp; omega) (by have := hg02.size; simp; omega) ?_); intro v5 w5 hO5 hg5 _)
          have hgx : Ext w0 w5 := grown_own (grown_trans hg02 (World.grownBy_alloc _ _ _)) hg5 (fun j hj hlt => by have := (hO2.lt j hj).1; omega)
          go_roundw
          case rel => exact ⟨q + 1, _, rfl, by go_num, by omega, by omega, hgx, by rw [HS2.out]; exact hO5⟩
          case measure => simp [intOf]; omega
        · have hs := HS.out
          rw [if_neg (fun hh => hz hh.2)] at hs
          have HS2 := Lib.hid hs; clear hs HS
          go_wp2
          go_roundw
          case rel => exact ⟨q + 1, _, rfl, by go_num, by omega, by omega, hg02, by rw [HS2.out]; exact hO2⟩
          case measure => simp [intOf]; omega
    · have hke : q = 8 := by omega
      subst hke
      have e8 : dvsK n ((8 : Nat) : Int) = dvs n := dvsK_all n
      rw [e8] at hO
      go_wp2
      go_ret
      exact ⟨_, rfl, grown_trans hg0 hg, hO.weak hg0.size⟩

end Go.Proofs.YtdklekdpdbjfiaaGreat

/- append of a row that lay there before: the list takes it out of the set of blocks that it avoids. -/
namespace Go.Proofs.YtdklekdpdbjfiaaGreat
open Go.RowKit

theorem wp_app_take {ops : Array Oper} {rest : List Oper} {o : Oper} {a : Act} {Q : Exit → Act → World → Prop} {w : World} (hgd : o.guard = none) (s x : Operand)
    (ho : o.op = Op.call { callee := Callee.builtin Builtin.append, args := #[s, x], argTypes := #[23, 23] }) (B : Nat) (A A' F : Nat → Prop) (w0 : World) (v u : Value) (xs : List (List Int)) (y : List Int) (hs : a.eval s = v)
    (hown : SlOA OwnIn 22 B A w0 v xs) (hu : OwnIn F w0 u y) (hF : ∀ k, F k → k < w0.heap.size → A k ∧ B ≤ k) (hA' : ∀ k, A' k → A k ∧ ¬ F k) (hAl : ∀ k, A k → k < w0.heap.size) (hw : w = w0.alloc (.cells #[u] 22))
    (hx : a.eval x = .slice (some ⟨w0.heap.size, 0, none⟩) 1 1) (hlen : xs.length ≤ 1000000) (hbase : B ≤ w0.heap.size)
    (h : ∀ v' w', SlOA OwnIn 22 B A' w' v' (xs ++ [y]) → w0.grownBy w' v.ownBlock → (v'.ownBlock = v.ownBlock ∨ ∀ k, v'.ownBlock = some k → w0.heap.size ≤ k) → wpList Tryz.prog ops Q rest (a.put o.dst v') w') :
    wpList Tryz.prog ops Q (o :: rest) a w := by
  subst hw
  obtain ⟨vs, G, hvl, hO, hG, hd, hE, hr, hr2⟩ := hown
  have hga : Ext w0 (w0.alloc (.cells #[u] 22)) := World.grownBy_alloc _ _ _
  refine wp_app 23 22 (.slice none 0 0) 24 und_rows Tryz.infoRow rfl (by decide) hgd s x ho B v vs hs (hO.kept hga (by cases hv : v.ownBlock <;> simp)) (some ⟨w0.heap.size, 0, none⟩) 1 1 [u] hx rfl (by simp) ?_ ?_ (by simp; omega) (by have := hga.size; omega) ?_
  · intro j hj
    have : j = 0 := by omega
    subst this
    exact ⟨_, _, rfl, by rw [World.cell?_alloc_at _ _ _ _ rfl]; rfl⟩
  · intro u' hu'
    simp at hu'; subst hu'; exact rdOwn.one hu
  · intro v' w' k1 k2 _ k4
    have hg : w0.grownBy w' v.ownBlock := grown_trans (grown_of_ext _ hga) k2
    have hown2 : v'.ownBlock = v.ownBlock ∨ ∀ k, v'.ownBlock = some k → w0.heap.size ≤ k := by
      rcases k4 with h | h
      · exact .inl h
      · refine .inr (fun k hk => ?_)
        rw [h] at hk
        have : (w0.alloc (.cells #[u] 22)).heap.size = k := by simpa using hk
        simp at this
        omega
    have hown : ∀ k, v'.ownBlock = some k → v.ownBlock = some k ∨ w0.heap.size ≤ k := fun k hk => by
      rcases k4 with h | h
      · exact .inl (by rw [← h]; exact hk)
      · rw [h] at hk
        have : (w0.alloc (.cells #[u] 22)).heap.size = k := by simpa using hk
        simp at this
        exact .inr (by omega)
    refine h v' w' ⟨vs ++ [u], fun i k => if i < xs.length then G i k else F k ∧ k < w0.heap.size, by simp [hvl], k1, ?_, ?_, ?_, ?_, ?_⟩ hg hown2
    · intro i k hi hk
      split at hk
      · rename_i hlt
        obtain ⟨a1, a2, a3⟩ := hG i k hlt hk
        exact ⟨a1, fun e => (hown k e).elim a2 (fun h => by omega), Nat.lt_of_lt_of_le a3 hg.size⟩
      · obtain ⟨b1, b2⟩ := hF k hk.1 hk.2
        exact ⟨b2, fun e => (hown k e).elim (fun h => hr2 k h b1) (fun h => by have := hk.2; omega), Nat.lt_of_lt_of_le hk.2 hg.size⟩
    · intro i j k hi hj hk hk'
      simp only [List.length_append, List.length_singleton] at hi hj
      split at hk <;> split at hk'
      · exact hd i j k (by assumption) (by assumption) hk hk'
      · exact absurd (hF k hk'.1 hk'.2).1 (hr i k (by assumption) hk)
      · exact absurd (hF k hk.1 hk.2).1 (hr j k (by assumption) hk')
      · omega
    · intro i hi
      simp only [List.length_append, List.length_singleton] at hi
      by_cases hlt : i < xs.length
      · rw [gt_append_left _ _ _ (by omega), gt_append_left _ _ _ hlt]
        simp only [if_pos hlt]
        exact rdOwn.mono (hE i hlt) (fun k hk hkl => ⟨hk, Nat.lt_of_lt_of_le hkl hg.size, hg.block k hkl (fun e => (hG i k hlt hk).2.1 e.symm)⟩)
      · have hi2 : i = xs.length := by omega
        subst hi2
        rw [gt_concat, ← hvl, gt_concat]
        simp only [hvl, Nat.lt_irrefl, if_false]
        exact rdOwn.mono hu (fun k hk hkl => ⟨⟨hk, hkl⟩, Nat.lt_of_lt_of_le hkl hg.size, hg.block k hkl (fun e => hr2 k e.symm (hF k hk hkl).1)⟩)
    · intro i k hi hk ha
      obtain ⟨c1, c2⟩ := hA' k ha
      split at hk
      · rename_i hlt; exact hr i k hlt hk c1
      · exact c2 hk.1
    · intro k hk ha
      obtain ⟨c1, _⟩ := hA' k ha
      rcases hown k hk with h | h
      · exact hr2 k h c1
      · have := hAl k c1; omega

end Go.Proofs.YtdklekdpdbjfiaaGreat

/- [][]int64{row} as a list of the call's own. -/
namespace Go.Proofs.YtdklekdpdbjfiaaGreat
open Go.RowKit

theorem rowsOne {B : Nat} {w2 : World} {u : Value} {y : List Int} (hu : OwnIn (From B) w2 u y) (hB : B ≤ w2.heap.size) : RowsO B (w2.alloc (.cells #[u] 22)) (.slice (some ⟨w2.heap.size, 0, none⟩) 1 1) [y] := by
  have hga : Ext w2 (w2.alloc (.cells #[u] 22)) := World.grownBy_alloc _ _ _
  refine ⟨[u], fun _ k => B ≤ k ∧ k < w2.heap.size, rfl, World.ownsRow_lit w2 #[u] 1 hB (by decide) rfl, fun i k hi hk => ?_, fun i j k hi hj _ _ => ?_, fun i hi => ?_⟩
  · exact ⟨hk.1, fun e => by have := own_blk e; omega, Nat.lt_of_lt_of_le hk.2 hga.size⟩
  · simp at hi hj; omega
  · have : i = 0 := by simpa using hi
    subst this
    exact rdOwn.mono hu (fun k hk hkl => ⟨⟨hk, hkl⟩, Nat.lt_of_lt_of_le hkl hga.size, hga.block k hkl (by simp)⟩)

end Go.Proofs.YtdklekdpdbjfiaaGreat
