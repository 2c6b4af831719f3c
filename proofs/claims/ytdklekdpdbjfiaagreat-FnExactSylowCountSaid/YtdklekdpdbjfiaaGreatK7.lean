/-
  The reference's reduced sequence: spec.l12Full.
  The reference's sifting: spec.l12Strip.
  The reference's closure: spec.l01Own2, l01Inv, l10Comm, l12Close.
  The reference's closure: spec.l12Close.
  The codes and orders of Hall subgroups: impl.hallOrder, isPrimeSet, hallCode; spec.l20Primes, l20Code.
  The codes of Hall subgroups: impl.hallCode; spec.l20Primes, l20Code.
  spec.l01Part, l20Part: the part of an order for a set of primes.
  Orders of elements and residues: impl.orderOfElement, impl.residue; the reference's power: spec.l10Pow.
  impl.orderOfElement: the order divides that of every Hall subgroup for the primes of the element.
  Plain: the normal subgroups are those of classes of one.
  The library's sort at [][]int64, laid from the shelf.
  A row that the call has built, sorted by the library: any elements of one cell. (After the library's Sort/OwnSortedInts, at a general reading.)
  The order of subgroups as a comparison: by order, then by the entries.
  Plain: the way up to a Hall subgroup, element by element.
  append(slices.Clone(rows), row) in a drawn region, in both orders.
  What a run does to the count of draws: it never falls.
-/
import Derived.Test.YtdklekdpdbjfiaaGreatK6
import Derived.Test.YtdklekdpdbjfiaaGreatK5
import Derived.Test.YtdklekdpdbjfiaaGreatK1
import Derived.Test.YtdklekdpdbjfiaaGreatK4
import Derived.Test.YtdklekdpdbjfiaaGreatK3
import Derived.Shelf.SlSortCmp.NoneTotal
import Derived.Sort.OwnSortedInts
/- The reference's reduced sequence: spec.l12Full. -/
namespace Go.Proofs.YtdklekdpdbjfiaaGreat
open Go.RowKit

theorem seqOf_succ (n : Nat) (r : Nat → List Int) : seqOf (n + 1) r = seqOf n r ++ (if r n = [] then [] else [r n]) := by
  unfold seqOf
  rw [List.range_succ, List.filterMap_append]
  congr 1
  by_cases h : r n = [] <;> simp [h]

theorem seqOf_len (n : Nat) (r : Nat → List Int) : (seqOf n r).length ≤ n := by rw [sq_all]; exact sq_len _ _ _

/-- a list of shared rows reads as rows -/
theorem ShQ.rows {bad : Nat → Prop} {B : Nat} {w : World} {v : Value} {xs : List (List Int)} (h : ShQ bad B w v xs) : Rows2 Any w v xs := by
  obtain ⟨vs, hl, hq, hr⟩ := h
  rcases hq with ⟨rfl, rfl⟩ | ⟨g, off, cap, cur, rfl, hb, hg, hnc, hcm, hsz, hc⟩
  · have : xs = [] := List.eq_nil_of_length_eq_zero (by simpa using hl.symm)
    subst this
    exact ⟨none, 0, rfl, ⟨by simp, by simp, fun _ => rfl⟩, fun i hi => by simp at hi⟩
  · refine ⟨_, cap, by rw [hl], ⟨by omega, by unfold maxLen at hcm; omega, fun h => by cases h⟩, fun i hi => ⟨g, off, gt vs i, rfl, trivial, (Array.getElem?_eq_some_iff.1 hg).1, ?_, Ints.sub (hr i hi) (fun _ _ _ => trivial)⟩⟩
    simp only [World.cell?, hg, Option.isSome_none, Bool.false_eq_true, if_false]
    exact hc i (by omega)

theorem ShQ.lit (bad : Nat → Prop) (B : Nat) (w : World) (hB : B ≤ w.heap.size) : ShQ bad B (w.alloc (.cells #[] 22)) (.slice (some ⟨w.heap.size, 0, none⟩) 0 0) [] :=
  ⟨[], rfl, QOwn.of (World.ownsRow_lit w #[] 0 hB (by decide) rfl), fun i hi => by simp at hi⟩

theorem CanInv.congr {P : Pr} {H : List Int → Prop} {b r r' : Nat → List Int} {m : Nat} (h : CanInv P H b r m) (he : ∀ e, m ≤ e → e < P.orders.length → r' e = r e) : CanInv P H b r' m :=
  ⟨fun e h1 h2 => by rw [he e h1 h2]; exact h.nil e h1 h2, fun e h1 h2 h3 => by rw [he e h1 h2] at h3 ⊢; exact h.mem e h1 h2 h3,
    fun e e' h1 h2 h3 h4 h5 => by rw [he e h1 (by omega)] at h4 ⊢; rw [he e' (by omega) h3] at h5; exact h.red e e' h1 h2 h3 h4 h5⟩

set_option maxRecDepth 100000 in
set_option maxHeartbeats 4000000 in
theorem l12Full_ok (P : Pr) (G : Grp P) (w : World) (pv tv : Value) (b : List (List Int)) (H : List Int → Prop) (Sp Sb : Nat → Prop) (hpv : PresV Sp w pv P) (ht : Rows2 Sb w tv b) (hlb : b.length = P.orders.length) (hI : Ind P H (gt b)) :
    Calls Tryz.prog 116 #[pv, tv] w (Ret w fun w' v => Rows2 Any w' v (cseq P H)) := by
  have hP := G.v
  have hn6 := hP.n6
  obtain ⟨vo, vp, vc, rfl, h3⟩ := hpv
  have hp0 := PresP.box h3 31
  have hg0 : Ext w (w.alloc (.cells #[vo, vp, vc] 31)) := World.grownBy_alloc _ _ _
  have hs0 : (w.alloc (.cells #[vo, vp, vc] 31)).heap.size = w.heap.size + 1 := by simp
  obtain ⟨at_, capt, hvt, _, _⟩ := Sl.shape ht
  rw [hlb] at hvt
  subst hvt
  have HI := Lib.hid (And.intro hI hlb); clear hI hlb
  obtain ⟨vo6, vp6, vc6, _, _, hc0, hc1, hc2, h36⟩ := hp0.at
  simp only [Nat.zero_add] at hc1 hc2
  clear hp0
  have hwn : IntKind.i64.wrap ((P.orders.length : Int) - 1) = (P.orders.length : Int) - 1 := IntWalk.i64_in _ (by omega)
  go_enter Tryz.func116, Tryz.ntmps116
  go_wp2_with (first | (at_make; refine wp_make_tab rfl _ _ rfl w.heap.size P.orders.length (w.heap.size + 1) (by simp) _ rfl rfl rfl (by omega) (by omega) ?_; intro w1 hT1 hg1 hlt1) | fail)
  clear hwn
  have HS := Lib.hid hs0; clear hs0
  generalize hw0 : w.alloc (.cells #[vo, vp, vc] 31) = w0 at *
  clear hw0
  have hT := hT1 (fun _ => False)
  clear hT1
  go_loopw [6] (fun dv wr => ∃ (m : Nat) (dl : List (List Int)), dv = .int .i64 ((m : Int) - 1) ∧ m ≤ P.orders.length ∧ Ext w0 wr ∧ TabAt w.heap.size (fun _ => False) wr (w.heap.size + 1) P.orders.length dl ∧ Hid (CanInv P H (gt b) (gt dl) m ∧ ∀ e, e < m → gt dl e = [])) (fun dv _ => (intOf dv + 1).toNat)
  case atStart => exact ⟨P.orders.length, _, rfl, Nat.le_refl _, hg1, hT, Lib.hid ⟨⟨fun e h1 h2 => by omega, fun e h1 h2 => by omega, fun e e' h1 h2 h3 => by omega⟩, fun e he => by simp [gt, he]⟩⟩
  case round =>
    clear hT
    obtain ⟨m, dl, rfl, hm, hg, hT, hC⟩ := hrel
    by_cases hm0 : m = 0
    · subst hm0
      have hneg : ((0 : Nat) : Int) - 1 = -1 := rfl
      rw [hneg]
      have hend := G.can_end HI.out.1 hC.out.1
      rw [← sq_all] at hend
      have HE := Lib.hid hend; clear hend
      have hdl := hT.len
      have hrows := hT.rows (by omega)
      obtain ⟨wo, rfl⟩ : ∃ wo : World, wo = wr := ⟨_, rfl⟩
      go_wp2
      go_loopw [9, 10] (fun ov iv wr => ∃ (i : Nat) (v4 : Value), v4 = ov ∧ iv = .int .i64 i ∧ i ≤ P.orders.length ∧ Ext wo wr ∧ ShQ (fun _ => False) wo.heap.size wr v4 (seqOf i (gt dl))) (fun _ iv _ => P.orders.length - (intOf iv).toNat)
      case atStart => exact ⟨0, _, rfl, rfl, by omega, World.grownBy_alloc _ _ _, ShQ.lit _ _ _ (Nat.le_refl _)⟩
      case round =>
        obtain ⟨i, v4, rfl, rfl, hi, hgi, hQ⟩ := hrel
        by_cases hlt : i < P.orders.length
        · have hlt' : (i : Int) < P.orders.length := by omega
          have hst := seqOf_succ i (gt dl)
          obtain ⟨_, hcc⟩ := hT.at i hlt
          rcases hcc with ⟨h0, hcell⟩ | ⟨hne, ab, capb, hcell, hbI⟩
          · rw [if_pos h0, List.append_nil] at hst
            have HST := Lib.hid hst; clear hst h0
            have hcr := hgi.cell hcell (by simp)
            go_wp2
            go_roundw
            case rel => exact ⟨i + 1, v4, rfl, by go_num, by omega, hgi, by rw [HST.out]; exact hQ⟩
            case measure => simp [intOf]; omega
          · rw [if_neg hne] at hst
            have hln : (0 : Int) < (gt dl i).length := by
              have : 0 < (gt dl i).length := List.length_pos_iff.2 hne
              omega
            have hsl := seqOf_len i (gt dl)
            have HST := Lib.hid hst; clear hst hne
            have hcr := hgi.cell hcell (by simp)
            have hrI : Ints (fun k => ¬ False ∧ v4.ownBlock ≠ some k) wr (.slice (some ab) (gt dl i).length capb) (gt dl i) := Ints.mono hbI (fun k _ hk => ⟨⟨id, fun e => by have := (hQ.lt k e).1; omega⟩, Nat.lt_of_lt_of_le hk hgi.size, hgi.block k hk (by simp)⟩)
            go_wp2_with (first | (at_builtin; refine wp_shq_app rfl _ _ rfl (fun _ => False) wo.heap.size v4 _ (seqOf i (gt dl)) (gt dl i) rfl wr hQ rfl hrI rfl (by omega) hgi.size ?_; intro v5 w5 hQ5 hg5 hb5; have hgw5 := grown_own hgi hg5 (fun j hj hlt => by have := (hQ.lt j hj).1; omega)) | fail)
            go_roundw
            case rel => exact ⟨i + 1, v5, rfl, by go_num, by omega, hgw5, by rw [HST.out]; exact hQ5⟩
            case measure => simp [intOf]; omega
        · have hie : i = P.orders.length := by omega
          subst hie
          rw [HE.out] at hQ
          obtain ⟨az, capz, hvz, _⟩ := hQ.shape
          subst hvz
          go_wp2
          go_ret
          exact ⟨_, rfl, grown_trans hg0 (grown_trans hg hgi), hQ.rows⟩
    · obtain ⟨d, rfl⟩ : ∃ d, m = d + 1 := ⟨m - 1, by omega⟩
      rw [show (((d + 1 : Nat)) : Int) - 1 = d by omega]
      have hdn : d < P.orders.length := by omega
      have hdn' : (d : Int) < P.orders.length := by omega
      have hd0 : (0 : Int) ≤ d := by omega
      have hwd : IntKind.i64.wrap ((d : Int) - 1) = (d : Int) - 1 := IntWalk.i64_in _ (by omega)
      obtain ⟨bb, off, a2, cap2, hat, _, _, hc, hr⟩ := Rows2.at ht d (by rw [HI.out.2]; exact hdn)
      subst hat
      have hgw := grown_trans hg0 hg
      have hcr := hgw.cell hc (by simp)
      clear hc hm0
      by_cases hb : gt b d = []
      · have hbl : ((((gt b d).length : Nat) : Int) == 0) = true := by rw [hb]; rfl
        have hC2 : CanInv P H (gt b) (gt dl) d := (can_skip (k := P.orders.length - (d + 1)) hC.out.1 hb).1.congr (fun e h1 h2 => by
          by_cases he : e = d
          · subst he; rw [if_pos rfl]; exact hC.out.2 e (by omega)
          · rw [if_neg he])
        have HC2 : Hid (CanInv P H (gt b) (gt dl) d ∧ ∀ e, e < d → gt dl e = []) := Lib.hid ⟨hC2, fun e he => hC.out.2 e (by omega)⟩
        clear hC2 hb
        go_wp2
        go_roundw
        case rel => exact ⟨d, dl, rfl, by omega, hg, hT, HC2⟩
        case measure => simp [intOf]
      · have hbl : ((((gt b d).length : Nat) : Int) == 0) = false := by
          have : 0 < (gt b d).length := List.length_pos_iff.2 hb
          simp; omega
        have hXV : Vec P.orders (gt b d) := (HI.out.1.mem d hdn hb).2.1.1
        have hxI0 : Ints (fun k => k ≠ w.heap.size + 1) wr (.slice a2 (gt b d).length cap2) (gt b d) := Ints.mono hr (fun k _ hk => ⟨by omega, Nat.lt_of_lt_of_le hk hgw.size, hgw.block k hk (by simp)⟩)
        have HB := Lib.hid (And.intro hb hXV); clear hb hXV
        obtain ⟨wo, rfl⟩ : ∃ wo : World, wo = wr := ⟨_, rfl⟩
        go_wp2
        clear hbl hcr
        go_loopw [7, 8] (fun xv ev wr => ∃ (e : Nat) (Y : List Int), ev = .int .i64 e ∧ d + 1 ≤ e ∧ e ≤ P.orders.length ∧ Ext wo wr ∧ Ints (fun k => k ≠ w.heap.size + 1) wr xv Y ∧ Hid (FullTo P (gt dl) (d + 1) (gt b d) e Y)) (fun _ ev _ => P.orders.length - (intOf ev).toNat)
        case atStart => exact ⟨d + 1, _, by go_num, Nat.le_refl _, by omega, Ext.refl _, hxI0, Lib.hid (G.fullTo_zero HB.out.2)⟩
        case round =>
          clear hxI0
          obtain ⟨e, Y, rfl, hde, he, hge, hY, hF⟩ := hrel
          have hYV := hF.out.vec
          have hYl : Y.length = P.orders.length := hYV.1
          obtain ⟨ay, capy, hvy, _, _⟩ := hY.shape
          rw [hYl] at hvy
          subst hvy
          by_cases hlt : e < P.orders.length
          · have hlt' : (e : Int) < P.orders.length := by omega
            have he0 : (0 : Int) ≤ e := by omega
            obtain ⟨by_, oy, rfl, _, _, hcy⟩ := Ints.at hY e (by omega)
            obtain ⟨_, hcc⟩ := hT.at e hlt
            rcases hcc with ⟨h0, hcell⟩ | ⟨hne, ab, capb, hcell, hbI⟩
            · have hF2 := Lib.hid (hF.out.skip (.inl h0)); clear h0 hYV
              have hcr := hge.cell hcell (by simp)
              go_wp2
              go_roundw
              case rel => exact ⟨e + 1, Y, by go_num, by omega, by omega, hge, hY, hF2⟩
              case measure => simp [intOf]; omega
            · have hln : (0 : Int) < (gt dl e).length := by
                have : 0 < (gt dl e).length := List.length_pos_iff.2 hne
                omega
              have hcr := hge.cell hcell (by simp)
              by_cases hy : gt Y e = 0
              · have hyb : (gt Y e != 0) = false := by simp [hy]
                have hF2 := Lib.hid (hF.out.skip (.inr hy)); clear hYV hy hne
                go_wp2
                go_roundw
                case rel => exact ⟨e + 1, Y, by go_num, by omega, by omega, hge, hY, hF2⟩
                case measure => simp [intOf]; omega
              · have hyb : (gt Y e != 0) = true := by simp [hy]
                have hyd := hYV.2 e hlt
                have ho := hP.ord7 e hlt
                have hwn : IntKind.i64.wrap (-(gt Y e)) = -(gt Y e) := IntWalk.i64_in _ (by omega)
                obtain ⟨_, m2, m3⟩ := hC.out.1.mem e (by omega) hlt hne
                have hF2 := Lib.hid (G.fullTo_step HB.out.2 (by omega) hlt hne ⟨m2, m3⟩ hF.out)
                have hpV := G.pwZ_vec m2.1 (-(gt Y e))
                have hpl : (pwZ P (gt dl e) (-(gt Y e))).length ≤ 6 := by rw [hpV.1]; omega
                have HD := Lib.hid (And.intro m2.1 (And.intro hpV (And.intro hpl (And.intro hYV (And.intro hyd ho))))); clear m2 m3 hpV hpl hYV hyd ho hne hy
                have hg0e := grown_trans hg hge
                have e1 : ∀ w', Ext wr w' → w'.cell? ⟨w.heap.size, 0, none⟩ = some vo6 := fun w' h => (grown_trans hg0e h).cell hc0 (by simp)
                have e2 : ∀ w', Ext wr w' → w'.cell? ⟨w.heap.size, 1, none⟩ = some vp6 := fun w' h => (grown_trans hg0e h).cell hc1 (by simp)
                have e3 : ∀ w', Ext wr w' → w'.cell? ⟨w.heap.size, 2, none⟩ = some vc6 := fun w' h => (grown_trans hg0e h).cell hc2 (by simp)
                have e4 : ∀ w', Ext wr w' → w'.cell? ⟨w.heap.size + 1, e, none⟩ = some (.slice (some ab) (gt dl e).length capb) := fun w' h => h.cell hcr (by simp)
                have e5 : ∀ w', Ext wr w' → w'.cell? ⟨by_, oy + e, none⟩ = some (.int .i64 (gt Y e)) := fun w' h => h.cell hcy (by simp)
                go_wp2
                clear hcr hcy hcell
                go_region_held3 (fun w' => Ext wr w') (first | exact grown_drew _ _ | assumption)
                  (first
                    | (go_at_call 113; refine Calls.mono (Calls.rel (w0 := wr) (by assumption) (l10Pow_ok P G _ _ _ (gt dl e) _ Any Any ⟨_, _, _, rfl, Pres3.ext (Pres3.ext h36 hg0e) (by assumption)⟩ (Ints.sub (Ints.ext (Ints.ext hbI hge) (by assumption)) (fun _ _ _ => trivial)) HD.out.1 (by have := HD.out.2.2.2.2.1; have := HD.out.2.2.2.2.2; omega))) ?_; rintro eA wA ⟨vA, rfl, hgA, hsA, hOA⟩; have hOA2 := hOA.ints (by have := HD.out.2.2.1; omega))
                    | (go_at_call 176; refine Calls.mono (Calls.rel (w0 := wr) (by assumption) (l08Mul_ok P hP _ _ _ _ Y _ Any Any Any ⟨_, _, _, rfl, Pres3.ext (Pres3.ext h36 hg0e) (by assumption)⟩ (Ints.sub (Ints.ext hY (by assumption)) (fun _ _ _ => trivial)) hOA2 HD.out.2.2.2.1 HD.out.2.1)) ?_; rintro eB wB ⟨vB, rfl, hgB, hsB, hOB⟩))
                clear e1 e2 e3 e4 e5
                have hYB : Ints (fun k => k ≠ w.heap.size + 1) wB vB (rMul P Y (pwZ P (gt dl e) (-(gt Y e)))) := ints_of_own hOB (by rw [hF2.out.vec.1]; omega) (fun k hk => by have := (hOB.lt k hk).1; have := hT.lt; have := hge.size; omega)
                go_wp2
                go_roundw
                case rel => exact ⟨e + 1, _, by go_num, by omega, by omega, grown_trans hge hgB, hYB, hF2⟩
                case measure => simp [intOf]; omega
          · have hee : e = P.orders.length := by omega
            subst hee
            have hYne : Y ≠ [] := fun h => by rw [h] at hYl; simp at hYl; omega
            have hTr := hT.ext hge
            obtain ⟨hs5, hg5⟩ := hTr.put d (u := .slice ay P.orders.length capy) (y := Y) (Ints.sub hY (fun k hk _ => ⟨hk, id⟩)) hYne
            obtain ⟨hfr, hcc⟩ := hTr.at d hdn
            have hcd : wr.cell? ⟨w.heap.size + 1, d, none⟩ = some (.slice none 0 0) := hcc.elim (fun h => h.2) (fun h => absurd (hC.out.2 d (by omega)) h.1)
            have hst := (G.can_step (k := P.orders.length - (d + 1)) HI.out.1 hC.out.1 (by omega) HB.out.1 (hF.out.repTo hC.out.1 (by omega))).1
            have hC2 : CanInv P H (gt b) (gt (dl.set d Y)) d := hst.congr (fun i h1 h2 => by
              by_cases hi : i = d
              · subst hi; rw [if_pos rfl, gt_set_eq _ _ _ (by rw [hT.len]; omega)]
              · rw [if_neg hi, gt_set_ne _ _ _ _ (fun h => hi h.symm)])
            have HC2 : Hid (CanInv P H (gt b) (gt (dl.set d Y)) d ∧ ∀ i, i < d → gt (dl.set d Y) i = []) := Lib.hid ⟨hC2, fun i hi => by rw [gt_set_ne _ _ _ _ (by omega)]; exact hC.out.2 i (by omega)⟩
            have hg0n : Ext w0 (wr.setCell ⟨w.heap.size + 1, d, none⟩ (.slice ay P.orders.length capy)) := grown_own (grown_trans hg hge) hg5 (fun j hj hlt => by cases hj; have := HS.out; omega)
            clear hcc hst hC2 hYV hTr hg5
            go_wp2
            go_roundw
            case rel => exact ⟨d, dl.set d Y, rfl, by omega, hg0n, hs5, HC2⟩
            case measure => simp [intOf]

end Go.Proofs.YtdklekdpdbjfiaaGreat

/- The reference's sifting: spec.l12Strip. -/
namespace Go.Proofs.YtdklekdpdbjfiaaGreat
open Go.RowKit

set_option maxRecDepth 100000 in
set_option maxHeartbeats 2000000 in
theorem l12Strip_ok (P : Pr) (G : Grp P) (w : World) (pv tv xv : Value) (b : List (List Int)) (X : List Int) (Sp Sb Sx : Nat → Prop) (hpv : PresV Sp w pv P) (ht : Rows2 Sb w tv b) (hx : Ints Sx w xv X) (hX : Vec P.orders X)
    (hlb : b.length = P.orders.length) (htab : ∀ d, d < P.orders.length → gt b d ≠ [] → T P d (gt b d) ∧ gt (gt b d) d = 1) :
    Calls Tryz.prog 112 #[pv, tv, xv] w (Ret w fun w' v => ∃ (d : Nat) (r : Value) (Y : List Int), v = .tuple #[.int .i64 d, r] ∧ Own w.heap.size w' r Y ∧ StripTo P b X d Y ∧ d ≤ P.orders.length ∧ (d < P.orders.length → gt Y d ≠ 0 ∧ gt b d = [])) := by
  have hP := G.v
  have hn6 := hP.n6
  obtain ⟨vo, vp, vc, rfl, h3⟩ := hpv
  have hp0 := PresP.box h3 31
  have hg0 : Ext w (w.alloc (.cells #[vo, vp, vc] 31)) := World.grownBy_alloc _ _ _
  have hx0 := hx.ext hg0
  have ht0 := Rows2.ext ht hg0
  have hXl : X.length ≤ 6 := by rw [hX.1]; omega
  have hs0 : (w.alloc (.cells #[vo, vp, vc] 31)).heap.size = w.heap.size + 1 := by simp
  obtain ⟨at_, capt, hvt, _, _⟩ := Sl.shape ht
  rw [hlb] at hvt
  subst hvt
  have HI := Lib.hid (And.intro htab (And.intro hX hlb)); clear htab hX hlb
  obtain ⟨vo6, vp6, vc6, _, _, hc0, hc1, hc2, h36⟩ := hp0.at
  simp only [Nat.zero_add] at hc1 hc2
  clear hp0
  go_enter Tryz.func112, Tryz.ntmps112
  go_wp2_with fail
  have HS := Lib.hid hs0; clear hs0
  generalize hw0 : w.alloc (.cells #[vo, vp, vc] 31) = w0 at *
  clear hw0
  refine Calls.mono (l01Own_ok w0 xv X Sx hx0 (by omega)) ?_
  rintro e1 w1 ⟨ov, rfl, hg1, hO1⟩
  go_wp2
  go_loopw [8, 9] (fun ov iv wr => ∃ (d : Nat) (Y : List Int), iv = .int .i64 d ∧ d ≤ P.orders.length ∧ Ext w0 wr ∧ Own w.heap.size wr ov Y ∧ Hid (StripTo P b X d Y)) (fun _ iv _ => P.orders.length - (intOf iv).toNat)
  case atStart => exact ⟨0, X, rfl, by omega, hg1, hO1.weak (by have := HS.out; omega), Lib.hid (stripTo_zero HI.out.2.1)⟩
  case round =>
    clear hO1
    obtain ⟨d, Y, rfl, hd, hg, hO, hR⟩ := hrel
    have hYV := hR.out.vec.1
    have hYl : Y.length = P.orders.length := hYV.1
    have hYi := hO.ints (by omega)
    obtain ⟨ay, capy, hvy, _, _⟩ := hYi.shape
    rw [hYl] at hvy
    subst hvy
    by_cases hlt : d < P.orders.length
    · have hlt' : (d : Int) < P.orders.length := by omega
      obtain ⟨bb, off, a2, cap2, rfl, _, _, hc, hr⟩ := Rows2.at (Rows2.ext ht0 hg) d (by rw [HI.out.2.2]; exact hlt)
      obtain ⟨by_, oy, rfl, _, _, hcy⟩ := Ints.at hYi d (by omega)
      by_cases hy : gt Y d = 0
      · have hyb : (gt Y d == 0) = true := by simp [hy]
        have hR2 := Lib.hid (hR.out.skip hy); clear hYV hy
        go_wp2
        go_roundw
        case rel => exact ⟨d + 1, Y, by go_num, by omega, hg, hO, hR2⟩
        case measure => simp [intOf]; omega
      · have hyb : (gt Y d == 0) = false := by simp [hy]
        by_cases hb : gt b d = []
        · have hbl : ((((gt b d).length : Nat) : Int) == 0) = true := by rw [hb]; rfl
          have HB := Lib.hid (And.intro hb hy); clear hb hYV hy
          go_wp2
          go_ret2
          exact ⟨_, rfl, grown_trans hg0 hg, d, _, Y, rfl, hO, hR.out, by omega, fun _ => ⟨HB.out.2, HB.out.1⟩⟩
        · have hbl : ((((gt b d).length : Nat) : Int) == 0) = false := by
            have : 0 < (gt b d).length := List.length_pos_iff.2 hb
            simp; omega
          have hyd := hYV.2 d hlt
          have ho := hP.ord7 d hlt
          have hwn : IntKind.i64.wrap (-(gt Y d)) = -(gt Y d) := IntWalk.i64_in _ (by omega)
          obtain ⟨m2, m3⟩ := HI.out.1 d hlt hb
          have hR2 := Lib.hid (G.stripTo_step hlt hb ⟨m2, m3⟩ hy hR.out)
          have hpV := G.pwZ_vec m2.1 (-(gt Y d))
          have hpl : (pwZ P (gt b d) (-(gt Y d))).length ≤ 6 := by rw [hpV.1]; omega
          have HB := Lib.hid (And.intro m2.1 (And.intro hpV (And.intro hpl (And.intro hYV (And.intro hyd ho))))); clear m2 m3 hpV hpl hYV hyd ho hb hy
          have e1 : ∀ w', Ext wr w' → w'.cell? ⟨w.heap.size, 0, none⟩ = some vo6 := fun w' h => (grown_trans hg h).cell hc0 (by simp)
          have e2 : ∀ w', Ext wr w' → w'.cell? ⟨w.heap.size, 1, none⟩ = some vp6 := fun w' h => (grown_trans hg h).cell hc1 (by simp)
          have e3 : ∀ w', Ext wr w' → w'.cell? ⟨w.heap.size, 2, none⟩ = some vc6 := fun w' h => (grown_trans hg h).cell hc2 (by simp)
          have e4 : ∀ w', Ext wr w' → w'.cell? ⟨bb, off + d, none⟩ = some (.slice a2 (gt b d).length cap2) := fun w' h => h.cell hc (by simp)
          have e5 : ∀ w', Ext wr w' → w'.cell? ⟨by_, oy + d, none⟩ = some (.int .i64 (gt Y d)) := fun w' h => h.cell hcy (by simp)
          go_wp2
          clear hc hcy
          go_region_held3 (fun w' => Ext wr w') (first | exact grown_drew _ _ | assumption)
            (first
              | (go_at_call 113; refine Calls.mono (Calls.rel (w0 := wr) (by assumption) (l10Pow_ok P G _ _ _ (gt b d) _ Any Any ⟨_, _, _, rfl, Pres3.ext (Pres3.ext h36 hg) (by assumption)⟩ (Ints.sub (Ints.ext hr (by assumption)) (fun _ _ _ => trivial)) HB.out.1 (by have := HB.out.2.2.2.2.1; have := HB.out.2.2.2.2.2; omega))) ?_; rintro eA wA ⟨vA, rfl, hgA, hsA, hOA⟩; have hOA2 := hOA.ints (by have := HB.out.2.2.1; omega))
              | (go_at_call 176; refine Calls.mono (Calls.rel (w0 := wr) (by assumption) (l08Mul_ok P hP _ _ _ _ Y _ Any Any Any ⟨_, _, _, rfl, Pres3.ext (Pres3.ext h36 hg) (by assumption)⟩ (Ints.sub (Ints.ext hYi (by assumption)) (fun _ _ _ => trivial)) hOA2 HB.out.2.2.2.1 HB.out.2.1)) ?_; rintro eB wB ⟨vB, rfl, hgB, hsB, hOB⟩))
          clear e1 e2 e3 e4 e5
          go_wp2
          go_roundw
          case rel => exact ⟨d + 1, _, by go_num, by omega, grown_trans hg hgB, hOB.weak (by have := hg.size; have := HS.out; omega), hR2⟩
          case measure => simp [intOf]; omega
    · have hde : d = P.orders.length := by omega
      subst hde
      go_wp2
      go_ret2
      exact ⟨_, rfl, grown_trans hg0 hg, _, _, Y, rfl, hO, hR.out, by omega, fun h => absurd h (by omega)⟩

end Go.Proofs.YtdklekdpdbjfiaaGreat

/- The reference's closure: spec.l01Own2, l01Inv, l10Comm, l12Close. -/
namespace Go.Proofs.YtdklekdpdbjfiaaGreat
open Go.RowKit

/-- v[:k] at rows -/
theorem run_head_rows (w : World) (a : Option Addr) (n cap : Nat) (k : Int) (h0 : 0 ≤ k) (h1 : k ≤ cap) :
    (Instr.slice 23 (.slice a n cap) none (some (.int .i64 k)) none).run Tryz.prog w = .ok (.slice a k.toNat cap) w := by
  rw [run_slice_h w 23 a n cap (by kernel_rfl) .i64 k h0 h1]
  have : (sizeOf (Tryz.prog.elem 23)).run Tryz.prog w = .ok 1 w := by kernel_rfl
  rw [this]
  cases a with
  | none => simp [Result.andThen, sliced]
  | some a => simp [Result.andThen, sliced, Addr.add]

theorem QOwn.init {B E n cap : Nat} {w : World} {a : Option Addr} {x : Value} {vs : List Value} (h : QOwn B E w (.slice a n cap) (vs ++ [x])) : QOwn B E w (.slice a vs.length cap) vs := by
  rcases h with ⟨_, h⟩ | ⟨g, off, cap', cur, hv, hb, hg, h1, h2, h3, h4⟩
  · simp at h
  · simp only [Value.slice.injEq] at hv
    obtain ⟨rfl, rfl, rfl⟩ := hv
    simp only [List.length_append, List.length_singleton] at h1 h4
    exact .inr ⟨g, off, cap, cur, rfl, hb, hg, by omega, h2, h3, fun i hi => by rw [h4 i (by omega), gt_append_left _ _ _ hi]⟩

/-- the stack without its last -/
theorem ShQ.init {bad : Nat → Prop} {B n cap : Nat} {w : World} {a : Option Addr} {x : List Int} {xs : List (List Int)} (h : ShQ bad B w (.slice a n cap) (xs ++ [x])) : ShQ bad B w (.slice a xs.length cap) xs := by
  obtain ⟨vs, hl, hq, hr⟩ := h
  obtain ⟨ws, u, rfl⟩ : ∃ ws u, vs = ws ++ [u] := by
    refine ⟨vs.dropLast, vs.getLast (fun e => by rw [e] at hl; simp at hl), (List.dropLast_concat_getLast _).symm⟩
  have hl2 : ws.length = xs.length := by simpa using hl
  refine ⟨ws, hl2, by rw [← hl2]; exact hq.init, fun i hi => ?_⟩
  have h2 := hr i (by simp; omega)
  rw [gt_append_left _ _ _ (by omega), gt_append_left _ _ _ hi] at h2
  exact Ints.sub h2 (fun k hk _ => ⟨hk.1, fun e => hk.2 (by cases a <;> exact e)⟩)

set_option maxHeartbeats 1000000 in
theorem l01Own2_ok (w : World) (v : Value) (L : List (List Int)) (S : Nat → Prop) (hv : Rows2 S w v L) (hL : ∀ x ∈ L, x.length ≤ 1000000) (hlen : L.length ≤ 1000000) :
    Calls Tryz.prog 65 #[v] w (Ret w fun w' r => RowsO w.heap.size w' r L) := by
  obtain ⟨a, cap, rfl, _, _⟩ := Sl.shape hv
  have HL := Lib.hid hL; clear hL
  go_enter Tryz.func65, Tryz.ntmps65
  go_wp2
  go_loopw [3, 4] (fun ov iv wr => ∃ (i : Nat) (v4 : Value), v4 = ov ∧ iv = .int .i64 i ∧ i ≤ L.length ∧ Ext w wr ∧ RowsO w.heap.size wr v4 (L.take i)) (fun _ iv _ => L.length - (intOf iv).toNat)
  case atStart => exact ⟨0, _, rfl, rfl, by omega, World.grownBy_alloc _ _ _, [], fun _ _ => False, rfl, World.ownsRow_lit w #[] 0 (Nat.le_refl _) (by decide) rfl, by simp, by simp, by simp⟩
  case round =>
    obtain ⟨i, v4, rfl, rfl, hi, hg, hO⟩ := hrel
    by_cases hlt : i < L.length
    · have hlt' : (i : Int) < L.length := by omega
      obtain ⟨b, off, a2, cap2, rfl, _, _, hc, hr⟩ := Rows2.at (Rows2.ext hv hg) i hlt
      have hstep := take_succ_gt L i hlt
      have hll := HL.out _ (gtMem hlt)
      have htl : (L.take i).length ≤ 1000000 := by rw [List.length_take]; omega
      have HST := Lib.hid (And.intro hstep hll); clear hstep hll
      go_wp2_with fail
      refine Calls.mono (l01Own_ok wr _ (gt L i) _ hr (by have := HST.out.2; omega)) ?_
      rintro eC wC ⟨vC, rfl, hgC, hOC⟩
      have hYO : OwnIn (From wr.heap.size) wC vC (gt L i) := OwnIn.of hOC (by have := HST.out.2; omega) (fun j h1 _ => h1)
      obtain ⟨ay, capy, hvy, _, _⟩ := hYO.ints.shape
      subst hvy
      clear hc
      go_wp2_with (first | (at_builtin; refine wp_app_row rfl _ _ rfl w.heap.size wr wC v4 _ (L.take i) (gt L i) rfl hO hgC hYO rfl rfl htl hg.size ?_; intro v5 w5 hO5 hg5 hg6; have hgw5 := hO.extw hg (Nat.le_refl _) hg5) | fail)
      go_roundw
      case rel => exact ⟨i + 1, v5, rfl, by go_num, by omega, hgw5, by rw [HST.out.1]; exact hO5⟩
      case measure => simp [intOf]; omega
    · have hie : i = L.length := by omega
      subst hie
      rw [List.take_length] at hO
      obtain ⟨az, capz, hvz, _, _⟩ := SlD.shape (hO.toD (by omega))
      subst hvz
      go_wp2
      go_ret
      exact ⟨_, rfl, hg, hO⟩

set_option maxRecDepth 100000 in
set_option maxHeartbeats 2000000 in
theorem l10Comm_ok (P : Pr) (G : Grp P) (w : World) (pv a b : Value) (A B : List Int) (Sp Sa Sb : Nat → Prop) (hp : PresV Sp w pv P) (ha : Ints Sa w a A) (hb : Ints Sb w b B) (hA : Vec P.orders A) (hB : Vec P.orders B) :
    Calls Tryz.prog 115 #[pv, a, b] w (Ret w fun w' v => Own w.heap.size w' v (comR P A B)) := by
  have hP := G.v
  obtain ⟨vo, vp, vc, rfl, h3⟩ := hp
  have hn6 := hP.n6
  have hV1 := G.mulV hB hA
  have hV2 := G.invV hV1
  have hV3 := G.mulV hA hB
  have HV := Lib.hid (And.intro hV1 (And.intro hV2 hV3)); clear hV1 hV2 hV3
  have hg0 : Ext w (w.alloc (.cells #[vo, vp, vc] 31)) := World.grownBy_alloc _ _ _
  have hBx := PresP.box h3 31
  have ha0 := ha.ext hg0
  have hb0 := hb.ext hg0
  have hs0 : (w.alloc (.cells #[vo, vp, vc] 31)).heap.size = w.heap.size + 1 := by simp
  have HS := Lib.hid hs0; clear hs0 ha hb
  go_enter Tryz.func115, Tryz.ntmps115
  go_wp2
  generalize hw0 : w.alloc (.cells #[vo, vp, vc] 31) = w0 at *
  clear hw0
  obtain ⟨vo6, vp6, vc6, _, _, hc0, hc1, hc2, h36⟩ := hBx.at
  have e1 : ∀ w', Ext w0 w' → w'.cell? ⟨w.heap.size, 0, none⟩ = some vo6 := fun w' h => h.cell hc0 (by simp)
  have e2 : ∀ w', Ext w0 w' → w'.cell? ⟨w.heap.size, 1, none⟩ = some vp6 := fun w' h => h.cell (by simpa using hc1) (by simp)
  have e3 : ∀ w', Ext w0 w' → w'.cell? ⟨w.heap.size, 2, none⟩ = some vc6 := fun w' h => h.cell (by simpa using hc2) (by simp)
  clear hc0 hc1 hc2
  go_region_held3 (fun w' => Ext w0 w') (first | exact grown_drew _ _ | assumption)
    (first
      | (revert hOF2; intro hOF2; go_at_call 176; refine Calls.mono (Calls.rel (w0 := w0) (by assumption) (l08Mul_ok P hP _ _ _ _ _ _ Any Any Any ⟨_, _, _, rfl, Pres3.ext h36 (by assumption)⟩ hOB2 hOF2 HV.out.2.1 HV.out.2.2)) ?_; rintro eC wC ⟨vC, rfl, hgC, hsC, hOC⟩)
      | (revert hOB; intro hOB; go_at_call 176; refine Calls.mono (Calls.rel2 (w0 := w0) (by assumption) (l08Mul_ok P hP _ _ _ _ A B Any Sa Sb ⟨_, _, _, rfl, Pres3.ext h36 (by assumption)⟩ (Ints.ext ha0 (by assumption)) (Ints.ext hb0 (by assumption)) hA hB)) ?_; rintro eF wF ⟨vF, rfl, hgF, hgF2, hsF, hOF⟩; have hOB2 := (hOB.ext0 hgF2).ints (by rw [HV.out.2.1.1]; omega); have hOF2 := hOF.ints (by rw [HV.out.2.2.1]; omega))
      | (go_at_call 178; refine Calls.mono (Calls.rel (w0 := w0) (by assumption) (l10Inv_ok P hP _ _ _ _ Any Any ⟨_, _, _, rfl, Pres3.ext h36 (by assumption)⟩ hOA2 HV.out.1)) ?_; rintro eB wB ⟨vB, rfl, hgB, hsB, hOB⟩)
      | (go_at_call 176; refine Calls.mono (Calls.rel (w0 := w0) (by assumption) (l08Mul_ok P hP _ _ _ _ B A Any Sb Sa ⟨_, _, _, rfl, Pres3.ext h36 (by assumption)⟩ (Ints.ext hb0 (by assumption)) (Ints.ext ha0 (by assumption)) hB hA)) ?_; rintro eA wA ⟨vA, rfl, hgA, hsA, hOA⟩; have hOA2 := hOA.ints (by rw [HV.out.1.1]; omega)))
  clear e1 e2 e3
  go_wp2
  go_ret
  exact ⟨_, rfl, grown_trans hg0 hgC, hOC.weak (by have := HS.out; omega)⟩

theorem l01Mod_ok (a m : Int) (w : World) (h1 : 0 ≤ a) (h2 : a < m) :
    Calls Tryz.prog 179 #[.int .i64 a, .int .i64 m] w fun e w' => e = .returned (.int .i64 a) ∧ w = w' := by
  have e1 : a.tmod m = a := Int.tmod_eq_of_lt h1 h2
  have hm0 : m ≠ 0 := by omega
  have hmb : (m == 0) = false := by simp; omega
  go_enter Tryz.func179, Tryz.ntmps179
  go_wp2
  go_ret
  exact ⟨rfl, rfl⟩

theorem inv_ex {a m : Int} (hm : m = 2 ∨ m = 3 ∨ m = 5 ∨ m = 7) (h1 : 1 ≤ a) (h2 : a < m) : ∃ y : Int, 1 ≤ y ∧ y < m ∧ (a * y) % m = 1 := by
  rcases hm with rfl | rfl | rfl | rfl
  · have : a = 1 := by omega
    subst this; exact ⟨1, by decide, by decide, by decide⟩
  · rcases (show a = 1 ∨ a = 2 by omega) with rfl | rfl
    · exact ⟨1, by decide, by decide, by decide⟩
    · exact ⟨2, by decide, by decide, by decide⟩
  · rcases (show a = 1 ∨ a = 2 ∨ a = 3 ∨ a = 4 by omega) with rfl | rfl | rfl | rfl
    · exact ⟨1, by decide, by decide, by decide⟩
    · exact ⟨3, by decide, by decide, by decide⟩
    · exact ⟨2, by decide, by decide, by decide⟩
    · exact ⟨4, by decide, by decide, by decide⟩
  · rcases (show a = 1 ∨ a = 2 ∨ a = 3 ∨ a = 4 ∨ a = 5 ∨ a = 6 by omega) with rfl | rfl | rfl | rfl | rfl | rfl
    · exact ⟨1, by decide, by decide, by decide⟩
    · exact ⟨4, by decide, by decide, by decide⟩
    · exact ⟨5, by decide, by decide, by decide⟩
    · exact ⟨2, by decide, by decide, by decide⟩
    · exact ⟨3, by decide, by decide, by decide⟩
    · exact ⟨6, by decide, by decide, by decide⟩

set_option maxHeartbeats 1000000 in
/-- the least inverse, as the reference looks for it -/
theorem l01Inv_ok (a m : Int) (w : World) (hm : m = 2 ∨ m = 3 ∨ m = 5 ∨ m = 7) (h1 : 1 ≤ a) (h2 : a < m) :
    Calls Tryz.prog 114 #[.int .i64 a, .int .i64 m] w (Ret w fun _ v => ∃ k : Int, v = .int .i64 k ∧ 0 ≤ k ∧ k < m ∧ (k * a) % m = 1) := by
  have hex := inv_ex hm h1 h2
  have HE := Lib.hid hex; clear hex
  have hm7 : 2 ≤ m ∧ m ≤ 7 := by omega
  obtain ⟨hm2, hm7⟩ := hm7
  clear hm
  have hcon := l01Mod_ok a m w (by omega) h2
  go_enter Tryz.func114, Tryz.ntmps114
  go_wp2
  go_loopw [5] (fun xv wr => ∃ x : Int, xv = .int .i64 x ∧ 1 ≤ x ∧ x ≤ m ∧ w = wr ∧ Hid (∀ y, 1 ≤ y → y < x → (a * y) % m ≠ 1)) (fun xv _ => (m - intOf xv).toNat)
  case atStart => exact ⟨1, rfl, by omega, by omega, rfl, Lib.hid (fun y h1 h2 => by omega)⟩
  case round =>
    obtain ⟨x, rfl, hx1, hxm, rfl, hN⟩ := hrel
    by_cases hlt : x < m
    · have hax0 : 0 ≤ a * x := Int.mul_nonneg (by omega) (by omega)
      have hax : a * x ≤ 7 * 7 := Int.mul_le_mul (by omega) (by omega) (by omega) (by omega)
      have e1 : IntKind.i64.wrap (a * x) = a * x := IntWalk.i64_in _ (by omega)
      have e2 : (a * x).tmod m = (a * x) % m := Int.tmod_eq_emod_of_nonneg hax0
      have hm0 : (m == 0) = false := by simp; omega
      by_cases hq : (a * x) % m = 1
      · have hb : ((a * x) % m == 1) = true := by simp [hq]
        have hq2 : (x * a) % m = 1 := by rw [Int.mul_comm]; exact hq
        have HQ := Lib.hid hq2; clear hq hq2
        go_wp2_with fail
        refine Calls.mono hcon ?_
        rintro e5 w5 ⟨rfl, rfl⟩
        clear hcon
        go_wp2
        go_ret
        exact ⟨_, rfl, Ext.refl _, x, rfl, by omega, hlt, HQ.out⟩
      · have hb : ((a * x) % m == 1) = false := by simp [hq]
        have HQ := Lib.hid hq; clear hq
        go_wp2_with fail
        refine Calls.mono hcon ?_
        rintro e5 w5 ⟨rfl, rfl⟩
        clear hcon
        go_wp2
        go_roundw
        case rel => exact ⟨x + 1, by go_num, by omega, by omega, trivial, Lib.hid (fun y h1 h2 => by
          by_cases hy : y = x
          · rw [hy]; exact HQ.out
          · exact hN.out y h1 (by omega))⟩
        case measure => simp [intOf]; omega
    · obtain ⟨y, h1, h2, h3⟩ := HE.out
      exact absurd h3 (hN.out y h1 (by omega))

end Go.Proofs.YtdklekdpdbjfiaaGreat

/- The reference's closure: spec.l12Close. -/
namespace Go.Proofs.YtdklekdpdbjfiaaGreat
open Go.RowKit

theorem tab_kept {B gb n W : Nat} {wI w2 : World} {v1 v2 : Value} {b : List (List Int)} (h : TabAt B (fun k => v1.ownBlock = some k) wI gb n b) (hv : ∀ k, v1.ownBlock = some k → W ≤ k) (hgb : gb < W)
    (hg2 : wI.grownBy w2 v1.ownBlock) (hb2 : v2.ownBlock = v1.ownBlock ∨ ∀ k, v2.ownBlock = some k → wI.heap.size ≤ k) : TabAt B (fun k => v2.ownBlock = some k) w2 gb n b := by
  refine h.kept hg2.size (fun k hk hc => hg2.block k hk (fun e => ?_)) (fun k hk e => ?_)
  · rcases hc with rfl | hc
    · have := hv _ e.symm; omega
    · exact hc e.symm
  · rcases hb2 with h | h
    · rw [← h]; exact e
    · have := h k e; omega

/-- rows in blocks of their own, as a stack -/
theorem SlO.shq {bad : Nat → Prop} {B : Nat} {w : World} {v : Value} {xs : List (List Int)} (h : RowsO B w v xs) (hbad : ∀ k, bad k → k < B) : ShQ bad B w v xs := by
  obtain ⟨vs, G, hl, hO, hG, _, hE⟩ := h
  refine ⟨vs, hl, QOwn.of hO, fun i hi => Ints.sub (hE i hi).ints (fun k hk _ => ?_)⟩
  obtain ⟨h1, h2, _⟩ := hG i k hi hk
  exact ⟨fun h => by have := hbad k h; omega, h2⟩

/-- the world has grown from w0, and block g is as it was in w1 -/
def HeldB (w0 w1 : World) (g : Nat) (w' : World) : Prop := Ext w0 w' ∧ w'.heap[g]? = w1.heap[g]?
theorem heldB_ext {w0 w1 w' : World} {g : Nat} (h0 : Ext w0 w1) (hg : g < w1.heap.size) (h : Ext w1 w') : HeldB w0 w1 g w' := ⟨grown_trans h0 h, h.block g hg (by simp)⟩
theorem HeldB.cell {w0 w1 w' : World} {g i : Nat} {v : Value} (h : HeldB w0 w1 g w') (hc : w1.cell? ⟨g, i, none⟩ = some v) : w'.cell? ⟨g, i, none⟩ = some v := (World.cell?_of_block (w := w1) h.2).trans hc

set_option maxRecDepth 100000 in
set_option maxHeartbeats 8000000 in
theorem l12Close_ok (P : Pr) (G : Grp P) (w : World) (pv lv : Value) (L : List (List Int)) (Sp Sr : Nat → Prop) (hpv : PresV Sp w pv P) (hl : Rows2 Sr w lv L) (hL : ∀ x ∈ L, Vec P.orders x) (hlen : L.length ≤ 10000) :
    Calls Tryz.prog 64 #[pv, lv] w (Ret w fun w' v => Rows2 Any w' v (cseq P (genP P (fun x => x ∈ L)))) := by
  have hP := G.v
  have hn6 := hP.n6
  obtain ⟨vo, vp, vc, rfl, h3⟩ := hpv
  have hp0 := PresP.box h3 31
  have hg0 : Ext w (w.alloc (.cells #[vo, vp, vc] 31)) := World.grownBy_alloc _ _ _
  have hs0 : (w.alloc (.cells #[vo, vp, vc] 31)).heap.size = w.heap.size + 1 := by simp
  obtain ⟨vo6, vp6, vc6, _, _, hc0, hc1, hc2, h36⟩ := hp0.at
  simp only [Nat.zero_add] at hc1 hc2
  obtain ⟨ao, capo, rfl, _, _⟩ := h36.o.shape
  clear hp0
  obtain ⟨al, capl, rfl, _, _⟩ := Sl.shape hl
  have hLl : ∀ x ∈ L, x.length ≤ 1000000 := fun x hx => by rw [(hL x hx).1]; omega
  have HL := Lib.hid (And.intro hL hLl); clear hL hLl
  go_enter Tryz.func64, Tryz.ntmps64
  go_wp2_with (first | (at_make; refine wp_make_tab rfl _ _ rfl w.heap.size P.orders.length (w.heap.size + 1) (by simp) _ rfl rfl rfl (by omega) (by omega) ?_; intro w1 hT1 hg1 hlt1) | fail)
  have HS := Lib.hid hs0; clear hs0
  generalize hw0 : w.alloc (.cells #[vo, vp, vc] 31) = w0 at *
  clear hw0
  have hl0 := Rows2.ext hl hg0
  clear hl
  have hgb1 : w.heap.size + 1 < w1.heap.size := hlt1
  refine Calls.mono (l01Own2_ok w1 _ L Sr (Rows2.ext hl0 hg1) HL.out.2 (by omega)) ?_
  rintro e2 w2 ⟨qv0, rfl, hg2, hQ2⟩
  have hq2 : ShQ (fun k => k = w.heap.size + 1) w1.heap.size w2 qv0 L := hQ2.shq (fun k hk => by omega)
  have hg02 := grown_trans hg1 hg2
  have hown2 : ∀ k, qv0.ownBlock = some k → w1.heap.size ≤ k := fun k hk => (hq2.lt k hk).1
  have hT2 : TabAt w.heap.size (fun k => qv0.ownBlock = some k) w2 (w.heap.size + 1) P.orders.length (List.replicate P.orders.length []) := (hT1 _).ext hg2
  clear hT1 hQ2 hl0
  -- facts of the box and the orders
  have hbx : ∀ w', Ext w0 w' → w'.cell? ⟨w.heap.size, 0, none⟩ = some (.slice ao P.orders.length capo) ∧ w'.cell? ⟨w.heap.size, 1, none⟩ = some vp6 ∧ w'.cell? ⟨w.heap.size, 2, none⟩ = some vc6 := fun w' h => ⟨h.cell hc0 (by simp), h.cell hc1 (by simp), h.cell hc2 (by simp)⟩
  have HB := Lib.hid hbx; clear hbx hc0 hc1 hc2
  obtain ⟨Q, hQ⟩ : ∃ Q : List Int → Prop, Q = fun x => x = zeros P.orders.length ∨ x ∈ L.reverse := ⟨_, rfl⟩
  have hst : ∃ R, AddInv P Q (gt (List.replicate P.orders.length [])) L.reverse R := by
    rw [hQ]; exact ⟨_, G.addInv_start G.ind_one (fun x hx => HL.out.1 x (List.mem_reverse.1 hx))⟩
  have hQL : genP P Q = genP P (fun x => x ∈ L) := by
    rw [hQ, genP_one]
    congr 1
    funext x
    simp
  have HST := Lib.hid (And.intro hst hQL); clear hst hQL hQ
  go_wp2
  go_loopg [7] (miss (List.replicate P.orders.length ([] : List Int)) P.orders.length * (P.orders.length + 3) + L.length) (fun gk qv wr => ∃ (b q : List (List Int)), gk ≤ 20000 ∧ gk = miss b P.orders.length * (P.orders.length + 3) + q.length ∧ Ext w0 wr ∧
    TabAt w.heap.size (fun k => qv.ownBlock = some k) wr (w.heap.size + 1) P.orders.length b ∧ ShQ (fun k => k = w.heap.size + 1) w1.heap.size wr qv q ∧ Hid (∃ R, AddInv P Q (gt b) q.reverse R))
  case atStart =>
    have hk0 : miss (List.replicate P.orders.length ([] : List Int)) P.orders.length * (P.orders.length + 3) + L.length ≤ 20000 := by
      have h3 : miss (List.replicate P.orders.length ([] : List Int)) P.orders.length * (P.orders.length + 3) ≤ 6 * 9 := Nat.mul_le_mul (by have := miss_le (List.replicate P.orders.length ([] : List Int)) P.orders.length; omega) (by omega)
      omega
    exact ⟨_, L, hk0, rfl, hg02, hT2, hq2, Lib.hid HST.out.1⟩
  case round =>
    clear hT2 hq2 hown2 hg02
    obtain ⟨b, q, hgkb, hgk, hg, hT, hq, hA⟩ := hrel
    have hlb := hT.len
    obtain ⟨hb1, hb2, hb3⟩ := HB.out wr hg
    have hqc : q = [] ∨ ∃ q1 y, q = q1 ++ [y] := by
      rcases List.eq_nil_or_concat q with h | ⟨q1, y, h⟩
      · exact .inl h
      · exact .inr ⟨q1, y, by rw [h, List.concat_eq_append]⟩
    rcases hqc with rfl | ⟨q1, y, rfl⟩
    · obtain ⟨aq, capq, rfl, _⟩ := hq.shape
      have hI : Ind P (genP P Q) (gt b) := by obtain ⟨R, hA⟩ := hA.out; exact G.addInv_end hA
      have HI := Lib.hid hI; clear hI hA
      go_wp2_with fail
      refine Calls.mono (l12Full_ok P G wr _ _ b (genP P Q) Any _ ⟨_, _, _, rfl, Pres3.ext h36 hg⟩ (hT.rows (by omega)) hlb HI.out) ?_
      rintro eF wF ⟨vF, rfl, hgF, hRF⟩
      rw [HST.out.2] at hRF
      go_wp2
      go_ret
      exact ⟨_, rfl, grown_trans hg0 (grown_trans hg hgF), hRF⟩
    · obtain ⟨aq, capq, rfl, _⟩ := hq.shape
      obtain ⟨k1, hk1⟩ : ∃ k1, k1 = q1.length := ⟨_, rfl⟩
      obtain ⟨gq, off, u, rfl, hgB, hglt, hcell, hyI⟩ := ShQ.head hq q1.length (by simp)
      rw [gt_concat] at hyI
      have hcap : k1 ≤ capq := by
        obtain ⟨vs, hvl, hqo, _⟩ := hq
        rcases hqo with ⟨h, _⟩ | ⟨g, o, cp, cur, hv, _, _, h1, _⟩
        · simp at h
        · simp only [Value.slice.injEq] at hv
          obtain ⟨_, _, rfl⟩ := hv
          simp at hvl; omega
      have hq1 := hq.init
      rw [← hk1] at hcell hq1
      have hml : (q1 ++ [y]).length = k1 + 1 := by simp [hk1]
      obtain ⟨m, hm⟩ : ∃ m, m = (q1 ++ [y]).length := ⟨_, rfl⟩
      rw [← hm] at hml hgk ⊢
      have hyV : Vec P.orders y := by obtain ⟨R, hA⟩ := hA.out; exact hA.vec _ (hA.que _ (by simp))
      have htab : ∀ d, d < P.orders.length → gt b d ≠ [] → T P d (gt b d) ∧ gt (gt b d) d = 1 := by obtain ⟨R, hA⟩ := hA.out; exact fun d hd h => (hA.tab d hd h).2
      have hA1 : ∃ R, AddInv P Q (gt b) (y :: q1.reverse) R := by
        obtain ⟨R, hA⟩ := hA.out
        rw [List.reverse_append] at hA
        exact ⟨R, hA⟩
      obtain ⟨ay, capy, hvy, _, _⟩ := hyI.shape
      rw [hyV.1] at hvy
      subst hvy
      have HY := Lib.hid (And.intro hyV (And.intro htab (And.intro hA1 (And.intro hk1 hgk)))); clear hyV htab hA1 hA hk1 hgk
      have hmb : m ≤ 20000 := by have := HY.out.2.2.2.2; omega
      have hmi : (0 : Int) < m := by omega
      have hwm : IntKind.i64.wrap ((m : Int) - 1) = (k1 : Int) := by rw [show (m : Int) - 1 = (k1 : Int) by omega]; exact IntWalk.i64_in _ (by omega)
      have hkm : (k1 : Int) < m := by omega
      have hk0 : (0 : Int) ≤ k1 := by omega
      have hrt := run_head_rows wr (some ⟨gq, off, none⟩) m capq (k1 : Int) hk0 (by omega)
      rw [show ((k1 : Int)).toNat = k1 by omega] at hrt
      have HM := Lib.hid (And.intro hml hm); clear hml hm
      have hTr := hT.rows (by omega)
      go_wp2_with fail
      refine Calls.mono (l12Strip_ok P G wr _ _ _ b y Any _ _ ⟨_, _, _, rfl, Pres3.ext h36 hg⟩ hTr hyI HY.out.1 hlb HY.out.2.1) ?_
      rintro eS wS ⟨vS, rfl, hgS, d, rv, Y, rfl, hOY, hSY, hdn, hdY⟩
      have hYV := hSY.vec.1
      have hYi := hOY.ints (by rw [hYV.1]; omega)
      have hA2 : ∃ R, AddInv P Q (gt b) (Y :: q1.reverse) R := by
        obtain ⟨R, hA⟩ := HY.out.2.2.1
        exact hSY.inv _ _ _ hA
      obtain ⟨ar, capr, hvr, _, _⟩ := hYi.shape
      rw [hYV.1] at hvr
      subst hvr
      have hgT := grown_trans hg hgS
      have hqS := hq1.ext hgS
      have hTS : TabAt w.heap.size (fun k => (Value.slice (some ⟨gq, off, none⟩) k1 capq).ownBlock = some k) wS (w.heap.size + 1) P.orders.length b := hT.ext hgS
      have HLB := Lib.hid hlb
      clear hT hq hq1 hTr hyI hcell hrt hwm hb1 hb2 hb3 hlb
      have hT0 := hSY.vec
      have HA2 := Lib.hid (And.intro hA2 (And.intro hT0 hYV)); clear hA2 hT0 hYV hSY
      by_cases hd : d = P.orders.length
      · have hY0 : Y = zeros P.orders.length := T.top hP (by rw [← hd]; exact HA2.out.2.1)
        have hA3 : Hid (∃ R, AddInv P Q (gt b) q1.reverse R) := by
          obtain ⟨R, hA⟩ := HA2.out.1
          exact Lib.hid ⟨R, addInv_drop hA hY0⟩
        clear hdY hY0
        subst hd
        go_wp2
        go_roundg (gk - 1)
        case measure => have := HY.out.2.2.2.2; omega
        case rel => exact ⟨b, q1, by omega, by have := HY.out.2.2.2.2; have := HY.out.2.2.2.1; have := HM.out.1; omega, hgT, hTS, hqS, hA3⟩
      · have hdl : d < P.orders.length := by omega
        obtain ⟨hy0, hbd⟩ := hdY hdl
        clear hdY
        have hdi : ((d : Int) == (P.orders.length : Int)) = false := by simp; omega
        have hYV := HA2.out.2.2
        have ho := hP.ord7 d hdl
        have hpr := hP.ord d hdl
        have hyd := hYV.2 d hdl
        obtain ⟨br, or_, rfl, _, _, hcr⟩ := Ints.at hYi d (by rw [hYV.1]; exact hdl)
        obtain ⟨bo, oo, rfl, _, _, hco⟩ := Ints.at (Ints.ext h36.o hgT) d hdl
        have hyd1 : 1 ≤ gt Y d := by omega
        have HD := Lib.hid (And.intro hbd (And.intro hpr (And.intro hy0 hd))); clear hbd hpr hy0 hd
        have hd0 : (0 : Int) ≤ d := by omega
        have hdn' : (d : Int) < P.orders.length := by omega
        have e1 : ∀ w', Ext wS w' → w'.cell? ⟨w.heap.size, 0, none⟩ = some (.slice (some ⟨bo, oo, none⟩) P.orders.length capo) := fun w' h => (HB.out w' (grown_trans hgT h)).1
        have e2 : ∀ w', Ext wS w' → w'.cell? ⟨w.heap.size, 1, none⟩ = some vp6 := fun w' h => (HB.out w' (grown_trans hgT h)).2.1
        have e3 : ∀ w', Ext wS w' → w'.cell? ⟨w.heap.size, 2, none⟩ = some vc6 := fun w' h => (HB.out w' (grown_trans hgT h)).2.2
        have e4 : ∀ w', Ext wS w' → w'.cell? ⟨br, or_ + d, none⟩ = some (.int .i64 (gt Y d)) := fun w' h => h.cell hcr (by simp)
        have e5 : ∀ w', Ext wS w' → w'.cell? ⟨bo, oo + d, none⟩ = some (.int .i64 (gt P.orders d)) := fun w' h => h.cell hco (by simp)
        clear hcr hco
        go_wp2
        go_region_held3 (fun w' => Ext wS w') (first | exact grown_drew _ _ | assumption)
          (first
            | (go_at_call 114; refine Calls.mono (Calls.rel (w0 := wS) (by first | exact grown_drew _ _ | assumption) (l01Inv_ok (gt Y d) (gt P.orders d) _ HD.out.2.1 hyd1 hyd.2)) ?_; rintro eI wI ⟨vI, rfl, hgI, hsI, kk, rfl, hk1', hk2', hkk⟩; have HK := Lib.hid hkk; clear hkk)
            | (go_at_call 113; refine Calls.mono (Calls.rel (w0 := wS) (by assumption) (l10Pow_ok P G _ _ _ Y _ Any Any ⟨_, _, _, rfl, Pres3.ext (Pres3.ext h36 hgT) (by assumption)⟩ (Ints.sub (Ints.ext hYi (by assumption)) (fun _ _ _ => trivial)) hYV (by omega))) ?_; rintro eZ wZ ⟨zv, rfl, hgZ, hsZ, hOZ⟩))
        clear e1 e2 e3 e4 e5
        rw [pwZ_nat _ _ _ hk1'] at hOZ
        obtain ⟨Z, hZ⟩ : ∃ Z, Z = pw P Y kk.toNat := ⟨_, rfl⟩
        rw [← hZ] at hOZ
        have hZV : Vec P.orders Z := by rw [hZ]; exact G.pw_vec hYV _
        have hZl : Z.length = P.orders.length := hZV.1
        have hZne : Z ≠ [] := fun h => by rw [h] at hZl; simp at hZl; omega
        have hgwZ := grown_trans hgT hgZ
        have hszS := hgS.size
        have hZI : Ints (fun k => k ≠ w.heap.size + 1 ∧ ¬ ((Value.slice (some ⟨gq, off, none⟩) k1 capq).ownBlock = some k)) wZ zv Z := ints_of_own hOZ (by omega) (fun k hk => by
          have h1 := (hOZ.lt k hk).1
          exact ⟨by omega, fun e => by have := own_blk e; omega⟩)
        obtain ⟨az, capz, hvz, _, _⟩ := hZI.shape
        rw [hZl] at hvz
        subst hvz
        obtain ⟨hT5, hg5⟩ := (hTS.ext hgZ).put d hZI hZne
        obtain ⟨hfr, hcc⟩ := (hTS.ext hgZ).at d hdl
        have hcd : wZ.cell? ⟨w.heap.size + 1, d, none⟩ = some (.slice none 0 0) := hcc.elim (fun h => h.2) (fun h => absurd HD.out.1 h.1)
        have hfar : ∀ (S : Nat → Prop) k, (k ≠ w.heap.size + 1 ∧ S k) → k < wZ.heap.size → (k ≠ w.heap.size + 1 ∧ S k) ∧ k < (wZ.setCell ⟨w.heap.size + 1, d, none⟩ (.slice az P.orders.length capz)).heap.size ∧ (wZ.setCell ⟨w.heap.size + 1, d, none⟩ (.slice az P.orders.length capz)).heap[k]? = wZ.heap[k]? := fun S k hk hlt => ⟨hk, Nat.lt_of_lt_of_le hlt hg5.size, hg5.block k hlt (fun e => hk.1 (by cases e; rfl))⟩
        have hZ5 := Ints.mono hZI (hfar _)
        have hr5 : Ints (fun k => k ≠ w.heap.size + 1 ∧ ¬ ((Value.slice (some ⟨gq, off, none⟩) k1 capq).ownBlock = some k)) (wZ.setCell ⟨w.heap.size + 1, d, none⟩ (.slice az P.orders.length capz)) (.slice (some ⟨br, or_, none⟩) P.orders.length capr) Y := Ints.mono (ints_of_own (hOY.ext0 hgZ) (by rw [hYV.1]; omega) (fun k hk => by
          have h1 := ((hOY.ext0 hgZ).lt k hk).1
          exact ⟨by omega, fun e => by have := own_blk e; omega⟩)) (hfar _)
        have hq5 : ShQ (fun k => k = w.heap.size + 1) w1.heap.size (wZ.setCell ⟨w.heap.size + 1, d, none⟩ (.slice az P.orders.length capz)) (.slice (some ⟨gq, off, none⟩) k1 capq) q1 := (hqS.ext hgZ).kept hg5.size (fun j hj hc => hg5.block j hj (fun e => by
          have e := Option.some.inj e
          subst e
          rcases hc with hc | hc
          · have := own_blk hc; omega
          · exact hc rfl)) (fun _ _ h => h)
        have hgw5 : Ext w0 (wZ.setCell ⟨w.heap.size + 1, d, none⟩ (.slice az P.orders.length capz)) := grown_own hgwZ hg5 (fun j hj hlt => by cases hj; have := HS.out; omega)
        have hqown : ∀ k, (Value.slice (some ⟨gq, off, none⟩) k1 capq).ownBlock = some k → w1.heap.size ≤ k := fun k hk => by have := own_blk hk; omega
        have HZ := Lib.hid (And.intro hZ (And.intro hZV (And.intro hZl hZne))); clear hZ hZV hZl hZne hcc hTS hqS hOZ hOY hZI
        have hq1l : q1.length ≤ 20000 := by have := HY.out.2.2.2.1; omega
        generalize hw5 : wZ.setCell ⟨w.heap.size + 1, d, none⟩ (.slice az P.orders.length capz) = w5 at *
        have hs5 : w1.heap.size ≤ w5.heap.size := by have := hgw5.size; have := hg5.size; have := hgZ.size; omega
        go_wp2_with (first | (at_builtin; refine wp_shq_app rfl _ _ rfl (fun k => k = w.heap.size + 1) w1.heap.size _ _ q1 Y rfl w5 hq5 rfl hr5 rfl (by omega) hs5 ?_; intro v6 w6 hq6 hg6 hb6; have hgw6 := grown_own hgw5 hg6 (fun j hj hlt => by have := hqown j hj; have := HS.out; omega)) | fail)
        have hT6 := tab_kept hT5 hqown hgb1 hg6 hb6
        have hZ6 : Ints (fun k => ¬ (k = w.heap.size + 1) ∧ v6.ownBlock ≠ some k) w6 (.slice az P.orders.length capz) Z := Ints.mono hZ5 (q_kept (bad := fun k => k = w.heap.size + 1) hg6 hb6)
        have hs6 : w1.heap.size ≤ w6.heap.size := by have := hg6.size; omega
        have hqlt6 : ∀ k, v6.ownBlock = some k → w1.heap.size ≤ k := fun k hk => (hq6.lt k hk).1
        clear hw5 hfar hT5 hg5 hZ5 hr5 hq5 hg6 hb6 hfr hcd hqown
        have hTV : Vec P.orders (pw P Z (gt P.orders d).toNat) := G.pw_vec HZ.out.2.1 _
        have hTl : (pw P Z (gt P.orders d).toNat).length ≤ 6 := by rw [hTV.1]; omega
        have hTe : pwZ P Z (gt P.orders d) = pw P Z (gt P.orders d).toNat := pwZ_nat _ _ _ (by omega)
        have HTV := Lib.hid (And.intro hTl hTe); clear hTl hTe hTV
        have e1 : ∀ w', Ext w0 w' → w'.cell? ⟨w.heap.size, 0, none⟩ = some (.slice (some ⟨bo, oo, none⟩) P.orders.length capo) := fun w' h => (HB.out w' h).1
        have e2 : ∀ w', Ext w0 w' → w'.cell? ⟨w.heap.size, 1, none⟩ = some vp6 := fun w' h => (HB.out w' h).2.1
        have e3 : ∀ w', Ext w0 w' → w'.cell? ⟨w.heap.size, 2, none⟩ = some vc6 := fun w' h => (HB.out w' h).2.2
        obtain ⟨_, _, hbb, _, _, hco⟩ := Ints.at h36.o d hdl
        have e5 : ∀ w', Ext w0 w' → w'.cell? ⟨bo, oo + d, none⟩ = some (.int .i64 (gt P.orders d)) := fun w' h => h.cell (by cases hbb; exact hco) (by simp)
        clear hco hbb
        go_region_held3 (fun w' => Ext w0 w') (first | exact grown_trans hgw6 (grown_drew _ _) | assumption | exact grown_trans hgwT (World.grownBy_alloc _ _ _))
          (first
            | (go_at_call 113; refine Calls.mono (Calls.rel2 (w0 := w6) (grown_drew _ _) (l10Pow_ok P G _ _ _ Z (gt P.orders d) Any _ ⟨_, _, _, rfl, Pres3.ext h36 (grown_trans hgw6 (grown_drew _ _))⟩ (hZ6.ext (grown_drew _ _)) HZ.out.2.1 (by omega))) ?_; rintro eT wT ⟨vT, rfl, hgT6, hgT7, hsT, hOT⟩; have hgwT := grown_trans hgw6 hgT6; rw [HTV.out.2] at hOT; have hTI : Ints (fun k => ¬ (k = w.heap.size + 1) ∧ v6.ownBlock ≠ some k) wT vT (pw P Z (gt P.orders d).toNat) := ints_of_own hOT (by have := HTV.out.1; omega) (fun k hk => by
                have h1 := (hOT.lt k hk).1
                have h3 := hgw6.size
                exact ⟨by omega, fun e => by have := (hq6.lt k e).2; omega⟩); obtain ⟨aT, capT, hvT, _, _⟩ := hTI.shape; subst hvT)
            | (refine step_shq_app rfl _ _ rfl (fun k => k = w.heap.size + 1) w1.heap.size v6 _ (q1 ++ [Y]) _ rfl wT (hq6.ext hgT6) rfl hTI rfl (by simp; omega) (by have := hgT6.size; omega) ?_; intro v7 w7 hq7 hg7 hb7; have hgw7 := grown_own hgwT hg7 (fun j hj hlt => by have := hqlt6 j hj; have := HS.out; omega)))
        clear e1 e2 e3 e5
        have hs7 : w1.heap.size ≤ w7.heap.size := by have := hg7.size; have := hgT6.size; omega
        have hT7 := tab_kept (hT6.ext hgT6) hqlt6 hgb1 hg7 hb7
        have hZ7 : Ints (fun k => ¬ (k = w.heap.size + 1) ∧ v7.ownBlock ≠ some k) w7 (.slice az P.orders.length capz) Z := Ints.mono (hZ6.ext hgT6) (q_kept (bad := fun k => k = w.heap.size + 1) hg7 hb7)
        obtain ⟨T1, hT1e⟩ : ∃ T1, T1 = pw P Z (gt P.orders d).toNat := ⟨_, rfl⟩
        rw [← hT1e] at hq7
        have HT1 := Lib.hid hT1e; clear hT1e hq6 hT6 hZ6 hqlt6 hTI hOT hg7 hb7
        go_wp2
        go_loopw [7, 12] (fun qv ev wr2 => ∃ (e : Nat) (v8 : Value), v8 = qv ∧ ev = .int .i64 e ∧ e ≤ P.orders.length ∧ w1.heap.size ≤ wr2.heap.size ∧ Ext w0 wr2 ∧ TabAt w.heap.size (fun j => v8.ownBlock = some j) wr2 (w.heap.size + 1) P.orders.length (b.set d Z) ∧
          ShQ (fun k => k = w.heap.size + 1) w1.heap.size wr2 v8 (q1 ++ [Y] ++ [T1] ++ comsR P b Z e) ∧ Ints (fun j => ¬ (j = w.heap.size + 1) ∧ v8.ownBlock ≠ some j) wr2 (.slice az P.orders.length capz) Z) (fun _ ev _ => P.orders.length - (intOf ev).toNat)
        case atStart => exact ⟨0, v7, rfl, rfl, by omega, hs7, hgw7, hT7, by simpa [comsR] using hq7, hZ7⟩
        case round =>
          obtain ⟨e, v8, rfl, rfl, he, hs8, hg8, hT8, hq8, hZ8⟩ := hrel
          clear hT7 hq7 hZ7
          have hqlt8 : ∀ j, v8.ownBlock = some j → w1.heap.size ≤ j := fun j hj => (hq8.lt j hj).1
          by_cases he2 : e < P.orders.length
          · have he' : (e : Int) < P.orders.length := by omega
            have he0 : (0 : Int) ≤ e := by omega
            by_cases hed : e = d
            · have hcs : comsR P b Z (e + 1) = comsR P b Z e := by simp only [comsR]; rw [if_pos (by rw [hed]; exact HD.out.1), List.append_nil]
              have hne : ((e : Int) != (d : Int)) = false := by simp [hed]
              have HC := Lib.hid hcs; clear hcs hed
              go_wp2
              go_roundw
              case rel => exact ⟨e + 1, v8, rfl, by go_num, by omega, hs8, hg8, hT8, by rw [HC.out]; exact hq8, hZ8⟩
              case measure => simp [intOf]; omega
            · have hne : ((e : Int) != (d : Int)) = true := by simp; omega
              have hbe : gt (b.set d Z) e = gt b e := gt_set_ne _ _ _ _ (fun h => hed h.symm)
              obtain ⟨_, hcc⟩ := hT8.at e he2
              rw [hbe] at hcc
              clear hbe hed
              rcases hcc with ⟨h0, hcell⟩ | ⟨hnn, ab, capb, hcell, hbI⟩
              · have hcs : comsR P b Z (e + 1) = comsR P b Z e := by simp only [comsR]; rw [if_pos h0, List.append_nil]
                have HC := Lib.hid hcs; clear hcs h0
                go_wp2
                go_roundw
                case rel => exact ⟨e + 1, v8, rfl, by go_num, by omega, hs8, hg8, hT8, by rw [HC.out]; exact hq8, hZ8⟩
                case measure => simp [intOf]; omega
              · have hcs : comsR P b Z (e + 1) = comsR P b Z e ++ [comR P Z (gt b e)] := by simp only [comsR]; rw [if_neg hnn]
                have hbV := (HY.out.2.1 e he2 hnn).1.1
                have hcV : Vec P.orders (comR P Z (gt b e)) := G.mulV (G.invV (G.mulV hbV HZ.out.2.1)) (G.mulV HZ.out.2.1 hbV)
                have hbl : (0 : Int) < (gt b e).length := by
                  have : 0 < (gt b e).length := List.length_pos_iff.2 hnn
                  omega
                have hcl := comsR_len P b Z e
                have HC := Lib.hid (And.intro hcs (And.intro hbV (And.intro hcV hcl))); clear hcs hbV hcV hcl hnn
                have hgbl : w.heap.size + 1 < wr.heap.size := by have := hT8.lt; omega
                go_wp2
                have e1 : ∀ w', HeldB w0 wr (w.heap.size + 1) w' → w'.cell? ⟨w.heap.size, 0, none⟩ = some (.slice (some ⟨bo, oo, none⟩) P.orders.length capo) := fun w' h => (HB.out w' h.1).1
                have e2 : ∀ w', HeldB w0 wr (w.heap.size + 1) w' → w'.cell? ⟨w.heap.size, 1, none⟩ = some vp6 := fun w' h => (HB.out w' h.1).2.1
                have e3 : ∀ w', HeldB w0 wr (w.heap.size + 1) w' → w'.cell? ⟨w.heap.size, 2, none⟩ = some vc6 := fun w' h => (HB.out w' h.1).2.2
                have e4 : ∀ w', HeldB w0 wr (w.heap.size + 1) w' → w'.cell? ⟨w.heap.size + 1, e, none⟩ = some (.slice (some ab) (gt b e).length capb) := fun w' h => h.cell hcell
                clear hcell
                go_region_held3 (fun w' => HeldB w0 wr (w.heap.size + 1) w') (first | exact heldB_ext hg8 hgbl (grown_drew _ _) | assumption | exact heldB_ext hg8 hgbl hgC | exact heldB_ext hg8 hgbl (grown_trans hgC (World.grownBy_alloc _ _ _)))
                  (first
                    | (go_at_call 115; refine Calls.mono (Calls.rel2 (w0 := wr) (grown_drew _ _) (l10Comm_ok P G _ _ _ _ Z (gt b e) Any _ _ ⟨_, _, _, rfl, Pres3.ext h36 (grown_trans hg8 (grown_drew _ _))⟩ (hZ8.ext (grown_drew _ _)) (Ints.ext hbI (grown_drew _ _)) HZ.out.2.1 HC.out.2.1)) ?_; rintro eC wC ⟨vC, rfl, hgC, hgC2, hsC, hOC⟩; have hCI : Ints (fun k => ¬ (k = w.heap.size + 1) ∧ v8.ownBlock ≠ some k) wC vC (comR P Z (gt b e)) := ints_of_own hOC (by rw [HC.out.2.2.1.1]; omega) (fun k hk => by
                        have h1 := (hOC.lt k hk).1
                        exact ⟨by omega, fun e => by have := (hq8.lt k e).2; omega⟩); obtain ⟨aC, capC, hvC, _, _⟩ := hCI.shape; subst hvC)
                    | (refine step_shq_app rfl _ _ rfl (fun k => k = w.heap.size + 1) w1.heap.size v8 _ (q1 ++ [Y] ++ [T1] ++ comsR P b Z e) _ rfl wC (hq8.ext hgC) rfl hCI rfl (by have := HC.out.2.2.2; simp; omega) (by have := hgC.size; omega) ?_; intro v9 w9 hq9 hg9 hb9; have hH9 : HeldB w0 wr (w.heap.size + 1) w9 := ⟨grown_own (grown_trans hg8 hgC) hg9 (fun j hj hlt => by have := hqlt8 j hj; have := HS.out; omega), (hg9.block _ (by have := hgC.size; omega) (fun e => by have := hqlt8 _ e.symm; omega)).trans (hgC.block _ hgbl (by simp))⟩))
                clear e1 e2 e3 e4
                have hs9 : w1.heap.size ≤ w9.heap.size := by have := hg9.size; have := hgC.size; omega
                have hT9 := tab_kept (hT8.ext hgC) hqlt8 hgb1 hg9 hb9
                have hZ9 : Ints (fun k => ¬ (k = w.heap.size + 1) ∧ v9.ownBlock ≠ some k) w9 (.slice az P.orders.length capz) Z := Ints.mono (hZ8.ext hgC) (q_kept (bad := fun k => k = w.heap.size + 1) hg9 hb9)
                clear hq8 hT8 hZ8 hg9 hb9 hCI hOC
                go_wp2
                go_roundw
                case rel => exact ⟨e + 1, v9, rfl, by go_num, by omega, hs9, hH9.1, hT9, by rw [HC.out.1, ← List.append_assoc]; exact hq9, hZ9⟩
                case measure => simp [intOf]; omega
          · have hee : e = P.orders.length := by omega
            subst hee
            have hms := miss_set (b := b) (z := Z) HD.out.1 HZ.out.2.2.2 P.orders.length (by rw [HLB.out]; exact Nat.le_refl _)
            rw [if_pos hdl] at hms
            have hcl := comsR_len P b Z P.orders.length
            have hll : (q1 ++ [Y] ++ [T1] ++ comsR P b Z P.orders.length).length ≤ q1.length + 2 + P.orders.length := by simp; omega
            have hmul : miss b P.orders.length * (P.orders.length + 3) = miss (b.set d Z) P.orders.length * (P.orders.length + 3) + (P.orders.length + 3) := by rw [← hms, Nat.add_mul, Nat.one_mul]
            have hA5 : Hid (∃ R, AddInv P Q (gt (b.set d Z)) (q1 ++ [Y] ++ [T1] ++ comsR P b Z P.orders.length).reverse R) := by
              obtain ⟨R, hA⟩ := HA2.out.1
              have hst := G.close_step (q' := (q1 ++ [Y] ++ [T1] ++ comsR P b Z P.orders.length).reverse) hA hdl HA2.out.2.1 HD.out.1 HLB.out kk hk1' HK.out (fun x => by
                rw [← HZ.out.1, ← HT1.out]
                simp only [List.mem_reverse, List.mem_append, List.mem_singleton, or_assoc])
              rw [← HZ.out.1] at hst
              exact Lib.hid hst
            have hlt5 : miss (b.set d Z) P.orders.length * (P.orders.length + 3) + (q1 ++ [Y] ++ [T1] ++ comsR P b Z P.orders.length).length < gk := by
              have := HY.out.2.2.2.2; have := HY.out.2.2.2.1; have := HM.out.1; omega
            have HX := Lib.hid (And.intro hll (And.intro hlt5 (And.intro hmul hms))); clear hll hmul hms hlt5 hcl hZ8
            go_wp2
            go_roundg (miss (b.set d Z) P.orders.length * (P.orders.length + 3) + (q1 ++ [Y] ++ [T1] ++ comsR P b Z P.orders.length).length)
            case measure => exact HX.out.2.1
            case rel => exact ⟨b.set d Z, _, by have := HX.out.2.1; omega, rfl, hg8, hT8, hq8, hA5⟩

end Go.Proofs.YtdklekdpdbjfiaaGreat

/- The codes and orders of Hall subgroups: impl.hallOrder, isPrimeSet, hallCode; spec.l20Primes, l20Code. -/
namespace Go.Proofs.YtdklekdpdbjfiaaGreat
open Go.RowKit

set_option maxRecDepth 100000 in
set_option maxHeartbeats 1000000 in
theorem indexInt_ok (l : List Int) (x : Int) (w : World) (v : Value) (S : Nat → Prop) (hv : Ints S w v l) :
    Calls Tryz.prog 186 #[v, .int .i64 x] w (Ret w fun _ r => ∃ k : Int, r = .int .i64 k ∧ (0 ≤ k ↔ x ∈ l)) := by
  obtain ⟨a, c, rfl, _, _⟩ := hv.shape
  have HV := Lib.hid hv; clear hv
  go_enter Tryz.func186, Tryz.ntmps186
  go_wp2
  go_loopw [8] (fun iv wr => ∃ i : Nat, iv = .int .i64 i ∧ i ≤ l.length ∧ Ext w wr ∧ Hid (∀ j, j < i → gt l j ≠ x)) (fun iv _ => l.length - (intOf iv).toNat)
  case atStart => exact ⟨0, by go_num, by omega, Ext.refl _, Lib.hid (fun j hj => by omega)⟩
  case round =>
    obtain ⟨i, rfl, hi, hg, hN⟩ := hrel
    by_cases hlt : i < l.length
    · have hlt' : (i : Int) < l.length := by omega
      obtain ⟨b, o, hab, _, _, hc⟩ := Ints.at HV.out i hlt
      subst hab
      have hcr := hg.cell hc (by simp)
      by_cases he : gt l i = x
      · have hd : x ∈ l := by rw [← he]; exact gt_mem hlt
        rw [he] at hcr
        have HD := Lib.hid hd; clear hd he hc
        go_wp2
        go_ret
        exact ⟨_, rfl, hg, (i : Int), rfl, ⟨fun _ => HD.out, fun _ => by omega⟩⟩
      · have hne : (x == gt l i) = false := by
          have : ¬ x = gt l i := fun e => he e.symm
          simpa using this
        have hN2 : ∀ j, j < i + 1 → gt l j ≠ x := fun j hj => by
          rcases Nat.lt_succ_iff_lt_or_eq.1 hj with h | h
          · exact hN.out j h
          · rw [h]; exact he
        have HN2 := Lib.hid hN2; clear hN2 he hc hN
        generalize gt l i = y at *
        go_wp2
        clear hne
        go_roundw
        case rel => exact ⟨i + 1, by go_num, by omega, hg, HN2⟩
        case measure => simp [intOf]; omega
    · have hie : i = l.length := by omega
      have hd : ¬ x ∈ l := fun h => by
        obtain ⟨j, hj, e⟩ := mem_gt h
        exact hN.out j (by omega) e
      have hnl : ¬ (i : Int) < l.length := by omega
      have HD := Lib.hid hd; clear hd hie hN
      go_wp2
      go_ret
      exact ⟨_, rfl, hg, -1, rfl, ⟨fun h => by omega, fun h => absurd h HD.out⟩⟩

set_option maxRecDepth 100000 in
set_option maxHeartbeats 1000000 in
theorem containsInt_ok (l : List Int) (x : Int) (w : World) (v : Value) (S : Nat → Prop) (hv : Ints S w v l) :
    Calls Tryz.prog 121 #[v, .int .i64 x] w (Ret w fun _ r => r = .bool (decide (x ∈ l))) := by
  have hi := indexInt_ok l x w v S hv
  obtain ⟨a, c, rfl, _, _⟩ := hv.shape
  go_enter Tryz.func121, Tryz.ntmps121
  go_wp2_with fail
  refine Calls.mono hi ?_
  rintro e1 w1 ⟨v1, rfl, hg1, k, rfl, hk⟩
  have HK := Lib.hid hk; clear hk hi
  go_wp2
  go_ret
  refine ⟨_, rfl, hg1, ?_⟩
  show Value.bool (decide (0 ≤ k)) = _
  rw [decide_eq_decide.2 HK.out]

theorem hallTo_le {P : Pr} (hP : Valid P) (pr : List Int) : ∀ k, k ≤ P.orders.length → 1 ≤ hallTo P pr k ∧ hallTo P pr k ≤ prodTo P.orders k
  | 0, _ => ⟨Int.le_refl 1, Int.le_refl 1⟩
  | k + 1, h => by
    obtain ⟨h1, h2⟩ := hallTo_le hP pr k (by omega)
    have ho := hP.ord7 k (by omega)
    have h3 : 1 * 1 ≤ hallTo P pr k * gt P.orders k := Int.mul_le_mul h1 (by omega) (by omega) (by omega)
    have h4 : hallTo P pr k * gt P.orders k ≤ prodTo P.orders k * gt P.orders k := Int.mul_le_mul_of_nonneg_right h2 (by omega)
    have h5 : prodTo P.orders k * 1 ≤ prodTo P.orders k * gt P.orders k := Int.mul_le_mul_of_nonneg_left (by omega) (by omega)
    unfold hallTo prodTo
    split <;> omega
theorem hallTo_729 {P : Pr} (hP : Valid P) (pr : List Int) (k : Nat) (hk : k ≤ P.orders.length) : 1 ≤ hallTo P pr k ∧ hallTo P pr k ≤ 729 := by
  have h1 := hallTo_le hP pr k hk
  have h2 := hP.pre k hk
  omega
theorem hallTo_yes {P : Pr} {pr : List Int} {k : Nat} (h : gt P.orders k ∈ pr) : hallTo P pr (k + 1) = hallTo P pr k * gt P.orders k := by rw [hallTo, if_pos h]
theorem hallTo_no {P : Pr} {pr : List Int} {k : Nat} (h : ¬ gt P.orders k ∈ pr) : hallTo P pr (k + 1) = hallTo P pr k := by rw [hallTo, if_neg h]

set_option maxRecDepth 100000 in
set_option maxHeartbeats 1000000 in
theorem hallOrder_ok (P : Pr) (hP : Valid P) (pr : List Int) (w : World) (p v : Value) (Sp S : Nat → Prop) (hp : PresP Sp w p P) (hv : Ints S w v pr) :
    Calls Tryz.prog 70 #[p, v] w (Ret w fun _ r => r = .int .i64 (hallO P pr)) := by
  have hn6 := hP.n6
  obtain ⟨pb, po, rfl⟩ := hp.shape
  obtain ⟨ao, capo, hco0, hoi⟩ := hp.ordAt
  obtain ⟨a, c, rfl, _, _⟩ := hv.shape
  have HV := Lib.hid hv; clear hv
  go_enter Tryz.func70, Tryz.ntmps70
  go_wp2
  clear hco0
  go_loopw [5, 13] (fun ov iv wr => ∃ i : Nat, ov = .int .i64 (hallTo P pr i) ∧ iv = .int .i64 i ∧ i ≤ P.orders.length ∧ Ext w wr) (fun _ iv _ => P.orders.length - (intOf iv).toNat)
  case atStart => exact ⟨0, rfl, by go_num, by omega, Ext.refl _⟩
  case round =>
    obtain ⟨i, rfl, rfl, hi, hg⟩ := hrel
    by_cases hlt : i < P.orders.length
    · have hlt' : (i : Int) < P.orders.length := by omega
      obtain ⟨b, o, hab, _, _, hc⟩ := Ints.at hoi i hlt
      subst hab
      have hcr := hg.cell hc (by simp)
      have hb := hallTo_729 hP pr i hi
      have hb1 := hallTo_729 hP pr (i + 1) hlt
      have hyes := @hallTo_yes P pr i
      have hno := @hallTo_no P pr i
      obtain ⟨q, hq⟩ : ∃ q, q = gt P.orders i := ⟨_, rfl⟩
      obtain ⟨h0, hh0⟩ : ∃ h, h = hallTo P pr i := ⟨_, rfl⟩
      rw [← hq] at hcr hyes hno
      rw [← hh0] at hb hyes hno ⊢
      have hcon := containsInt_ok pr q wr _ S (Ints.ext HV.out hg)
      have HY := Lib.hid (And.intro hyes (And.intro hno hb1)); clear hyes hno hb1 hc hq hh0
      go_wp2_with fail
      refine Calls.mono hcon ?_
      rintro e1 w1 ⟨v1, rfl, hg1, rfl⟩
      clear hcon hcr
      have hg01 := grown_trans hg hg1
      by_cases hm : q ∈ pr
      · have hd : decide (q ∈ pr) = true := decide_eq_true hm
        have hst := HY.out.1 hm
        have hbd := HY.out.2.2
        rw [hst] at hbd
        have hw : wrap64 (h0 * q) = h0 * q := IntWalk.wrap64_in _ (by omega)
        rw [hd]
        have HS := Lib.hid hst; clear hst hm hd
        go_wp2
        go_roundw
        case rel => exact ⟨i + 1, by rw [HS.out], by go_num, by omega, hg01⟩
        case measure => simp [intOf]; omega
      · have hd : decide (q ∈ pr) = false := decide_eq_false hm
        have hst := HY.out.2.1 hm
        rw [hd]
        have HS := Lib.hid hst; clear hst hm hd
        go_wp2
        go_roundw
        case rel => exact ⟨i + 1, by rw [HS.out], by go_num, by omega, hg01⟩
        case measure => simp [intOf]; omega
    · have hie : i = P.orders.length := by omega
      have hnl : ¬ (i : Int) < P.orders.length := by omega
      subst hie
      go_wp2
      go_ret
      exact ⟨_, rfl, hg, rfl⟩

/-- a set of primes, as both sides take it -/
def PrSet (pr : List Int) : Prop := ∀ i, i < pr.length → primeB (gt pr i) = true ∧ (0 < i → gt pr (i - 1) < gt pr i)

set_option maxRecDepth 100000 in
set_option maxHeartbeats 1000000 in
theorem isPrimeSet_ok (pr : List Int) (w : World) (v : Value) (S : Nat → Prop) (hv : Ints S w v pr) :
    Calls Tryz.prog 131 #[v] w (Ret w fun _ r => ∃ b : Bool, r = .bool b ∧ (b = true ↔ PrSet pr)) := by
  obtain ⟨a, c, rfl, _, _⟩ := hv.shape
  have HV := Lib.hid hv; clear hv
  go_enter Tryz.func131, Tryz.ntmps131
  go_wp2
  go_loopw [7] (fun iv wr => ∃ i : Nat, iv = .int .i64 i ∧ i ≤ pr.length ∧ Ext w wr ∧ Hid (∀ j, j < i → primeB (gt pr j) = true ∧ (0 < j → gt pr (j - 1) < gt pr j))) (fun iv _ => pr.length - (intOf iv).toNat)
  case atStart => exact ⟨0, by go_num, by omega, Ext.refl _, Lib.hid (fun j hj => by omega)⟩
  case round =>
    obtain ⟨i, rfl, hi, hg, hN⟩ := hrel
    by_cases hlt : i < pr.length
    · have hlt' : (i : Int) < pr.length := by omega
      obtain ⟨b, o, hab, _, _, hc⟩ := Ints.at HV.out i hlt
      subst hab
      have hcr := hg.cell hc (by simp)
      have hip := isGroupPrime_ok (gt pr i) wr
      have hno : (primeB (gt pr i) = true ∧ (0 < i → gt pr (i - 1) < gt pr i) → False) → ¬ PrSet pr := fun h hh => h (hh i hlt)
      have hgo : primeB (gt pr i) = true → (0 < i → gt pr (i - 1) < gt pr i) → Hid (∀ j, j < i + 1 → primeB (gt pr j) = true ∧ (0 < j → gt pr (j - 1) < gt pr j)) := fun h1 h2 => Lib.hid (fun j hj => by
        rcases Nat.lt_succ_iff_lt_or_eq.1 hj with h | h
        · exact hN.out j h
        · subst h; exact ⟨h1, h2⟩)
      rcases Nat.eq_zero_or_pos i with h0 | h0
      · subst h0
        obtain ⟨q, hq⟩ : ∃ q, q = gt pr 0 := ⟨_, rfl⟩
        rw [← hq] at hcr hip hno hgo
        obtain ⟨pb, hpb⟩ : ∃ pb, pb = primeB q := ⟨_, rfl⟩
        rw [← hpb] at hip hno hgo
        have HH := Lib.hid (And.intro hno hgo); clear hno hgo hc hq hpb hN
        have hcr : wr.cell? ⟨b, o, none⟩ = some (.int .i64 q) := hcr
        go_wp2_with fail
        refine Calls.mono hip ?_
        rintro e1 w1 ⟨rfl, rfl⟩
        cases pb with
        | false =>
          have hn := HH.out.1 (fun h => by cases h.1)
          have HN := Lib.hid hn; clear hn
          go_wp2
          go_ret
          exact ⟨_, rfl, hg, false, rfl, by simpa using HN.out⟩
        | true =>
          have hn := HH.out.2 rfl (fun h => by omega)
          go_wp2
          go_roundw
          case rel => exact ⟨1, by go_num, by omega, hg, hn⟩
          case measure => simp [intOf]; omega
      · obtain ⟨b2, o2, hab2, _, _, hc2⟩ := Ints.at HV.out (i - 1) (by omega)
        cases hab2
        have hcr2 := hg.cell hc2 (by simp)
        obtain ⟨q, hq⟩ : ∃ q, q = gt pr i := ⟨_, rfl⟩
        obtain ⟨q', hq'⟩ : ∃ q', q' = gt pr (i - 1) := ⟨_, rfl⟩
        rw [← hq] at hcr hip hno hgo
        rw [← hq'] at hcr2 hno hgo
        obtain ⟨pb, hpb⟩ : ∃ pb, pb = primeB q := ⟨_, rfl⟩
        rw [← hpb] at hip hno hgo
        have HH := Lib.hid (And.intro hno hgo); clear hno hgo hc hc2 hq hq' hpb hN
        obtain ⟨k, rfl⟩ : ∃ k, i = k + 1 := ⟨i - 1, by omega⟩
        have hcr2 : wr.cell? ⟨b, o + k, none⟩ = some (.int .i64 q') := by rw [Nat.add_sub_cancel] at hcr2; exact hcr2
        have hk1 : (((k + 1 : Nat) : Int) > 0) := by omega
        have hkk : ((k + 1 : Nat) : Int) - 1 = (k : Int) := by omega
        have hwk : wrap64 (((k + 1 : Nat) : Int) - 1) = (k : Int) := by rw [IntWalk.wrap64_in _ (by omega)]; omega
        go_wp2_with fail
        refine Calls.mono hip ?_
        rintro e1 w1 ⟨rfl, rfl⟩
        clear hip
        cases pb with
        | false =>
          have hn := HH.out.1 (fun h => by cases h.1)
          have HN := Lib.hid hn; clear hn
          go_wp2
          go_ret
          exact ⟨_, rfl, hg, false, rfl, by simpa using HN.out⟩
        | true =>
          by_cases hq : q' < q
          · have hn := HH.out.2 rfl (fun _ => hq)
            have hge : ¬ q' ≥ q := by omega
            go_wp2
            go_roundw
            case rel => exact ⟨k + 1 + 1, by go_num, by omega, hg, hn⟩
            case measure => simp [intOf]; omega
          · have hn := HH.out.1 (fun h => hq (h.2 (by omega)))
            have hge : q' ≥ q := by omega
            have HN := Lib.hid hn; clear hn
            go_wp2
            go_ret
            exact ⟨_, rfl, hg, false, rfl, by simpa using HN.out⟩
    · have hyes : PrSet pr := fun j hj => hN.out j (by omega)
      have hnl : ¬ (i : Int) < pr.length := by omega
      have HY := Lib.hid hyes; clear hyes hN
      go_wp2
      go_ret
      first | exact ⟨_, rfl, hg, true, rfl, by simpa using HY.out⟩ | exact ⟨_, rfl, hg, .inr ⟨rfl, HY.out⟩⟩

end Go.Proofs.YtdklekdpdbjfiaaGreat

/- The codes of Hall subgroups: impl.hallCode; spec.l20Primes, l20Code. -/
namespace Go.Proofs.YtdklekdpdbjfiaaGreat
open Go.RowKit

open Classical in
noncomputable def hcC (P : Pr) (pr : List Int) : Int := if rconsB P = true then (if PrSet pr then (if 128 < ordP P then 3 else 0) else 2) else 1
theorem hc_zero {P : Pr} {pr : List Int} (h : hcC P pr = 0) : rconsB P = true ∧ PrSet pr ∧ ordP P ≤ 128 := by
  unfold hcC at h
  by_cases h1 : rconsB P = true
  · rw [if_pos h1] at h
    by_cases h2 : PrSet pr
    · rw [if_pos h2] at h
      by_cases h3 : 128 < ordP P
      · rw [if_pos h3] at h; cases h
      · exact ⟨h1, h2, by omega⟩
    · rw [if_neg h2] at h; cases h
  · rw [if_neg h1] at h; cases h

theorem l01PrimeR_ok (n : Int) (w : World) : Calls Tryz.prog 110 #[.int .i64 n] w (Ret w fun _ v => v = .bool (primeB n)) := by
  refine Calls.mono (l01Prime_ok n w) ?_
  rintro e w' ⟨rfl, rfl⟩
  exact ⟨_, rfl, Ext.refl _, rfl⟩

set_option maxRecDepth 100000 in
set_option maxHeartbeats 1000000 in
theorem hallCode_ok (P : Pr) (pr : List Int) (w : World) (p v : Value) (Sp S : Nat → Prop) (hp : PresP Sp w p P) (hv : Ints S w v pr) :
    Calls Tryz.prog 76 #[p, v] w (Ret w fun _ r => r = .int .i64 (hcC P pr)) := by
  obtain ⟨pb, po, rfl⟩ := hp.shape
  obtain ⟨vo6, vp6, vc6, _, _, hc0, hc1, hc2, h36⟩ := hp.at
  have hcon := isConsistent_ok P w (.agg #[vo6, vp6, vc6]) Sp ⟨_, _, _, rfl, h36⟩
  rw [icons_eq] at hcon
  obtain ⟨a, c, rfl, _, _⟩ := hv.shape
  have HV := Lib.hid hv; clear hv
  go_enter Tryz.func76, Tryz.ntmps76
  go_wp2_with fail
  clear hc0 hc1 hc2
  refine Calls.mono hcon ?_
  rintro e1 w1 ⟨v1, rfl, hg1, rfl⟩
  cases hq : rconsB P with
  | false =>
    have e : hcC P pr = 1 := by unfold hcC; rw [if_neg (by rw [hq]; decide)]
    have HE := Lib.hid e; clear e hq hcon
    go_wp2
    go_ret
    exact ⟨_, rfl, hg1, by rw [HE.out]; rfl⟩
  | true =>
    have G := grp_of_r hq
    have hip := isPrimeSet_ok pr w1 _ S (Ints.ext HV.out hg1)
    have HQ := Lib.hid hq; clear hq hcon
    go_wp2_with fail
    refine Calls.mono hip ?_
    rintro e2 w2 ⟨v2, rfl, hg2, r, rfl, hr⟩
    clear hip
    have hg02 := grown_trans hg1 hg2
    cases r with
    | false =>
      have e : hcC P pr = 2 := by unfold hcC; rw [if_pos HQ.out, if_neg (fun h => by have := hr.2 h; cases this)]
      have HE := Lib.hid e; clear e hr
      go_wp2
      go_ret
      exact ⟨_, rfl, hg02, by rw [HE.out]; rfl⟩
    | true =>
      have e : hcC P pr = if 128 < ordP P then 3 else 0 := by unfold hcC; rw [if_pos HQ.out, if_pos (hr.1 rfl)]
      have HE := Lib.hid e; clear e hr
      go_wp2_with fail
      refine Calls.mono (orderOf_ok w2 _ P Sp G.v (hp.ext hg02)) ?_
      rintro e3 w3 ⟨rfl, rfl⟩
      by_cases hbig : 128 < ordP P
      · have e := HE.out
        rw [if_pos hbig] at e
        have HE2 := Lib.hid e; clear e
        go_wp2
        go_ret
        exact ⟨_, rfl, hg02, by rw [HE2.out]; rfl⟩
      · have e := HE.out
        rw [if_neg hbig] at e
        have HE2 := Lib.hid e; clear e
        go_wp2
        go_ret
        exact ⟨_, rfl, hg02, by rw [HE2.out]; rfl⟩

set_option maxRecDepth 100000 in
set_option maxHeartbeats 4000000 in
set_option linter.unusedSimpArgs false in
theorem l20Primes_ok (pr : List Int) (w : World) (v : Value) (S : Nat → Prop) (hv : Ints S w v pr) :
    Calls Tryz.prog 126 #[v] w (Ret w fun _ r => ∃ b : Bool, r = .bool b ∧ (b = true ↔ PrSet pr)) := by
  obtain ⟨a, c, rfl, _, _⟩ := hv.shape
  have HV := Lib.hid hv; clear hv
  go_enter Tryz.func126, Tryz.ntmps126
  go_wp2
  go_loopw [3] (fun iv wr => ∃ i : Nat, iv = .int .i64 i ∧ i ≤ pr.length ∧ Ext w wr ∧ Hid (∀ j, j < i → primeB (gt pr j) = true ∧ (0 < j → gt pr (j - 1) < gt pr j))) (fun iv _ => pr.length - (intOf iv).toNat)
  case atStart => exact ⟨0, by go_num, by omega, Ext.refl _, Lib.hid (fun j hj => by omega)⟩
  case round =>
    obtain ⟨i, rfl, hi, hg, hN⟩ := hrel
    by_cases hlt : i < pr.length
    · have hlt' : (i : Int) < pr.length := by omega
      obtain ⟨b, o, hab, _, _, hc⟩ := Ints.at HV.out i hlt
      subst hab
      have hcr : ∀ w', Ext wr w' → w'.cell? ⟨b, o + i, none⟩ = some (.int .i64 (gt pr i)) := fun w' h => (grown_trans hg h).cell hc (by simp)
      have hno : (primeB (gt pr i) = true ∧ (0 < i → gt pr (i - 1) < gt pr i) → False) → ¬ PrSet pr := fun h hh => h (hh i hlt)
      have hgo : primeB (gt pr i) = true → (0 < i → gt pr (i - 1) < gt pr i) → Hid (∀ j, j < i + 1 → primeB (gt pr j) = true ∧ (0 < j → gt pr (j - 1) < gt pr j)) := fun h1 h2 => Lib.hid (fun j hj => by
        rcases Nat.lt_succ_iff_lt_or_eq.1 hj with h | h
        · exact hN.out j h
        · subst h; exact ⟨h1, h2⟩)
      have hprev : 0 < i → ∀ w', Ext wr w' → w'.cell? ⟨b, o + (i - 1), none⟩ = some (.int .i64 (gt pr (i - 1))) := fun h0 w' h => by
        obtain ⟨b2, o2, hab2, _, _, hc2⟩ := Ints.at HV.out (i - 1) (by omega)
        cases hab2
        exact (grown_trans hg h).cell hc2 (by simp)
      obtain ⟨q, hq⟩ : ∃ q, q = gt pr i := ⟨_, rfl⟩
      obtain ⟨q', hq'⟩ : ∃ q', q' = gt pr (i - 1) := ⟨_, rfl⟩
      rw [← hq] at hcr hno hgo
      rw [← hq'] at hprev hno hgo
      have HH := Lib.hid (And.intro hno (And.intro hgo hprev)); clear hno hgo hprev hc hq hq' hN
      by_cases hpq : primeB q = false
      · have hn := HH.out.1 (fun h => by have := h.1; rw [hpq] at this; cases this)
        have HN := Lib.hid hn; clear hn
        go_wp2
        refine wp_region_held_drew (S := (fun w' => Ext wr w')) (by kernel_rfl) (by first | exact grown_drew _ _ | assumption) (fun hHeld => ?_)
        refine wpAnyH_take (i := 0) (v := ?va0) rfl (by kernel_rfl) (by kernel_rfl) (by kernel_rfl) (fun _ _ _ h => h) (Or.inl ⟨by rfl, ?hya0⟩) (by assumption) ?resta0
        case hya0 => (intro w hSw; (try dsimp only at hSw); go_simp; try with_reducible rfl)
        try simp only [Act.put, List.getElem_toArray, List.getElem_cons_succ, List.getElem_cons_zero, List.setIfInBounds_toArray, List.set_cons_zero, List.set_cons_succ]
        refine wpAnyH_take (i := 1) (v := ?va1) rfl (by kernel_rfl) (by kernel_rfl) (by kernel_rfl) (fun _ _ _ h => h) (Or.inl ⟨by rfl, ?hya1⟩) (by assumption) ?resta1
        case hya1 => (intro w hSw; (try dsimp only at hSw); go_simp; try with_reducible rfl)
        try simp only [Act.put, List.getElem_toArray, List.getElem_cons_succ, List.getElem_cons_zero, List.setIfInBounds_toArray, List.set_cons_zero, List.set_cons_succ]
        refine wpAnyH_take (i := 2) (v := ?va2) rfl (by kernel_rfl) (by kernel_rfl) (by kernel_rfl) (fun _ _ _ h => h) (Or.inl ⟨by rfl, ?hya2⟩) (by assumption) ?resta2
        case hya2 => (intro w hSw; (try dsimp only at hSw); go_simp; try with_reducible rfl)
        try simp only [Act.put, List.getElem_toArray, List.getElem_cons_succ, List.getElem_cons_zero, List.setIfInBounds_toArray, List.set_cons_zero, List.set_cons_succ]
        refine wpAnyH_take (i := 3) (v := ?va3) rfl (by kernel_rfl) (by kernel_rfl) (by kernel_rfl) (fun _ _ _ h => h) (Or.inl ⟨by rfl, ?hya3⟩) (by assumption) ?resta3
        case hya3 => (intro w hSw; (try dsimp only at hSw); go_simp; try with_reducible rfl)
        try simp only [Act.put, List.getElem_toArray, List.getElem_cons_succ, List.getElem_cons_zero, List.setIfInBounds_toArray, List.set_cons_zero, List.set_cons_succ]
        refine wpAnyH_ready (rs := [4]) (by kernel_rfl) (by simp) ?_
        refine AllReadyH.cons rfl (fun Kc hKc => ?_) AllReadyH.nil
        go_simp
        go_at_call 110
        refine Calls.mono (Calls.rel (w0 := wr) (by first | assumption | exact grown_drew _ _) (l01PrimeR_ok q _)) ?_
        rintro eP wP ⟨vP, rfl, hgP, hsP, rfl⟩
        go_wp2_with fail
        refine hKc.out _ _ ?_ (fun hHeld => ?_)
        · first | exact grown_drew _ _ | assumption
        clear hKc Kc
        try simp only [Act.put, List.getElem_toArray, List.getElem_cons_succ, List.getElem_cons_zero, List.setIfInBounds_toArray, List.set_cons_zero, List.set_cons_succ]
        refine wpAnyH_take (i := 5) (v := ?va5) rfl (by kernel_rfl) (by kernel_rfl) (by kernel_rfl) (fun _ _ _ h => h) (Or.inl ⟨by rfl, ?hya5⟩) (by assumption) ?resta5
        case hya5 => (intro w hSw; (try dsimp only at hSw); go_simp; try with_reducible rfl)
        try simp only [Act.put, List.getElem_toArray, List.getElem_cons_succ, List.getElem_cons_zero, List.setIfInBounds_toArray, List.set_cons_zero, List.set_cons_succ]
        refine wpAnyH_take (i := 6) (v := ?va6) rfl (by kernel_rfl) (by kernel_rfl) (by kernel_rfl) (fun _ _ _ h => h) (Or.inl ⟨by rfl, ?hya6⟩) (by assumption) ?resta6
        case hya6 => (intro w hSw; (try dsimp only at hSw); go_simp; try with_reducible rfl)
        try simp only [Act.put, List.getElem_toArray, List.getElem_cons_succ, List.getElem_cons_zero, List.setIfInBounds_toArray, List.set_cons_zero, List.set_cons_succ]
        refine wpAnyH_take (i := 7) (v := undef) rfl (by kernel_rfl) (by kernel_rfl) (by kernel_rfl) (fun _ _ _ h => h) (Or.inr ⟨by rfl, rfl⟩) (by assumption) ?_
        try simp only [Act.put, List.getElem_toArray, List.getElem_cons_succ, List.getElem_cons_zero, List.setIfInBounds_toArray, List.set_cons_zero, List.set_cons_succ]
        refine wpAnyH_take (i := 8) (v := undef) rfl (by kernel_rfl) (by kernel_rfl) (by kernel_rfl) (fun _ _ _ h => h) (Or.inr ⟨by rfl, rfl⟩) (by assumption) ?_
        try simp only [Act.put, List.getElem_toArray, List.getElem_cons_succ, List.getElem_cons_zero, List.setIfInBounds_toArray, List.set_cons_zero, List.set_cons_succ]
        refine wpAnyH_take (i := 9) (v := undef) rfl (by kernel_rfl) (by kernel_rfl) (by kernel_rfl) (fun _ _ _ h => h) (Or.inr ⟨by rfl, rfl⟩) (by assumption) ?_
        try simp only [Act.put, List.getElem_toArray, List.getElem_cons_succ, List.getElem_cons_zero, List.setIfInBounds_toArray, List.set_cons_zero, List.set_cons_succ]
        refine wpAnyH_take (i := 10) (v := undef) rfl (by kernel_rfl) (by kernel_rfl) (by kernel_rfl) (fun _ _ _ h => h) (Or.inr ⟨by rfl, rfl⟩) (by assumption) ?_
        try simp only [Act.put, List.getElem_toArray, List.getElem_cons_succ, List.getElem_cons_zero, List.setIfInBounds_toArray, List.set_cons_zero, List.set_cons_succ]
        refine wpAnyH_take (i := 11) (v := undef) rfl (by kernel_rfl) (by kernel_rfl) (by kernel_rfl) (fun _ _ _ h => h) (Or.inr ⟨by rfl, rfl⟩) (by assumption) ?_
        try simp only [Act.put, List.getElem_toArray, List.getElem_cons_succ, List.getElem_cons_zero, List.setIfInBounds_toArray, List.set_cons_zero, List.set_cons_succ]
        refine wpAnyH_take (i := 12) (v := undef) rfl (by kernel_rfl) (by kernel_rfl) (by kernel_rfl) (fun _ _ _ h => h) (Or.inr ⟨by rfl, rfl⟩) (by assumption) ?_
        try simp only [Act.put, List.getElem_toArray, List.getElem_cons_succ, List.getElem_cons_zero, List.setIfInBounds_toArray, List.set_cons_zero, List.set_cons_succ]
        refine wpAnyH_take (i := 13) (v := undef) rfl (by kernel_rfl) (by kernel_rfl) (by kernel_rfl) (fun _ _ _ h => h) (Or.inr ⟨by rfl, rfl⟩) (by assumption) ?_
        try simp only [Act.put, List.getElem_toArray, List.getElem_cons_succ, List.getElem_cons_zero, List.setIfInBounds_toArray, List.set_cons_zero, List.set_cons_succ]
        refine wpAnyH_take (i := 14) (v := undef) rfl (by kernel_rfl) (by kernel_rfl) (by kernel_rfl) (fun _ _ _ h => h) (Or.inr ⟨by rfl, rfl⟩) (by assumption) ?_
        try simp only [Act.put, List.getElem_toArray, List.getElem_cons_succ, List.getElem_cons_zero, List.setIfInBounds_toArray, List.set_cons_zero, List.set_cons_succ]
        refine wpAnyH_take (i := 15) (v := undef) rfl (by kernel_rfl) (by kernel_rfl) (by kernel_rfl) (fun _ _ _ h => h) (Or.inr ⟨by rfl, rfl⟩) (by assumption) ?_
        try simp only [Act.put, List.getElem_toArray, List.getElem_cons_succ, List.getElem_cons_zero, List.setIfInBounds_toArray, List.set_cons_zero, List.set_cons_succ]
        refine wpAnyH_take (i := 16) (v := undef) rfl (by kernel_rfl) (by kernel_rfl) (by kernel_rfl) (fun _ _ _ h => h) (Or.inr ⟨by rfl, rfl⟩) (by assumption) ?_
        try simp only [Act.put, List.getElem_toArray, List.getElem_cons_succ, List.getElem_cons_zero, List.setIfInBounds_toArray, List.set_cons_zero, List.set_cons_succ]
        refine wpAnyH_take (i := 17) (v := undef) rfl (by kernel_rfl) (by kernel_rfl) (by kernel_rfl) (fun _ _ _ h => h) (Or.inr ⟨by rfl, rfl⟩) (by assumption) ?_
        try simp only [Act.put, List.getElem_toArray, List.getElem_cons_succ, List.getElem_cons_zero, List.setIfInBounds_toArray, List.set_cons_zero, List.set_cons_succ]
        refine wpAnyH_take (i := 18) (v := undef) rfl (by kernel_rfl) (by kernel_rfl) (by kernel_rfl) (fun _ _ _ h => h) (Or.inr ⟨by rfl, rfl⟩) (by assumption) ?_
        try simp only [Act.put, List.getElem_toArray, List.getElem_cons_succ, List.getElem_cons_zero, List.setIfInBounds_toArray, List.set_cons_zero, List.set_cons_succ]
        refine wpAnyH_take (i := 19) (v := undef) rfl (by kernel_rfl) (by kernel_rfl) (by kernel_rfl) (fun _ _ _ h => h) (Or.inr ⟨by rfl, rfl⟩) (by assumption) ?_
        try simp only [Act.put, List.getElem_toArray, List.getElem_cons_succ, List.getElem_cons_zero, List.setIfInBounds_toArray, List.set_cons_zero, List.set_cons_succ]
        refine wpAnyH_take (i := 20) (v := undef) rfl (by kernel_rfl) (by kernel_rfl) (by kernel_rfl) (fun _ _ _ h => h) (Or.inr ⟨by rfl, rfl⟩) (by assumption) ?_
        try simp only [Act.put, List.getElem_toArray, List.getElem_cons_succ, List.getElem_cons_zero, List.setIfInBounds_toArray, List.set_cons_zero, List.set_cons_succ]
        refine wpAnyH_take (i := 21) (v := ?va21) rfl (by kernel_rfl) (by kernel_rfl) (by kernel_rfl) (fun _ _ _ h => h) (Or.inl ⟨by rfl, ?hya21⟩) (by assumption) ?resta21
        case hya21 => (intro w hSw; (try dsimp only at hSw); go_simp; try with_reducible rfl)
        try simp only [Act.put, List.getElem_toArray, List.getElem_cons_succ, List.getElem_cons_zero, List.setIfInBounds_toArray, List.set_cons_zero, List.set_cons_succ]
        refine wpAnyH_done (by kernel_rfl) ?_ _
        clear hcr
        go_wp2
        go_ret
        exact ⟨_, rfl, grown_trans hg hgP, false, rfl, by simpa using HN.out⟩
      · have hpq : primeB q = true := by simpa using hpq
        rcases Nat.eq_zero_or_pos i with h0 | h0
        · subst h0
          have hn := HH.out.2.1 hpq (fun h => by omega)
          have hcr : ∀ w', Ext wr w' → w'.cell? ⟨b, o, none⟩ = some (.int .i64 q) := hcr
          go_wp2
          refine wp_region_held_drew (S := (fun w' => Ext wr w')) (by kernel_rfl) (by first | exact grown_drew _ _ | assumption) (fun hHeld => ?_)
          refine wpAnyH_take (i := 0) (v := ?vb0) rfl (by kernel_rfl) (by kernel_rfl) (by kernel_rfl) (fun _ _ _ h => h) (Or.inl ⟨by rfl, ?hyb0⟩) (by assumption) ?restb0
          case hyb0 => (intro w hSw; (try dsimp only at hSw); go_simp; try with_reducible rfl)
          try simp only [Act.put, List.getElem_toArray, List.getElem_cons_succ, List.getElem_cons_zero, List.setIfInBounds_toArray, List.set_cons_zero, List.set_cons_succ]
          refine wpAnyH_take (i := 1) (v := ?vb1) rfl (by kernel_rfl) (by kernel_rfl) (by kernel_rfl) (fun _ _ _ h => h) (Or.inl ⟨by rfl, ?hyb1⟩) (by assumption) ?restb1
          case hyb1 => (intro w hSw; (try dsimp only at hSw); go_simp; try with_reducible rfl)
          try simp only [Act.put, List.getElem_toArray, List.getElem_cons_succ, List.getElem_cons_zero, List.setIfInBounds_toArray, List.set_cons_zero, List.set_cons_succ]
          refine wpAnyH_take (i := 2) (v := ?vb2) rfl (by kernel_rfl) (by kernel_rfl) (by kernel_rfl) (fun _ _ _ h => h) (Or.inl ⟨by rfl, ?hyb2⟩) (by assumption) ?restb2
          case hyb2 => (intro w hSw; (try dsimp only at hSw); go_simp; try with_reducible rfl)
          try simp only [Act.put, List.getElem_toArray, List.getElem_cons_succ, List.getElem_cons_zero, List.setIfInBounds_toArray, List.set_cons_zero, List.set_cons_succ]
          refine wpAnyH_take (i := 3) (v := ?vb3) rfl (by kernel_rfl) (by kernel_rfl) (by kernel_rfl) (fun _ _ _ h => h) (Or.inl ⟨by rfl, ?hyb3⟩) (by assumption) ?restb3
          case hyb3 => (intro w hSw; (try dsimp only at hSw); go_simp; try with_reducible rfl)
          try simp only [Act.put, List.getElem_toArray, List.getElem_cons_succ, List.getElem_cons_zero, List.setIfInBounds_toArray, List.set_cons_zero, List.set_cons_succ]
          refine wpAnyH_ready (rs := [4]) (by kernel_rfl) (by simp) ?_
          refine AllReadyH.cons rfl (fun Kc hKc => ?_) AllReadyH.nil
          go_simp
          go_at_call 110
          refine Calls.mono (Calls.rel (w0 := wr) (by first | assumption | exact grown_drew _ _) (l01PrimeR_ok q _)) ?_
          rintro eP wP ⟨vP, rfl, hgP, hsP, rfl⟩
          go_wp2_with fail
          refine hKc.out _ _ ?_ (fun hHeld => ?_)
          · first | exact grown_drew _ _ | assumption
          clear hKc Kc
          try simp only [Act.put, List.getElem_toArray, List.getElem_cons_succ, List.getElem_cons_zero, List.setIfInBounds_toArray, List.set_cons_zero, List.set_cons_succ]
          refine wpAnyH_take (i := 5) (v := ?vb5) rfl (by kernel_rfl) (by kernel_rfl) (by kernel_rfl) (fun _ _ _ h => h) (Or.inl ⟨by rfl, ?hyb5⟩) (by assumption) ?restb5
          case hyb5 => (intro w hSw; (try dsimp only at hSw); go_simp; try with_reducible rfl)
          try simp only [Act.put, List.getElem_toArray, List.getElem_cons_succ, List.getElem_cons_zero, List.setIfInBounds_toArray, List.set_cons_zero, List.set_cons_succ]
          refine wpAnyH_take (i := 6) (v := ?vb6) rfl (by kernel_rfl) (by kernel_rfl) (by kernel_rfl) (fun _ _ _ h => h) (Or.inl ⟨by rfl, ?hyb6⟩) (by assumption) ?restb6
          case hyb6 => (intro w hSw; (try dsimp only at hSw); go_simp; try with_reducible rfl)
          try simp only [Act.put, List.getElem_toArray, List.getElem_cons_succ, List.getElem_cons_zero, List.setIfInBounds_toArray, List.set_cons_zero, List.set_cons_succ]
          refine wpAnyH_take (i := 7) (v := ?vb7) rfl (by kernel_rfl) (by kernel_rfl) (by kernel_rfl) (fun _ _ _ h => h) (Or.inl ⟨by rfl, ?hyb7⟩) (by assumption) ?restb7
          case hyb7 => (intro w hSw; (try dsimp only at hSw); go_simp; try with_reducible rfl)
          try simp only [Act.put, List.getElem_toArray, List.getElem_cons_succ, List.getElem_cons_zero, List.setIfInBounds_toArray, List.set_cons_zero, List.set_cons_succ]
          refine wpAnyH_take (i := 8) (v := ?vb8) rfl (by kernel_rfl) (by kernel_rfl) (by kernel_rfl) (fun _ _ _ h => h) (Or.inl ⟨by rfl, ?hyb8⟩) (by assumption) ?restb8
          case hyb8 => (intro w hSw; (try dsimp only at hSw); go_simp; try with_reducible rfl)
          try simp only [Act.put, List.getElem_toArray, List.getElem_cons_succ, List.getElem_cons_zero, List.setIfInBounds_toArray, List.set_cons_zero, List.set_cons_succ]
          refine wpAnyH_take (i := 9) (v := ?vb9) rfl (by kernel_rfl) (by kernel_rfl) (by kernel_rfl) (fun _ _ _ h => h) (Or.inl ⟨by rfl, ?hyb9⟩) (by assumption) ?restb9
          case hyb9 => (intro w hSw; (try dsimp only at hSw); go_simp; try with_reducible rfl)
          try simp only [Act.put, List.getElem_toArray, List.getElem_cons_succ, List.getElem_cons_zero, List.setIfInBounds_toArray, List.set_cons_zero, List.set_cons_succ]
          refine wpAnyH_take (i := 10) (v := undef) rfl (by kernel_rfl) (by kernel_rfl) (by kernel_rfl) (fun _ _ _ h => h) (Or.inr ⟨by rfl, rfl⟩) (by assumption) ?_
          try simp only [Act.put, List.getElem_toArray, List.getElem_cons_succ, List.getElem_cons_zero, List.setIfInBounds_toArray, List.set_cons_zero, List.set_cons_succ]
          refine wpAnyH_take (i := 11) (v := undef) rfl (by kernel_rfl) (by kernel_rfl) (by kernel_rfl) (fun _ _ _ h => h) (Or.inr ⟨by rfl, rfl⟩) (by assumption) ?_
          try simp only [Act.put, List.getElem_toArray, List.getElem_cons_succ, List.getElem_cons_zero, List.setIfInBounds_toArray, List.set_cons_zero, List.set_cons_succ]
          refine wpAnyH_take (i := 12) (v := undef) rfl (by kernel_rfl) (by kernel_rfl) (by kernel_rfl) (fun _ _ _ h => h) (Or.inr ⟨by rfl, rfl⟩) (by assumption) ?_
          try simp only [Act.put, List.getElem_toArray, List.getElem_cons_succ, List.getElem_cons_zero, List.setIfInBounds_toArray, List.set_cons_zero, List.set_cons_succ]
          refine wpAnyH_take (i := 13) (v := undef) rfl (by kernel_rfl) (by kernel_rfl) (by kernel_rfl) (fun _ _ _ h => h) (Or.inr ⟨by rfl, rfl⟩) (by assumption) ?_
          try simp only [Act.put, List.getElem_toArray, List.getElem_cons_succ, List.getElem_cons_zero, List.setIfInBounds_toArray, List.set_cons_zero, List.set_cons_succ]
          refine wpAnyH_take (i := 14) (v := undef) rfl (by kernel_rfl) (by kernel_rfl) (by kernel_rfl) (fun _ _ _ h => h) (Or.inr ⟨by rfl, rfl⟩) (by assumption) ?_
          try simp only [Act.put, List.getElem_toArray, List.getElem_cons_succ, List.getElem_cons_zero, List.setIfInBounds_toArray, List.set_cons_zero, List.set_cons_succ]
          refine wpAnyH_take (i := 15) (v := undef) rfl (by kernel_rfl) (by kernel_rfl) (by kernel_rfl) (fun _ _ _ h => h) (Or.inr ⟨by rfl, rfl⟩) (by assumption) ?_
          try simp only [Act.put, List.getElem_toArray, List.getElem_cons_succ, List.getElem_cons_zero, List.setIfInBounds_toArray, List.set_cons_zero, List.set_cons_succ]
          refine wpAnyH_take (i := 16) (v := undef) rfl (by kernel_rfl) (by kernel_rfl) (by kernel_rfl) (fun _ _ _ h => h) (Or.inr ⟨by rfl, rfl⟩) (by assumption) ?_
          try simp only [Act.put, List.getElem_toArray, List.getElem_cons_succ, List.getElem_cons_zero, List.setIfInBounds_toArray, List.set_cons_zero, List.set_cons_succ]
          refine wpAnyH_take (i := 17) (v := undef) rfl (by kernel_rfl) (by kernel_rfl) (by kernel_rfl) (fun _ _ _ h => h) (Or.inr ⟨by rfl, rfl⟩) (by assumption) ?_
          try simp only [Act.put, List.getElem_toArray, List.getElem_cons_succ, List.getElem_cons_zero, List.setIfInBounds_toArray, List.set_cons_zero, List.set_cons_succ]
          refine wpAnyH_take (i := 18) (v := undef) rfl (by kernel_rfl) (by kernel_rfl) (by kernel_rfl) (fun _ _ _ h => h) (Or.inr ⟨by rfl, rfl⟩) (by assumption) ?_
          try simp only [Act.put, List.getElem_toArray, List.getElem_cons_succ, List.getElem_cons_zero, List.setIfInBounds_toArray, List.set_cons_zero, List.set_cons_succ]
          refine wpAnyH_take (i := 19) (v := undef) rfl (by kernel_rfl) (by kernel_rfl) (by kernel_rfl) (fun _ _ _ h => h) (Or.inr ⟨by rfl, rfl⟩) (by assumption) ?_
          try simp only [Act.put, List.getElem_toArray, List.getElem_cons_succ, List.getElem_cons_zero, List.setIfInBounds_toArray, List.set_cons_zero, List.set_cons_succ]
          refine wpAnyH_take (i := 20) (v := ?vb20) rfl (by kernel_rfl) (by kernel_rfl) (by kernel_rfl) (fun _ _ _ h => h) (Or.inl ⟨by rfl, ?hyb20⟩) (by assumption) ?restb20
          case hyb20 => (intro w hSw; (try dsimp only at hSw); go_simp; try with_reducible rfl)
          try simp only [Act.put, List.getElem_toArray, List.getElem_cons_succ, List.getElem_cons_zero, List.setIfInBounds_toArray, List.set_cons_zero, List.set_cons_succ]
          refine wpAnyH_take (i := 21) (v := ?vb21) rfl (by kernel_rfl) (by kernel_rfl) (by kernel_rfl) (fun _ _ _ h => h) (Or.inl ⟨by rfl, ?hyb21⟩) (by assumption) ?restb21
          case hyb21 => (intro w hSw; (try dsimp only at hSw); go_simp; try with_reducible rfl)
          try simp only [Act.put, List.getElem_toArray, List.getElem_cons_succ, List.getElem_cons_zero, List.setIfInBounds_toArray, List.set_cons_zero, List.set_cons_succ]
          refine wpAnyH_done (by kernel_rfl) ?_ _
          clear hcr
          go_wp2
          go_roundw
          case rel => exact ⟨1, by go_num, by omega, grown_trans hg hgP, hn⟩
          case measure => simp [intOf]; omega
        · have hprev := HH.out.2.2 h0
          obtain ⟨k, hik⟩ : ∃ k, i = k + 1 := ⟨i - 1, by omega⟩
          have hprev : ∀ w', Ext wr w' → w'.cell? ⟨b, o + k, none⟩ = some (.int .i64 q') := fun w' h => by
            have := hprev w' h
            rw [hik, Nat.add_sub_cancel] at this; exact this
          have hk1 : (i : Int) > 0 := by omega
          have hi0 : (0 : Int) ≤ (i : Int) := by omega
          have hkk : IntKind.i64.wrap ((i : Int) - 1) = (k : Int) := by rw [IntWalk.i64_in _ (by omega)]; omega
          have hk0 : (0 : Int) ≤ (k : Int) := by omega
          have hki : (k : Int) < pr.length := by omega
          have HI := Lib.hid hik; clear hik
          by_cases hq : q' < q
          · have hn := HH.out.2.1 hpq (fun _ => hq)
            have hge : ¬ q ≤ q' := by omega
            go_wp2
            go_region_held3 (fun w' => Ext wr w') (first | exact grown_drew _ _ | exact Ext.refl _ | assumption)
              (first
                | (go_at_call 110; refine Calls.mono (Calls.rel (w0 := wr) (by assumption) (l01PrimeR_ok q _)) ?_; rintro eP wP ⟨vP, rfl, hgP, hsP, rfl⟩))
            clear hcr hprev
            go_wp2
            go_roundw
            case rel => exact ⟨i + 1, by go_num, by omega, grown_trans hg hgP, hn⟩
            case measure => simp [intOf]; omega
          · have hn := HH.out.1 (fun h => hq (h.2 (by omega)))
            have hge : q ≤ q' := by omega
            have HN := Lib.hid hn; clear hn
            go_wp2
            go_region_held3 (fun w' => Ext wr w') (first | exact grown_drew _ _ | exact Ext.refl _ | assumption)
              (first
                | (go_at_call 110; refine Calls.mono (Calls.rel (w0 := wr) (by assumption) (l01PrimeR_ok q _)) ?_; rintro eP wP ⟨vP, rfl, hgP, hsP, rfl⟩))
            clear hcr hprev
            go_wp2
            go_ret
            exact ⟨_, rfl, grown_trans hg hgP, false, rfl, by simpa using HN.out⟩
    · have hyes : PrSet pr := fun j hj => hN.out j (by omega)
      have hnl : ¬ (i : Int) < pr.length := by omega
      have HY := Lib.hid hyes; clear hyes hN
      go_wp2
      go_ret
      first | exact ⟨_, rfl, hg, true, rfl, by simpa using HY.out⟩ | exact ⟨_, rfl, hg, .inr ⟨rfl, HY.out⟩⟩

set_option maxRecDepth 100000 in
set_option maxHeartbeats 1000000 in
theorem l20Code_ok (P : Pr) (pr : List Int) (w : World) (pv v : Value) (Sp S : Nat → Prop) (hpv : PresV Sp w pv P) (hv : Ints S w v pr) :
    Calls Tryz.prog 74 #[pv, v] w (Ret w fun _ r => r = .int .i64 (hcC P pr)) := by
  obtain ⟨vo, vp, vc, rfl, h3⟩ := hpv
  have hp0 := PresP.box h3 31
  have hg0 : Ext w (w.alloc (.cells #[vo, vp, vc] 31)) := World.grownBy_alloc _ _ _
  obtain ⟨vo6, vp6, vc6, _, _, hc0, hc1, hc2, h36⟩ := hp0.at
  simp only [Nat.zero_add] at hc1 hc2
  have hbx : ∀ w', Ext (w.alloc (.cells #[vo, vp, vc] 31)) w' → w'.cell? ⟨w.heap.size, 0, none⟩ = some vo6 ∧ w'.cell? ⟨w.heap.size, 1, none⟩ = some vp6 ∧ w'.cell? ⟨w.heap.size, 2, none⟩ = some vc6 := fun w' h => ⟨h.cell hc0 (by simp), h.cell hc1 (by simp), h.cell hc2 (by simp)⟩
  have HB := Lib.hid hbx; clear hbx hp0
  have hgr := l08Group_ok P _ (.agg #[vo6, vp6, vc6]) Any ⟨_, _, _, rfl, h36⟩
  obtain ⟨a, c, rfl, _, _⟩ := hv.shape
  have HV := Lib.hid (Ints.ext hv hg0); clear hv
  go_enter Tryz.func74, Tryz.ntmps74
  go_wp2_with fail
  clear hc0 hc1 hc2
  generalize hw0 : w.alloc (.cells #[vo, vp, vc] 31) = w0 at *
  clear hw0
  refine Calls.mono hgr ?_
  rintro e1 w1 ⟨v1, rfl, hg1, rfl⟩
  cases hq : rconsB P with
  | false =>
    have e : hcC P pr = 1 := by unfold hcC; rw [if_neg (by rw [hq]; decide)]
    have HE := Lib.hid e; clear e hq hgr
    go_wp2
    go_ret
    exact ⟨_, rfl, grown_trans hg0 hg1, by rw [HE.out]; rfl⟩
  | true =>
    have G := grp_of_r hq
    have hip := l20Primes_ok pr w1 _ S (Ints.ext HV.out hg1)
    have HQ := Lib.hid hq; clear hq hgr
    go_wp2_with fail
    refine Calls.mono hip ?_
    rintro e2 w2 ⟨v2, rfl, hg2, r, rfl, hr⟩
    clear hip
    have hg02 := grown_trans hg1 hg2
    cases r with
    | false =>
      have e : hcC P pr = 2 := by unfold hcC; rw [if_pos HQ.out, if_neg (fun h => by have := hr.2 h; cases this)]
      have HE := Lib.hid e; clear e hr
      go_wp2
      go_ret
      exact ⟨_, rfl, grown_trans hg0 hg02, by rw [HE.out]; rfl⟩
    | true =>
      have e : hcC P pr = if 128 < ordP P then 3 else 0 := by unfold hcC; rw [if_pos HQ.out, if_pos (hr.1 rfl)]
      have HE := Lib.hid e; clear e hr
      obtain ⟨hc0, hc1, hc2⟩ := HB.out w2 hg02
      go_wp2_with fail
      clear hc0 hc1 hc2
      refine Calls.mono (l10Order_ok w2 _ P Any G.v ⟨_, _, _, rfl, Pres3.ext h36 hg02⟩) ?_
      rintro e3 w3 ⟨v3, rfl, hg3, rfl⟩
      have hg03 := grown_trans hg02 hg3
      by_cases hbig : 128 < ordP P
      · have e := HE.out
        rw [if_pos hbig] at e
        have HE2 := Lib.hid e; clear e
        go_wp2
        go_ret
        exact ⟨_, rfl, grown_trans hg0 hg03, by rw [HE2.out]; rfl⟩
      · have e := HE.out
        rw [if_neg hbig] at e
        have HE2 := Lib.hid e; clear e
        go_wp2
        go_ret
        exact ⟨_, rfl, grown_trans hg0 hg03, by rw [HE2.out]; rfl⟩

end Go.Proofs.YtdklekdpdbjfiaaGreat

/- spec.l01Part, l20Part: the part of an order for a set of primes. -/
namespace Go.Proofs.YtdklekdpdbjfiaaGreat
open Go.RowKit

/-- the greatest power of p that divides n, with fuel -/
def prtN (p : Nat) : Nat → Nat → Nat
  | 0, _ => 1
  | f + 1, n => if n % p = 0 then p * prtN p f (n / p) else 1
theorem prtN_fuel {p : Nat} (hp : 2 ≤ p) : ∀ f g n, 1 ≤ n → n ≤ f → n ≤ g → prtN p f n = prtN p g n
  | 0, g, n, h1, h2, _ => by omega
  | f + 1, 0, n, h1, _, h3 => by omega
  | f + 1, g + 1, n, h1, h2, h3 => by
    unfold prtN
    by_cases h : n % p = 0
    · rw [if_pos h, if_pos h]
      have hd : n / p < n := Nat.div_lt_self h1 hp
      have hpos : 1 ≤ n / p := by
        rcases Nat.eq_zero_or_pos (n / p) with h4 | h4
        · have := Nat.div_add_mod n p
          rw [h4, h] at this
          omega
        · exact h4
      rw [prtN_fuel hp f g (n / p) hpos (by omega) (by omega)]
    · rw [if_neg h, if_neg h]
theorem prt_ex (p n : Nat) : ∃ k, k = prtN p n n := ⟨_, rfl⟩
/-- with fuel enough (by choice, so that nothing computes it) -/
noncomputable def prt (p n : Nat) : Nat := Classical.choose (prt_ex p n)
theorem prt_def (p n : Nat) : prt p n = prtN p n n := Classical.choose_spec (prt_ex p n)
theorem prt_mul {p n : Nat} (hp : 2 ≤ p) (hn : 1 ≤ n) : prt p (p * n) = p * prt p n := by
  have h1 : 1 ≤ p * n := Nat.mul_pos (by omega) hn
  have h2 : n < p * n := by
    have : 2 * n ≤ p * n := Nat.mul_le_mul_right n hp
    omega
  rw [prt_def, prt_def]
  obtain ⟨k, hk⟩ : ∃ k, p * n = k + 1 := ⟨p * n - 1, by omega⟩
  rw [hk]
  conv => lhs; unfold prtN
  rw [← hk, Nat.mul_mod_right, if_pos rfl, Nat.mul_div_cancel_left n (by omega)]
  rw [prtN_fuel hp k n n hn (by omega) (Nat.le_refl _)]
theorem prt_other {p : Nat} (hp : 2 ≤ p) {q : Nat} (hq : 1 ≤ q) (hc : ∀ m, p ∣ q * m → p ∣ m) : ∀ n, 1 ≤ n → prt p (q * n) = prt p n := by
  intro n
  induction n using Nat.strongRecOn with
  | ind n ih =>
    intro hn
    by_cases h : p ∣ n
    · obtain ⟨m, rfl⟩ := h
      have hm : 1 ≤ m := by
        rcases Nat.eq_zero_or_pos m with h | h
        · subst h; simp at hn
        · exact h
      have hlt : m < p * m := by
        have : 2 * m ≤ p * m := Nat.mul_le_mul_right m hp
        omega
      rw [Nat.mul_left_comm, prt_mul hp (Nat.mul_pos hq hm), prt_mul hp hm, ih m hlt hm]
    · have h1 : ¬ p ∣ q * n := fun hh => h (hc n hh)
      have e : ∀ k, 1 ≤ k → ¬ p ∣ k → prt p k = 1 := fun k hk hn => by
        rw [prt_def]
        obtain ⟨j, rfl⟩ : ∃ j, k = j + 1 := ⟨k - 1, by omega⟩
        unfold prtN
        rw [if_neg (fun hh => hn (Nat.dvd_of_mod_eq_zero hh))]
      rw [e _ (Nat.mul_pos hq hn) h1, e _ hn h]

theorem prime_cancel {p q : Nat} (hp : p = 2 ∨ p = 3 ∨ p = 5 ∨ p = 7) (hq : q = 2 ∨ q = 3 ∨ q = 5 ∨ q = 7) (hne : p ≠ q) (m : Nat) (h : p ∣ q * m) : p ∣ m :=
  Nat.Coprime.dvd_of_dvd_mul_left (cop7 hp hq hne) h

section
variable {P : Pr}
/-- the part of a product of orders -/
theorem prt_prd (G : Grp P) (Q : Nat → Prop) {p : Nat} (hp : p = 2 ∨ p = 3 ∨ p = 5 ∨ p = 7) : ∀ f d, d + f = P.orders.length → prt p (prd P Q f d) = prd P (fun k => Q k ∧ gt P.orders k = (p : Int)) f d
  | 0, d, _ => by
    show prt p 1 = 1
    rw [prt_def]
    unfold prtN
    rw [if_neg]
    rcases hp with rfl | rfl | rfl | rfl <;> decide
  | f + 1, d, h => by
    have ih := prt_prd G Q hp f (d + 1) (by omega)
    have hpos := prd_pos G Q f (d + 1) (by omega)
    have hp2 : 2 ≤ p := by omega
    obtain ⟨q, h1, h2, h3⟩ := ordN G (show d < P.orders.length by omega)
    unfold prd
    by_cases hQ : Q d
    · rw [if_pos hQ, h2]
      by_cases he : gt P.orders d = (p : Int)
      · have : q = p := by omega
        subst this
        rw [if_pos ⟨hQ, he⟩, prt_mul hp2 hpos, ih]
      · have hne : p ≠ q := fun e => he (by rw [h1, e])
        rw [if_neg (fun hh => he hh.2), Nat.one_mul, prt_other hp2 (by omega) (fun m hm => prime_cancel hp h3 hne m hm) _ hpos, ih]
    · rw [if_neg hQ, if_neg (fun hh => hQ hh.1), Nat.one_mul, Nat.one_mul, ih]
theorem prd_le (G : Grp P) (Q R : Nat → Prop) (h : ∀ k, k < P.orders.length → Q k → R k) : prd P Q P.orders.length 0 ≤ prd P R P.orders.length 0 := by
  have h1 : prd P Q P.orders.length 0 ∣ prd P R P.orders.length 0 := by
    have hm := prd_mul (P := P) (Q := Q) (R := fun k => R k ∧ ¬ Q k) P.orders.length 0 (fun k _ _ hk hh => hh.2 hk)
    have hc : prd P (fun k => Q k ∨ (R k ∧ ¬ Q k)) P.orders.length 0 = prd P R P.orders.length 0 := prd_congr _ _ (fun k _ hk => ⟨fun hh => hh.elim (h k (by omega)) (fun hh => hh.1), fun hh => by
      by_cases e : Q k
      · exact .inl e
      · exact .inr ⟨hh, e⟩⟩)
    rw [← hc, ← hm]
    exact Nat.dvd_mul_right _ _
  exact Nat.le_of_dvd (prd_pos G R _ _ (Nat.zero_add _)) h1
theorem prd_all (G : Grp P) : ((prd P (fun _ => True) P.orders.length 0 : Nat) : Int) = ordP P := by
  have key : ∀ k, k ≤ P.orders.length → ((prF P (fun _ => True) k : Nat) : Int) = prodTo P.orders k := by
    intro k
    induction k with
    | zero => intro _; rfl
    | succ k ih =>
      intro h
      obtain ⟨q, h1, h2, h3⟩ := ordN G (show k < P.orders.length by omega)
      rw [prF_succ, if_pos trivial, Int.natCast_mul, ih (by omega), h2, prodTo, h1]
  exact key _ (Nat.le_refl _)
theorem prd_729 (G : Grp P) (Q : Nat → Prop) : 1 ≤ prd P Q P.orders.length 0 ∧ prd P Q P.orders.length 0 ≤ 729 := by
  have h1 := prd_pos G Q _ _ (Nat.zero_add _)
  have h2 := prd_le G Q (fun _ => True) (fun _ _ _ => trivial)
  have h3 := prd_all G
  have h4 : ordP P ≤ 729 := G.v.le729
  omega
theorem prd_eq_iff (G : Grp P) (Q R : Nat → Prop) (hQ : ∀ d, Q d → d < P.orders.length) : prd P (fun d => Q d ∧ R d) P.orders.length 0 = prd P Q P.orders.length 0 ↔ ∀ d, Q d → R d := by
  have hm := prd_mul (P := P) (Q := fun d => Q d ∧ R d) (R := fun d => Q d ∧ ¬ R d) P.orders.length 0 (fun k _ _ hk hh => hh.2 hk.2)
  have hc : prd P (fun k => (Q k ∧ R k) ∨ (Q k ∧ ¬ R k)) P.orders.length 0 = prd P Q P.orders.length 0 := prd_congr _ _ (fun k _ _ => ⟨fun hh => hh.elim (fun hh => hh.1) (fun hh => hh.1), fun hh => by
    by_cases e : R k
    · exact .inl ⟨hh, e⟩
    · exact .inr ⟨hh, e⟩⟩)
  rw [hc] at hm
  constructor
  · intro h d hd
    refine Classical.byContradiction fun hn => ?_
    rw [h] at hm
    have h2 : prd P (fun d => Q d ∧ ¬ R d) P.orders.length 0 = 1 := Nat.eq_of_mul_eq_mul_left (prd_pos G Q _ _ (Nat.zero_add _)) (by rw [hm, Nat.mul_one])
    exact prd_one G _ _ (Nat.zero_add _) h2 d (Nat.zero_le _) (hQ d hd) ⟨hd, hn⟩
  · intro h
    exact prd_congr _ _ (fun k _ _ => ⟨fun hh => hh.1, fun hh => ⟨hh, h k hh⟩⟩)
end

theorem w64n (k : Nat) (h : k ≤ 100000) : wrap64 (k : Int) = (k : Int) := IntWalk.wrap64_in _ (by omega)
theorem i64n (k : Nat) (h : k ≤ 100000) : IntKind.i64.wrap (k : Int) = (k : Int) := IntWalk.i64_in _ (by omega)

set_option maxRecDepth 100000 in
set_option maxHeartbeats 1000000 in
theorem l01Part_ok (n p : Nat) (hn : 1 ≤ n) (hp : 2 ≤ p) (hn2 : n ≤ 100000) (hp2 : p ≤ 100000) (w : World) :
    Calls Tryz.prog 62 #[.int .i64 (n : Int), .int .i64 (p : Int)] w (Ret w fun _ r => r = .int .i64 ((prt p n : Nat) : Int)) := by
  go_enter Tryz.func62, Tryz.ntmps62
  go_wp2
  go_loopw [0, 5] (fun nv ov wr => ∃ m o : Nat, nv = .int .i64 (m : Int) ∧ ov = .int .i64 (o : Int) ∧ 1 ≤ m ∧ m ≤ n ∧ o * m ≤ n ∧ 1 ≤ o ∧ w = wr ∧ Hid (o * prt p m = prt p n)) (fun nv _ _ => (intOf nv).toNat)
  case atStart => exact ⟨n, 1, rfl, rfl, hn, Nat.le_refl _, by omega, by omega, rfl, Lib.hid (Nat.one_mul _)⟩
  case round =>
    obtain ⟨m, o, rfl, rfl, hm1, hm2, hom, ho1, rfl, hI⟩ := hrel
    have hmo : o ≤ n := Nat.le_trans (Nat.le_mul_of_pos_right o (by omega)) hom
    have hc1 : ((m : Int) % (p : Int)) = ((m % p : Nat) : Int) := (Int.natCast_emod m p).symm
    have hpos : (0 : Int) < (p : Int) := by omega
    by_cases hz : m % p = 0
    · have hz' : (m : Int) % (p : Int) = 0 := by rw [hc1, hz]; rfl
      have hd := Nat.div_add_mod m p
      rw [hz, Nat.add_zero] at hd
      obtain ⟨q, hq⟩ : ∃ q, q = m / p := ⟨_, rfl⟩
      rw [← hq] at hd
      have hq1 : 1 ≤ q := by
        rcases Nat.eq_zero_or_pos q with h | h
        · rw [h] at hd; simp at hd; omega
        · exact h
      have hqm : q < m := by
        have : 2 * q ≤ p * q := Nat.mul_le_mul_right q hp
        omega
      have hdiv : (m : Int) / (p : Int) = (q : Int) := by
        rw [hq]; exact (Int.natCast_ediv m p).symm
      have hop : o * p * q ≤ n := by rw [Nat.mul_assoc, hd]; exact hom
      have hop1 : o * p ≤ n := Nat.le_trans (Nat.le_mul_of_pos_right (o * p) hq1) hop
      have hopc : (o : Int) * (p : Int) = ((o * p : Nat) : Int) := (Int.natCast_mul o p).symm
      have hop2 : 1 ≤ o * p := Nat.mul_pos ho1 (by omega)
      have hI2 : Hid (o * p * prt p q = prt p n) := Lib.hid (by rw [← hI.out, ← hd, prt_mul hp hq1, Nat.mul_assoc])
      have hqn : q ≤ n := by omega
      have HH := Lib.hid (And.intro hop (And.intro hop2 hqm)); clear hop hop2 hd hq hc1 hz hom hI hqm
      generalize o * p = op at *
      have hw2 := w64n op (Nat.le_trans hop1 hn2)
      go_wp2
      go_roundw
      case rel => exact ⟨q, op, rfl, by first | rfl | exact congrArg (Value.int .i64) hw2, hq1, hqn, HH.out.1, HH.out.2.1, by first | trivial | rfl, hI2⟩
      case measure => have := HH.out.2.2; simp [intOf]; omega
    · have hne : ¬ (m : Int) % (p : Int) = 0 := by rw [hc1]; omega
      have he : prt p m = 1 := by
        rw [prt_def]
        obtain ⟨k, rfl⟩ : ∃ k, m = k + 1 := ⟨m - 1, by omega⟩
        unfold prtN
        rw [if_neg hz]
      have hfin : (o : Int) = ((prt p n : Nat) : Int) := by rw [← hI.out, he, Nat.mul_one]
      have HF := Lib.hid hfin; clear hfin he hI hc1 hz
      go_wp2
      go_ret
      refine ⟨_, rfl, Ext.refl _, ?_⟩
      show Value.int .i64 (o : Int) = _
      rw [HF.out]

end Go.Proofs.YtdklekdpdbjfiaaGreat

/- Orders of elements and residues: impl.orderOfElement, impl.residue; the reference's power: spec.l10Pow. -/
namespace Go.Proofs.YtdklekdpdbjfiaaGreat
open Go.RowKit

theorem isZero_true {l : List Int} : isZeroB l = true ↔ ∀ k, k < l.length → gt l k = 0 := by
  unfold isZeroB allB
  simp

end Go.Proofs.YtdklekdpdbjfiaaGreat

/- impl.orderOfElement: the order divides that of every Hall subgroup for the primes of the element. -/
namespace Go.Proofs.YtdklekdpdbjfiaaGreat
open Go.RowKit

/-- the powers of an element -/
def cycP (P : Pr) (X y : List Int) : Prop := ∃ k, y = pw P X k
theorem Grp.cyc_sub {P : Pr} (G : Grp P) {X : List Int} (hX : Vec P.orders X) : Sub P (cycP P X) :=
  G.sub_closed (fun _ ⟨k, e⟩ => by rw [e]; exact G.pw_vec hX k) ⟨0, rfl⟩ (fun _ _ ⟨k, e⟩ ⟨l, e2⟩ => ⟨k + l, by rw [e, e2, G.pw_add hX]⟩)
theorem cyc_min {P : Pr} {X : List Int} {K : List Int → Prop} (S : Sub P K) (hX : K X) : ∀ x, cycP P X x → K x := fun _ ⟨k, e⟩ => by rw [e]; exact S.pw hX k
theorem Grp.cyc_self {P : Pr} (G : Grp P) {X : List Int} (hX : Vec P.orders X) : cycP P X X := ⟨1, (G.pw_one hX).symm⟩
theorem hallTo_dvd1 {P : Pr} (pr : List Int) (d : Nat) : hallTo P pr d ∣ hallTo P pr (d + 1) := by
  by_cases h : gt P.orders d ∈ pr
  · rw [hallTo_yes h]; exact Int.dvd_mul_right _ _
  · rw [hallTo_no h]; exact Int.dvd_refl _
theorem hallTo_dvd {P : Pr} (pr : List Int) {d n : Nat} (h : d ≤ n) : hallTo P pr d ∣ hallTo P pr n := by
  induction n with
  | zero =>
    have : d = 0 := by omega
    subst this; exact Int.dvd_refl _
  | succ n ih =>
    rcases Nat.lt_or_ge d (n + 1) with h1 | h1
    · exact Int.dvd_trans (ih (by omega)) (hallTo_dvd1 pr n)
    · have : d = n + 1 := by omega
      subst this; exact Int.dvd_refl _

set_option maxRecDepth 100000 in
set_option maxHeartbeats 1000000 in
theorem orderOfElement2_ok (P : Pr) (G : Grp P) (w : World) (p x : Value) (X : List Int) (Sp Sx : Nat → Prop) (hp : PresP Sp w p P) (hx : Ints Sx w x X) (hX : Vec P.orders X) :
    Calls Tryz.prog 133 #[p, x] w (Ret w fun _ v => ∃ m : Int, v = .int .i64 m ∧ 1 ≤ m ∧ m ≤ 729 ∧ ∀ pr : List Int, (∀ d, pv (toE G (cycP P X)) d → gt P.orders d ∈ pr) → m ∣ hallO P pr) := by
  have hP := G.v
  have hn6 := hP.n6
  obtain ⟨pb, po, rfl⟩ := hp.shape
  obtain ⟨ao, capo, hco0, hoi⟩ := hp.ordAt
  have HCO := Lib.hid hco0; clear hco0
  have h729 := hP.le729
  have hpre : ∀ d, d ≤ P.orders.length → prodTo P.orders d ≤ 729 := fun d hd => by have := hP.pre d hd; omega
  have HPRE := Lib.hid hpre; clear hpre h729
  go_enter Tryz.func133, Tryz.ntmps133
  go_wp2
  go_loopw [5, 6, 7] (fun kv dv nv wr => ∃ (d : Nat) (m : Int), dv = .int .i64 d ∧ kv = .int .i64 m ∧ d ≤ P.orders.length ∧ 1 ≤ m ∧ m ≤ prodTo P.orders d ∧ Ext w wr ∧ Ints Any wr nv (pw P X m.toNat) ∧ T P d (pw P X m.toNat) ∧ Hid (∀ pr : List Int, (∀ d, pv (toE G (cycP P X)) d → gt P.orders d ∈ pr) → m ∣ hallTo P pr d)) (fun _ dv _ _ => P.orders.length - (intOf dv).toNat)
  case atStart =>
    have e : pw P X (1 : Int).toNat = X := G.pw_one hX
    exact ⟨0, 1, rfl, rfl, by omega, by omega, by simp [prodTo], Ext.refl _, by rw [e]; exact Ints.sub hx (fun _ _ _ => trivial), by rw [e]; exact T_zero.2 hX, Lib.hid (fun _ _ => Int.one_dvd _)⟩
  case round =>
    obtain ⟨d, m, rfl, rfl, hd, hm1, hm2, hg, hN, hT, hDV⟩ := hrel
    obtain ⟨Y, hY⟩ : ∃ Y, Y = pw P X m.toNat := ⟨_, rfl⟩
    rw [← hY] at hN hT
    have HY := Lib.hid hY; clear hY
    have hm3 : m ≤ 729 := by have := HPRE.out d hd; omega
    have hNl : Y.length ≤ P.orders.length ∧ P.orders.length ≤ Y.length := by rw [hT.1.1]; omega
    obtain ⟨an, capn, rfl, _, _⟩ := hN.shape
    have HT := Lib.hid (And.intro hT hm2); clear hT hm2
    cases hz : isZeroB Y with
    | true =>
      have h0 : ∀ pr : List Int, (∀ d, pv (toE G (cycP P X)) d → gt P.orders d ∈ pr) → m ∣ hallO P pr := fun pr h => Int.dvd_trans (hDV.out pr h) (hallTo_dvd pr hd)
      have H0 := Lib.hid h0; clear h0
      go_wp2_with (go_at_call 197; refine (isZero_ok _ _ wr Any hN).mono ?_; rintro e1 w1 ⟨rfl, rfl⟩)
      go_ret
      exact ⟨_, rfl, hg, m, rfl, hm1, hm3, H0.out⟩
    | false =>
      have hdn : d < P.orders.length := by
        rcases Nat.lt_or_ge d P.orders.length with h | h
        · exact h
        · exfalso
          have : isZeroB Y = true := isZero_true.2 (fun k hk => HT.out.1.2 k (by omega))
          rw [hz] at this; cases this
      obtain ⟨b, off, hab, _, _, hc⟩ := Ints.at hN d (by omega)
      cases hab
      have hdl : (d : Int) < Y.length := by omega
      by_cases hx0 : gt Y d = 0
      · have hb : (gt Y d != 0) = false := by simp [hx0]
        have hT2 := HT.out.1.up hx0
        have HDV : Hid (∀ pr : List Int, (∀ d, pv (toE G (cycP P X)) d → gt P.orders d ∈ pr) → m ∣ hallTo P pr (d + 1)) := Lib.hid (fun pr h => Int.dvd_trans (hDV.out pr h) (hallTo_dvd1 pr d))
        have hm4 : m ≤ prodTo P.orders (d + 1) := by
          have h1 := HT.out.2
          have h2 := hP.ord7 d hdn
          have h3 : prodTo P.orders d * 1 ≤ prodTo P.orders d * gt P.orders d := Int.mul_le_mul_of_nonneg_left (by omega) (by omega)
          simp only [prodTo]; omega
        have HT2 := Lib.hid (And.intro hT2 hm4); clear hT2 hm4
        clear hx0
        go_wp2_with (go_at_call 197; refine (isZero_ok _ _ wr Any hN).mono ?_; rintro e1 w1 ⟨rfl, rfl⟩)
        go_roundw
        case rel => exact ⟨d + 1, m, by go_num, rfl, by omega, hm1, HT2.out.2, hg, by rw [← HY.out]; exact hN, by rw [← HY.out]; exact HT2.out.1, HDV⟩
        case measure => simp [intOf]; omega
      · have hb : (gt Y d != 0) = true := by simp [hx0]
        have ho := hP.ord7 d hdn
        have HDV : Hid (∀ pr : List Int, (∀ d, pv (toE G (cycP P X)) d → gt P.orders d ∈ pr) → m * gt P.orders d ∣ hallTo P pr (d + 1)) := Lib.hid (fun pr h => by
          have hpd : pv (toE G (cycP P X)) d := ⟨hdn, ⟨Y, HT.out.1.1⟩, ⟨m.toNat, HY.out⟩, HT.out.1.2, hx0⟩
          rw [hallTo_yes (h d hpd)]
          exact Int.mul_dvd_mul (hDV.out pr h) (Int.dvd_refl _))
        obtain ⟨b2, off2, hab2, _, _, hc2⟩ := Ints.at (hoi.ext hg) d hdn
        cases hab2
        have hco := hg.cell HCO.out (by simp)
        have hdo : (d : Int) < P.orders.length := by omega
        have hpw := G.pw_order hdn HT.out.1
        have e1 : pw P Y (gt P.orders d).toNat = pw P X (m * gt P.orders d).toNat := by
          rw [HY.out, ← G.pw_mul hX]
          congr 1
          have : ((m.toNat * (gt P.orders d).toNat : Nat) : Int) = m * gt P.orders d := by
            rw [Int.natCast_mul, show ((m.toNat : Nat) : Int) = m by omega, show (((gt P.orders d).toNat : Nat) : Int) = gt P.orders d by omega]
          omega
        rw [e1] at hpw
        have e2 : iPow P Y (gt P.orders d) = pw P X (m * gt P.orders d).toNat := by rw [G.iPow_eq HT.out.1.1]; exact e1
        have hm4 : m * gt P.orders d ≤ prodTo P.orders (d + 1) := Int.mul_le_mul_of_nonneg_right HT.out.2 (by omega)
        have hm5 : prodTo P.orders (d + 1) ≤ 729 := HPRE.out (d + 1) (by omega)
        have hm6 : 1 ≤ m * gt P.orders d := by
          have : 1 * 1 ≤ m * gt P.orders d := Int.mul_le_mul hm1 (by omega) (by omega) (by omega)
          omega
        have hwm : IntKind.i64.wrap (m * gt P.orders d) = m * gt P.orders d := IntWalk.i64_in _ (by omega)
        have HE := Lib.hid (And.intro e2 (And.intro hpw hm4)); clear e1 e2 hpw hm4 hx0
        go_wp2_with (first | (go_at_call 197; refine (isZero_ok _ _ wr Any hN).mono ?_; rintro e1 w1 ⟨rfl, rfl⟩) | fail)
        refine Calls.mono (power_ok P hP wr _ _ _ (gt P.orders d) _ _ (hp.ext hg) hN HT.out.1.1 (by omega)) ?_
        rintro eA wA ⟨vA, rfl, hgA, hOA⟩
        rw [HE.out.1] at hOA
        have hcoA := hgA.cell hco (by simp)
        have hc2A := hgA.cell hc2 (by simp)
        have hNA : Ints Any wA vA (pw P X (m * gt P.orders d).toNat) := hOA.ints (by rw [HE.out.2.1.1.1]; omega)
        clear hco hc2 hc
        go_wp2
        go_roundw
        case rel => exact ⟨d + 1, m * gt P.orders d, by go_num, rfl, by omega, hm6, HE.out.2.2, grown_trans hg hgA, hNA, HE.out.2.1, HDV⟩
        case measure => simp [intOf]; omega

end Go.Proofs.YtdklekdpdbjfiaaGreat

/- Plain: the normal subgroups are those of classes of one. -/
namespace Go.Proofs.YtdklekdpdbjfiaaGreat
open Go.RowKit

theorem cnS_length (P : Pr) (u : List (List Int)) (S : List (List (List Int))) : ∀ t, (cnS P u S t).1.length = S.length + (cnS P u S t).2
  | 0 => rfl
  | t + 1 => by
    have ih := cnS_length P u S t
    by_cases h : cjU P u (elAt P (t : Int)) ∈ (cnS P u S t).1
    · rw [cnS_no h]; exact ih
    · rw [cnS_yes h]
      simp only [List.length_append, List.length_singleton]
      omega

section
variable {P : Pr} (G : Grp P)
include G

end

end Go.Proofs.YtdklekdpdbjfiaaGreat

/- The library's sort at [][]int64, laid from the shelf. -/
namespace Go.Proofs.YtdklekdpdbjfiaaGreat
open Go.Proofs Go.Shelf Go.RowKit Go.Lib Go.Sort
def Tryz.sortRows_ren : Go.Shelf.Ren := ⟨fun | 6 => 216 | 15 => 200 | 14 => 246 | 28 => 240 | 29 => 241 | 20 => 256 | 21 => 257 | 22 => 258 | 23 => 259 | 24 => 260 | 25 => 261 | 26 => 262 | 27 => 263 | 46 => 266 | 47 => 252 | 48 => 253 | 49 => 267 | 50 => 268 | 57 => 269 | n => n, fun | 22 => 23 | 24 => 22 | 25 => 171 | 3 => 3 | 39 => 168 | 0 => 0 | 53 => 198 | 55 => 95 | 4 => 4 | 46 => 191 | 45 => 190 | 50 => 195 | 5 => 5 | 9 => 9 | 66 => 204 | 70 => 208 | 76 => 216 | 77 => 217 | n => n, fun | n => n⟩
theorem Tryz.sortRows : Go.Proofs.SlLaysF.n6 Tryz.prog Tryz.sortRows_ren := {
  mixed := by kernel_rfl
  f6 := ⟨Tryz.f216.name, by decide, Tryz.func216.trans (congrArg some (by kernel_rfl))⟩
  f14 := ⟨Tryz.f246.name, by decide, Tryz.func246.trans (congrArg some (by kernel_rfl))⟩
  f15 := Tryz.func200.trans (congrArg some (by kernel_rfl))
  f20 := ⟨Tryz.f256.name, by decide, Tryz.func256.trans (congrArg some (by kernel_rfl))⟩
  f21 := ⟨Tryz.f257.name, by decide, Tryz.func257.trans (congrArg some (by kernel_rfl))⟩
  f22 := ⟨Tryz.f258.name, by decide, Tryz.func258.trans (congrArg some (by kernel_rfl))⟩
  f23 := ⟨Tryz.f259.name, by decide, Tryz.func259.trans (congrArg some (by kernel_rfl))⟩
  f24 := ⟨Tryz.f260.name, by decide, Tryz.func260.trans (congrArg some (by kernel_rfl))⟩
  f25 := ⟨Tryz.f261.name, by decide, Tryz.func261.trans (congrArg some (by kernel_rfl))⟩
  f26 := ⟨Tryz.f262.name, by decide, Tryz.func262.trans (congrArg some (by kernel_rfl))⟩
  f27 := ⟨Tryz.f263.name, by decide, Tryz.func263.trans (congrArg some (by kernel_rfl))⟩
  f28 := Tryz.func240.trans (congrArg some (by kernel_rfl))
  f29 := Tryz.func241.trans (congrArg some (by kernel_rfl))
  f46 := ⟨Tryz.f266.name, by decide, Tryz.func266.trans (congrArg some (by kernel_rfl))⟩
  f47 := Tryz.func252.trans (congrArg some (by kernel_rfl))
  f48 := Tryz.func253.trans (congrArg some (by kernel_rfl))
  f49 := ⟨Tryz.f267.name, by decide, Tryz.func267.trans (congrArg some (by kernel_rfl))⟩
  f50 := ⟨Tryz.f268.name, by decide, Tryz.func268.trans (congrArg some (by kernel_rfl))⟩
  f57 := ⟨Tryz.f269.name, by decide, Tryz.func269.trans (congrArg some (by kernel_rfl))⟩
  t0 := Tryz.underlying0
  a0 := Tryz.isAgg0
  z0 := Tryz.sizeOf0
  v0 := Tryz.zeroValue0
  t3 := Tryz.underlying3
  a3 := Tryz.isAgg3
  z3 := Tryz.sizeOf3
  v3 := Tryz.zeroValue3
  t4 := Tryz.underlying4
  a4 := Tryz.isAgg4
  z4 := Tryz.sizeOf4
  v4 := Tryz.zeroValue4
  t5 := Tryz.underlying5
  a5 := Tryz.isAgg5
  z5 := Tryz.sizeOf5
  v5 := Tryz.zeroValue5
  t9 := Tryz.underlying9
  a9 := Tryz.isAgg9
  z9 := Tryz.sizeOf9
  v9 := Tryz.zeroValue9
  t22 := Tryz.underlying23
  a22 := Tryz.isAgg23
  z22 := Tryz.sizeOf23
  v22 := Tryz.zeroValue23
  a24 := Tryz.isAgg22
  z24 := Tryz.sizeOf22
  t25 := Tryz.underlying171
  a25 := Tryz.isAgg171
  z25 := Tryz.sizeOf171
  v25 := Tryz.zeroValue171
  t39 := Tryz.underlying168
  a39 := Tryz.isAgg168
  z39 := Tryz.sizeOf168
  v39 := Tryz.zeroValue168
  t45 := Tryz.underlying190
  a45 := Tryz.isAgg190
  z45 := Tryz.sizeOf190
  v45 := Tryz.zeroValue190
  t46 := Tryz.underlying191
  a46 := Tryz.isAgg191
  z46 := Tryz.sizeOf191
  v46 := Tryz.zeroValue191
  t50 := Tryz.underlying195
  a50 := Tryz.isAgg195
  z50 := Tryz.sizeOf195
  v50 := Tryz.zeroValue195
  t53 := Tryz.underlying198
  a53 := Tryz.isAgg198
  z53 := Tryz.sizeOf198
  v53 := Tryz.zeroValue198
  t55 := Tryz.underlying95
  a55 := Tryz.isAgg95
  z55 := Tryz.sizeOf95
  v55 := Tryz.zeroValue95
  t66 := Tryz.underlying204
  a66 := Tryz.isAgg204
  z66 := Tryz.sizeOf204
  v66 := Tryz.zeroValue204
  t70 := Tryz.underlying208
  a70 := Tryz.isAgg208
  z70 := Tryz.sizeOf208
  v70 := Tryz.zeroValue208
  t76 := Tryz.underlying216
  a76 := Tryz.isAgg216
  z76 := Tryz.sizeOf216
  v76 := Tryz.zeroValue216
  t77 := Tryz.underlying217
  a77 := Tryz.isAgg217
  z77 := Tryz.sizeOf217
  v77 := Tryz.zeroValue217 }
end Go.Proofs.YtdklekdpdbjfiaaGreat

/- A row that the call has built, sorted by the library: any elements of one cell. (After the library's Sort/OwnSortedInts, at a general reading.) -/
namespace Go.Proofs.YtdklekdpdbjfiaaGreat
open Go.Proofs Go.Shelf Go.RowKit Go.Lib Go.Sort

section
variable {α : Type} [Inhabited α] {enc : α → Value}
theorem holds_of_blockV {w : World} {g : Nat} {cur : Array Value} {e : TypeId} {ss : List α} (hb : w.heap[g]? = some (.cells cur e (0, 0))) (ht : cur.toList.take ss.length = ss.map enc) : Go.Sort.Holds enc w g 0 ss.toArray := by
  intro j hj
  have hj' : j < ss.length := by simpa using hj
  refine ⟨?_, by simp [World.frozen?, hb]⟩
  have h1 : (cur.toList.take ss.length)[j]? = (ss.map enc)[j]? := by rw [ht]
  rw [List.getElem?_take_of_lt hj'] at h1
  simp only [World.cell?, hb, Nat.zero_add]
  simp only [Option.isSome_none, Bool.false_eq_true, if_false]
  rw [← Array.getElem?_toList, h1]
  simp [hj']

theorem heap_sortedV {w : World} {g n : Nat} {os : Array Obj} {cur : Array Value} {e : TypeId} {fr : Nat × Nat} (d : Array α) (hb : w.heap[g]? = some (.cells cur e fr)) :
    (sortWorld enc w g 0 n d os).heap[g]? = some (.cells (putCells enc 0 d cur) e fr) := by
  have hg : g < w.heap.size := (Array.getElem?_eq_some_iff.1 hb).1
  unfold sortWorld
  rw [heap_grow_old _ _ (by simpa using hg)]
  simp [putRow, mapBlock, Sort.ahead, Array.getElem?_modify, hb, onCells]

theorem grownBy_sortedV {w : World} {g n : Nat} {os : Array Obj} (d : Array α) : w.grownBy (sortWorld enc w g 0 n d os) (some g) := by
  unfold sortWorld
  refine ⟨rfl, rfl, rfl, by simp, fun k hk hne => ?_⟩
  rw [heap_grow_old _ _ (by simpa using hk)]
  have : g ≠ k := fun e => hne (by rw [e])
  simp [putRow, mapBlock, Sort.ahead, Array.getElem?_modify, this]

theorem take_putCellsV (cur : Array Value) (ts : List α) (h : ts.length ≤ cur.size) : (putCells enc 0 ts.toArray cur).toList.take ts.length = ts.map enc := by
  apply List.ext_getElem?
  intro j
  by_cases hj : j < ts.length
  · rw [List.getElem?_take_of_lt hj, Array.getElem?_toList]
    simp [putCells, hj, show j < cur.size by omega]
  · rw [List.getElem?_take_eq_none (by omega), List.getElem?_eq_none (by simp; omega)]

theorem ownsRow_sortedV {w : World} {base g cap n : Nat} {e : TypeId} {os : Array Obj} {cur : Array Value} {ss ts : List α} (hl : ts.length = ss.length) (hbase : base ≤ g) (hb : w.heap[g]? = some (.cells cur e (0, 0)))
    (h1 : ss.length ≤ cap) (h2 : cap ≤ maxLen) (h3 : cur.size = cap * 1) :
    (sortWorld enc w g 0 n ts.toArray os).ownsRow base e 1 (.slice (some ⟨g, 0, none⟩) ss.length cap) ss.length (ts.map enc) :=
  ⟨by simp [hl], .inr ⟨g, cap, _, rfl, hbase, heap_sortedV _ hb, h1, h2, by simp [putCells, h3], by rw [Nat.mul_one, ← hl]; exact take_putCellsV cur ts (by omega)⟩⟩
end

/-- a slice value of the row, nil beyond it -/
def encAt (vs : List Value) (k : Nat) : Value := if k < vs.length then gt vs k else .slice none 0 0
def cfAt (L : List (List Int)) (i j : Nat) : Int := cmpL (gt L i) (gt L j)

theorem ltOf_true {L : List (List Int)} {x y : Nat} : ltOf (cfAt L) x y = true ↔ cmpL (gt L x) (gt L y) < 0 := by unfold ltOf; rw [decide_eq_true_iff]; rfl
theorem ltOf_false {L : List (List Int)} {x y : Nat} : ltOf (cfAt L) x y = false ↔ 0 ≤ cmpL (gt L x) (gt L y) := by
  unfold ltOf; rw [decide_eq_false_iff_not]; show ¬ (cmpL (gt L x) (gt L y) < 0) ↔ _; omega

theorem swo_cfAt (L : List (List Int)) : SWO (ltOf (cfAt L)) where
  irrefl x := by
    have := (cmpL_zero (gt L x) (gt L x)).2 rfl
    rw [ltOf_false]; omega
  trans x y z h k := by
    rw [ltOf_true] at *
    have h1 := cmpL_le_trans (gt L x) (gt L y) (gt L z) (by omega) (by omega)
    have h2 : cmpL (gt L x) (gt L z) ≠ 0 := by
      intro e
      rw [cmpL_zero] at e
      rw [e] at h
      have := cmpL_swap (gt L z) (gt L y)
      omega
    omega
  ntrans x y z h k := by
    rw [ltOf_false] at *
    have h1 := cmpL_swap (gt L x) (gt L y)
    have h2 := cmpL_swap (gt L y) (gt L z)
    have h3 := cmpL_swap (gt L x) (gt L z)
    have h4 := cmpL_le_trans (gt L z) (gt L y) (gt L x) (by omega) (by omega)
    omega

theorem encAt_one {vs : List Value} (h : ∀ i, i < vs.length → (gt vs i).oneCell' = true) : OneCell (encAt vs) := by
  intro k
  unfold encAt
  split
  · exact h k (by assumption)
  · rfl

theorem gt_inj {α : Type} [Inhabited α] {l : List α} (h : l.Nodup) {i j : Nat} (hi : i < l.length) (hj : j < l.length) (he : gt l i = gt l j) : i = j := by
  simp only [gt, List.getD_eq_getElem?_getD, List.getElem?_eq_getElem hi, List.getElem?_eq_getElem hj, Option.getD_some] at he
  rcases Nat.lt_trichotomy i j with h1 | h1 | h1
  · exact absurd he (List.pairwise_iff_getElem.1 h i j hi hj h1)
  · exact h1
  · exact absurd he.symm (List.pairwise_iff_getElem.1 h j i hj hi h1)

/-- slices.SortFunc with slices.Compare on rows that the call has built -/
theorem sortRows_ok (w : World) (v : Value) (L : List (List Int)) (B : Nat) (hL : RowsO B w v L) (hne : 0 < L.length) (hlen : L.length ≤ 1000000) :
    Calls Tryz.prog 216 #[v, .func (.func 203) #[] #[]] w fun e w' => e = .returned (.tuple #[]) ∧ RowsO B w' v (sortL L) ∧ w.grownBy w' v.ownBlock := by
  obtain ⟨vs, G, hvl, hO, hG, hd, hE⟩ := hL
  obtain ⟨_, ⟨rfl, h0⟩ | ⟨g, cap, cur, rfl, hBg, hb, hnc, hcm, hsz, hx⟩⟩ := hO
  · omega
  have hgs : g < w.heap.size := (Array.getElem?_eq_some_iff.1 hb).1
  have hone : OneCell (encAt vs) := encAt_one fun i hi => by
    exact rdOwn.one (hE i (by omega))
  have hmap : (List.range L.length).map (encAt vs) = vs := by
    apply List.ext_getElem (by simp [hvl])
    intro j h1 h2
    simp [encAt, gt, h2]
  have hH : Go.Sort.Holds (encAt vs) w g 0 (List.range L.length).toArray := holds_of_blockV hb (by rw [hmap, List.length_range, ← hvl]; simpa using hx)
  have eg : ∀ args w, (callFunc 203 args).run Tryz.prog w = .ok (.enter 203 args) w := enters_of Tryz.func203 (by kernel_rfl) rfl
  have hcmp : CmpReads Tryz.prog 203 #[] (encAt vs) (cfAt L) g 0 (List.range L.length).toArray.size w := by
    intro m os dk _ x y
    have hgr : w.grownBy (sortWorld (encAt vs) w g 0 m dk os) (some g) := grownBy_sortedV dk
    have hread : ∀ k, Ints Any (sortWorld (encAt vs) w g 0 m dk os) (encAt vs k) (gt L k) := by
      intro k
      by_cases hk : k < vs.length
      · have he := (hE k (by omega)).ints
        unfold encAt
        rw [if_pos hk]
        exact Ints.mono he (fun b hb2 hlt => ⟨trivial, Nat.lt_of_lt_of_le hlt hgr.size, hgr.block b hlt (fun e => (hG k b (by omega) hb2).2.1 (by cases e; rfl))⟩)
      · have h1 : gt L k = [] := by simp [gt, show ¬ k < L.length by omega]; rfl
        unfold encAt
        rw [if_neg hk, h1]
        exact ⟨none, 0, rfl, ⟨by simp, by simp, fun _ => rfl⟩, fun i hi => by simp at hi⟩
    refine (sCompare_ok _ _ _ _ _ _ _ (hread x) (hread y)).mono ?_
    rintro e w' ⟨rfl, rfl⟩
    exact ⟨rfl, 0, rfl⟩
  have hcon := Any.slices_SortFunc Tryz.sortRows (encAt vs) hone (cfAt L) (swo_cfAt L) 203 #[] g 0 cap (List.range L.length).toArray w eg hcmp.lays hH hgs (by simp; omega)
  change Calls Tryz.prog 216 _ _ _ at hcon
  have hsz2 : (List.range L.length).toArray.size = vs.length := by simp [hvl]
  rw [hsz2] at hcon
  refine hcon.mono ?_
  rintro e w' ⟨he, d', n, os, ⟨hs1, _, hperm⟩, hsorted, rfl⟩
  have hts : d'.toList.length = L.length := by simpa [hvl] using hs1
  have hP : d'.toList.Perm (List.range L.length) := by
    have h1 : d'.extract 0 vs.length = d' := by
      apply Array.ext'
      rw [hvl, ← hts]; simp
    have h2 : (List.range L.length).toArray.extract 0 vs.length = (List.range L.length).toArray := by
      apply Array.ext'
      rw [hvl]; simp
    rw [h1, h2] at hperm
    simpa using hperm
  have hin : ∀ i, i < L.length → gt d'.toList i < L.length := fun i hi => by
    have := hP.subset (gt_mem (l := d'.toList) (i := i) (by omega))
    simpa using this
  have hnd : d'.toList.Nodup := hP.symm.nodup List.nodup_range
  have hmapL : (List.range L.length).map (gt L) = L := by
    apply List.ext_getElem (by simp)
    intro j h1 h2
    simp [gt, h2]
  have hsort : d'.toList.map (gt L) = sortL L := by
    refine sortL_unique ?_ ?_
    · have := hP.map (gt L)
      rwa [hmapL] at this
    · refine List.pairwise_iff_getElem.2 ?_
      intro i j hi hj hij
      have hi' : i < d'.size := by simpa using hi
      have hj' : j < d'.size := by simpa using hj
      have h1 := hsorted i j (Nat.zero_le _) hij (by rw [hs1, hsz2] at hj'; exact hj')
      rw [ltOf_false, getElem!_pos d' i hi', getElem!_pos d' j hj'] at h1
      have h2 := cmpL_swap (gt L d'[j]) (gt L d'[i])
      simp only [List.getElem_map, Array.getElem_toList]
      omega
  have hgr : w.grownBy (sortWorld (encAt vs) w g 0 n d' os) (some g) := grownBy_sortedV d'
  have hgv : ∀ i, i < L.length → gt (d'.toList.map (encAt vs)) i = gt vs (gt d'.toList i) := fun i hi => by
    have h1 : gt (d'.toList.map (encAt vs)) i = encAt vs (gt d'.toList i) := gt_map _ _ _ (by omega)
    rw [h1]; unfold encAt; rw [if_pos (by rw [hvl]; exact hin i hi)]
  have hgL : ∀ i, i < L.length → gt (sortL L) i = gt L (gt d'.toList i) := fun i hi => by
    rw [← hsort]; exact gt_map _ _ _ (by omega)
  have hsl : (sortL L).length = L.length := (sortL_perm L).length_eq
  refine ⟨he, ⟨d'.toList.map (encAt vs), fun i k => G (gt d'.toList i) k, by simp [hsl, ← hts], ?_, ?_, ?_, ?_⟩, hgr⟩
  · have := ownsRow_sortedV (enc := encAt vs) (n := n) (os := os) (ss := List.range L.length) (ts := d'.toList) (by rw [hts, List.length_range]) hBg hb (by rw [List.length_range, ← hvl]; exact hnc) hcm hsz
    rw [List.length_range, ← hvl] at this
    unfold OwnV
    rw [show (d'.toList.map (encAt vs)).length = vs.length by rw [List.length_map, hts, hvl]]
    simpa using this
  · intro i k hi hk
    obtain ⟨a1, a2, a3⟩ := hG _ k (hin i (by omega)) hk
    exact ⟨a1, a2, Nat.lt_of_lt_of_le a3 hgr.size⟩
  · intro i j k hi hj hk hk'
    exact gt_inj hnd (by omega) (by omega) (hd _ _ k (hin i (by omega)) (hin j (by omega)) hk hk')
  · intro i hi
    show OwnIn _ _ _ _
    rw [hgv i (by omega), hgL i (by omega)]
    have he := hE _ (hin i (by omega))
    exact rdOwn.mono he (fun b hb2 hlt => ⟨hb2, Nat.lt_of_lt_of_le hlt hgr.size, hgr.block b hlt (fun e => (hG _ b (hin i (by omega)) hb2).2.1 (by cases e; rfl))⟩)

end Go.Proofs.YtdklekdpdbjfiaaGreat

/- The order of subgroups as a comparison: by order, then by the entries. -/
namespace Go.Proofs.YtdklekdpdbjfiaaGreat
open Go.Proofs Go.Shelf Go.RowKit Go.Lib Go.Sort

def cmpS (P : Pr) (u v : List (List Int)) : Int := if cmpI (prodU P u u.length) (prodU P v v.length) = 0 then cmpL u.flatten v.flatten else cmpI (prodU P u u.length) (prodU P v v.length)

theorem cmpS_neg {P : Pr} {u v : List (List Int)} : cmpS P u v < 0 ↔ subLt P u v := by
  unfold cmpS subLt
  rcases cmpI_cases (prodU P u u.length) (prodU P v v.length) with ⟨h, k⟩ | ⟨h, k⟩ | ⟨h, k⟩ <;> rw [h]
  · rw [if_neg (by omega)]; exact ⟨fun _ => .inl k, fun _ => by omega⟩
  · rw [if_pos rfl]; exact ⟨fun h => .inr ⟨k, h⟩, fun h => by rcases h with h | h; · omega
                                                              · exact h.2⟩
  · rw [if_neg (by omega)]; exact ⟨fun h => by omega, fun h => by omega⟩

theorem cmpS_swap (P : Pr) (u v : List (List Int)) : cmpS P v u = - cmpS P u v := by
  unfold cmpS
  rw [cmpL_swap u.flatten v.flatten]
  rcases cmpI_cases (prodU P u u.length) (prodU P v v.length) with ⟨h, k⟩ | ⟨h, k⟩ | ⟨h, k⟩ <;> rcases cmpI_cases (prodU P v v.length) (prodU P u u.length) with ⟨h', k'⟩ | ⟨h', k'⟩ | ⟨h', k'⟩ <;> rw [h, h']
  all_goals first | omega | rfl

theorem swo_cmpS (P : Pr) : SWO (ltOf (cmpS P)) where
  irrefl x := by
    have := cmpS_swap P x x
    unfold ltOf; rw [decide_eq_false_iff_not]; omega
  trans x y z h k := by
    unfold ltOf at *
    rw [decide_eq_true_iff] at *
    exact cmpS_neg.2 (subLt_trans (cmpS_neg.1 h) (cmpS_neg.1 k))
  ntrans x y z h k := by
    unfold ltOf at *
    rw [decide_eq_false_iff_not] at *
    intro hz
    have hz' := cmpS_neg.1 hz
    unfold subLt at hz'
    rw [cmpS_neg] at h k
    unfold subLt at h k
    have h1 := cmpL_swap x.flatten y.flatten
    have h2 := cmpL_swap y.flatten z.flatten
    have h3 := cmpL_swap x.flatten z.flatten
    rcases hz' with hz' | ⟨e, hz'⟩
    · have : ¬ prodU P x x.length < prodU P y y.length := fun hh => h (.inl hh)
      have : ¬ prodU P y y.length < prodU P z z.length := fun hh => k (.inl hh)
      omega
    · have hx : ¬ prodU P x x.length < prodU P y y.length := fun hh => h (.inl hh)
      have hy : ¬ prodU P y y.length < prodU P z z.length := fun hh => k (.inl hh)
      have e1 : prodU P x x.length = prodU P y y.length := by omega
      have e2 : prodU P y y.length = prodU P z z.length := by omega
      have c1 : ¬ cmpL x.flatten y.flatten < 0 := fun hh => h (.inr ⟨e1, hh⟩)
      have c2 : ¬ cmpL y.flatten z.flatten < 0 := fun hh => k (.inr ⟨e2, hh⟩)
      have h4 := cmpL_le_trans z.flatten y.flatten x.flatten (by omega) (by omega)
      omega

end Go.Proofs.YtdklekdpdbjfiaaGreat

/- Plain: the way up to a Hall subgroup, element by element. -/
namespace Go.Proofs.YtdklekdpdbjfiaaGreat
open Go.RowKit

section
variable {P : Pr}

/-- the number t would lead further -/
def Usable (G : Grp P) (pr : List Int) (U : List (List Int)) (t : Nat) : Prop :=
  ¬ gP P U (elAt P (t : Int)) ∧ prodU P (cseq P (extP P (gP P U) (elAt P (t : Int)))) (cseq P (extP P (gP P U) (elAt P (t : Int)))).length ∣ hallO P pr ∧
    ∀ d, pv (toE G (cycP P (elAt P (t : Int)))) d → gt P.orders d ∈ pr

theorem hall_use (G : Grp P) (pr : List Int) {u : List (List Int)} (hu : SubB P u) (hd : prodU P u u.length ∣ hallO P pr) (hne : prodU P u u.length ≠ hallO P pr) : ∃ t, t < (ordP P).toNat ∧ Usable G pr u t := by
  obtain ⟨t, h1, h2, h3, h4⟩ := hall_step G pr hu hd hne
  have hV := G.elAtV h1
  exact ⟨t, h1, h2, h3, h4 _ (G.cyc_sub hV) (G.cyc_self hV) (fun K SK hK => cyc_min SK hK)⟩

/-- one pass: U at its start, U' behind the first t numbers -/
structure GrI (G : Grp P) (pr : List Int) (U U' : List (List Int)) (t : Nat) : Prop where
  sub : SubB P U'
  dv : prodU P U' U'.length ∣ hallO P pr
  up : prodU P U U.length < prodU P U' U'.length ∨ (U' = U ∧ ∀ j, j < t → ¬ Usable G pr U j)

theorem GrI.start {G : Grp P} {pr : List Int} {U : List (List Int)} (hu : SubB P U) (hd : prodU P U U.length ∣ hallO P pr) : GrI G pr U U 0 := ⟨hu, hd, .inr ⟨rfl, fun j hj => by omega⟩⟩
theorem GrI.skip {G : Grp P} {pr : List Int} {U U' : List (List Int)} {t : Nat} (h : GrI G pr U U' t) (hn : ¬ Usable G pr U' t) : GrI G pr U U' (t + 1) := by
  refine ⟨h.sub, h.dv, ?_⟩
  rcases h.up with h1 | ⟨h1, h2⟩
  · exact .inl h1
  · refine .inr ⟨h1, fun j hj => ?_⟩
    rcases Nat.lt_succ_iff_lt_or_eq.1 hj with h3 | h3
    · exact h2 j h3
    · subst h3; rw [← h1]; exact hn
theorem ext_sub (G : Grp P) {U : List (List Int)} (hu : SubB P U) {x : List Int} (hx : Vec P.orders x) : Sub P (extP P (gP P U) x) :=
  G.genP_sub (fun y hy => hy.elim (fun h => (G.subB hu).vec y h) (fun h => h ▸ hx))
theorem GrI.take {G : Grp P} {pr : List Int} {U U' : List (List Int)} {t : Nat} (h : GrI G pr U U' t) (ht : t < (ordP P).toNat) (hn : ¬ gP P U' (elAt P (t : Int)))
    (hd : prodU P (cseq P (extP P (gP P U') (elAt P (t : Int)))) (cseq P (extP P (gP P U') (elAt P (t : Int)))).length ∣ hallO P pr) : GrI G pr U (cseq P (extP P (gP P U') (elAt P (t : Int)))) (t + 1) := by
  have hV := G.elAtV ht
  have hE := ext_sub G h.sub hV
  refine ⟨G.subB_cseq hE, hd, .inl ?_⟩
  have h1 := G.order_le (G.subB h.sub) hE (fun x hx => genP_mem (.inl hx))
  have e1 : cseq P (genP P fun x => x ∈ U') = U' := h.sub.2.symm
  rw [e1] at h1
  have hlt : prodU P U' U'.length < prodU P (cseq P (extP P (gP P U') (elAt P (t : Int)))) (cseq P (extP P (gP P U') (elAt P (t : Int)))).length := by
    rcases Int.lt_or_eq_of_le h1.1 with h2 | h2
    · exact h2
    · exact absurd (h1.2 h2 _ (genP_mem (.inr rfl))) hn
  rcases h.up with h2 | ⟨h2, _⟩
  · omega
  · rw [h2] at hlt
    rw [h2]
    exact hlt
theorem GrI.fin {G : Grp P} {pr : List Int} {U U' : List (List Int)} (h : GrI G pr U U' (ordP P).toNat) (hu : SubB P U) (hd : prodU P U U.length ∣ hallO P pr) (hne : prodU P U U.length ≠ hallO P pr) : prodU P U U.length < prodU P U' U'.length := by
  rcases h.up with h1 | ⟨_, h2⟩
  · exact h1
  · obtain ⟨t, ht, hU⟩ := hall_use G pr hu hd hne
    exact absurd hU (h2 t ht)

theorem genP_snoc (P : Pr) (U : List (List Int)) (x : List Int) : genP P (fun z => z ∈ U ++ [x]) = extP P (gP P U) x := by
  unfold extP
  rw [genP_or]
  congr 1
  funext z
  rw [List.mem_append, List.mem_singleton]

theorem hall_pos (G : Grp P) (pr : List Int) : 1 ≤ hallO P pr ∧ hallO P pr ≤ 729 := hallTo_729 G.v pr _ (Nat.le_refl _)
theorem dvd_le {a b : Int} (h : a ∣ b) (hb : 1 ≤ b) : a ≤ b := Int.le_of_dvd (by omega) h
theorem emod_dvd {a b : Int} : a % b = 0 ↔ b ∣ a := ⟨Int.dvd_of_emod_eq_zero, Int.emod_eq_zero_of_dvd⟩
end

/-- the conjugates of u by the first t elements, each once -/
noncomputable def cjTo (P : Pr) (u : List (List Int)) (t : Nat) : List (List (List Int)) := (cnS P u [] t).1
theorem cjTo_len (P : Pr) (u : List (List Int)) (t : Nat) : (cjTo P u t).length ≤ t := by
  have h1 := cnS_length P u [] t
  have h2 := cnS_le P u [] t
  unfold cjTo
  simp only [List.length_nil] at h1
  omega
theorem cjTo_facts {P : Pr} (G : Grp P) {u : List (List Int)} (hu : SubB P u) (t : Nat) (ht : t ≤ (ordP P).toNat) : SeenC P (cjTo P u t) := G.cnS_seen hu ⟨fun v h => (by cases h), List.nodup_nil⟩ t ht
theorem cjTo_hall {P : Pr} (G : Grp P) {pr : List Int} {u : List (List Int)} (hu : HallP P pr u) (v : List (List Int)) : v ∈ cjTo P u (ordP P).toNat ↔ HallP P pr v := by
  unfold cjTo
  rw [cnS_mem, hall_all G hu]
  simp
/-- sorted, they are the ascending list -/
theorem hallL_of {P : Pr} (G : Grp P) {pr : List Int} {u : List (List Int)} (hu : HallP P pr u) {L' : List (List (List Int))} (hp : L'.Perm (cjTo P u (ordP P).toNat)) (hs : L'.Pairwise (fun x y => 0 ≤ cmpS P y x)) : HallL P pr L' := by
  have hS := cjTo_facts G hu.1 _ (Nat.le_refl _)
  have hn' : L'.Nodup := hp.symm.nodup hS.one
  have hmem : ∀ v ∈ L', SubB P v := fun v hv => hS.sub v (hp.mem_iff.1 hv)
  refine ⟨?_, fun v => (hp.mem_iff).trans (cjTo_hall G hu v)⟩
  refine List.pairwise_iff_getElem.2 fun i j hi hj hij => ?_
  have h1 := List.pairwise_iff_getElem.1 hs i j hi hj hij
  have h2 := List.pairwise_iff_getElem.1 hn' i j hi hj hij
  refine Classical.byContradiction fun hc => ?_
  have := subLt_total G (hmem _ (List.getElem_mem hi)) (hmem _ (List.getElem_mem hj)) h2 hc
  rw [← cmpS_neg] at this
  omega

end Go.Proofs.YtdklekdpdbjfiaaGreat

/- append(slices.Clone(rows), row) in a drawn region, in both orders. -/
namespace Go.Proofs.YtdklekdpdbjfiaaGreat
open Go.RowKit

theorem step_shq_app2 {ops : Array Oper} {o : Oper} {a : Act} {K : Act → World → Prop} {Q : Exit → Act → World → Prop} {Ex : Prop} {w : World} (hgd : o.guard = none) (s x : Operand)
    (ho : o.op = Op.call { callee := Callee.builtin Builtin.append, args := #[s, x], argTypes := #[23, 23] }) (bad : Nat → Prop) (B H : Nat) (v u : Value) (xs : List (List Int)) (y : List Int) (hs : a.eval s = v) (hown : ShQ bad B w v xs)
    (hu : Ints (fun k => ¬ bad k ∧ v.ownBlock ≠ some k) w u y) (hx : a.eval x = .slice (some ⟨H, 0, none⟩) 1 1) (hcell : w.cell? ⟨H, 0, none⟩ = some u) (hlen : xs.length ≤ 1000000) (hbase : B ≤ w.heap.size)
    (h : ∀ v' w', ShQ bad B w' v' (xs ++ [y]) → w.grownBy w' v.ownBlock → K (a.put o.dst v') w') :
    if Region.wanted o (yielded ops a.tmps) = true then Oper.wp Tryz.prog o a w K Q else Ex := by
  obtain ⟨vs, hl, hq, hr⟩ := hown
  have hlt := hq.lt
  have hone : u.oneCell' = true := rdInts.one hu
  refine step_q_app 23 22 (.slice none 0 0) 24 und_rows Tryz.infoRow rfl (by decide) hgd s x ho B v vs hs hq H u hx hcell hone (by omega) hbase ?_
  intro v' w' h1 hg2 h3
  have hnew : ∀ k, k < w.heap.size → v'.ownBlock = some k → v.ownBlock = some k := fun k hk e => by
    rcases h3 with h | h
    · rw [← h]; exact e
    · have := h k e; omega
  refine h v' w' ⟨vs ++ [u], by simp [hl], h1, fun i hi => ?_⟩ hg2
  simp only [List.length_append, List.length_singleton] at hi
  have hfr : ∀ k, (¬ bad k ∧ v.ownBlock ≠ some k) → k < w.heap.size → (¬ bad k ∧ v'.ownBlock ≠ some k) ∧ k < w'.heap.size ∧ w'.heap[k]? = w.heap[k]? := fun k hk hlt =>
    ⟨⟨hk.1, fun e => hk.2 (hnew k hlt e)⟩, Nat.lt_of_lt_of_le hlt hg2.size, hg2.block k hlt (fun e => hk.2 e.symm)⟩
  by_cases hlt : i < xs.length
  · rw [gt_append_left _ _ _ (by omega), gt_append_left _ _ _ hlt]
    exact Ints.mono (hr i hlt) hfr
  · have hi2 : i = xs.length := by omega
    subst hi2
    rw [gt_concat, ← hl, gt_concat]
    exact Ints.mono hu hfr

end Go.Proofs.YtdklekdpdbjfiaaGreat

/- What a run does to the count of draws: it never falls. -/
namespace Go.Proofs.YtdklekdpdbjfiaaGreat

theorem freeze_drawn (w : World) (a : Addr) (n : Nat) : (w.freeze a n).drawn = w.drawn := by
  unfold World.freeze; split <;> rfl

theorem ask_drawn {α : Type} (q : Ask α) : ∀ w : World, w.drawn ≤ (w.ask q).2.drawn := by
  induction q with
  | done a => intro w; exact Nat.le_refl _
  | ask what range k ih =>
    intro w
    unfold World.ask
    dsimp only
    split
    · exact ih _ _
    · exact Nat.le_trans (Nat.le_succ _) (ih _ { w with drawn := w.drawn + 1 })

theorem sys_drawn (w : World) (c : Sys) : w.drawn ≤ (w.sys c).2.drawn := by
  unfold World.sys
  have h := ask_drawn (Kernel.perform c w.os) w
  revert h
  generalize w.ask (Kernel.perform c w.os) = r
  intro h
  split
  · exact Nat.le_refl _
  · exact h

theorem viewStore_drawn (p : Program) (w : World) (at_ : Addr) (u : TypeId) (k : Addr) (v : Value) (atomic : Bool) (r : World × List Addr) (h : w.viewStore p at_ u k v atomic = .ok r) : r.1.drawn = w.drawn := by
  unfold World.viewStore at h
  simp only [bind, Except.bind, pure, Except.pure] at h
  repeat' split at h
  all_goals first | (cases h; done) | (cases h; rfl)

theorem farStore_drawn (p : Program) (w : World) (a : Addr) (v : Value) (atomic : Bool) (r : World × List Addr) (h : w.farStore p a v atomic = .ok r) : r.1.drawn = w.drawn := by
  unfold World.farStore at h
  split at h
  · split at h
    · rename_i hv
      cases h
      exact viewStore_drawn _ _ _ _ _ _ _ _ hv
    · cases h
  · cases h

theorem run_drawn {α : Type} (p : Program) (s : Sem α) : ∀ (w w' : World) (a : α), s.run p w = .ok a w' → w.drawn ≤ w'.drawn := by
  induction s with
  | pure a => intro w w' b h; cases h; exact Nat.le_refl _
  | load m a k ih =>
    intro w w' b h
    unfold Sem.run at h
    split at h
    · exact ih _ _ _ _ h
    · split at h
      · exact ih _ _ _ _ h
      · cases h
  | store m a v k ih =>
    intro w w' b h
    cases v <;> simp only [Sem.run] at h
    all_goals try (cases h; done)
    all_goals
      split at h
      · split at h
        · cases h
        · exact ih (w.setCell a _) _ _ h
      · split at h
        · rename_i w1 l hf
          have h1 := farStore_drawn _ _ _ _ _ _ hf
          have h2 := ih _ _ _ h
          dsimp only at h1
          omega
        · cases h
  | new o k ih => intro w w' b h; exact ih _ { w with heap := w.heap.push o } _ _ h
  | shape r k ih => intro w w' b h; exact ih _ _ _ _ h
  | freeze a n k ih => intro w w' b h; have := ih _ _ _ h; rw [freeze_drawn] at this; exact this
  | frozen a k ih => intro w w' b h; exact ih _ _ _ _ h
  | getObj r k ih =>
    intro w w' b h
    unfold Sem.run at h
    split at h
    · cases h
    · exact ih _ _ _ _ h
    · cases h
  | setObj r o k ih =>
    intro w w' b h
    unfold Sem.run at h
    split at h
    · cases h
    · exact ih { w with heap := w.heap.setIfInBounds r o } _ _ h
    · cases h
  | choose q k ih =>
    intro w w' b h
    unfold Sem.run at h
    split at h
    · exact ih _ _ _ _ h
    · exact Nat.le_trans (Nat.le_succ _) (ih _ _ _ _ h)
  | sys c k ih => intro w w' b h; exact Nat.le_trans (sys_drawn w c) (ih _ _ _ _ h)
  | program k ih => intro w w' b h; exact ih _ _ _ _ h
  | mark m k ih => intro w w' b h; exact ih _ _ _ h
  | halt hh => intro w w' b h; cases h

/-- an operation that hands back a value: its run never lets the count of draws fall -/
theorem wpList_drawn {P : Program} {ops : Array Oper} {rest : List Oper} {o : Oper} {a : Act} {Q : Exit → Act → World → Prop} {w : World} {Φ : Act → World → Prop} (hgd : o.guard = none)
    (hnc : ∀ f args w', (execOp a.eval o).run P w ≠ .ok (.enter f args) w') (hnr : ∀ r args w', (execOp a.eval o).run P w ≠ .ok (.row r args) w')
    (h : wpList P ops (fun e a' w' => e = .normal ∧ Φ a' w') [o] a w) (k : ∀ a' w', Φ a' w' → w.drawn ≤ w'.drawn → wpList P ops Q rest a' w') :
    wpList P ops Q (o :: rest) a w := by
  have hw : Region.wanted o (yielded ops a.tmps) = true := by simp [Region.wanted, hgd]
  unfold wpList at h ⊢
  rw [if_pos hw] at h ⊢
  rcases h with h | ⟨_, ⟨_, _, he, _⟩⟩
  · left
    unfold Oper.wp at h ⊢
    cases hr : (execOp a.eval o).run P w with
    | ok n w' =>
      have hd := run_drawn _ _ _ _ _ hr
      rw [hr] at h
      cases n with
      | value v => exact k _ _ h.2 hd
      | skip => exact k _ _ h.2 hd
      | defer d => exact k _ _ h.2 hd
      | enter f args => exact absurd hr (hnc _ _ _)
      | row r args => exact absurd hr (hnr _ _ _)
      | _ => exact h.elim
    | halt hh w' =>
      rw [hr] at h
      cases hh with
      | panic v => cases h.1
      | _ => exact h.elim
  · cases he

theorem run_value_only (P : Program) (s : Sem Value) (w w' : World) (n : Next) (h : Sem.run P (do pure (Next.value (← s))) w = .ok n w') : ∃ v, n = .value v := by
  rw [Sem.run_bind] at h
  cases hs : Sem.run P s w with
  | ok v w1 => rw [hs] at h; cases h; exact ⟨v, rfl⟩
  | halt hh w1 => rw [hs] at h; cases h

theorem append_value {P : Program} {o : Oper} {a : Act} {w w' : World} {n : Next} {args : Array Operand} {tys : Array TypeId} (ho : o.op = Op.call { callee := Callee.builtin Builtin.append, args := args, argTypes := tys })
    (h : (execOp a.eval o).run P w = .ok n w') : ∃ v, n = .value v := by
  unfold execOp at h
  rw [ho] at h
  exact run_value_only P (Builtin.append_ tys o.type (args.map a.eval)) w w' n h

/-- the builtin append does not let the count of draws fall -/
theorem append_drawn {P : Program} {ops : Array Oper} {rest : List Oper} {o : Oper} {a : Act} {Q : Exit → Act → World → Prop} {w : World} {Φ : Act → World → Prop} (hgd : o.guard = none) {args : Array Operand} {tys : Array TypeId}
    (ho : o.op = Op.call { callee := Callee.builtin Builtin.append, args := args, argTypes := tys })
    (h : wpList P ops (fun e a' w' => e = .normal ∧ Φ a' w') [o] a w) (k : ∀ a' w', Φ a' w' → w.drawn ≤ w'.drawn → wpList P ops Q rest a' w') :
    wpList P ops Q (o :: rest) a w :=
  wpList_drawn hgd (fun f x w' hr => by obtain ⟨v, hv⟩ := append_value ho hr; cases hv) (fun f x w' hr => by obtain ⟨v, hv⟩ := append_value ho hr; cases hv) h k

end Go.Proofs.YtdklekdpdbjfiaaGreat
