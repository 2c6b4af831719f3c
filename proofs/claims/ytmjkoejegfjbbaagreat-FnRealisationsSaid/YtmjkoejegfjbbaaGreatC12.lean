/-
  impl.sizeOf.
  Plain: the list of products, element by element (for impl.elementsOf).
  Plain: relators, their values under images, homomorphisms and preimages.
  Words: impl.abs, normalWord, invertWord, slices.Reverse; spec.l07Word, l06Invert.
  Words: spec.l07Word, l06Invert.
  The reference's coset representatives and membership: spec.l12Reduce, l12Sift, l12Has.
  The reference's membership and order: spec.l01Zero, l12Sift, l12Has, l12Order.
  Texts: spec.l07Text.
  Drawing: spec.CyclicPresentation.
  Drawing: spec.ParsePresentation, l07Table.
-/
import Derived.Test.YtmjkoejegfjbbaaGreatC1
import Derived.Test.YtmjkoejegfjbbaaGreatC10
import Derived.Test.YtmjkoejegfjbbaaGreatC11
import Derived.Test.YtmjkoejegfjbbaaGreatC3
import Derived.Test.YtmjkoejegfjbbaaGreatC4
import Derived.Test.YtmjkoejegfjbbaaGreatC5
import Derived.Test.YtmjkoejegfjbbaaGreatC8
import Derived.Test.YtmjkoejegfjbbaaGreatC9
import Derived.Deep.RegionHeld3
namespace Go.Proofs.YtmjkoejegfjbbaaGreat
open Go.RowKit
def prodU (P : Pr) (U : List (List Int)) : Nat → Int
 | 0 => 1
 | k + 1 => prodU P U k * gt P.orders (dep (gt U k))
theorem prodU_le {P : Pr} (hP : Valid P) {U : List (List Int)} (hU : SeqOk P U) : ∀ k m, k ≤ U.length → (∀ j, j < k → dep (gt U j) < m) → m ≤ P.orders.length → 1 ≤ prodU P U k ∧ prodU P U k ≤ prodTo P.orders m := by
 intro k
 induction k with
 | zero => intro m _ _ hm; exact ⟨by simp [prodU], prodTo_pos m (fun i hi => hP.pos i (by omega))⟩
 | succ k ih =>
  intro m hk hj hm
  have hd := hj k (by omega)
  have hlt : k < U.length := by omega
  obtain ⟨h1, h2⟩ := ih (dep (gt U k)) (by omega) (fun j hj => hU.2 j k hj hlt) (by omega)
  have ho := hP.ord7 (dep (gt U k)) (by omega)
  have h3 : prodU P U k * gt P.orders (dep (gt U k)) ≤ prodTo P.orders (dep (gt U k)) * gt P.orders (dep (gt U k)) := Int.mul_le_mul_of_nonneg_right h2 (by omega)
  have h4 : prodTo P.orders (dep (gt U k) + 1) ≤ prodTo P.orders m := prodTo_mono _ _ (by omega) (fun i hi => hP.pos i (by omega))
  have h5 : 1 * 1 ≤ prodU P U k * gt P.orders (dep (gt U k)) := Int.mul_le_mul h1 (by omega) (by omega) (by omega)
  simp only [prodTo] at h4
  simp only [prodU]
  exact ⟨by omega, by omega⟩
theorem prodU_729 {P : Pr} (hP : Valid P) {U : List (List Int)} (hU : SeqOk P U) (k : Nat) (hk : k ≤ U.length) : 1 ≤ prodU P U k ∧ prodU P U k ≤ 729 := by
 obtain ⟨h1, h2⟩ := prodU_le hP hU k P.orders.length hk (fun j hj => (hU.1 _ (gtMem (by omega))).2.1) (Nat.le_refl _)
 have := hP.le729
 exact ⟨h1, by omega⟩
set_option maxHeartbeats 1000000 in
theorem sizeOf_ok (P : Pr) (hP : Valid P) (w : World) (p uv : Value) (U : List (List Int)) (Sp Su : Nat → Prop) (hp : PresP Sp w p P) (hu : Rows2 Su w uv U) (hU : SeqOk P U) (hl : U.length ≤ 100) :
  Calls Tryz.prog 214 #[p, uv] w (Ret w fun _ v => v = .int .i64 (prodU P U U.length)) := by
 have hn6 := hP.n6
 obtain ⟨pb, po, rfl⟩ := hp.shape
 obtain ⟨ao, capo, hco0, hoi⟩ := hp.ordAt
 obtain ⟨au, capu, rfl, _, _⟩ := Sl.shape hu
 have hUz : ∀ z ∈ U, dep z < z.length := fun z hz => by have := hU.1 z hz; rw [this.1.1]; exact this.2.1
 have HU := Lib.hid hU; clear hU
 go_enter Tryz.func214, Tryz.ntmps214
 go_wp2_with fail
 refine Calls.mono (pivots_ok _ U w Su hu hUz (by omega)) ?_
 rintro e1 w1 ⟨pv, rfl, hg1, hV1⟩
 have hpvs : ∃ az capz, pv = .slice az U.length capz := by
  rcases hV1.form with ⟨h1, h2⟩ | ⟨g, cp, h1, _⟩
  ·have h3 : U.length = 0 := by unfold depV at h2; rw [List.map_eq_nil_iff] at h2; rw [h2]; rfl
   exact ⟨none, 0, by rw [h1, h3]⟩
  ·exact ⟨_, _, by rw [h1]; unfold depV; rw [List.length_map]⟩
 obtain ⟨ap, capp, rfl⟩ := hpvs
 go_wp2
 go_loopw [5, 11] (fun mv iv wr => ∃ i : Nat, mv = .int .i64 (prodU P U i) ∧ iv = .int .i64 i ∧ i ≤ U.length ∧ w1 = wr) (fun _ iv _ => U.length - (intOf iv).toNat)
 case atStart => exact ⟨0, rfl, rfl, by omega, rfl⟩
 case round =>
  obtain ⟨i, rfl, rfl, hi, rfl⟩ := hrel
  by_cases hlt : i < U.length
  ·have hlt' : (i : Int) < U.length := by omega
   have hdi : gt (depV U) i = .int .i64 (dep (gt U i)) := by unfold depV; rw [gt_map _ _ _ hlt]
   have hpf : ∃ g, ap = some ⟨g, 0, none⟩ := by
    rcases hV1.form with ⟨h1, h2⟩ | ⟨g, cp, h1, _⟩
    ·unfold depV at h2; rw [List.map_eq_nil_iff] at h2; rw [h2] at hlt; simp at hlt
    ·simp only [Value.slice.injEq] at h1; exact ⟨g, h1.1⟩
   obtain ⟨gp, rfl⟩ := hpf
   have hcp := hV1.cell i (by unfold depV; rw [List.length_map]; exact hlt)
   rw [hdi] at hcp
   clear hdi
   have hst : prodU P U (i + 1) = prodU P U i * gt P.orders (dep (gt U i)) := rfl
   have hb := prodU_729 hP HU.out (i + 1) hlt
   rw [hst] at hb
   obtain ⟨d, hd⟩ : ∃ d, d = dep (gt U i) := ⟨_, rfl⟩
   rw [← hd] at hcp hst hb
   have hdn : d < P.orders.length := by rw [hd]; exact (HU.out.1 _ (gtMem hlt)).2.1
   clear hd
   have hdn' : (d : Int) < P.orders.length := by omega
   obtain ⟨b, off, rfl, _, _, hco⟩ := Ints.at (hoi.ext hg1) d hdn
   have hc0 := hg1.cell hco0 (by simp)
   have hw : IntKind.i64.wrap (prodU P U i * gt P.orders d) = prodU P U i * gt P.orders d := IntWalk.i64_in _ (by omega)
   have HS := Lib.hid hst; clear hst hb
   go_wp2
   go_roundw
   case rel => exact ⟨i + 1, by rw [HS.out], by go_num, by omega, trivial⟩
   case measure => simp [intOf]; omega
  ·have hie : i = U.length := by omega
   subst hie
   go_wp2
   go_ret
   exact ⟨_, rfl, hg1, rfl⟩
end Go.Proofs.YtmjkoejegfjbbaaGreat
namespace Go.Proofs.YtmjkoejegfjbbaaGreat
theorem stepE_len (P : Pr) (u : List Int) (o : Nat) (x : List Int) : (stepE P u o x).length = o := by unfold stepE; simp
theorem flatMap_len (P : Pr) (u : List Int) (o : Nat) (l : List (List Int)) : (l.flatMap (stepE P u o)).length = l.length * o := by
 induction l with
 | nil => simp
 | cons x l ih => rw [List.flatMap_cons, List.length_append, ih, stepE_len, List.length_cons, Nat.add_mul]; omega
theorem elsP_len {P : Pr} (hP : Valid P) {U : List (List Int)} (hU : SeqOk P U) (k : Nat) (hk : k ≤ U.length) : ((elsP P U k).length : Int) = prodU P U k := by
 induction k with
 | zero => simp [elsP, prodU]
 | succ k ih =>
  have ih := ih (by omega)
  have ho := hP.ord7 (dep (gt U k)) (hU.1 _ (gtMem (by omega))).2.1
  simp only [elsP, prodU]
  rw [flatMap_len, Int.natCast_mul, ih, show (((gt P.orders (dep (gt U k))).toNat : Nat) : Int) = gt P.orders (dep (gt U k)) by omega]
end Go.Proofs.YtmjkoejegfjbbaaGreat
namespace Go.Proofs.YtmjkoejegfjbbaaGreat
def nWord (e : List Int) : Nat → List Int
 | 0 => []
 | k + 1 => nWord e k ++ List.replicate (gt e k).toNat ((k : Int) + 1)
theorem nWord_len {e : List Int} (h : ∀ i, gt e i ≤ 7) : ∀ k, (nWord e k).length ≤ 7 * k
 | 0 => by simp [nWord]
 | k + 1 => by
  have := nWord_len h k
  have := h k
  simp only [nWord, List.length_append, List.length_replicate]; omega
section
variable {Q : Pr} (G : Grp Q)
include G
end
end Go.Proofs.YtmjkoejegfjbbaaGreat
namespace Go.Proofs.YtmjkoejegfjbbaaGreat
open Go.RowKit
theorem ints_lit (w : World) (y : Int) : Ints Any (w.alloc (.cells #[.int .i64 y] 2)) (.slice (some ⟨w.heap.size, 0, none⟩) 1 1) [y] := by
 refine ⟨some ⟨w.heap.size, 0, none⟩, 1, rfl, ⟨by simp, by simp, fun h => by cases h⟩, fun i hi => ⟨w.heap.size, 0, .int .i64 y, rfl, trivial, by simp, ?_, ?_⟩⟩
 ·have : i = 0 := by simpa using hi
  subst this
  rw [World.cell?_alloc_at _ _ _ _ rfl]; rfl
 ·have : i = 0 := by simpa using hi
  subst this; rfl
end Go.Proofs.YtmjkoejegfjbbaaGreat
namespace Go.Proofs.YtmjkoejegfjbbaaGreat
open Go.RowKit
set_option maxHeartbeats 1000000 in
theorem l07Word_ok (w : World) (v : Value) (e : List Int) (S : Nat → Prop) (hv : Ints S w v e) (hn : e.length ≤ 6) (he : ∀ i, i < e.length → 0 ≤ gt e i ∧ gt e i ≤ 7) :
  Calls Tryz.prog 142 #[v] w (Ret w fun w' r => Own w.heap.size w' r (nWord e e.length)) := by
 obtain ⟨a, cap, rfl, _, _⟩ := hv.shape
 have hb : ∀ i, gt e i ≤ 7 := fun i => by
  by_cases h : i < e.length
  ·exact (he i h).2
  ·rw [gt_big (by omega)]; decide
 have HB := Lib.hid (And.intro hb he); clear hb he
 go_enter Tryz.func142, Tryz.ntmps142
 go_wp2
 go_loopw [3, 4] (fun ov iv wr => ∃ (i : Nat) (v3 : Value), v3 = ov ∧ iv = .int .i64 i ∧ i ≤ e.length ∧ Ext w wr ∧ Own w.heap.size wr v3 (nWord e i)) (fun _ iv _ => e.length - (intOf iv).toNat)
 case atStart => exact ⟨0, _, rfl, rfl, by omega, World.grownBy_alloc _ _ _, World.ownsRow_lit w #[] 0 (Nat.le_refl _) (by decide) rfl⟩
 case round =>
  obtain ⟨i, v3, rfl, rfl, hi, hg, hO⟩ := hrel
  by_cases hlt : i < e.length
  ·have hlt' : (i : Int) < e.length := by omega
   obtain ⟨b, off, rfl, _, _, hc⟩ := Ints.at hv i hlt
   obtain ⟨x, hx⟩ : ∃ x, x = (gt e i).toNat := ⟨_, rfl⟩
   have hx0 := HB.out.2 i hlt
   have hxe : gt e i = (x : Int) := by omega
   have hx7 : x ≤ 7 := by omega
   have hnw : nWord e (i + 1) = nWord e i ++ List.replicate x ((i : Int) + 1) := by rw [nWord, hx]
   have hwl := nWord_len HB.out.1 i
   rw [hxe] at hc
   have HX := Lib.hid (And.intro hnw hwl); clear hnw hwl hx0 hxe hx
   go_wp2
   have hO0 : Own w.heap.size wr v3 (nWord e i ++ List.replicate 0 ((i : Int) + 1)) := by simpa using hO
   clear hO
   go_loopw [3, 5] (fun ov kv wr => ∃ (k : Nat) (v4 : Value), v4 = ov ∧ kv = .int .i64 k ∧ k ≤ x ∧ Ext w wr ∧ Own w.heap.size wr v4 (nWord e i ++ List.replicate k ((i : Int) + 1))) (fun _ kv _ => x - (intOf kv).toNat)
   case atStart => exact ⟨0, _, rfl, rfl, by omega, hg, hO0⟩
   case round =>
    clear hO0 hg
    obtain ⟨k, v4, rfl, rfl, hk, hg, hO⟩ := hrel
    have hcr := hg.cell hc (by simp)
    by_cases hltk : k < x
    ·have hltk' : (k : Int) < x := by omega
     have hlen : (nWord e i ++ List.replicate k ((i : Int) + 1)).length ≤ 1000 := by rw [List.length_append, List.length_replicate]; have := HX.out.2; omega
     have HL := Lib.hid hlen; clear hlen
     go_wp2_with (first | (at_builtin; refine wp_app_ints rfl _ _ rfl w.heap.size v4 _ rfl (hO.ext0 (World.grownBy_alloc _ _ _)) _ _ rfl Any (ints_lit wr _) (by have := HL.out; simp only [List.length_cons, List.length_nil]; omega) (by have := hg.size; simp; omega) ?_; intro v5 w5 hO5 hg5 _) | fail)
     have hg5' : wr.grownBy w5 v4.ownBlock := grown_trans (grown_of_ext _ (World.grownBy_alloc _ _ _)) hg5
     have hge : Ext w w5 := grown_own hg hg5' (fun b hb hlt => by have := (hO.lt b hb).1; omega)
     rw [List.append_assoc, ← List.replicate_succ'] at hO5
     clear hO hg5 hg5' hcr
     go_roundw
     case rel => exact ⟨k + 1, v5, rfl, by go_num, by omega, hge, hO5⟩
     case measure => simp [intOf]; omega
    ·have hke : k = x := by omega
     subst hke
     rw [← HX.out.1] at hO
     go_wp2
     clear hcr
     go_roundw
     case rel => exact ⟨i + 1, v4, rfl, by go_num, by omega, hg, hO⟩
     case measure => simp [intOf]; omega
  ·have hie : i = e.length := by omega
   subst hie
   go_wp2
   go_ret
   exact ⟨_, rfl, hg, hO⟩
end Go.Proofs.YtmjkoejegfjbbaaGreat
namespace Go.Proofs.YtmjkoejegfjbbaaGreat
open Go.RowKit
set_option maxRecDepth 100000 in
set_option maxHeartbeats 2000000 in
theorem l12Reduce_ok (P : Pr) (G : Grp P) (w : World) (pv tv xv : Value) (b : List (List Int)) (X : List Int) (H : List Int → Prop) (Sp Sb Sx : Nat → Prop) (hpv : PresV Sp w pv P) (ht : Rows2 Sb w tv b) (hx : Ints Sx w xv X) (hX : Vec P.orders X)
  (hlb : b.length = P.orders.length) (hI : Ind P H (gt b)) :
  Calls Tryz.prog 383 #[pv, tv, xv] w (Ret w fun w' v => ∃ Y, Own w.heap.size w' v Y ∧ RedTo P H b X P.orders.length Y) := by
 have hP := G.v
 have hn6 := hP.n6
 obtain ⟨vo, vp, vc, rfl, h3⟩ := hpv
 have hp0 := PresP.box h3 39
 have hg0 : Ext w (w.alloc (.cells #[vo, vp, vc] 39)) := World.grownBy_alloc _ _ _
 have hx0 := hx.ext hg0
 have ht0 := Rows2.ext ht hg0
 have hXl : X.length ≤ 6 := by rw [hX.1]; omega
 have hs0 : (w.alloc (.cells #[vo, vp, vc] 39)).heap.size = w.heap.size + 1 := by simp
 obtain ⟨at_, capt, hvt, _, _⟩ := Sl.shape ht
 rw [hlb] at hvt
 subst hvt
 have HI := Lib.hid (And.intro hI (And.intro hX hlb)); clear hI hX hlb
 obtain ⟨vo6, vp6, vc6, _, _, hc0, hc1, hc2, h36⟩ := hp0.at
 simp only [Nat.zero_add] at hc1 hc2
 clear hp0
 go_enter Tryz.func383, Tryz.ntmps383
 go_wp2_with fail
 have HS := Lib.hid hs0; clear hs0
 generalize hw0 : w.alloc (.cells #[vo, vp, vc] 39) = w0 at *
 clear hw0
 refine Calls.mono (l01Own_ok w0 xv X Sx hx0 (by omega)) ?_
 rintro e1 w1 ⟨ov, rfl, hg1, hO1⟩
 go_wp2
 go_loopw [7, 8] (fun ov iv wr => ∃ (d : Nat) (Y : List Int), iv = .int .i64 d ∧ d ≤ P.orders.length ∧ Ext w0 wr ∧ Own w.heap.size wr ov Y ∧ Hid (RedTo P H b X d Y)) (fun _ iv _ => P.orders.length - (intOf iv).toNat)
 case atStart => exact ⟨0, X, rfl, by omega, hg1, hO1.weak (by have := HS.out; omega), Lib.hid (G.redTo_zero HI.out.1.sub HI.out.2.1)⟩
 case round =>
  clear hO1
  obtain ⟨d, Y, rfl, hd, hg, hO, hR⟩ := hrel
  have hYV := hR.out.vec
  have hYl : Y.length = P.orders.length := hYV.1
  have hYi := hO.ints (by omega)
  obtain ⟨ay, capy, hvy, _, _⟩ := hYi.shape
  rw [hYl] at hvy
  subst hvy
  by_cases hlt : d < P.orders.length
  ·have hlt' : (d : Int) < P.orders.length := by omega
   obtain ⟨bb, off, a2, cap2, rfl, _, _, hc, hr⟩ := Rows2.at (Rows2.ext ht0 hg) d (by rw [HI.out.2.2]; exact hlt)
   obtain ⟨by_, oy, rfl, _, _, hcy⟩ := Ints.at hYi d (by omega)
   by_cases hb : gt b d = []
   ·have hbl : ¬ (0 : Int) < (gt b d).length := by rw [hb]; simp
    have hR2 := Lib.hid (hR.out.skip (.inl hb)); clear hb hYV
    go_wp2
    go_roundw
    case rel => exact ⟨d + 1, Y, by go_num, by omega, hg, hO, hR2⟩
    case measure => simp [intOf]; omega
   ·have hbl : (0 : Int) < (gt b d).length := by
     have : 0 < (gt b d).length := List.length_pos_iff.2 hb
     omega
    by_cases hy : gt Y d = 0
    ·have hyb : (gt Y d != 0) = false := by simp [hy]
     have hR2 := Lib.hid (hR.out.skip (.inr hy)); clear hb hYV hy
     go_wp2
     go_roundw
     case rel => exact ⟨d + 1, Y, by go_num, by omega, hg, hO, hR2⟩
     case measure => simp [intOf]; omega
    ·have hyb : (gt Y d != 0) = true := by simp [hy]
     have hyd := hYV.2 d hlt
     have ho := hP.ord7 d hlt
     have hwn : IntKind.i64.wrap (-(gt Y d)) = -(gt Y d) := IntWalk.i64_in _ (by omega)
     obtain ⟨m1, m2, m3⟩ := HI.out.1.mem d hlt hb
     have hR2 := Lib.hid (G.redTo_step HI.out.1 HI.out.2.1 hlt hb hR.out)
     have hpV := G.pwZ_vec m2.1 (-(gt Y d))
     have hpl : (pwZ P (gt b d) (-(gt Y d))).length ≤ 6 := by rw [hpV.1]; omega
     have HB := Lib.hid (And.intro m2.1 (And.intro hpV (And.intro hpl (And.intro hYV (And.intro hyd ho))))); clear m1 m2 m3 hpV hpl hYV hyd ho hb hy
     have e1 : ∀ w', Ext wr w' → w'.cell? ⟨w.heap.size, 0, none⟩ = some vo6 := fun w' h => (grown_trans hg h).cell hc0 (by simp)
     have e2 : ∀ w', Ext wr w' → w'.cell? ⟨w.heap.size, 1, none⟩ = some vp6 := fun w' h => (grown_trans hg h).cell hc1 (by simp)
     have e3 : ∀ w', Ext wr w' → w'.cell? ⟨w.heap.size, 2, none⟩ = some vc6 := fun w' h => (grown_trans hg h).cell hc2 (by simp)
     have e4 : ∀ w', Ext wr w' → w'.cell? ⟨bb, off + d, none⟩ = some (.slice a2 (gt b d).length cap2) := fun w' h => h.cell hc (by simp)
     have e5 : ∀ w', Ext wr w' → w'.cell? ⟨by_, oy + d, none⟩ = some (.int .i64 (gt Y d)) := fun w' h => h.cell hcy (by simp)
     go_wp2
     clear hc hcy
     go_region_held3 (fun w' => Ext wr w') (first | exact grown_drew _ _ | assumption)
      (first
       | (go_at_call 319; refine Calls.mono (Calls.rel (w0 := wr) (by assumption) (l10Pow_ok P G _ _ _ (gt b d) _ Any Any ⟨_, _, _, rfl, Pres3.ext (Pres3.ext h36 hg) (by assumption)⟩ (Ints.sub (Ints.ext hr (by assumption)) (fun _ _ _ => trivial)) HB.out.1 (by have := HB.out.2.2.2.2.1; have := HB.out.2.2.2.2.2; omega))) ?_; rintro eA wA ⟨vA, rfl, hgA, hsA, hOA⟩; have hOA2 := hOA.ints (by have := HB.out.2.2.1; omega))
       | (go_at_call 211; refine Calls.mono (Calls.rel (w0 := wr) (by assumption) (l08Mul_ok P hP _ _ _ _ Y _ Any Any Any ⟨_, _, _, rfl, Pres3.ext (Pres3.ext h36 hg) (by assumption)⟩ (Ints.sub (Ints.ext hYi (by assumption)) (fun _ _ _ => trivial)) hOA2 HB.out.2.2.2.1 HB.out.2.1)) ?_; rintro eB wB ⟨vB, rfl, hgB, hsB, hOB⟩))
     clear e1 e2 e3 e4 e5
     go_wp2
     go_roundw
     case rel => exact ⟨d + 1, _, by go_num, by omega, grown_trans hg hgB, hOB.weak (by have := hg.size; have := HS.out; omega), hR2⟩
     case measure => simp [intOf]; omega
  ·have hde : d = P.orders.length := by omega
   subst hde
   go_wp2
   go_ret
   exact ⟨_, rfl, grown_trans hg0 hg, Y, hO, hR.out⟩
end Go.Proofs.YtmjkoejegfjbbaaGreat
namespace Go.Proofs.YtmjkoejegfjbbaaGreat
open Go.RowKit
theorem l01Zero_ok (v : Value) (l : List Int) (w : World) (S : Nat → Prop) (h : Ints S w v l) :
  Calls Tryz.prog 300 #[v] w fun e w' => e = .returned (.bool (isZeroB l)) ∧ w = w' := by
 obtain ⟨a, cap, rfl, _, _⟩ := h.shape
 go_enter Tryz.func300, Tryz.ntmps300
 go_wp2
 go_loop [3] (fun i => ∃ k : Nat, i = .int .i64 k ∧ k ≤ l.length ∧ ∀ j, j < k → gt l j = 0) (fun i => l.length - (intOf i).toNat)
 case atStart => exact ⟨0, rfl, by omega, fun j hj => by omega⟩
 case round =>
  obtain ⟨k, rfl, hk, hz⟩ := hrel
  have HZ := Lib.hid hz; clear hz
  by_cases hlt : k < l.length
  ·obtain ⟨b, off, rfl, _, _, hc⟩ := Ints.at h k hlt
   by_cases hx : gt l k = 0
   ·have hb : (gt l k != 0) = false := by simp [hx]
    have HX := Lib.hid hx; clear hx
    go_wp2
    go_round
    case rel => exact ⟨k + 1, by go_num, by omega, fun j hj => by
     rcases Nat.lt_succ_iff_lt_or_eq.1 hj with h1 | h1
     ·exact HZ.out j h1
     ·rw [h1]; exact HX.out⟩
    case measure => simp [intOf]; omega
   ·have hb : (gt l k != 0) = true := by simp [hx]
    have he : isZeroB l = false := by
     cases hq : isZeroB l with
     | false => rfl
     | true => exact absurd (isZeroB_true.1 hq k hlt) hx
    have HE := Lib.hid he; clear he hx
    go_wp2
    go_ret
    exact ⟨by rw [HE.out]; rfl, rfl⟩
  ·have he : isZeroB l = true := isZeroB_true.2 (fun j hj => HZ.out j (by omega))
   have HE := Lib.hid he; clear he
   go_wp2
   go_ret
   exact ⟨by rw [HE.out]; rfl, rfl⟩
set_option maxRecDepth 100000 in
set_option maxHeartbeats 2000000 in
theorem l12Sift_ok (P : Pr) (G : Grp P) (w : World) (pv uv xv : Value) (H : List Int → Prop) (X : List Int) (Sp Su Sx : Nat → Prop) (S : Sub P H) (hpv : PresV Sp w pv P) (hu : Rows2 Su w uv (cseq P H)) (hx : Ints Sx w xv X) (hX : Vec P.orders X) :
  Calls Tryz.prog 330 #[pv, uv, xv] w (Ret w fun w' v => ∃ Y, Own w.heap.size w' v Y ∧ Rep P H (gt (tabTo (cseq P H) P.orders.length (cseq P H).length)) X Y) := by
 have hP := G.v
 have hn6 := hP.n6
 have hl := G.cseq_len S
 have hsq := (G.seq_facts S).1
 have hI := G.ind_tab S
 obtain ⟨vo, vp, vc, rfl, h3⟩ := hpv
 have hp0 := PresP.box h3 39
 have hg0 : Ext w (w.alloc (.cells #[vo, vp, vc] 39)) := World.grownBy_alloc _ _ _
 have hu0 := Rows2.ext hu hg0
 have hx0 := hx.ext hg0
 have hs0 : (w.alloc (.cells #[vo, vp, vc] 39)).heap.size = w.heap.size + 1 := by simp
 obtain ⟨au, capu, hvu, _, _⟩ := Sl.shape hu
 obtain ⟨ax, capx, hvx, _, _⟩ := hx.shape
 subst hvu hvx
 obtain ⟨vo6, vp6, vc6, _, _, hc0, hc1, hc2, h36⟩ := hp0.at
 simp only [Nat.zero_add] at hc1 hc2
 have HI := Lib.hid (And.intro hsq (And.intro hI (And.intro hX hl))); clear hsq hI hX hl hp0 hu hx
 go_enter Tryz.func330, Tryz.ntmps330
 go_wp2
 have HS := Lib.hid hs0; clear hs0
 generalize hw0 : w.alloc (.cells #[vo, vp, vc] 39) = w0 at *
 clear hw0
 have e1 : ∀ w', Ext w0 w' → w'.cell? ⟨w.heap.size, 0, none⟩ = some vo6 := fun w' h => h.cell hc0 (by simp)
 have e2 : ∀ w', Ext w0 w' → w'.cell? ⟨w.heap.size, 1, none⟩ = some vp6 := fun w' h => h.cell hc1 (by simp)
 have e3 : ∀ w', Ext w0 w' → w'.cell? ⟨w.heap.size, 2, none⟩ = some vc6 := fun w' h => h.cell hc2 (by simp)
 clear hc0 hc1 hc2
 go_region_held3 (fun w' => Ext w0 w') (first | exact grown_drew _ _ | assumption)
  (first
   | (go_at_call 375; refine Calls.mono (Calls.rel (w0 := w0) (by assumption) (l12Table_ok P hP _ _ _ (cseq P H) Any Any ⟨_, _, _, rfl, Pres3.ext h36 (by assumption)⟩ (Rows2.sub (Rows2.ext hu0 (by assumption)) (fun _ _ _ => trivial)) HI.out.1 (by have := HI.out.2.2.2; omega))) ?_; rintro eA wA ⟨tA, rfl, hgA, hsA, hTA⟩; obtain ⟨aA, capA, hvA, _, _⟩ := Sl.shape hTA; subst hvA)
   | (go_at_call 383; refine Calls.mono (Calls.rel (w0 := w0) (by assumption) (l12Reduce_ok P G _ _ _ _ _ X H Any Any Any ⟨_, _, _, rfl, Pres3.ext h36 (by assumption)⟩ hTA (Ints.sub (Ints.ext hx0 (by assumption)) (fun _ _ _ => trivial)) HI.out.2.2.1 (tabTo_len _ _ _) HI.out.2.1)) ?_; rintro eB wB ⟨vB, rfl, hgB, hsB, Y, hOB, hRB⟩))
 clear e1 e2 e3
 have HR := Lib.hid hRB; clear hRB
 go_wp2
 go_ret
 exact ⟨_, rfl, grown_trans hg0 hgB, Y, hOB.weak (by have := HS.out; omega), HR.out.rep⟩
set_option maxRecDepth 100000 in
set_option maxHeartbeats 2000000 in
theorem l12Order_ok (P : Pr) (hP : Valid P) (w : World) (pv uv : Value) (U : List (List Int)) (Sp Su : Nat → Prop) (hpv : PresV Sp w pv P) (hu : Rows2 Su w uv U) (hU : SeqOk P U) (hl : U.length ≤ 100) :
  Calls Tryz.prog 329 #[pv, uv] w (Ret w fun _ v => v = .int .i64 (prodU P U U.length)) := by
 have hn6 := hP.n6
 obtain ⟨vo, vp, vc, rfl, h3⟩ := hpv
 have hp0 := PresP.box h3 39
 have hg0 : Ext w (w.alloc (.cells #[vo, vp, vc] 39)) := World.grownBy_alloc _ _ _
 have hu0 := Rows2.ext hu hg0
 obtain ⟨ao, capo, hco, hoi⟩ := hp0.ordAt
 obtain ⟨au, capu, rfl, _, _⟩ := Sl.shape hu
 have HU := Lib.hid hU; clear hU hp0 hu
 go_enter Tryz.func329, Tryz.ntmps329
 go_wp2
 generalize hw0 : w.alloc (.cells #[vo, vp, vc] 39) = w0 at *
 clear hw0
 go_loopw [5, 6] (fun mv iv wr => ∃ i : Nat, mv = .int .i64 (prodU P U i) ∧ iv = .int .i64 i ∧ i ≤ U.length ∧ Ext w0 wr) (fun _ iv _ => U.length - (intOf iv).toNat)
 case atStart => exact ⟨0, rfl, rfl, by omega, Ext.refl _⟩
 case round =>
  obtain ⟨i, rfl, rfl, hi, hg⟩ := hrel
  by_cases hlt : i < U.length
  ·have hlt' : (i : Int) < U.length := by omega
   obtain ⟨b, off, a2, cap2, rfl, _, _, hc, hr⟩ := Rows2.at (Rows2.ext hu0 hg) i hlt
   have hst : prodU P U (i + 1) = prodU P U i * gt P.orders (dep (gt U i)) := rfl
   have hb := prodU_729 hP HU.out (i + 1) hlt
   rw [hst] at hb
   obtain ⟨z, hz⟩ : ∃ z, z = gt U i := ⟨_, rfl⟩
   rw [← hz] at hc hr hst hb
   obtain ⟨d, hd⟩ : ∃ d, d = dep z := ⟨_, rfl⟩
   rw [← hd] at hst hb
   have hdn : d < P.orders.length := by rw [hd, hz]; exact (HU.out.1 _ (gtMem hlt)).2.1
   have HD := Lib.hid (And.intro hd hz); clear hd hz
   have hdn' : (d : Int) < P.orders.length := by omega
   obtain ⟨bo, oo, rfl, _, _, hcd⟩ := Ints.at (hoi.ext hg) d hdn
   have hw : IntKind.i64.wrap (prodU P U i * gt P.orders d) = prodU P U i * gt P.orders d := IntWalk.i64_in _ (by omega)
   have HS := Lib.hid hst; clear hst hb
   have e1 : ∀ w', Ext wr w' → w'.cell? ⟨w.heap.size, 0, none⟩ = some (.slice (some ⟨bo, oo, none⟩) P.orders.length capo) := fun w' h => (grown_trans hg h).cell hco (by simp)
   have e2 : ∀ w', Ext wr w' → w'.cell? ⟨b, off + i, none⟩ = some (.slice a2 z.length cap2) := fun w' h => h.cell hc (by simp)
   have e3 : ∀ w', Ext wr w' → w'.cell? ⟨bo, oo + d, none⟩ = some (.int .i64 (gt P.orders d)) := fun w' h => h.cell hcd (by simp)
   clear hc hcd
   go_wp2
   go_region_held3 (fun w' => Ext wr w') (first | exact grown_drew _ _ | assumption)
    (first
     | (go_at_call 382; refine Calls.mono (Calls.rel (w0 := wr) (by first | exact grown_drew _ _ | assumption) (l12Depth_ok _ z _ Any (Ints.sub (Ints.ext hr (by first | exact grown_drew _ _ | assumption)) (fun _ _ _ => trivial)))) ?_; rintro eE wE ⟨vE, rfl, hgE, hsE, hvE⟩; rw [← HD.out.1] at hvE; subst hvE))
   clear e1 e2 e3
   go_wp2
   go_roundw
   case rel => exact ⟨i + 1, by rw [HS.out], by go_num, by omega, grown_trans hg hgE⟩
   case measure => simp [intOf]; omega
  ·have hie : i = U.length := by omega
   subst hie
   go_wp2
   go_ret
   exact ⟨_, rfl, grown_trans hg0 hg, rfl⟩
end Go.Proofs.YtmjkoejegfjbbaaGreat
namespace Go.Proofs.YtmjkoejegfjbbaaGreat
open Go.RowKit
attribute [local go_sem ↓] Go.wp_at_zero Go.wp_at_succ
theorem Own.ints' {B : Nat} {w : World} {v : Value} {l : List Int} (h : Own B w v l) (hl : l.length ≤ 1000000) : Ints Any w v l := ints_of_own h (by omega) (fun _ _ => trivial)
theorem strOfNums_app (a b : List Int) : strOfNums (a ++ b) = strOfNums a ++ strOfNums b := by
 apply ByteArray.ext
 simp [strOfNums, ByteArray.data_append]
def ordT (o : List Int) : Nat → List Int
 | 0 => []
 | k + 1 => ordT o k ++ ((if 0 < k then [32] else []) ++ [48 + gt o k])
def powE (P : Pr) (k : Nat) : List Int := [59, 32] ++ ([97 + (k : Int)] ++ ([94] ++ ([48 + gt P.orders k] ++ ([61] ++ wtx (nWord (gt P.powers k) P.orders.length)))))
def powT (P : Pr) : Nat → List Int
 | 0 => []
 | k + 1 => powT P k ++ (if isZeroB (gt P.powers k) then [] else powE P k)
def cnjE (P : Pr) (i k : Nat) : List Int := [59, 32] ++ ([97 + ((i + 1 + k : Nat) : Int)] ++ ([94] ++ ([97 + (i : Int)] ++ ([61] ++ wtx (nWord (gt (gt P.conj i) k) P.orders.length)))))
def cnjR (P : Pr) (i : Nat) : Nat → List Int
 | 0 => []
 | k + 1 => cnjR P i k ++ (if eqB (gt (gt P.conj i) k) (unitV P.orders.length (i + 1 + k)) then [] else cnjE P i k)
def cnjT (P : Pr) : Nat → List Int
 | 0 => []
 | i + 1 => cnjT P i ++ cnjR P i (P.orders.length - 1 - i)
def textP (P : Pr) : List Int := if P.orders.length = 0 then [49] else ordT P.orders P.orders.length ++ (powT P P.orders.length ++ cnjT P P.orders.length)
theorem nWord_mem {e : List Int} {n : Nat} {x : Int} (h : x ∈ nWord e n) : 1 ≤ x ∧ x ≤ n := by
 induction n with
 | zero => simp [nWord] at h
 | succ n ih =>
  rcases List.mem_append.1 h with h | h
  ·have := ih h; omega
  ·have := List.eq_of_mem_replicate h; omega
theorem ordT_len (o : List Int) : ∀ k, (ordT o k).length ≤ 2 * k
 | 0 => by simp [ordT]
 | k + 1 => by
  have := ordT_len o k
  simp only [ordT, List.length_append, List.length_singleton]
  split <;> simp <;> omega
section
variable {P : Pr} (hP : Valid P)
include hP
theorem vec7 {e : List Int} (he : Vec P.orders e) : ∀ i, gt e i ≤ 7 := fun i => by
 by_cases h : i < P.orders.length
 ·have := he.2 i h; have := hP.ord7 i h; omega
 ·rw [show gt e i = 0 by simp [gt, show e.length ≤ i by rw [he.1]; omega]]; omega
theorem wtx_bd {e : List Int} (he : Vec P.orders e) : (wtx (nWord e P.orders.length)).length ≤ 43 := by
 have hn := hP.n6
 refine wtx_len _ 42 (Nat.le_trans (nWord_len (fun i => ?_) _) (by omega))
 by_cases h : i < P.orders.length
 ·have := he.2 i h; have := hP.ord7 i h; omega
 ·rw [show gt e i = 0 by simp [gt, show e.length ≤ i by rw [he.1]; omega]]; omega
theorem powT_len : ∀ k, k ≤ P.orders.length → (powT P k).length ≤ 50 * k
 | 0, _ => by simp [powT]
 | k + 1, h => by
  have h1 := powT_len k (by omega)
  have h2 := wtx_bd hP (hP.pv k (by omega)).1
  simp only [powT, List.length_append]
  split
  ·simp; omega
  ·simp only [powE, List.length_append, List.length_cons, List.length_nil]; omega
theorem cnjR_len {i : Nat} (hi : i < P.orders.length) : ∀ k, k ≤ P.orders.length - 1 - i → (cnjR P i k).length ≤ 50 * k
 | 0, _ => by simp [cnjR]
 | k + 1, h => by
  have h1 := cnjR_len hi k (by omega)
  have h2 := wtx_bd hP ((hP.cv i hi).2 k (by omega)).1
  simp only [cnjR, List.length_append]
  split
  ·simp; omega
  ·simp only [cnjE, List.length_append, List.length_cons, List.length_nil]; omega
theorem cnjT_len : ∀ i, i ≤ P.orders.length → (cnjT P i).length ≤ 300 * i
 | 0, _ => by simp [cnjT]
 | i + 1, h => by
  have h1 := cnjT_len i (by omega)
  have h2 := cnjR_len hP (show i < P.orders.length by omega) (P.orders.length - 1 - i) (Nat.le_refl _)
  have := hP.n6
  simp only [cnjT, List.length_append]; omega
end
set_option maxRecDepth 100000 in
set_option maxHeartbeats 8000000 in
theorem l07Text_ok (P : Pr) (hP : Valid P) (w : World) (pv : Value) (S : Nat → Prop) (hpv : PresV S w pv P) :
  Calls Tryz.prog 453 #[pv] w (Ret w fun _ r => r = .string (strOfNums (textP P))) := by
 have hn6 := hP.n6
 obtain ⟨vo, vp, vc, rfl, h3⟩ := hpv
 have hp0 := PresP.box h3 39
 have hg0 : Ext w (w.alloc (.cells #[vo, vp, vc] 39)) := World.grownBy_alloc _ _ _
 obtain ⟨vo6, vp6, vc6, _, _, hc0, hc1, hc2, h36⟩ := hp0.at
 simp only [Nat.zero_add] at hc1 hc2
 obtain ⟨ao, co, rfl, _, _⟩ := h36.o.shape
 obtain ⟨ap, cp, hvp, _, _⟩ := Sl.shape h36.p
 obtain ⟨ac, cc, hvc, _, _⟩ := Sl.shape h36.c
 rw [hP.pl] at hvp
 rw [hP.cl] at hvc
 subst hvp hvc
 by_cases hn : P.orders.length = 0
 ·have ht : textP P = [49] := by unfold textP; rw [if_pos hn]
  have hni : ((P.orders.length : Int) == 0) = true := by rw [hn]; rfl
  have HT := Lib.hid ht; clear ht
  go_enter Tryz.func453, Tryz.ntmps453
  go_wp2
  go_ret
  exact ⟨_, rfl, hg0, by rw [HT.out]; rfl⟩
 have ht : textP P = ordT P.orders P.orders.length ++ (powT P P.orders.length ++ cnjT P P.orders.length) := by unfold textP; rw [if_neg hn]
 have hni : ((P.orders.length : Int) == 0) = false := by simp; intro h; exact hn (by rw [h]; rfl)
 have HT := Lib.hid (And.intro ht hn); clear ht hn
 go_enter Tryz.func453, Tryz.ntmps453
 go_wp2
 generalize w.alloc (.cells #[vo, vp, vc] 39) = w0 at *
 have hb0 : ∀ w', Ext w0 w' → w'.cell? ⟨w.heap.size, 0, none⟩ = some (.slice ao P.orders.length co) := fun w' h => h.cell hc0 (by simp)
 have hb1 : ∀ w', Ext w0 w' → w'.cell? ⟨w.heap.size, 1, none⟩ = some (.slice ap P.orders.length cp) := fun w' h => h.cell hc1 (by simp)
 have hb2 : ∀ w', Ext w0 w' → w'.cell? ⟨w.heap.size, 2, none⟩ = some (.slice ac P.orders.length cc) := fun w' h => h.cell hc2 (by simp)
 have HB := Lib.hid (And.intro hb0 (And.intro hb1 hb2)); clear hb0 hb1 hb2 hc0 hc1 hc2
 go_loopw [4, 5] (fun ov iv wr => ∃ (i : Nat), ov = .string (strOfNums (ordT P.orders i)) ∧ iv = .int .i64 i ∧ i ≤ P.orders.length ∧ Ext w0 wr) (fun _ iv _ => P.orders.length - (intOf iv).toNat)
 case atStart => exact ⟨0, rfl, rfl, by omega, Ext.refl _⟩
 case round =>
  obtain ⟨i, rfl, rfl, hi, hg⟩ := hrel
  have hol := ordT_len P.orders i
  by_cases hlt : i < P.orders.length
  ·have hlt' : (i : Int) < P.orders.length := by omega
   obtain ⟨bo, oo, rfl, _, _, hco⟩ := Ints.at (Ints.ext h36.o hg) i hlt
   have h7 := hP.ord7 i hlt
   have hb0 := HB.out.1 wr hg
   obtain ⟨y, hy⟩ : ∃ y, y = gt P.orders i := ⟨_, rfl⟩
   have hst : ordT P.orders (i + 1) = ordT P.orders i ++ ((if 0 < i then [32] else []) ++ [48 + y]) := by rw [hy]; rfl
   rw [← hy] at hco h7
   obtain ⟨l, hl⟩ : ∃ l, l = ordT P.orders i := ⟨_, rfl⟩
   rw [← hl] at hst hol
   have hl2 : l.length ≤ 1000 := by omega
   have HS := Lib.hid (And.intro hst (And.intro hl hy)); clear hst hy hl hol
   rw [show strOfNums (ordT P.orders i) = strOfNums l by rw [HS.out.2.1]]
   have hsz := strOfNums_size l
   rcases hb : decide (0 < i) with _ | _
   ·have hsn : strOfNums (ordT P.orders (i + 1)) = strOfNums l ++ strOfNums [48 + y] := by
     have : ¬ 0 < i := by simpa using hb
     rw [HS.out.1, if_neg this, List.nil_append, strOfNums_app]
    have HN := Lib.hid hsn; clear hsn
    go_wp2_with fail
    refine Calls.mono (l01Dec_ok wr y (by omega) (by omega)) ?_
    rintro e1 w1 ⟨v1, rfl, hg1, rfl⟩
    have hs1 := strOfNums_size [48 + y]
    clear hco
    go_wp2_with fail
    go_roundw
    case rel => exact ⟨i + 1, by rw [HN.out], by go_num, by omega, grown_trans hg hg1⟩
    case measure => simp [intOf]; omega
   ·have hsn : strOfNums (ordT P.orders (i + 1)) = strOfNums l ++ ⟨#[32]⟩ ++ strOfNums [48 + y] := by
     have : 0 < i := by simpa using hb
     rw [HS.out.1, if_pos this, strOfNums_app, strOfNums_app, ByteArray.append_assoc]; rfl
    have HN := Lib.hid hsn; clear hsn
    go_wp2_with fail
    refine Calls.mono (l01Dec_ok wr y (by omega) (by omega)) ?_
    rintro e1 w1 ⟨v1, rfl, hg1, rfl⟩
    have hs1 := strOfNums_size [48 + y]
    clear hco
    go_wp2_with fail
    go_roundw
    case rel => exact ⟨i + 1, by rw [HN.out], by go_num, by omega, grown_trans hg hg1⟩
    case measure => simp [intOf]; omega
  ·have hie : i = P.orders.length := by omega
   subst hie
   go_wp2
   clear hlt hol
   have hgx := hg
   clear hg
   go_loopw [4, 6] (fun ov iv wr => ∃ (i : Nat), ov = .string (strOfNums (ordT P.orders P.orders.length ++ powT P i)) ∧ iv = .int .i64 i ∧ i ≤ P.orders.length ∧ Ext w0 wr) (fun _ iv _ => P.orders.length - (intOf iv).toNat)
   case atStart => exact ⟨0, by rw [show powT P 0 = [] from rfl, List.append_nil], rfl, by omega, hgx⟩
   case round =>
    clear hgx
    obtain ⟨i, rfl, rfl, hi, hg⟩ := hrel
    have hol := ordT_len P.orders P.orders.length
    have hpl := powT_len hP i hi
    by_cases hlt : i < P.orders.length
    ·have hlt' : (i : Int) < P.orders.length := by omega
     obtain ⟨bp, op, ae, ce, rfl, _, _, hcp, hre⟩ := Rows2.at (Rows2.ext h36.p hg) i (by rw [hP.pl]; exact hlt)
     have hb1 := HB.out.2.1 wr hg
     have hpv := (hP.pv i hlt).1
     obtain ⟨e, he⟩ : ∃ e, e = gt P.powers i := ⟨_, rfl⟩
     rw [← he] at hcp hre hpv
     have hel := hpv.1
     obtain ⟨l, hl⟩ : ∃ l, l = ordT P.orders P.orders.length ++ powT P i := ⟨_, rfl⟩
     have hl2 : l.length ≤ 1000 := by rw [hl, List.length_append]; omega
     rw [← hl]
     rcases hz : isZeroB e with _ | _
     ·have hst : ordT P.orders P.orders.length ++ powT P (i + 1) = l ++ powE P i := by
       rw [hl, List.append_assoc, powT, ← he, hz]; rfl
      obtain ⟨bo, oo, rfl, _, _, hco⟩ := Ints.at (Ints.ext h36.o hg) i hlt
      have h7 := hP.ord7 i hlt
      have hwb := wtx_bd hP hpv
      have hee : powE P i = [59, 32] ++ ([97 + (i : Int)] ++ ([94] ++ ([48 + gt P.orders i] ++ ([61] ++ wtx (nWord e P.orders.length))))) := by rw [he]; rfl
      obtain ⟨y, hy⟩ : ∃ y, y = gt P.orders i := ⟨_, rfl⟩
      rw [← hy] at hco h7 hee
      obtain ⟨W, hW⟩ : ∃ W, W = nWord e P.orders.length := ⟨_, rfl⟩
      have hwl : W.length ≤ 42 := by rw [hW]; exact Nat.le_trans (nWord_len (vec7 hP hpv) _) (by omega)
      have hwm : ∀ x ∈ W, -26 ≤ x ∧ x ≤ 26 := by rw [hW]; exact fun x hx => by have := nWord_mem hx; omega
      rw [← hW] at hee hwb
      have hsn : strOfNums (ordT P.orders P.orders.length ++ powT P (i + 1)) = strOfNums l ++ ⟨#[59, 32]⟩ ++ strOfNums [97 + (i : Int)] ++ ⟨#[94]⟩ ++ strOfNums [48 + y] ++ ⟨#[61]⟩ ++ strOfNums (wtx W) := by
       rw [hst, hee]
       simp only [strOfNums_app, ByteArray.append_assoc]; rfl
      have hwo : ∀ j, j < e.length → 0 ≤ gt e j ∧ gt e j ≤ 7 := fun j hj => by have := hpv.2 j (by omega); have := hP.ord7 j (by omega); omega
      have HS := Lib.hid (And.intro hsn (And.intro hwl (And.intro hwm (And.intro hwo (And.intro hel hW))))); clear hst hpv he hl hel hol hpl hee hy hW hwl hwm hsn hwo
      have hcz := l01Zero_ok _ e wr _ hre
      rw [hz] at hcz
      clear hz
      go_wp2_with fail
      refine Calls.mono hcz ?_
      rintro _ _ ⟨rfl, rfl⟩
      clear hcz
      have hcp0 := hcp
      clear hcp
      have e0 : ∀ w', Ext wr w' → w'.cell? ⟨w.heap.size, 0, none⟩ = some (.slice (some ⟨bo, oo, none⟩) P.orders.length co) := fun w' h => HB.out.1 w' (grown_trans hg h)
      have e1 : ∀ w', Ext wr w' → w'.cell? ⟨w.heap.size, 1, none⟩ = some (.slice (some ⟨bp, op, none⟩) P.orders.length cp) := fun w' h => HB.out.2.1 w' (grown_trans hg h)
      have e2 : ∀ w', Ext wr w' → w'.cell? ⟨bo, oo + i, none⟩ = some (.int .i64 y) := fun w' h => h.cell hco (by simp)
      have e3 : ∀ w', Ext wr w' → w'.cell? ⟨bp, op + i, none⟩ = some (.slice ae e.length ce) := fun w' h => h.cell hcp0 (by simp)
      have z0 := strOfNums_size l
      have z1 := strOfNums_size [97 + (i : Int)]
      have z2 := strOfNums_size [48 + y]
      have z3 := strOfNums_size (wtx W)
      have q1 : ¬ 9223372036854775807 < l.length + 2 := by omega
      have q2 : ¬ 9223372036854775807 < l.length + 2 + 1 := by omega
      have q3 : ¬ 9223372036854775807 < l.length + 2 + 1 + 1 := by omega
      have q4 : ¬ 9223372036854775807 < l.length + 2 + 1 + 1 + 1 := by omega
      have q5 : ¬ 9223372036854775807 < l.length + 2 + 1 + 1 + 1 + 1 := by omega
      have q6 : ¬ 9223372036854775807 < l.length + 2 + 1 + 1 + 1 + 1 + (wtx W).length := by omega
      clear hco hcp0
      go_wp2_with fail
      go_region_held3 (fun w' => Ext wr w') (first | exact grown_drew _ _ | assumption)
       (first
        | (go_at_call 459; refine Calls.mono (Calls.rel (w0 := wr) (by assumption) (l06Text_ok _ _ W Any hWI HS.out.2.2.1 (by have := HS.out.2.1; omega))) ?_; rintro eD wD ⟨vD, rfl, hgD, hsD, rfl⟩)
        | (go_at_call 142; refine Calls.mono (Calls.rel (w0 := wr) (by assumption) (l07Word_ok _ _ e Any (Ints.sub (Ints.ext hre (by assumption)) (fun _ _ _ => trivial)) (by have := HS.out.2.2.2.2.1; omega) HS.out.2.2.2.1)) ?_; rintro eC wC ⟨vC, rfl, hgC, hsC, hOC⟩; rw [HS.out.2.2.2.2.1, ← HS.out.2.2.2.2.2] at hOC; have hWI : Ints Any wC vC W := hOC.ints' (by have := HS.out.2.1; omega))
        | (go_at_call 457; refine Calls.mono (Calls.rel (w0 := wr) (by assumption) (l01Dec_ok _ y (by omega) (by omega))) ?_; rintro eB wB ⟨vB, rfl, hgB, hsB, rfl⟩)
        | (go_at_call 458; refine Calls.mono (Calls.rel (w0 := wr) (by first | exact grown_drew _ _ | assumption) (l07Letter_ok _ i (by omega))) ?_; rintro eA wA ⟨vA, rfl, hgA, hsA, rfl⟩))
      clear e0 e1 e2 e3 z0 z1 z2 z3 q1 q2 q3 q4 q5 q6
      go_wp2
      go_roundw
      case rel => exact ⟨i + 1, by rw [HS.out.1], by go_num, by omega, grown_trans hg hgD⟩
      case measure => simp [intOf]; omega
     ·have hst : ordT P.orders P.orders.length ++ powT P (i + 1) = l := by
       rw [hl, powT, ← he, hz]; simp
      have HS := Lib.hid (And.intro hst (And.intro hpv (And.intro he hl))); clear hst hpv he hl hel hol hpl
      have hcz := l01Zero_ok _ e wr _ hre
      rw [hz] at hcz
      clear hz
      go_wp2_with fail
      refine Calls.mono hcz ?_
      rintro _ _ ⟨rfl, rfl⟩
      clear hcz hcp
      go_wp2_with fail
      go_roundw
      case rel => exact ⟨i + 1, by rw [HS.out.1], by go_num, by omega, hg⟩
      case measure => simp [intOf]; omega
    ·have hie : i = P.orders.length := by omega
     subst hie
     go_wp2
     clear hlt hol hpl
     have hgx := hg
     clear hg
     obtain ⟨l0, hl0⟩ : ∃ l0, l0 = ordT P.orders P.orders.length ++ powT P P.orders.length := ⟨_, rfl⟩
     have hl0l : l0.length ≤ 400 := by
      have h1 := ordT_len P.orders P.orders.length
      have h2 := powT_len hP P.orders.length (Nat.le_refl _)
      rw [hl0, List.length_append]; omega
     rw [← hl0]
     have HL0 := Lib.hid hl0; clear hl0
     go_loopw [4, 7] (fun ov iv wr => ∃ (i : Nat), ov = .string (strOfNums (l0 ++ cnjT P i)) ∧ iv = .int .i64 i ∧ i ≤ P.orders.length ∧ Ext w0 wr) (fun _ iv _ => P.orders.length - (intOf iv).toNat)
     case atStart => exact ⟨0, by rw [show cnjT P 0 = [] from rfl, List.append_nil], rfl, by omega, hgx⟩
     case round =>
      clear hgx
      obtain ⟨i, rfl, rfl, hi, hg⟩ := hrel
      by_cases hlt : i < P.orders.length
      ·have hlt' : (i : Int) < P.orders.length := by omega
       obtain ⟨wo, rfl⟩ : ∃ wo : World, wo = wr := ⟨_, rfl⟩
       have hcl := cnjT_len hP i hi
       obtain ⟨l1, hl1⟩ : ∃ l1, l1 = l0 ++ cnjT P i := ⟨_, rfl⟩
       have hl1l : l1.length ≤ 2200 := by rw [hl1, List.length_append]; omega
       rw [← hl1]
       have HL1 := Lib.hid hl1; clear hl1 hcl
       go_wp2
       go_loopw [4, 8] (fun ov jv wr => ∃ (k j : Nat), ov = .string (strOfNums (l1 ++ cnjR P i k)) ∧ jv = .int .i64 j ∧ Hid (j = i + 1 + k ∧ k ≤ P.orders.length - 1 - i) ∧ j ≤ P.orders.length ∧ Ext w0 wr) (fun _ jv _ => P.orders.length - (intOf jv).toNat)
       case atStart => exact ⟨0, i + 1, by rw [show cnjR P i 0 = [] from rfl, List.append_nil], by go_num, Lib.hid ⟨rfl, by omega⟩, by omega, hg⟩
       case round =>
        have hgo := hg
        clear hg
        obtain ⟨k, j, rfl, rfl, HJ, hj, hg⟩ := hrel
        by_cases hltj : j < P.orders.length
        ·have hltj' : (j : Int) < P.orders.length := by omega
         have hk : k < P.orders.length - 1 - i := by have := HJ.out; omega
         obtain ⟨bc, oc, ar, cr, rfl, _, _, hcc, hrr⟩ := Rows3.at (Rows3.ext h36.c hg) i (by rw [hP.cl]; exact hlt)
         have hrl := (hP.cv i hlt).1
         have hcv := (hP.cv i hlt).2 k hk
         rw [hrl] at hcc
         obtain ⟨be, oe, ae, ce, rfl, _, _, hce, hre⟩ := Rows2.at hrr k (by rw [hrl]; exact hk)
         obtain ⟨e, he⟩ : ∃ e, e = gt (gt P.conj i) k := ⟨_, rfl⟩
         rw [← he] at hce hre hcv
         have hel := hcv.1.1
         have hwb := wtx_bd hP hcv.1
         have hRl := cnjR_len hP hlt k (by omega)
         have hjk := HJ.out.1
         obtain ⟨l, hl⟩ : ∃ l, l = l1 ++ cnjR P i k := ⟨_, rfl⟩
         have hl2 : l.length ≤ 3000 := by rw [hl, List.length_append]; omega
         rw [← hl]
         obtain ⟨m, hm⟩ : ∃ m, m = P.orders.length - 1 - i := ⟨_, rfl⟩
         rw [← hm] at hcc hk
         have hki : (k : Int) < m := by omega
         have hs1 : IntKind.i64.wrap ((j : Int) - (i : Int)) = (k : Int) + 1 := by rw [show (j : Int) - (i : Int) = (k : Int) + 1 by omega]; exact IntWalk.i64_in _ (by omega)
         have hs2 : IntKind.i64.wrap (k : Int) = (k : Int) := IntWalk.i64_in _ (by omega)
         have e0 : ∀ w', Ext wr w' → w'.cell? ⟨w.heap.size, 2, none⟩ = some (.slice (some ⟨bc, oc, none⟩) P.orders.length cc) := fun w' h => HB.out.2.2 w' (grown_trans hg h)
         have e1 : ∀ w', Ext wr w' → w'.cell? ⟨bc, oc + i, none⟩ = some (.slice (some ⟨be, oe, none⟩) m cr) := fun w' h => h.cell hcc (by simp)
         have e2 : ∀ w', Ext wr w' → w'.cell? ⟨be, oe + k, none⟩ = some (.slice ae e.length ce) := fun w' h => h.cell hce (by simp)
         have HS := Lib.hid (And.intro hel (And.intro hcv (And.intro he (And.intro hl (And.intro hm (And.intro hwb (And.intro hjk hrl))))))); clear hel hcv he hl hm hwb hRl hjk hrl hcc hce
         have HE := Lib.hid (And.intro e0 (And.intro e1 e2))
         go_wp2
         go_region_held3 (fun w' => Ext wr w') (first | exact grown_drew _ _ | assumption)
          (first
           | (go_at_call 296; refine Calls.mono (Calls.rel (w0 := wr) (by assumption) (l01Same_ok _ _ e (unitV P.orders.length j) _ Any Any (Ints.sub (Ints.ext hre (by assumption)) (fun _ _ _ => trivial)) hUI)) ?_; rintro eB wB ⟨vB, rfl, hgB, hsB, rfl⟩)
           | (go_at_call 224; refine Calls.mono (Calls.rel (w0 := wr) (by first | exact grown_drew _ _ | assumption) (l07Unit_ok P.orders.length j _ hltj (by omega))) ?_; rintro eA wA ⟨vA, rfl, hgA, hsA, hOA⟩; have hUI : Ints Any wA vA (unitV P.orders.length j) := hOA.ints' (by rw [unitV_len]; omega)))
         clear e0 e1 e2 hs1 hs2
         rcases hq : eqB e (unitV P.orders.length j) with _ | _
         ·have hee : cnjE P i k = [59, 32] ++ ([97 + (j : Int)] ++ ([94] ++ ([97 + (i : Int)] ++ ([61] ++ wtx (nWord e P.orders.length))))) := by
           unfold cnjE; rw [← HS.out.2.2.1, ← HS.out.2.2.2.2.2.2.1]
          obtain ⟨W, hW⟩ : ∃ W, W = nWord e P.orders.length := ⟨_, rfl⟩
          rw [← hW] at hee
          have hwl : W.length ≤ 42 := by rw [hW]; exact Nat.le_trans (nWord_len (vec7 hP HS.out.2.1.1) _) (by omega)
          have hwm : ∀ x ∈ W, -26 ≤ x ∧ x ≤ 26 := by rw [hW]; exact fun x hx => by have := nWord_mem hx; omega
          have hwb : (wtx W).length ≤ 43 := by rw [hW]; exact HS.out.2.2.2.2.2.1
          have hsn : strOfNums (l1 ++ cnjR P i (k + 1)) = strOfNums l ++ ⟨#[59, 32]⟩ ++ strOfNums [97 + (j : Int)] ++ ⟨#[94]⟩ ++ strOfNums [97 + (i : Int)] ++ ⟨#[61]⟩ ++ strOfNums (wtx W) := by
           have h1 : cnjR P i (k + 1) = cnjR P i k ++ cnjE P i k := by rw [cnjR, ← HS.out.2.2.1, ← HS.out.2.2.2.2.2.2.1, hq]; rfl
           rw [h1, ← List.append_assoc, ← HS.out.2.2.2.1, hee]
           simp only [strOfNums_app, ByteArray.append_assoc]; rfl
          have hwo : ∀ j, j < e.length → 0 ≤ gt e j ∧ gt e j ≤ 7 := fun j hj => by have := HS.out.2.1.1.2 j (by have := HS.out.1; omega); have := hP.ord7 j (by have := HS.out.1; omega); omega
          have HW := Lib.hid (And.intro hsn (And.intro hwl (And.intro hwm (And.intro hwo hW)))); clear hee hW hwl hwm hsn hwo
          have hs1 : IntKind.i64.wrap ((j : Int) - (i : Int)) = (k : Int) + 1 := by have := HS.out.2.2.2.2.2.2.1; rw [show (j : Int) - (i : Int) = (k : Int) + 1 by omega]; exact IntWalk.i64_in _ (by omega)
          have hs2 : IntKind.i64.wrap (k : Int) = (k : Int) := IntWalk.i64_in _ (by have := HS.out.2.2.2.2.1; omega)
          have z0 := strOfNums_size l
          have z1 := strOfNums_size [97 + (i : Int)]
          have z2 := strOfNums_size [97 + (j : Int)]
          have z3 := strOfNums_size (wtx W)
          have q1 : ¬ 9223372036854775807 < l.length + 2 := by omega
          have q2 : ¬ 9223372036854775807 < l.length + 2 + 1 := by omega
          have q3 : ¬ 9223372036854775807 < l.length + 2 + 1 + 1 := by omega
          have q4 : ¬ 9223372036854775807 < l.length + 2 + 1 + 1 + 1 := by omega
          have q5 : ¬ 9223372036854775807 < l.length + 2 + 1 + 1 + 1 + 1 := by omega
          have q6 : ¬ 9223372036854775807 < l.length + 2 + 1 + 1 + 1 + 1 + (wtx W).length := by omega
          go_wp2_with fail
          have e0 := HE.out.1
          have e1 := HE.out.2.1
          have e2 := HE.out.2.2
          go_region_held3 (fun w' => Ext wr w') (first | exact grown_trans hgB (grown_drew _ _) | assumption)
           (first
            | (go_at_call 459; refine Calls.mono (Calls.rel (w0 := wr) (by assumption) (l06Text_ok _ _ W Any hWI HW.out.2.2.1 (by have := HW.out.2.1; omega))) ?_; rintro eD wD ⟨vD, rfl, hgD, hsD, rfl⟩)
            | (go_at_call 142; refine Calls.mono (Calls.rel (w0 := wr) (by assumption) (l07Word_ok _ _ e Any (Ints.sub (Ints.ext hre (by assumption)) (fun _ _ _ => trivial)) (by have := HS.out.1; omega) HW.out.2.2.2.1)) ?_; rintro eC wC ⟨vC, rfl, hgC, hsC, hOC⟩; rw [HS.out.1, ← HW.out.2.2.2.2] at hOC; have hWI : Ints Any wC vC W := hOC.ints' (by have := HW.out.2.1; omega))
            | (go_at_call 458; refine Calls.mono (Calls.rel (w0 := wr) (by first | exact grown_trans hgB (grown_drew _ _) | assumption) (l07Letter_ok _ j (by omega))) ?_; rintro eL wL ⟨vL, rfl, hgL, hsL, rfl⟩)
            | (go_at_call 458; refine Calls.mono (Calls.rel (w0 := wr) (by first | exact grown_trans hgB (grown_drew _ _) | assumption) (l07Letter_ok _ i (by omega))) ?_; rintro eM wM ⟨vM, rfl, hgM, hsM, rfl⟩))
          clear e0 e1 e2 z0 z1 z2 z3 q1 q2 q3 q4 q5 q6 hs1 hs2
          go_wp2
          go_roundw
          case rel => exact ⟨k + 1, j + 1, by rw [HW.out.1], by go_num, Lib.hid ⟨by have := HS.out.2.2.2.2.2.2.1; omega, by have := HS.out.2.2.2.2.1; omega⟩, by omega, grown_trans hg hgD⟩
          case measure => simp [intOf]; omega
         ·have hsn : strOfNums (l1 ++ cnjR P i (k + 1)) = strOfNums l := by
           rw [cnjR, ← HS.out.2.2.1, ← HS.out.2.2.2.2.2.2.1, hq, ← List.append_assoc, ← HS.out.2.2.2.1]; simp
          have HN := Lib.hid hsn; clear hsn
          go_wp2_with fail
          go_roundw
          case rel => exact ⟨k + 1, j + 1, by rw [HN.out], by go_num, Lib.hid ⟨by have := HS.out.2.2.2.2.2.2.1; omega, by have := HS.out.2.2.2.2.1; omega⟩, by omega, grown_trans hg hgB⟩
          case measure => simp [intOf]; omega
        ·have hfin : strOfNums (l1 ++ cnjR P i k) = strOfNums (l0 ++ cnjT P (i + 1)) := by
          have := HJ.out
          rw [HL1.out, cnjT, show k = P.orders.length - 1 - i by omega, List.append_assoc]
         have HF := Lib.hid hfin; clear hfin
         have hltj' : ¬ ((j : Int) < P.orders.length) := by omega
         go_wp2
         go_roundw
         case rel => exact ⟨i + 1, by rw [HF.out], by go_num, by omega, hg⟩
         case measure => simp [intOf]; omega
      ·have hie : i = P.orders.length := by omega
       subst hie
       have hfin : strOfNums (l0 ++ cnjT P P.orders.length) = strOfNums (textP P) := by rw [HT.out.1, HL0.out, List.append_assoc]
       have HF := Lib.hid hfin; clear hfin
       go_wp2
       go_ret
       exact ⟨_, rfl, grown_trans hg0 hg, by rw [← HF.out]; rfl⟩
end Go.Proofs.YtmjkoejegfjbbaaGreat
namespace Go.Proofs.YtmjkoejegfjbbaaGreat
open Go.RowKit
attribute [local go_sem ↓] Go.wp_at_zero Go.wp_at_succ
theorem presN_nil (N B : Nat) (w : World) : PresN N B w (.agg #[.slice none 0 0, .slice none 0 0, .slice none 0 0]) :=
 ⟨⟨[], [], []⟩, ⟨Nat.zero_le _, rfl, rfl, fun i h => absurd h (by simp), by simp, by simp⟩, _, _, _, rfl, fun _ => False, fun _ => False, fun _ => False,
  ⟨World.ownsRow_nil _ _ _ _, by simp [Value.ownBlock], by simp⟩,
  ⟨[], fun _ _ => False, rfl, by simp, World.ownsRow_nil _ _ _ _, by simp [Value.ownBlock], by simp, by simp, by simp⟩, ⟨[], fun _ _ => False, rfl, by simp, World.ownsRow_nil _ _ _ _, by simp [Value.ownBlock], by simp, by simp, by simp⟩,
  fun _ h => h.elim, fun _ h => h.elim, fun _ h => h.elim⟩
def PresC (N B : Nat) (w' : World) (v : Value) : Prop := ∃ (vo vp vc : Value) (c : Int), v = .tuple #[.agg #[vo, vp, vc], .int .i64 c] ∧ PresN N B w' (.agg #[vo, vp, vc])
set_option maxRecDepth 100000 in
set_option maxHeartbeats 4000000 in
theorem CyclicPresentation_ok (w : World) (n : Nat) (hn : 1 ≤ n ∧ n ≤ 729) :
  Calls Tryz.prog 410 #[.int .i64 n] w (Ret w (PresC 9 w.heap.size)) := by
 have hz0 : ∀ w', Ext (w.alloc (.cells #[.slice none 0 0, .slice none 0 0, .slice none 0 0] 39)) w' → Box3 w' w.heap.size (.slice none 0 0) (.slice none 0 0) (.slice none 0 0) := fun w' h => (Box3.made w 39 _ _ _).ext h
 have hg0 : Ext w (w.alloc (.cells #[.slice none 0 0, .slice none 0 0, .slice none 0 0] 39)) := World.grownBy_alloc _ _ _
 have hs0 : (w.alloc (.cells #[.slice none 0 0, .slice none 0 0, .slice none 0 0] 39)).heap.size = w.heap.size + 1 := by simp
 have hin : inB n 1 729 = true := by simp [inB]; omega
 have HN := Lib.hid (And.intro hn (And.intro hz0 (And.intro hg0 hs0))); clear hn hz0 hs0
 go_enter Tryz.func410, Tryz.ntmps410
 go_wp2_with fail
 generalize w.alloc (.cells #[.slice none 0 0, .slice none 0 0, .slice none 0 0] 39) = w0 at *
 refine Calls.mono (l01In_ok n 1 729 w0) ?_
 rintro _ _ ⟨rfl, rfl⟩
 rw [hin]
 clear hin
 go_wp2_with fail
 refine Calls.mono (l07Factors_ok w0 n HN.out.1) ?_
 rintro e1 w1 ⟨v1, rfl, hg1, a1, c1, l, r, rfl, hO1, hl9, hlx⟩
 have HL := Lib.hid (And.intro hO1 (And.intro hlx hl9)); clear hO1 hlx
 have hz1 := HN.out.2.1 w1 hg1
 obtain ⟨k0, k1, k2, k3, k4⟩ := id hz1
 cases r
 ·go_wp2_with fail
  have hZ := hz1.all (.slice none 0 0) (.slice none 0 0) (.slice none 0 0)
  have hT := grown_set3 w1 w.heap.size (.slice none 0 0) (.slice none 0 0) (.slice none 0 0)
  obtain ⟨_, z0, z1, z2, _⟩ := id hZ
  have HT := Lib.hid hT; clear hT hZ
  go_wp2
  refine bodyPost_ret (v := .tuple #[.agg #[.slice none 0 0, .slice none 0 0, .slice none 0 0], .int .i64 2]) (by simp [results, Tryz.results410, go_sem, z0, z1, z2]) rfl ?_
  exact ⟨_, rfl, grown_own (grown_trans hg0 hg1) HT.out (fun j hj hlt => by cases hj; omega), _, _, _, _, rfl, presN_nil 9 _ _⟩
 by_cases h6 : 6 < l.length
 ·go_wp2_with fail
  have hZ := hz1.all (.slice none 0 0) (.slice none 0 0) (.slice none 0 0)
  have hT := grown_set3 w1 w.heap.size (.slice none 0 0) (.slice none 0 0) (.slice none 0 0)
  obtain ⟨_, z0, z1, z2, _⟩ := id hZ
  have HT := Lib.hid hT; clear hT hZ
  go_wp2
  refine bodyPost_ret (v := .tuple #[.agg #[.slice none 0 0, .slice none 0 0, .slice none 0 0], .int .i64 3]) (by simp [results, Tryz.results410, go_sem, z0, z1, z2]) rfl ?_
  exact ⟨_, rfl, grown_own (grown_trans hg0 hg1) HT.out (fun j hj hlt => by cases hj; omega), _, _, _, _, rfl, presN_nil 9 _ _⟩
 clear k0 k1 k2 k3 k4
 go_wp2_with fail
 refine Calls.mono (l07Trivial_ok w1 _ l _ (HL.out.1.ints (by omega)) (by omega)) ?_
 rintro e2 w2 ⟨v2, rfl, hg2, vo, vp, vc, rfl, hX2⟩
 obtain ⟨ao, co, ap, cp, ac, cc, rfl, rfl, rfl⟩ := trivX_shape hX2
 go_wp2_with fail
 have hs2 := hg2.size
 have hs1 := hg1.size
 have hgA : Ext w2 (w2.alloc (.cells #[.slice ao l.length co, .slice ap l.length cp, .slice ac l.length cc] 39)) := World.grownBy_alloc _ _ _
 have hX := BX.start (N := 9) (B := w1.heap.size) (by omega) hX2 hgA (Box3.made w2 39 (.slice ao l.length co) (.slice ap l.length cp) (.slice ac l.length cc)) hs2
 generalize w2.alloc (.cells #[.slice ao l.length co, .slice ap l.length cp, .slice ac l.length cc] 39) = w3 at *
 have hg3 : Ext w1 w3 := grown_trans hg2 hgA
 clear hX2 hg2
 go_loopw [7] (fun iv wr => ∃ i : Nat, iv = .int .i64 i ∧ i ≤ l.length ∧ Ext w1 wr ∧ BX 9 l w1.heap.size w2.heap.size wr (.slice ao l.length co) (.slice ap l.length cp) (.slice ac l.length cc)) (fun iv _ => l.length - (intOf iv).toNat)
 case atStart => exact ⟨0, rfl, by omega, hg3, hX⟩
 case round =>
  clear hX hg3
  obtain ⟨i, rfl, hi, hg, hX⟩ := hrel
  by_cases hlt : i + 1 < l.length
  ·have hlt' : (i : Int) + 1 < l.length := by omega
   obtain ⟨g, cap, z, hvg, hgB, hgp, hgl, hcc, hst⟩ := hX.storeP i (by omega)
   obtain ⟨rfl, rfl⟩ : ap = some ⟨g, 0, none⟩ ∧ cp = cap := by cases hvg; exact ⟨rfl, rfl⟩
   clear hvg
   have e1 : ∀ w', Near wr g w' → w'.cell? ⟨w2.heap.size, 1, none⟩ = some (.slice (some ⟨g, 0, none⟩) l.length cp) := fun w' h => h.cell hX.box.2.2.1 (by simp; omega)
   have hcon : ∀ w, Calls Tryz.prog 224 #[.int .i64 l.length, .int .i64 ((i : Int) + 1)] w (Ret w fun w' v => Own w.heap.size w' v (unitV l.length (i + 1))) := fun w => by
    have h := l07Unit_ok l.length (i + 1) w (by omega) (by omega)
    rwa [show ((i + 1 : Nat) : Int) = (i : Int) + 1 by omega] at h
   have HX := Lib.hid (And.intro hX (And.intro hst hcc)); clear hX hst hcc
   have hl2 : (i : Int) < l.length := by omega
   have hwi : IntKind.i64.wrap ((i : Int) + 1) = (i : Int) + 1 := IntWalk.i64_in _ (by omega)
   have hwj : wrap64 ((i : Int) + 1) = (i : Int) + 1 := IntWalk.wrap64_in _ (by omega)
   go_wp2
   go_region_held3 (fun w' => Near wr g w') (first | exact Near.of (grown_drew _ _) | exact Near.of (by assumption) | exact Near.store (by assumption) | assumption)
    (first
     | (go_at_call 224; refine Calls.mono (Calls.rel (w0 := wr) (by first | exact grown_drew _ _ | assumption) (hcon _)) ?_; rintro eE wE ⟨vE, rfl, hgE, hsE, hOE⟩; obtain ⟨aE, cE, hvE, _⟩ := (hOE.ints (by rw [unitV_len]; omega)).shape; subst hvE; have hcl := (HX.out.2.2 wE hgE).1; have hfr := (HX.out.2.2 wE hgE).2))
   have hsz := hgE.size
   have hX5 := HX.out.2.1 wE _ (unitV l.length (i + 1)) hgE (OwnIn.of hOE (by rw [unitV_len]; omega) (fun k hk _ => Nat.le_trans (by assumption) hk)) (by rw [unitV_len]; omega)
   have hgn : Ext w1 (wE.setCell ⟨g, i, none⟩ (.slice aE (unitV l.length (i + 1)).length cE)) := grown_own (grown_trans hg hgE) (grown_set1 _ _ _ _) (fun j hj hlt => by cases hj; omega)
   clear hcl hfr e1
   go_wp2
   go_roundw
   case rel => exact ⟨i + 1, by go_num, by omega, hgn, hX5⟩
   case measure => simp [intOf]; omega
  ·have hlt' : ¬ ((i : Int) + 1 < l.length) := by omega
   have hz := HN.out.2.1 wr (grown_trans hg1 hg)
   obtain ⟨h0, h1, h2, h3', h4⟩ := id hX.box
   obtain ⟨k0, k1, k2, k3, k4⟩ := id hz
   have hZ := hz.all (.slice ao l.length co) (.slice ap l.length cp) (.slice ac l.length cc)
   have hT := grown_set3 wr w.heap.size (.slice ao l.length co) (.slice ap l.length cp) (.slice ac l.length cc)
   obtain ⟨_, z0, z1, z2, _⟩ := id hZ
   have HT := Lib.hid (And.intro hT hX); clear hT hZ hX
   go_wp2
   refine bodyPost_ret (v := .tuple #[.agg #[.slice ao l.length co, .slice ap l.length cp, .slice ac l.length cc], .int .i64 0]) (by simp [results, Tryz.results410, go_sem, z0, z1, z2]) rfl ?_
   exact ⟨_, rfl, grown_own (grown_trans hg0 (grown_trans hg1 hg)) HT.out.1 (fun j hj hlt => by cases hj; omega), _, _, _, _, rfl, (HT.out.2.ret HT.out.1 (by have := HN.out.2.2.2; omega)).weak (by have := HN.out.2.2.2; omega)⟩
end Go.Proofs.YtmjkoejegfjbbaaGreat
namespace Go.Proofs.YtmjkoejegfjbbaaGreat
open Go.RowKit
attribute [local go_sem ↓] Go.wp_at_zero Go.wp_at_succ
def PresN3 (N B : Nat) (w' : World) (vo vp vc : Value) : Prop := ∃ Q, Shp N Q ∧ Pres3 (From B) w' vo vp vc Q
def PresC3 (N B : Nat) (w' : World) (v : Value) : Prop := ∃ (vo vp vc : Value) (c : Int), v = .tuple #[.agg #[vo, vp, vc], .int .i64 c] ∧ PresN3 N B w' vo vp vc
theorem pres3_nil (S : Nat → Prop) (w : World) : Pres3 S w (.slice none 0 0) (.slice none 0 0) (.slice none 0 0) ⟨[], [], []⟩ :=
 ⟨⟨none, 0, rfl, ⟨by simp, by simp, fun _ => rfl⟩, fun i hi => by simp at hi⟩, ⟨none, 0, rfl, ⟨by simp, by simp, fun _ => rfl⟩, fun i hi => by simp at hi⟩, ⟨none, 0, rfl, ⟨by simp, by simp, fun _ => rfl⟩, fun i hi => by simp at hi⟩⟩
theorem shp_nil (N : Nat) : Shp N ⟨[], [], []⟩ := ⟨Nat.zero_le _, rfl, rfl, fun i h => absurd h (by simp), by simp, by simp⟩
set_option maxRecDepth 100000 in
set_option maxHeartbeats 8000000 in
theorem ParsePresentation_ok (w : World) (s : ByteArray) (hs : s.size ≤ 1000) :
  Calls Tryz.prog 441 #[.string s] w (Ret w (PresC3 6 w.heap.size)) := by
 have hbB := Box3.made w 39 (.slice none 0 0) (.slice none 0 0) (.slice none 0 0)
 have hg0 : Ext w (w.alloc (.cells #[.slice none 0 0, .slice none 0 0, .slice none 0 0] 39)) := World.grownBy_alloc _ _ _
 have hs0 : (w.alloc (.cells #[.slice none 0 0, .slice none 0 0, .slice none 0 0] 39)).heap.size = w.heap.size + 1 := by simp
 go_enter Tryz.func441, Tryz.ntmps441
 go_wp2_with fail
 generalize w.alloc (.cells #[.slice none 0 0, .slice none 0 0, .slice none 0 0] 39) = w0 at *
 refine Calls.mono (l01Split_ok w0 s 59 hs) ?_
 rintro e1 w1 ⟨v1, rfl, hg1, av, cv, ts, rfl, hl1, hlM, hts, hT⟩
 obtain ⟨bt, rfl, hc0⟩ := StrsR.at hT 0 (by omega)
 have hm0 := hts _ (gtMem (show 0 < ts.length by omega))
 have hli : (0 : Int) < ts.length := by omega
 have hgw1 := grown_trans hg0 hg1
 have hts1 : ts.length ≤ 1001 := by omega
 go_wp2_with fail
 refine Calls.mono (l07Orders_ok w1 _ (by omega)) ?_
 rintro e2 w2 ⟨v2, rfl, hg2, ao, n, co, r, rfl, hR⟩
 have hgw2 := grown_trans hgw1 hg2
 have hb2 := (hbB.ext hg1).ext hg2
 have hs2 : w.heap.size + 1 ≤ w2.heap.size := by have := hg1.size; have := hg2.size; omega
 have hTlt := (hT.lt bt rfl).2
 have HT := Lib.hid (And.intro hT (And.intro hts hlM)); clear hT hts hlM hc0
 cases r
 case' false =>
  obtain ⟨n0, n1, n2, n3, n4⟩ := id hb2
  have hZn := hb2.all (.slice none 0 0) (.slice none 0 0) (.slice none 0 0)
  obtain ⟨-, z0, z1, z2, -⟩ := id hZn
  have hTn := grown_set3 w2 w.heap.size (.slice none 0 0) (.slice none 0 0) (.slice none 0 0)
  have HTn := Lib.hid hTn; clear hZn hTn
  go_wp2_with fail
  refine bodyPost_ret (v := .tuple #[.agg #[.slice none 0 0, .slice none 0 0, .slice none 0 0], .int .i64 6]) (by simp [results, Tryz.results441, go_sem, z0, z1, z2]) rfl ?_
  exact ⟨_, rfl, grown_own hgw2 HTn.out (fun j hj hlt => by cases hj; omega), _, _, _, _, rfl, _, shp_nil 6, pres3_nil _ _⟩
 obtain ⟨o, hno, ho6, hop, hO⟩ := hR rfl
 have hno := hno
 subst hno
 clear hR
 have hO3 := hO.ints (by omega)
 have HO := Lib.hid (And.intro hop hO); clear hop hO
 go_wp2_with fail
 refine Calls.mono (l07Trivial_ok w2 _ o _ hO3 (by omega)) ?_
 rintro e3 w3 ⟨v3, rfl, hg3, vo, vp, vc, rfl, hX3⟩
 obtain ⟨a1, c1, a2, c2, a3, c3, rfl, rfl, rfl⟩ := trivX_shape hX3
 have hgq : Ext w3 (w3.alloc (.cells #[.slice a1 o.length c1, .slice a2 o.length c2, .slice a3 o.length c3] 39)) := World.grownBy_alloc _ _ _
 have hbq := Box3.made w3 39 (.slice a1 o.length c1) (.slice a2 o.length c2) (.slice a3 o.length c3)
 have hP4 : Pres3 (fun k => w2.heap.size ≤ k ∧ k ≠ w3.heap.size) (w3.alloc (.cells #[.slice a1 o.length c1, .slice a2 o.length c2, .slice a3 o.length c3] 39)) (.slice a1 o.length c1) (.slice a2 o.length c2) (.slice a3 o.length c3) (trivP o) :=
  hX3.p3.mono (fun k hk hlt => ⟨⟨hk, by omega⟩, Nat.lt_of_lt_of_le hlt hgq.size, hgq.block k hlt (by simp)⟩)
 have hs3 := hg3.size
 have hg24 := grown_trans hg3 hgq
 go_wp2_with fail
 generalize w3.alloc (.cells #[.slice a1 o.length c1, .slice a2 o.length c2, .slice a3 o.length c3] 39) = w4 at *
 clear hX3 hO3
 go_loopw [6, 8] (fun okv iv wr => ∃ (i : Nat) (qo qp qc : Value) (Q : Pr), okv = .bool true ∧ iv = .int .i64 i ∧ i ≤ ts.length ∧ Ext w2 wr ∧ Box3 wr w3.heap.size qo qp qc ∧ Shp 6 Q ∧ Q.orders = o ∧ Pres3 (fun k => w2.heap.size ≤ k ∧ k ≠ w3.heap.size) wr qo qp qc Q) (fun _ iv _ => ts.length - (intOf iv).toNat)
 case atStart => exact ⟨1, _, _, _, trivP o, rfl, rfl, by omega, hg24, hbq, trivP_shp o ho6, rfl, hP4⟩
 case round =>
  clear hP4 hbq hg24
  obtain ⟨i, qo, qp, qc, Q, rfl, rfl, hi, hg, hB, hQs, hQo, hQ⟩ := hrel
  have hgw := grown_trans hgw2 hg
  by_cases hlt : i < ts.length
  ·have hlt' : (i : Int) < ts.length := by omega
   obtain ⟨_, hbe, hci⟩ := StrsR.at HT.out.1 i hlt
   cases hbe
   have hcr := (grown_trans hg2 hg).cell hci (by simp)
   clear hci
   have hsi := HT.out.2.1 _ (gtMem hlt)
   have hsM : (gt ts i).size ≤ 1000 := by omega
   obtain ⟨t0, ht0⟩ : ∃ t0, t0 = gt ts i := ⟨_, rfl⟩
   rw [← ht0] at hcr hsM
   clear hsi ht0
   have hop : ∀ x ∈ Q.orders, primeB x = true := by rw [hQo]; exact HO.out.1
   obtain ⟨a5, c5, hqo, _, _⟩ := hQ.o.shape
   obtain ⟨a6, c6, hqp, _, _⟩ := Sl.shape hQ.p
   obtain ⟨a7, c7, hqc, _, _⟩ := Sl.shape hQ.c
   subst hqo hqp hqc
   have hBd := hB.ext (grown_drew _ none)
   have hQd : Pres3 (fun k => w2.heap.size ≤ k ∧ k ≠ w3.heap.size) wr.drew _ _ _ Q := hQ.ext (grown_drew _ none)
   obtain ⟨d0, d1, d2, d3, d4⟩ := id hBd
   have f1 : wr.drew.cell? ⟨bt, i, none⟩ = some (.string t0) := hcr
   have HQ := Lib.hid (And.intro hQs (And.intro hQo (And.intro hop (And.intro hQd hB)))); clear hQs hQo hop hQd hB hQ hBd hcr
   go_wp2_with fail
   go_region_law (first
    | (go_simp; go_at_call 452; refine Calls.mono (l07Relation_ok _ _ Q _ t0 ⟨_, _, _, rfl, HQ.out.2.2.2.1⟩ HQ.out.1 HQ.out.2.2.1 hsM) ?_; rintro eC wC ⟨vC, rfl, hgC, yo, yp, yc, r, Q2, rfl, hS2, ho2, hP2⟩; have HO2 := Lib.hid ho2; clear ho2; obtain ⟨e5, k5, rfl, _, _⟩ := hP2.o.shape; obtain ⟨e6, k6, rfl, _, _⟩ := Sl.shape hP2.p; obtain ⟨e7, k7, rfl, _, _⟩ := Sl.shape hP2.c; have hBC := (HQ.out.2.2.2.2.ext (grown_drew _ none)).ext hgC; obtain ⟨g0, g1, g2, g3, g4⟩ := id hBC))
   all_goals
    have hgC2 : Ext wr wC := grown_trans (grown_drew _ _) hgC
    have hpbl := HQ.out.2.2.2.2.1
    have hsr := hg.size
    have hB9 := hBC.all (.slice e5 Q2.orders.length k5) (.slice e6 Q2.powers.length k6) (.slice e7 Q2.conj.length k7)
    have hT9 := grown_set3 wC w3.heap.size (.slice e5 Q2.orders.length k5) (.slice e6 Q2.powers.length k6) (.slice e7 Q2.conj.length k7)
    have hg9 : Ext w2 (((wC.setCell ⟨w3.heap.size, 0, none⟩ (.slice e5 Q2.orders.length k5)).setCell ⟨w3.heap.size, 1, none⟩ (.slice e6 Q2.powers.length k6)).setCell ⟨w3.heap.size, 2, none⟩ (.slice e7 Q2.conj.length k7)) := grown_own (grown_trans hg hgC2) hT9 (fun j hj hlt => by cases hj; omega)
    have hP9 : Pres3 (fun k => w2.heap.size ≤ k ∧ k ≠ w3.heap.size) (((wC.setCell ⟨w3.heap.size, 0, none⟩ (.slice e5 Q2.orders.length k5)).setCell ⟨w3.heap.size, 1, none⟩ (.slice e6 Q2.powers.length k6)).setCell ⟨w3.heap.size, 2, none⟩ (.slice e7 Q2.conj.length k7)) (.slice e5 Q2.orders.length k5) (.slice e6 Q2.powers.length k6) (.slice e7 Q2.conj.length k7) Q2 :=
     hP2.mono (fun k hk hlt => by
      have hk2 : w2.heap.size ≤ k ∧ k ≠ w3.heap.size := by
       have hd : wr.drew.heap.size = wr.heap.size := rfl
       rcases hk with hk | hk
       ·exact hk
       ·exact ⟨by omega, by omega⟩
      exact ⟨hk2, Nat.lt_of_lt_of_le hlt hT9.size, hT9.block k hlt (fun e => hk2.2 (by cases e; rfl))⟩)
    have HF := Lib.hid (And.intro hB9 (And.intro hP9 (And.intro hS2 HO2.out))); clear hB9 hP9 hS2 HO2 hP2 hT9 g0 g1 g2 g3 g4 hBC d0 d1 d2 d3 d4 f1
    generalize ((wC.setCell ⟨w3.heap.size, 0, none⟩ (.slice e5 Q2.orders.length k5)).setCell ⟨w3.heap.size, 1, none⟩ (.slice e6 Q2.powers.length k6)).setCell ⟨w3.heap.size, 2, none⟩ (.slice e7 Q2.conj.length k7) = w9 at *
    cases r
    case' false =>
     have hb9 := hb2.ext hg9
     have hgw9 := grown_trans hgw2 hg9
     obtain ⟨n0, n1, n2, n3, n4⟩ := id hb9
     have hZn := hb9.all (.slice none 0 0) (.slice none 0 0) (.slice none 0 0)
     obtain ⟨-, z0, z1, z2, -⟩ := id hZn
     have hTn := grown_set3 w9 w.heap.size (.slice none 0 0) (.slice none 0 0) (.slice none 0 0)
     have HTn := Lib.hid hTn; clear hZn hTn
     go_wp2_with fail
     refine bodyPost_ret (v := .tuple #[.agg #[.slice none 0 0, .slice none 0 0, .slice none 0 0], .int .i64 6]) (by simp [results, Tryz.results441, go_sem, z0, z1, z2]) rfl ?_
     exact ⟨_, rfl, grown_own hgw9 HTn.out (fun j hj hlt => by cases hj; omega), _, _, _, _, rfl, _, shp_nil 6, pres3_nil _ _⟩
    go_wp2_with fail
    go_roundw
    case rel => exact ⟨i + 1, _, _, _, Q2, rfl, by go_num, by omega, hg9, HF.out.1, HF.out.2.2.1, by rw [HF.out.2.2.2]; exact HQ.out.2.1, HF.out.2.1⟩
    case measure => simp [intOf]; omega
  ·have hlt' : ¬ ((i : Int) < ts.length) := by omega
   obtain ⟨a5, c5, hqo, _, _⟩ := hQ.o.shape
   obtain ⟨a6, c6, hqp, _, _⟩ := Sl.shape hQ.p
   obtain ⟨a7, c7, hqc, _, _⟩ := Sl.shape hQ.c
   subst hqo hqp hqc
   obtain ⟨d0, d1, d2, d3, d4⟩ := id hB
   have HQ := Lib.hid (And.intro hQs (And.intro hQo (And.intro hQ hB))); clear hQs hQo hQ hB
   go_wp2_with fail
   refine Calls.mono (sIsPresentation_ok wr _ Q _ ⟨_, _, _, rfl, HQ.out.2.2.1⟩) ?_
   rintro e5 w5 ⟨v5, rfl, hg5, rfl⟩
   have hB5 := HQ.out.2.2.2.ext hg5
   obtain ⟨p0, p1, p2, p3, p4⟩ := id hB5
   have hg25 := grown_trans hg hg5
   rcases hv : validB Q with _ | _
   case' false =>
    have hb5 := hb2.ext hg25
    have hgw5 := grown_trans hgw2 hg25
    obtain ⟨n0, n1, n2, n3, n4⟩ := id hb5
    have hZn := hb5.all (.slice none 0 0) (.slice none 0 0) (.slice none 0 0)
    obtain ⟨-, z0, z1, z2, -⟩ := id hZn
    have hTn := grown_set3 w5 w.heap.size (.slice none 0 0) (.slice none 0 0) (.slice none 0 0)
    have HTn := Lib.hid hTn; clear hZn hTn
    go_wp2_with fail
    refine bodyPost_ret (v := .tuple #[.agg #[.slice none 0 0, .slice none 0 0, .slice none 0 0], .int .i64 6]) (by simp [results, Tryz.results441, go_sem, z0, z1, z2]) rfl ?_
    exact ⟨_, rfl, grown_own hgw5 HTn.out (fun j hj hlt => by cases hj; omega), _, _, _, _, rfl, _, shp_nil 6, pres3_nil _ _⟩
   have hV := valid_of hv
   clear hv
   have HV := Lib.hid hV; clear hV
   go_wp2_with fail
   refine Calls.mono (l07Text_ok Q HV.out w5 _ _ ⟨_, _, _, rfl, HQ.out.2.2.1.ext hg5⟩) ?_
   rintro e6 w6 ⟨v6, rfl, hg6, rfl⟩
   have hg26 := grown_trans hg25 hg6
   have hb6 := hb2.ext hg26
   have hgw6 := grown_trans hgw2 hg26
   have hB6 := hB5.ext hg6
   have hP6 := (HQ.out.2.2.1.ext hg5).ext hg6
   clear p0 p1 p2 p3 p4 d0 d1 d2 d3 d4 hB5
   rcases hcmp : ((strOfNums (textP Q)).toList == s.toList) with _ | _
   case' false =>
    obtain ⟨n0, n1, n2, n3, n4⟩ := id hb6
    have hZn := hb6.all (.slice none 0 0) (.slice none 0 0) (.slice none 0 0)
    obtain ⟨-, z0, z1, z2, -⟩ := id hZn
    have hTn := grown_set3 w6 w.heap.size (.slice none 0 0) (.slice none 0 0) (.slice none 0 0)
    have HTn := Lib.hid hTn; clear hZn hTn
    go_wp2_with fail
    refine bodyPost_ret (v := .tuple #[.agg #[.slice none 0 0, .slice none 0 0, .slice none 0 0], .int .i64 6]) (by simp [results, Tryz.results441, go_sem, z0, z1, z2]) rfl ?_
    exact ⟨_, rfl, grown_own hgw6 HTn.out (fun j hj hlt => by cases hj; omega), _, _, _, _, rfl, _, shp_nil 6, pres3_nil _ _⟩
   obtain ⟨p0, p1, p2, p3, p4⟩ := id hB6
   obtain ⟨n0, n1, n2, n3, n4⟩ := id hb6
   have hZn := hb6.all (.slice a5 Q.orders.length c5) (.slice a6 Q.powers.length c6) (.slice a7 Q.conj.length c7)
   obtain ⟨-, z0, z1, z2, -⟩ := id hZn
   have hTn := grown_set3 w6 w.heap.size (.slice a5 Q.orders.length c5) (.slice a6 Q.powers.length c6) (.slice a7 Q.conj.length c7)
   have HTn := Lib.hid (And.intro hTn hP6); clear hZn hTn hP6
   go_wp2_with fail
   refine bodyPost_ret (v := .tuple #[.agg #[.slice a5 Q.orders.length c5, .slice a6 Q.powers.length c6, .slice a7 Q.conj.length c7], .int .i64 0]) (by simp [results, Tryz.results441, go_sem, z0, z1, z2]) rfl ?_
   exact ⟨_, rfl, grown_own hgw6 HTn.out.1 (fun j hj hlt => by cases hj; omega), _, _, _, _, rfl, Q, HQ.out.1, HTn.out.2.mono (fun k hk hlt => ⟨(by show w.heap.size ≤ k; omega), Nat.lt_of_lt_of_le hlt HTn.out.1.size, HTn.out.1.block k hlt (fun e => by cases e; omega)⟩)⟩
end Go.Proofs.YtmjkoejegfjbbaaGreat
