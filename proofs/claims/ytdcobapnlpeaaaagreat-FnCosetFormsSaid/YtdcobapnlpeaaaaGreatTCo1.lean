/-
  Plain: the canonical sequence of a subgroup is one: a table that is reduced is determined by the subgroup; so are representatives of cosets.
  Plain: depths; every subgroup has a canonical sequence, and every element a representative.
  Plain: a sequence as a table by depths, as the reference lays it; coset representatives, sifting and the reduced sequence by such a table.
  The reference's tables by depths: spec.l02Lead, l12Depth, l12Table; how a table reads.
  The reference's coset representatives and membership: spec.l12Reduce, l12Sift, l12Has.
  The reference's membership and order: spec.l01Zero, l12Sift, l12Has, l12Order.
  Drawing: spec.DrawCosetRepresentative.
  impl.conjugates, impl.conjugateSubgroup.
  The library's sort at [][]int64, laid from the shelf.
  NormalCore on both sides.
  CosetRepresentative on both sides.
  Plain: the exponents of a member of a subgroup along its sequence.
  impl.memberExponents, memberElement.
  impl.areElements.
  impl.Multiply, Inverse, Commutator on elements (printed by gen_elw.py).
  DoubleCosetSize on both sides.
  slices.Grow at rows, laid from the shelf.
  What the program's public subgroup functions answer on subgroups (printed by gen_auxw.py).
  impl.MemberExponents, MemberElement on members of a subgroup; laws.mul9, inv9 (printed by gen_mex2.py).
  impl.MemberElement on a subgroup and good exponents (printed by gen_mel.py).
  laws.likeInts, like29, like39: whether two lists are alike (printed by gen_like.py).
  laws.FnCosetForms answers true (printed by gen_lco.py).
-/
import Derived.Test.YtdcobapnlpeaaaaGreatK10
import Derived.Test.YtdcobapnlpeaaaaGreatK1
import Derived.Test.YtdcobapnlpeaaaaGreatK2
import Derived.Test.YtdcobapnlpeaaaaGreatK3
import Derived.Test.YtdcobapnlpeaaaaGreatK4
import Derived.Test.YtdcobapnlpeaaaaGreatK5
import Derived.Test.YtdcobapnlpeaaaaGreatK6
import Derived.Test.YtdcobapnlpeaaaaGreatK7
import Derived.Test.YtdcobapnlpeaaaaGreatK8
import Derived.Test.YtdcobapnlpeaaaaGreatK9
import Derived.Laws.BitsAllLaws
import Derived.Sort.OwnSortedInts
import Derived.Deep.RegionHeld3
import Derived.Shelf.SlSortCmp.NoneTotal
import Derived.Shelf.Spec.SlicesGrow
namespace Go.Proofs.YtdcobapnlpeaaaaGreat
section
variable {P : Pr} (G : Grp P)
include G
theorem Grp.coset_one {H : List Int → Prop} {b : Nat → List Int} (I : Ind P H b) {x y : List Int} (hx : Vec P.orders x) (hy : Vec P.orders y) (h : H (rMul P (rInv P x) y))
  (hx0 : ∀ e, e < P.orders.length → b e ≠ [] → gt x e = 0) (hy0 : ∀ e, e < P.orders.length → b e ≠ [] → gt y e = 0) : x = y := by
 have hxi := G.invV hx
 have e1 : rMul P x (rMul P (rInv P x) y) = y := by rw [← G.ass hx hxi hy, G.mul_inv hx, G.grp.el _ hy]
 by_cases hz : rMul P (rInv P x) y = zeros P.orders.length
 ·rw [hz, G.grp.er _ hx] at e1; exact e1
 ·exfalso
  have hzv := I.sub.vec _ h
  obtain ⟨e, he, hT, h0⟩ := depth_ex hzv hz
  have hp := I.piv _ h e he hT h0
  have h2 := (G.right (Nat.le_of_lt he) hx hT).2 he
  rw [e1, hx0 e he hp, hy0 e he hp, Int.zero_add] at h2
  have hb := hzv.2 e he
  rw [Int.emod_eq_of_lt hb.1 hb.2] at h2
  exact h0 h2.symm
theorem Grp.rep_one {H : List Int → Prop} {b : Nat → List Int} (I : Ind P H b) {x y y' : List Int} (hx : Vec P.orders x) (h : Rep P H b x y) (h' : Rep P H b x y') : y = y' := by
 refine G.coset_one I h.1 h'.1 ?_ h.2.2 h'.2.2
 have hi := G.invV hx
 have hyi := G.invV h.1
 have e : rMul P (rInv P y) y' = rMul P (rInv P (rMul P (rInv P x) y)) (rMul P (rInv P x) y') := by
  rw [G.inv_mulR hi h.1, G.inv_inv hx, G.ass hyi hx (G.mulV hi h'.1), ← G.ass hx hi h'.1, G.mul_inv hx, G.grp.el _ h'.1]
 rw [e]; exact I.sub.mul _ _ (I.sub.inv _ h.2.1) h'.2.1
end
end Go.Proofs.YtdcobapnlpeaaaaGreat
namespace Go.Proofs.YtdcobapnlpeaaaaGreat
section
variable {P : Pr} (G : Grp P)
include G
theorem Grp.rep_ex {H : List Int → Prop} {b : Nat → List Int} (I : Ind P H b) {x : List Int} (hx : Vec P.orders x) : ∃ y, Rep P H b x y := by
 obtain ⟨y, h, h1, h2, h3, h4, h5⟩ := G.rep_from I P.orders.length 0 x (by omega) hx
 refine ⟨y, h4, ?_, fun e he hb => h5 e (by omega) he hb⟩
 rw [h3, ← G.ass (G.invV hx) hx h2.1, G.inv_mul hx, G.grp.el _ h2.1]; exact h1
end
/-! ### a sequence as a list -/
end Go.Proofs.YtdcobapnlpeaaaaGreat
namespace Go.Proofs.YtdcobapnlpeaaaaGreat
theorem tabTo_len (U : List (List Int)) (n k : Nat) : (tabTo U n k).length = n := by
 induction k with
 | zero => simp [tabTo]
 | succ k ih => simp only [tabTo, List.length_set]; exact ih
theorem tabTo_at (P : Pr) (U : List (List Int)) : ∀ k, k ≤ U.length → ∀ d, d < P.orders.length →
  (gt (tabTo U P.orders.length k) d = [] ∧ ∀ j, j < k → dep (gt U j) ≠ d) ∨ ∃ j, j < k ∧ dep (gt U j) = d ∧ gt (tabTo U P.orders.length k) d = gt U j := by
 intro k
 induction k with
 | zero => intro _ d hd; exact .inl ⟨by simp [tabTo, gt, hd], fun j hj => by omega⟩
 | succ k ih =>
  intro hk d hd
  have hl := tabTo_len U P.orders.length k
  simp only [tabTo]
  by_cases h : dep (gt U k) = d
  ·right
   exact ⟨k, by omega, h, by rw [h, gt_set_eq _ _ _ (by omega)]⟩
  ·rw [gt_set_ne _ _ _ _ h]
   rcases ih (by omega) d hd with ⟨h1, h2⟩ | ⟨j, h1, h2, h3⟩
   ·left
    refine ⟨h1, fun j hj => ?_⟩
    rcases Nat.lt_succ_iff_lt_or_eq.1 hj with hj | hj
    ·exact h2 j hj
    ·rw [hj]; exact h
   ·right
    exact ⟨j, by omega, h2, h3⟩
theorem tabTo_vec {P : Pr} {U : List (List Int)} (hU : SeqOk P U) (d : Nat) (hd : d < P.orders.length) (hne : gt (tabTo U P.orders.length U.length) d ≠ []) :
  T P d (gt (tabTo U P.orders.length U.length) d) ∧ gt (gt (tabTo U P.orders.length U.length) d) d = 1 := by
 rcases tabTo_at P U U.length (Nat.le_refl _) d hd with ⟨h, _⟩ | ⟨j, hj, hjd, he⟩
 ·exact absurd h hne
 ·obtain ⟨a, _, c⟩ := hU.1 _ (gtMem hj)
  rw [he, ← hjd]
  exact ⟨dep_T a, c⟩
structure RedTo (P : Pr) (H : List Int → Prop) (b : List (List Int)) (X : List Int) (d : Nat) (Y : List Int) : Prop where
 vec : Vec P.orders Y
 cos : H (rMul P (rInv P X) Y)
 zer : ∀ e, e < d → gt b e ≠ [] → gt Y e = 0
section
variable {P : Pr} (G : Grp P)
include G
theorem Grp.ind_tab {H : List Int → Prop} (S : Sub P H) : Ind P H (gt (tabTo (cseq P H) P.orders.length (cseq P H).length)) := by
 obtain ⟨h1, h2, h3⟩ := G.seq_facts S
 refine ⟨S, fun d hd hne => ?_, fun x hx d hd hT h0 => ?_⟩
 ·refine ⟨?_, tabTo_vec h1 d hd hne⟩
  rcases tabTo_at P _ _ (Nat.le_refl _) d hd with ⟨h, _⟩ | ⟨j, hj, _, he⟩
  ·exact absurd h hne
  ·rw [he]; exact h2 _ (gtMem hj)
 ·obtain ⟨j, hj, hjd⟩ := h3 x hx d hd hT h0
  rcases tabTo_at P _ _ (Nat.le_refl _) d hd with ⟨_, h⟩ | ⟨i, hi, _, he⟩
  ·exact absurd hjd (h j hj)
  ·rw [he]
   intro hn
   have := (h1.1 _ (gtMem hi)).1.1
   rw [hn] at this; simp at this; omega
theorem Grp.redTo_zero {H : List Int → Prop} {b : List (List Int)} (S : Sub P H) {X : List Int} (hX : Vec P.orders X) : RedTo P H b X 0 X :=
 ⟨hX, by rw [G.inv_mul hX]; exact S.one, fun e he => by omega⟩
omit G in
theorem RedTo.skip {H : List Int → Prop} {b : List (List Int)} {X Y : List Int} {d : Nat} (h : RedTo P H b X d Y) (h0 : gt b d = [] ∨ gt Y d = 0) : RedTo P H b X (d + 1) Y :=
 ⟨h.vec, h.cos, fun e he hb => by
  rcases Nat.lt_succ_iff_lt_or_eq.1 he with h1 | h1
  ·exact h.zer e h1 hb
  ·subst h1; exact h0.elim (fun h => absurd h hb) id⟩
theorem Grp.redTo_step {H : List Int → Prop} {b : List (List Int)} (I : Ind P H (gt b)) {X Y : List Int} {d : Nat} (hX : Vec P.orders X) (hd : d < P.orders.length) (hb : gt b d ≠ []) (h : RedTo P H b X d Y) :
  RedTo P H b X (d + 1) (rMul P Y (pwZ P (gt b d) (-(gt Y d)))) := by
 obtain ⟨m1, m2, m3⟩ := I.mem d hd hb
 have hc := G.right_clear hd h.vec m2 m3
 refine ⟨hc.2.2, ?_, fun e he hbe => ?_⟩
 ·rw [← G.ass (G.invV hX) h.vec (G.pwZ_vec m2.1 _)]
  exact I.sub.mul _ _ h.cos (I.sub.pwZ m1 _)
 ·rcases Nat.lt_succ_iff_lt_or_eq.1 he with h1 | h1
  ·rw [hc.2.1 e h1]; exact h.zer e h1 hbe
  ·subst h1; exact hc.1
omit G in
theorem RedTo.rep {H : List Int → Prop} {b : List (List Int)} {X Y : List Int} (h : RedTo P H b X P.orders.length Y) : Rep P H (gt b) X Y := ⟨h.vec, h.cos, h.zer⟩
end
end Go.Proofs.YtdcobapnlpeaaaaGreat
namespace Go.Proofs.YtdcobapnlpeaaaaGreat
open Go.RowKit
set_option maxHeartbeats 400000 in
theorem l02Lead_ok (v : Value) (X : List Int) (w : World) (S : Nat → Prop) (h : Ints S w v X) :
  Calls Tryz.prog 317 #[v] w fun e w' => e = .returned (.int .i64 (dep X)) ∧ w = w' := by
 obtain ⟨a, cap, rfl, _, _⟩ := h.shape
 go_enter Tryz.func317, Tryz.ntmps317
 go_wp2
 go_loop [3] (fun i => ∃ k : Nat, i = .int .i64 k ∧ k ≤ X.length ∧ ∀ j, j < k → gt X j = 0) (fun i => X.length - (intOf i).toNat)
 case atStart => exact ⟨0, rfl, by omega, fun j hj => by omega⟩
 case round =>
  obtain ⟨k, rfl, hk, hz⟩ := hrel
  have HZ := Lib.hid hz; clear hz
  by_cases hlt : k < X.length
  ·obtain ⟨b, off, rfl, _, _, hc⟩ := Ints.at h k hlt
   by_cases hx : gt X k = 0
   ·have hb : (gt X k != 0) = false := by simp [hx]
    have HX := Lib.hid hx; clear hx
    go_wp2
    go_round
    case rel => exact ⟨k + 1, by go_num, by omega, fun j hj => by
     rcases Nat.lt_succ_iff_lt_or_eq.1 hj with h1 | h1
     ·exact HZ.out j h1
     ·rw [h1]; exact HX.out⟩
    case measure => simp [intOf]; omega
   ·have hb : (gt X k != 0) = true := by simp [hx]
    have he : dep X = k := dep_eq hlt HZ.out hx
    have HE := Lib.hid he; clear he hx
    go_wp2
    go_ret
    exact ⟨by rw [HE.out]; rfl, rfl⟩
  ·have hke : k = X.length := by omega
   have he : dep X = X.length := dep_all (fun j hj => HZ.out j (by omega))
   have HE := Lib.hid he; clear he
   go_wp2
   go_ret
   exact ⟨by rw [HE.out]; rfl, rfl⟩
theorem l12Depth_ok (v : Value) (X : List Int) (w : World) (S : Nat → Prop) (h : Ints S w v X) :
  Calls Tryz.prog 289 #[v] w (Ret w fun _ r => r = .int .i64 (dep X)) := by
 have hcon := l02Lead_ok v X w S h
 obtain ⟨a, cap, rfl, _, _⟩ := h.shape
 go_enter Tryz.func289, Tryz.ntmps289
 go_wp2_with fail
 refine Calls.mono hcon ?_
 rintro e1 w1 ⟨rfl, rfl⟩
 clear hcon
 go_wp2
 go_ret
 exact ⟨_, rfl, Ext.refl _, rfl⟩
set_option maxRecDepth 100000 in
set_option maxHeartbeats 1000000 in
theorem l12Table_ok (P : Pr) (hP : Valid P) (w : World) (pv uv : Value) (U : List (List Int)) (Sp Su : Nat → Prop) (hpv : PresV Sp w pv P) (hu : Rows2 Su w uv U) (hU : SeqOk P U) (hl : U.length ≤ 6) :
  Calls Tryz.prog 226 #[pv, uv] w (Ret w fun w' v => Rows2 Any w' v (tabTo U P.orders.length U.length)) := by
 have hn6 := hP.n6
 obtain ⟨vo, vp, vc, rfl, h3⟩ := hpv
 have hp0 := PresP.box h3 28
 have hg0 : Ext w (w.alloc (.cells #[vo, vp, vc] 28)) := World.grownBy_alloc _ _ _
 obtain ⟨ao, capo, hco, hoi⟩ := hp0.ordAt
 obtain ⟨au, capu, rfl, _, _⟩ := Sl.shape hu
 have HU := Lib.hid hU; clear hU
 go_enter Tryz.func226, Tryz.ntmps226
 go_wp2_with (first | (at_make; refine wp_make_tab rfl _ _ rfl w.heap.size P.orders.length (w.heap.size + 1) (by simp) _ rfl rfl rfl (by omega) (by omega) ?_; intro w1 hT1 hg1 hlt1) | fail)
 have hgw := grown_trans hg0 hg1
 have hT := hT1 (fun _ => False)
 clear hT1 hco hoi hp0
 go_loopw [6] (fun iv wr => ∃ i : Nat, iv = .int .i64 i ∧ i ≤ U.length ∧ Ext w wr ∧ TabAt w.heap.size (fun _ => False) wr (w.heap.size + 1) P.orders.length (tabTo U P.orders.length i)) (fun iv _ => U.length - (intOf iv).toNat)
 case atStart => exact ⟨0, rfl, by omega, hgw, hT⟩
 case round =>
  clear hT hgw
  obtain ⟨i, rfl, hi, hg, hT⟩ := hrel
  by_cases hlt : i < U.length
  ·have hlt' : (i : Int) < U.length := by omega
   obtain ⟨b, off, a2, cap2, rfl, _, hbl0, hc0, hr⟩ := Rows2.at hu i hlt
   have hc := hg.cell hc0 (by simp)
   clear hc0
   obtain ⟨hzV, hzd, hz1⟩ := HU.out.1 _ (gtMem hlt)
   have hst : tabTo U P.orders.length (i + 1) = (tabTo U P.orders.length i).set (dep (gt U i)) (gt U i) := rfl
   obtain ⟨z, hz⟩ : ∃ z, z = gt U i := ⟨_, rfl⟩
   rw [← hz] at hc hr hzV hzd hz1 hst
   clear hz
   obtain ⟨d, hd⟩ : ∃ d, d = dep z := ⟨_, rfl⟩
   rw [← hd] at hzd hst hz1
   have HD := Lib.hid hd; clear hd
   have hbl : b < w.heap.size := hbl0
   have hr3 := Ints.ext hr hg
   have hzne : z ≠ [] := fun e => by have := hzV.1; rw [e] at this; simp at this; omega
   have hrS : Ints (fun k => k ≠ w.heap.size + 1 ∧ ¬ False) wr (.slice a2 z.length cap2) z := by
    have h1 : Ints (fun k => k < w.heap.size) w (.slice a2 z.length cap2) z := Ints.sub hr (fun _ _ h => h)
    exact h1.mono (fun k hk hlt => ⟨⟨by omega, id⟩, Nat.lt_of_lt_of_le hlt hg.size, hg.block k hlt (by simp)⟩)
   obtain ⟨hfr, hcc⟩ := hT.at d hzd
   have HS := Lib.hid (And.intro hst (And.intro hzne (And.intro hzV hz1))); clear hst hzne hzV hz1
   have hdn : (d : Int) < P.orders.length := by omega
   obtain ⟨u0, hu0⟩ : ∃ u0, wr.cell? ⟨w.heap.size + 1, d, none⟩ = some u0 := by rcases hcc with ⟨_, h⟩ | ⟨_, _, _, h, _⟩ <;> exact ⟨_, h⟩
   clear hcc hbl0
   have e1 : ∀ w', Near wr (w.heap.size + 1) w' → w'.cell? ⟨b, off + i, none⟩ = some (.slice a2 z.length cap2) := fun w' h => h.cell hc (by simp; omega)
   go_wp2
   go_region_held3 (fun w' => Near wr (w.heap.size + 1) w') (first | exact Near.of (grown_drew _ _) | exact Near.of (by assumption) | exact Near.store (by assumption) | assumption)
    (first
     | (go_at_call 289; refine Calls.mono (Calls.rel (w0 := wr) (by first | exact grown_drew _ _ | assumption) (l12Depth_ok _ z _ Any (Ints.sub (Ints.ext hr3 (by first | exact grown_drew _ _ | assumption)) (fun _ _ _ => trivial)))) ?_; rintro eE wE ⟨vE, rfl, hgE, hsE, hvE⟩; rw [← HD.out] at hvE; subst hvE; have hcel2 := hgE.cell hu0 (by simp); have hfr2 := ((hT.ext hgE).at d hzd).1))
   clear e1
   obtain ⟨hT5, hg5⟩ := (hT.ext hgE).put d (u := .slice a2 z.length cap2) (y := z) (Ints.ext hrS hgE) HS.out.2.1
   have hgn : Ext w (wE.setCell ⟨w.heap.size + 1, d, none⟩ (.slice a2 z.length cap2)) := grown_own (grown_trans hg hgE) hg5 (fun j hj hlt => by cases hj; omega)
   clear hcel2 hfr2 hg5
   go_wp2
   go_roundw
   case rel => exact ⟨i + 1, by go_num, by omega, hgn, by rw [HS.out.1]; exact hT5⟩
   case measure => simp [intOf]; omega
  ·have hie : i = U.length := by omega
   subst hie
   go_wp2
   go_ret
   exact ⟨_, rfl, hg, Rows2.sub (hT.rows (by omega)) (fun _ _ _ => trivial)⟩
end Go.Proofs.YtdcobapnlpeaaaaGreat
namespace Go.Proofs.YtdcobapnlpeaaaaGreat
open Go.RowKit
set_option maxRecDepth 100000 in
set_option maxHeartbeats 2000000 in
theorem l12Reduce_ok (P : Pr) (G : Grp P) (w : World) (pv tv xv : Value) (b : List (List Int)) (X : List Int) (H : List Int → Prop) (Sp Sb Sx : Nat → Prop) (hpv : PresV Sp w pv P) (ht : Rows2 Sb w tv b) (hx : Ints Sx w xv X) (hX : Vec P.orders X)
  (hlb : b.length = P.orders.length) (hI : Ind P H (gt b)) :
  Calls Tryz.prog 225 #[pv, tv, xv] w (Ret w fun w' v => ∃ Y, Own w.heap.size w' v Y ∧ RedTo P H b X P.orders.length Y) := by
 have hP := G.v
 have hn6 := hP.n6
 obtain ⟨vo, vp, vc, rfl, h3⟩ := hpv
 have hp0 := PresP.box h3 28
 have hg0 : Ext w (w.alloc (.cells #[vo, vp, vc] 28)) := World.grownBy_alloc _ _ _
 have hx0 := hx.ext hg0
 have ht0 := Rows2.ext ht hg0
 have hXl : X.length ≤ 6 := by rw [hX.1]; omega
 have hs0 : (w.alloc (.cells #[vo, vp, vc] 28)).heap.size = w.heap.size + 1 := by simp
 obtain ⟨at_, capt, hvt, _, _⟩ := Sl.shape ht
 rw [hlb] at hvt
 subst hvt
 have HI := Lib.hid (And.intro hI (And.intro hX hlb)); clear hI hX hlb
 obtain ⟨vo6, vp6, vc6, _, _, hc0, hc1, hc2, h36⟩ := hp0.at
 simp only [Nat.zero_add] at hc1 hc2
 clear hp0
 go_enter Tryz.func225, Tryz.ntmps225
 go_wp2_with fail
 have HS := Lib.hid hs0; clear hs0
 generalize hw0 : w.alloc (.cells #[vo, vp, vc] 28) = w0 at *
 clear hw0
 refine Calls.mono (l01Own_ok w0 xv X Sx hx0 (by omega)) ?_
 rintro e1 w1 ⟨ov, rfl, hg1, hO1⟩
 go_wp2
 go_loopw [7, 8] (fun ov iv wr => ∃ (d : Nat) (Y : List Int), iv = .int .i64 d ∧ d ≤ P.orders.length ∧ Ext w0 wr ∧ Own w.heap.size wr ov Y ∧ Hid (RedTo P H b X d Y)) (fun _ iv _ => P.orders.length - (intOf iv).toNat)
 case atStart => exact ⟨0, X, rfl, by omega, hg1, hO1.weak (by have := HS.out; omega), Lib.hid (G.redTo_zero HI.out.1.sub HI.out.2.1)⟩
 case round =>
  clear hO1
  obtain ⟨d, Y, rfl, hd, hg, hO, hR⟩ := hrel
  have hYV := hR.out.vec
  have hYl : Y.length = P.orders.length := hYV.1
  have hYi := hO.ints (by omega)
  obtain ⟨ay, capy, hvy, _, _⟩ := hYi.shape
  rw [hYl] at hvy
  subst hvy
  by_cases hlt : d < P.orders.length
  ·have hlt' : (d : Int) < P.orders.length := by omega
   obtain ⟨bb, off, a2, cap2, rfl, _, _, hc, hr⟩ := Rows2.at (Rows2.ext ht0 hg) d (by rw [HI.out.2.2]; exact hlt)
   obtain ⟨by_, oy, rfl, _, _, hcy⟩ := Ints.at hYi d (by omega)
   by_cases hb : gt b d = []
   ·have hbl : ¬ (0 : Int) < (gt b d).length := by rw [hb]; simp
    have hR2 := Lib.hid (hR.out.skip (.inl hb)); clear hb hYV
    go_wp2
    go_roundw
    case rel => exact ⟨d + 1, Y, by go_num, by omega, hg, hO, hR2⟩
    case measure => simp [intOf]; omega
   ·have hbl : (0 : Int) < (gt b d).length := by
     have : 0 < (gt b d).length := List.length_pos_iff.2 hb
     omega
    by_cases hy : gt Y d = 0
    ·have hyb : (gt Y d != 0) = false := by simp [hy]
     have hR2 := Lib.hid (hR.out.skip (.inr hy)); clear hb hYV hy
     go_wp2
     go_roundw
     case rel => exact ⟨d + 1, Y, by go_num, by omega, hg, hO, hR2⟩
     case measure => simp [intOf]; omega
    ·have hyb : (gt Y d != 0) = true := by simp [hy]
     have hyd := hYV.2 d hlt
     have ho := hP.ord7 d hlt
     have hwn : IntKind.i64.wrap (-(gt Y d)) = -(gt Y d) := IntWalk.i64_in _ (by omega)
     obtain ⟨m1, m2, m3⟩ := HI.out.1.mem d hlt hb
     have hR2 := Lib.hid (G.redTo_step HI.out.1 HI.out.2.1 hlt hb hR.out)
     have hpV := G.pwZ_vec m2.1 (-(gt Y d))
     have hpl : (pwZ P (gt b d) (-(gt Y d))).length ≤ 6 := by rw [hpV.1]; omega
     have HB := Lib.hid (And.intro m2.1 (And.intro hpV (And.intro hpl (And.intro hYV (And.intro hyd ho))))); clear m1 m2 m3 hpV hpl hYV hyd ho hb hy
     have e1 : ∀ w', Ext wr w' → w'.cell? ⟨w.heap.size, 0, none⟩ = some vo6 := fun w' h => (grown_trans hg h).cell hc0 (by simp)
     have e2 : ∀ w', Ext wr w' → w'.cell? ⟨w.heap.size, 1, none⟩ = some vp6 := fun w' h => (grown_trans hg h).cell hc1 (by simp)
     have e3 : ∀ w', Ext wr w' → w'.cell? ⟨w.heap.size, 2, none⟩ = some vc6 := fun w' h => (grown_trans hg h).cell hc2 (by simp)
     have e4 : ∀ w', Ext wr w' → w'.cell? ⟨bb, off + d, none⟩ = some (.slice a2 (gt b d).length cap2) := fun w' h => h.cell hc (by simp)
     have e5 : ∀ w', Ext wr w' → w'.cell? ⟨by_, oy + d, none⟩ = some (.int .i64 (gt Y d)) := fun w' h => h.cell hcy (by simp)
     go_wp2
     clear hc hcy
     go_region_held3 (fun w' => Ext wr w') (first | exact grown_drew _ _ | assumption)
      (first
       | (go_at_call 106; refine Calls.mono (Calls.rel (w0 := wr) (by assumption) (l10Pow_ok P G _ _ _ (gt b d) _ Any Any ⟨_, _, _, rfl, Pres3.ext (Pres3.ext h36 hg) (by assumption)⟩ (Ints.sub (Ints.ext hr (by assumption)) (fun _ _ _ => trivial)) HB.out.1 (by have := HB.out.2.2.2.2.1; have := HB.out.2.2.2.2.2; omega))) ?_; rintro eA wA ⟨vA, rfl, hgA, hsA, hOA⟩; have hOA2 := hOA.ints (by have := HB.out.2.2.1; omega))
       | (go_at_call 240; refine Calls.mono (Calls.rel (w0 := wr) (by assumption) (l08Mul_ok P hP _ _ _ _ Y _ Any Any Any ⟨_, _, _, rfl, Pres3.ext (Pres3.ext h36 hg) (by assumption)⟩ (Ints.sub (Ints.ext hYi (by assumption)) (fun _ _ _ => trivial)) hOA2 HB.out.2.2.2.1 HB.out.2.1)) ?_; rintro eB wB ⟨vB, rfl, hgB, hsB, hOB⟩))
     clear e1 e2 e3 e4 e5
     go_wp2
     go_roundw
     case rel => exact ⟨d + 1, _, by go_num, by omega, grown_trans hg hgB, hOB.weak (by have := hg.size; have := HS.out; omega), hR2⟩
     case measure => simp [intOf]; omega
  ·have hde : d = P.orders.length := by omega
   subst hde
   go_wp2
   go_ret
   exact ⟨_, rfl, grown_trans hg0 hg, Y, hO, hR.out⟩
end Go.Proofs.YtdcobapnlpeaaaaGreat
namespace Go.Proofs.YtdcobapnlpeaaaaGreat
open Go.RowKit
set_option maxRecDepth 100000 in
set_option maxHeartbeats 2000000 in
theorem l12Sift_ok (P : Pr) (G : Grp P) (w : World) (pv uv xv : Value) (H : List Int → Prop) (X : List Int) (Sp Su Sx : Nat → Prop) (S : Sub P H) (hpv : PresV Sp w pv P) (hu : Rows2 Su w uv (cseq P H)) (hx : Ints Sx w xv X) (hX : Vec P.orders X) :
  Calls Tryz.prog 120 #[pv, uv, xv] w (Ret w fun w' v => ∃ Y, Own w.heap.size w' v Y ∧ Rep P H (gt (tabTo (cseq P H) P.orders.length (cseq P H).length)) X Y) := by
 have hP := G.v
 have hn6 := hP.n6
 have hl := G.cseq_len S
 have hsq := (G.seq_facts S).1
 have hI := G.ind_tab S
 obtain ⟨vo, vp, vc, rfl, h3⟩ := hpv
 have hp0 := PresP.box h3 28
 have hg0 : Ext w (w.alloc (.cells #[vo, vp, vc] 28)) := World.grownBy_alloc _ _ _
 have hu0 := Rows2.ext hu hg0
 have hx0 := hx.ext hg0
 have hs0 : (w.alloc (.cells #[vo, vp, vc] 28)).heap.size = w.heap.size + 1 := by simp
 obtain ⟨au, capu, hvu, _, _⟩ := Sl.shape hu
 obtain ⟨ax, capx, hvx, _, _⟩ := hx.shape
 subst hvu hvx
 obtain ⟨vo6, vp6, vc6, _, _, hc0, hc1, hc2, h36⟩ := hp0.at
 simp only [Nat.zero_add] at hc1 hc2
 have HI := Lib.hid (And.intro hsq (And.intro hI (And.intro hX hl))); clear hsq hI hX hl hp0 hu hx
 go_enter Tryz.func120, Tryz.ntmps120
 go_wp2
 have HS := Lib.hid hs0; clear hs0
 generalize hw0 : w.alloc (.cells #[vo, vp, vc] 28) = w0 at *
 clear hw0
 have e1 : ∀ w', Ext w0 w' → w'.cell? ⟨w.heap.size, 0, none⟩ = some vo6 := fun w' h => h.cell hc0 (by simp)
 have e2 : ∀ w', Ext w0 w' → w'.cell? ⟨w.heap.size, 1, none⟩ = some vp6 := fun w' h => h.cell hc1 (by simp)
 have e3 : ∀ w', Ext w0 w' → w'.cell? ⟨w.heap.size, 2, none⟩ = some vc6 := fun w' h => h.cell hc2 (by simp)
 clear hc0 hc1 hc2
 go_region_held3 (fun w' => Ext w0 w') (first | exact grown_drew _ _ | assumption)
  (first
   | (go_at_call 226; refine Calls.mono (Calls.rel (w0 := w0) (by assumption) (l12Table_ok P hP _ _ _ (cseq P H) Any Any ⟨_, _, _, rfl, Pres3.ext h36 (by assumption)⟩ (Rows2.sub (Rows2.ext hu0 (by assumption)) (fun _ _ _ => trivial)) HI.out.1 (by have := HI.out.2.2.2; omega))) ?_; rintro eA wA ⟨tA, rfl, hgA, hsA, hTA⟩; obtain ⟨aA, capA, hvA, _, _⟩ := Sl.shape hTA; subst hvA)
   | (go_at_call 225; refine Calls.mono (Calls.rel (w0 := w0) (by assumption) (l12Reduce_ok P G _ _ _ _ _ X H Any Any Any ⟨_, _, _, rfl, Pres3.ext h36 (by assumption)⟩ hTA (Ints.sub (Ints.ext hx0 (by assumption)) (fun _ _ _ => trivial)) HI.out.2.2.1 (tabTo_len _ _ _) HI.out.2.1)) ?_; rintro eB wB ⟨vB, rfl, hgB, hsB, Y, hOB, hRB⟩))
 clear e1 e2 e3
 have HR := Lib.hid hRB; clear hRB
 go_wp2
 go_ret
 exact ⟨_, rfl, grown_trans hg0 hgB, Y, hOB.weak (by have := HS.out; omega), HR.out.rep⟩
end Go.Proofs.YtdcobapnlpeaaaaGreat
namespace Go.Proofs.YtdcobapnlpeaaaaGreat
open Go.RowKit
attribute [local go_sem ↓] Go.wp_at_zero Go.wp_at_succ
def PairX (M B : Nat) (w' : World) (v : Value) : Prop := ∃ vo vp vc rv xv P, v = .tuple #[.agg #[vo, vp, vc], rv, xv] ∧ P.orders.length ≤ M ∧ Pres3 (From B) w' vo vp vc P ∧ RowsDr B w' rv ∧ ∃ X, X.length ≤ 21 ∧ Ints (From B) w' xv X
set_option maxRecDepth 100000 in
set_option maxHeartbeats 8000000 in
theorem DrawCosetRepresentative_ok (w : World) (cv : Value) (bs : List Int) (S : Nat → Prop) (hb : Bytes S w cv bs) :
  Calls Tryz.prog 23 #[cv] w (Ret w (PairX 7 w.heap.size)) := by
 obtain ⟨a, cap, rfl, _, _⟩ := Sl.shape hb
 have hbB := Box3.made w 28 (.slice none 0 0) (.slice none 0 0) (.slice none 0 0)
 have hg0 : Ext w (w.alloc (.cells #[.slice none 0 0, .slice none 0 0, .slice none 0 0] 28)) := World.grownBy_alloc _ _ _
 have hs0 : (w.alloc (.cells #[.slice none 0 0, .slice none 0 0, .slice none 0 0] 28)).heap.size = w.heap.size + 1 := by simp
 have hb0 := Bytes.ext hb hg0
 go_enter Tryz.func23, Tryz.ntmps23
 go_wp2_with fail
 generalize w.alloc (.cells #[.slice none 0 0, .slice none 0 0, .slice none 0 0] 28) = w0 at *
 have hs00 : w.heap.size + 1 ≤ w0.heap.size := by omega
 clear hs0
 refine Calls.mono (l01From_ok w0 _ bs S hb0) ?_
 rintro e0 wS ⟨v0, rfl, hgS, rfl, hsS⟩
 have hzS : w0.heap.size + 1 ≤ wS.heap.size := by have := hsS.lt; omega
 have hbS := hbB.ext hgS
 obtain ⟨sb, hsb⟩ : ∃ sb, sb = w0.heap.size := ⟨_, rfl⟩
 rw [← hsb] at hsS
 have hsb1 : w.heap.size + 1 ≤ sb ∧ sb + 1 ≤ wS.heap.size := by omega
 have hgw0 := grown_trans hg0 hgS
 have HSB := Lib.hid hsb
 clear hbB hb0 hg0 hgS hzS hs00
 go_wp2_with fail
 rw [← HSB.out]
 refine Calls.mono (l12Pair_ok (sb + 1) wS sb 128 (by omega) (by rw [HSB.out]; rw [HSB.out] at hsS; exact hsS)) ?_
 rintro e1 w1 ⟨v1, rfl, hg1, ⟨vo, vp, vc, rv, Q, rfl, hQl, hQ, hR1⟩, hs1⟩
 clear hsb
 obtain ⟨a1, n1, c1, hy1⟩ : ∃ a n c, vo = .slice a n c := by obtain ⟨a, c, e, _⟩ := hQ.o.shape; exact ⟨_, _, _, e⟩
 obtain ⟨a2, n2, c2, hy2⟩ : ∃ a n c, vp = .slice a n c := by obtain ⟨a, c, e, _⟩ := Sl.shape hQ.p; exact ⟨_, _, _, e⟩
 obtain ⟨a3, n3, c3, hy3⟩ : ∃ a n c, vc = .slice a n c := by obtain ⟨a, c, e, _⟩ := Sl.shape hQ.c; exact ⟨_, _, _, e⟩
 obtain ⟨ra, rn, rc, rfl⟩ := hR1.shape
 subst hy1 hy2 hy3
 have hgq : Ext w1 (w1.alloc (.cells #[.slice a1 n1 c1, .slice a2 n2 c2, .slice a3 n3 c3] 28)) := World.grownBy_alloc _ _ _
 have hbQ := Box3.made w1 28 (.slice a1 n1 c1) (.slice a2 n2 c2) (.slice a3 n3 c3)
 obtain ⟨pb, hpb⟩ : ∃ pb, pb = w1.heap.size := ⟨_, rfl⟩
 rw [← hpb] at hbQ
 have hs1' := hg1.size
 have hQ2 := hQ.ext hgq
 have hR2 := hR1.kept hgq (fun k hk => by cases hk)
 have hb1 := hbS.moved hg1 (by omega)
 have hb2 := hb1.ext hgq
 have hs2 := hs1.ext hgq
 have hgw2 : Ext w (w1.alloc (.cells #[.slice a1 n1 c1, .slice a2 n2 c2, .slice a3 n3 c3] 28)) := grown_trans (grown_own hgw0 hg1 (fun j hj hlt => by have := Option.some.inj hj; omega)) hgq
 have hzq : w1.heap.size ≤ (w1.alloc (.cells #[.slice a1 n1 c1, .slice a2 n2 c2, .slice a3 n3 c3] 28)).heap.size := hgq.size
 have HP := Lib.hid hpb
 have HQ := Lib.hid (And.intro hQ2 (And.intro hs2 (And.intro hgw2 (And.intro hQl hR2)))); clear hQ hQ2 hs2 hs1 hg1 hbS hb1 hgq hgw2 hQl hR1 hR2
 go_wp2_with fail
 rw [← HP.out]
 generalize w1.alloc (.cells #[.slice a1 n1 c1, .slice a2 n2 c2, .slice a3 n3 c3] 28) = w2 at *
 have hpw : wS.heap.size ≤ pb := by omega
 clear hpb HP
 obtain ⟨q0, q1, q2, q3, q4⟩ := id hbQ
 have e0 : ∀ w', NearS w2 sb w.heap.size w' → w'.cell? ⟨pb, 0, none⟩ = some (.slice a1 n1 c1) := fun w' h => h.cell q1 (by simp; omega) (by simp; omega)
 have e1 : ∀ w', NearS w2 sb w.heap.size w' → w'.cell? ⟨pb, 1, none⟩ = some (.slice a2 n2 c2) := fun w' h => h.cell q2 (by simp; omega) (by simp; omega)
 have e2 : ∀ w', NearS w2 sb w.heap.size w' → w'.cell? ⟨pb, 2, none⟩ = some (.slice a3 n3 c3) := fun w' h => h.cell q3 (by simp; omega) (by simp; omega)
 clear q0 q1 q2 q3 q4 hbQ
 go_region_held3 (fun w' => NearS w2 sb w.heap.size w') (first | exact NearS.ext (grown_drew _ _) | exact NearS.of (by assumption) | exact NearS.two hg3 (grown_set3 _ _ _ _ _) | assumption)
  (first
   | (go_at_call 115; refine Calls.mono (l07Vectors_ok (sb + 1) w2.drew sb _ Q _ (by have := (grown_drew w2 none).size; omega) (HQ.out.2.1.ext (grown_drew _ _)) ⟨_, _, _, rfl, HQ.out.1.ext (grown_drew _ _)⟩ (fun k hk e => by have hk : wS.heap.size ≤ k := hk; omega) (by have := HQ.out.2.2.2.1; omega)) ?_; rintro e3 w3 ⟨sv, rfl, hg3a, ⟨xa, xc, X, rfl, hXl, hX⟩, hs3⟩; have hg3 : w2.grownBy w3 (some sb) := grown_trans (grown_of_ext (some sb) (grown_drew _ _)) hg3a; have hb3 := hb2.moved hg3 (by omega); obtain ⟨b0, b1, b2, b3, b4⟩ := id hb3))
 have hdz := (grown_drew w2 none).size
 have hZ := hb3.all (.slice a1 n1 c1) (.slice a2 n2 c2) (.slice a3 n3 c3)
 obtain ⟨-, z0, z1, z2, -⟩ := id hZ
 have hP3 := HQ.out.1.keptB hg3 (fun k hk => by have := Option.some.inj hk; omega)
 have hR3 := HQ.out.2.2.2.2.kept hg3 (fun k hk => by have := Option.some.inj hk; omega)
 have hT := grown_set3 w3 w.heap.size (.slice a1 n1 c1) (.slice a2 n2 c2) (.slice a3 n3 c3)
 have hin : ∀ k, some w.heap.size = some k → k < wS.heap.size := fun k hk => by have := Option.some.inj hk; omega
 have hXi : Ints (From (w.heap.size + 1)) w3 (.slice xa X.length xc) X := ints_of_own hX (by omega) (fun k hk => by have := (hX.lt k hk).1; show w.heap.size + 1 ≤ k; omega)
 have hXT : Ints (From w.heap.size) (((w3.setCell ⟨w.heap.size, 0, none⟩ (.slice a1 n1 c1)).setCell ⟨w.heap.size, 1, none⟩ (.slice a2 n2 c2)).setCell ⟨w.heap.size, 2, none⟩ (.slice a3 n3 c3)) (.slice xa X.length xc) X := Ints.mono hXi (frame_of hT (fun k hk _ => ⟨by have hk : w.heap.size + 1 ≤ k := hk; show w.heap.size ≤ k; omega, fun e => by have := Option.some.inj e; have hk : w.heap.size + 1 ≤ k := hk; omega⟩))
 have hend : Ret w (PairX 7 w.heap.size) (.returned (.tuple #[.agg #[.slice a1 n1 c1, .slice a2 n2 c2, .slice a3 n3 c3], .slice ra rn rc, .slice xa X.length xc])) (((w3.setCell ⟨w.heap.size, 0, none⟩ (.slice a1 n1 c1)).setCell ⟨w.heap.size, 1, none⟩ (.slice a2 n2 c2)).setCell ⟨w.heap.size, 2, none⟩ (.slice a3 n3 c3)) :=
  ⟨_, rfl, grown_own (grown_own HQ.out.2.2.1 hg3 (fun j hj hlt => by have := Option.some.inj hj; omega)) hT (fun j hj hlt => by have := Option.some.inj hj; omega), _, _, _, _, _, Q, rfl, HQ.out.2.2.2.1, (hP3.keptB hT hin).low (by omega), (hR3.kept hT hin).low (by omega), X, hXl, hXT⟩
 have HE := Lib.hid hend; clear hend hT hZ hP3 hR3 hXi hXT HQ hg3 hg3a hb2 hb3 hX hs3 e0 e1 e2
 go_wp2_with fail
 refine bodyPost_ret (v := .tuple #[.agg #[.slice a1 n1 c1, .slice a2 n2 c2, .slice a3 n3 c3], .slice ra rn rc, .slice xa X.length xc]) (by simp [results, Tryz.results23, go_sem, z0, z1, z2]) rfl ?_
 exact HE.out
end Go.Proofs.YtdcobapnlpeaaaaGreat
namespace Go.Proofs.YtdcobapnlpeaaaaGreat
open Go.RowKit
def conjL (P : Pr) (L : List (List Int)) (X : List Int) : List (List Int) := L.map (fun y => rConj P y X)
set_option maxHeartbeats 1000000 in
theorem conjugates_ok (P : Pr) (G : Grp P) (w : World) (p lv xv : Value) (L : List (List Int)) (X : List Int) (Sp Sr Sx : Nat → Prop) (hp : PresP Sp w p P) (hl : Rows2 Sr w lv L) (hL : ∀ y ∈ L, Vec P.orders y) (hlen : L.length ≤ 10000) (hx : Ints Sx w xv X) (hX : Vec P.orders X) :
  Calls Tryz.prog 230 #[p, lv, xv] w (Ret w fun w' v => RowsO w.heap.size w' v (conjL P L X)) := by
 have hP := G.v
 have hn6 := hP.n6
 obtain ⟨pb, po, rfl⟩ := hp.shape
 obtain ⟨al, capl, rfl, _, _⟩ := Sl.shape hl
 obtain ⟨ax, capx, rfl, _, _⟩ := hx.shape
 have HL := Lib.hid (And.intro hL hX); clear hL hX
 have hcl : (conjL P L X).length = L.length := by unfold conjL; rw [List.length_map]
 have HCL := Lib.hid hcl; clear hcl
 go_enter Tryz.func230, Tryz.ntmps230
 go_wp2
 go_loopw [7, 12] (fun ov iv wr => ∃ (k : Nat) (v4 : Value), v4 = ov ∧ iv = .int .i64 k ∧ k ≤ L.length ∧ Ext w wr ∧ RowsO w.heap.size wr v4 ((conjL P L X).take k)) (fun _ iv _ => L.length - (intOf iv).toNat)
 case atStart => exact ⟨0, _, rfl, rfl, by omega, Ext.refl _, SlO.nil _ _ _ _⟩
 case round =>
  obtain ⟨k, v4, rfl, rfl, hk, hg, hO⟩ := hrel
  by_cases hlt : k < L.length
  ·have hlt' : (k : Int) < L.length := by omega
   obtain ⟨b, off, a2, cap2, rfl, _, _, hc, hi⟩ := Rows2.at (Rows2.ext hl hg) k hlt
   have hyV := HL.out.1 _ (gtMem hlt)
   have hstep : (conjL P L X).take (k + 1) = (conjL P L X).take k ++ [rConj P (gt L k) X] := by
    rw [take_succ_gt _ k (by rw [HCL.out]; exact hlt)]
    unfold conjL
    rw [gt_map _ _ _ hlt]
   have htl : ((conjL P L X).take k).length ≤ 1000000 := by rw [List.length_take]; have := HCL.out; omega
   have HS := Lib.hid (And.intro hstep hyV); clear hstep hyV
   go_wp2_with fail
   refine Calls.mono (conjugate_ok P hP wr _ _ _ (gt L k) X Sp Sr Sx (hp.ext hg) hi (hx.ext hg) HS.out.2 HL.out.2) ?_
   rintro eC wC ⟨vC, rfl, hgC, hOC⟩
   rw [G.iConj_eq HS.out.2 HL.out.2] at hOC
   have hcV := G.conjV HS.out.2 HL.out.2
   have hYO : OwnIn (From wr.heap.size) wC vC (rConj P (gt L k) X) := OwnIn.of hOC (by rw [hcV.1]; omega) (fun j h1 _ => h1)
   obtain ⟨ay, capy, hvy, _, _⟩ := hYO.ints.shape
   subst hvy
   clear hc hcV
   go_wp2_with (first | (at_builtin; refine wp_app_row rfl _ _ rfl w.heap.size wr wC v4 _ ((conjL P L X).take k) (rConj P (gt L k) X) rfl hO hgC hYO rfl rfl htl hg.size ?_; intro v5 w5 hO5 hg5 hg6; have hgw5 := hO.extw hg (Nat.le_refl _) hg5) | fail)
   go_roundw
   case rel => exact ⟨k + 1, v5, rfl, by go_num, by omega, hgw5, by rw [HS.out.1]; exact hO5⟩
   case measure => simp [intOf]; omega
  ·have hke : k = L.length := by omega
   subst hke
   rw [List.take_of_length_le (by rw [HCL.out]; exact Nat.le_refl _)] at hO
   obtain ⟨az, capz, hvz, _, _⟩ := SlD.shape (hO.toD (by rw [HCL.out]; omega))
   subst hvz
   go_wp2
   go_ret
   exact ⟨_, rfl, hg, hO⟩
set_option maxHeartbeats 400000 in
theorem conjugateSubgroup_ok (P : Pr) (G : Grp P) (w : World) (p lv xv : Value) (L : List (List Int)) (X : List Int) (Sp Sr Sx : Nat → Prop) (hp : PresP Sp w p P) (hl : Rows2 Sr w lv L) (hL : ∀ y ∈ L, Vec P.orders y) (hlen : L.length ≤ 10000) (hx : Ints Sx w xv X) (hX : Vec P.orders X) :
  Calls Tryz.prog 132 #[p, lv, xv] w (Ret w fun w' v => RowsO w.heap.size w' v (cseq P (genP P (fun z => z ∈ conjL P L X)))) := by
 have hcl : (conjL P L X).length = L.length := by unfold conjL; rw [List.length_map]
 have hcon := conjugates_ok P G w p lv xv L X Sp Sr Sx hp hl hL hlen hx hX
 obtain ⟨pb, po, rfl⟩ := hp.shape
 obtain ⟨al, capl, rfl, _, _⟩ := Sl.shape hl
 obtain ⟨ax, capx, rfl, _, _⟩ := hx.shape
 have hCV : ∀ z ∈ conjL P L X, Vec P.orders z := fun z hz => by
  unfold conjL at hz
  obtain ⟨y, hy, rfl⟩ := List.mem_map.1 hz
  exact G.conjV (hL y hy) hX
 have HC := Lib.hid (And.intro hCV hcl); clear hCV hcl
 go_enter Tryz.func132, Tryz.ntmps132
 go_wp2_with fail
 refine Calls.mono hcon ?_
 rintro e1 w1 ⟨v1, rfl, hg1, hO⟩
 clear hcon
 have hR := RowsD.rows (hO.toD (by rw [HC.out.2]; omega))
 obtain ⟨a1, cap1, hv1, _, _⟩ := Sl.shape hR
 subst hv1
 go_wp2_with fail
 refine Calls.mono (generated_ok P G w1 _ _ (conjL P L X) Sp _ (hp.ext hg1) hR HC.out.1 (by rw [HC.out.2]; omega)) ?_
 rintro e2 w2 ⟨v2, rfl, hg2, hO2⟩
 go_wp2
 go_ret
 exact ⟨_, rfl, grown_trans hg1 hg2, hO2.weak hg1.size⟩
end Go.Proofs.YtdcobapnlpeaaaaGreat
namespace Go.Proofs.YtdcobapnlpeaaaaGreat
open Go.Proofs Go.Shelf Go.RowKit Go.Lib Go.Sort
def Tryz.sortRows_ren : Go.Shelf.Ren := ⟨fun | 6 => 247 | 15 => 297 | 14 => 296 | 28 => 332 | 29 => 333 | 20 => 324 | 21 => 325 | 22 => 326 | 23 => 327 | 24 => 328 | 25 => 329 | 26 => 330 | 27 => 331 | 46 => 351 | 47 => 352 | 48 => 353 | 49 => 354 | 50 => 355 | 57 => 367 | n => n, fun | 22 => 25 | 24 => 24 | 25 => 195 | 3 => 3 | 39 => 139 | 0 => 0 | 53 => 266 | 55 => 62 | 4 => 4 | 46 => 260 | 45 => 259 | 50 => 193 | 5 => 5 | 9 => 9 | 66 => 281 | 70 => 285 | 76 => 296 | 77 => 297 | n => n, fun | n => n⟩
theorem Tryz.sortRows : Go.Proofs.SlLaysF.n6 Tryz.prog Tryz.sortRows_ren := {
  mixed := by kernel_rfl
  f6 := ⟨Tryz.f247.name, by decide, Tryz.func247.trans (congrArg some (by kernel_rfl))⟩
  f14 := ⟨Tryz.f296.name, by decide, Tryz.func296.trans (congrArg some (by kernel_rfl))⟩
  f15 := Tryz.func297.trans (congrArg some (by kernel_rfl))
  f20 := ⟨Tryz.f324.name, by decide, Tryz.func324.trans (congrArg some (by kernel_rfl))⟩
  f21 := ⟨Tryz.f325.name, by decide, Tryz.func325.trans (congrArg some (by kernel_rfl))⟩
  f22 := ⟨Tryz.f326.name, by decide, Tryz.func326.trans (congrArg some (by kernel_rfl))⟩
  f23 := ⟨Tryz.f327.name, by decide, Tryz.func327.trans (congrArg some (by kernel_rfl))⟩
  f24 := ⟨Tryz.f328.name, by decide, Tryz.func328.trans (congrArg some (by kernel_rfl))⟩
  f25 := ⟨Tryz.f329.name, by decide, Tryz.func329.trans (congrArg some (by kernel_rfl))⟩
  f26 := ⟨Tryz.f330.name, by decide, Tryz.func330.trans (congrArg some (by kernel_rfl))⟩
  f27 := ⟨Tryz.f331.name, by decide, Tryz.func331.trans (congrArg some (by kernel_rfl))⟩
  f28 := Tryz.func332.trans (congrArg some (by kernel_rfl))
  f29 := Tryz.func333.trans (congrArg some (by kernel_rfl))
  f46 := ⟨Tryz.f351.name, by decide, Tryz.func351.trans (congrArg some (by kernel_rfl))⟩
  f47 := Tryz.func352.trans (congrArg some (by kernel_rfl))
  f48 := Tryz.func353.trans (congrArg some (by kernel_rfl))
  f49 := ⟨Tryz.f354.name, by decide, Tryz.func354.trans (congrArg some (by kernel_rfl))⟩
  f50 := ⟨Tryz.f355.name, by decide, Tryz.func355.trans (congrArg some (by kernel_rfl))⟩
  f57 := ⟨Tryz.f367.name, by decide, Tryz.func367.trans (congrArg some (by kernel_rfl))⟩
  t0 := Tryz.underlying0
  a0 := Tryz.isAgg0
  z0 := Tryz.sizeOf0
  v0 := Tryz.zeroValue0
  t3 := Tryz.underlying3
  a3 := Tryz.isAgg3
  z3 := Tryz.sizeOf3
  v3 := Tryz.zeroValue3
  t4 := Tryz.underlying4
  a4 := Tryz.isAgg4
  z4 := Tryz.sizeOf4
  v4 := Tryz.zeroValue4
  t5 := Tryz.underlying5
  a5 := Tryz.isAgg5
  z5 := Tryz.sizeOf5
  v5 := Tryz.zeroValue5
  t9 := Tryz.underlying9
  a9 := Tryz.isAgg9
  z9 := Tryz.sizeOf9
  v9 := Tryz.zeroValue9
  t22 := Tryz.underlying25
  a22 := Tryz.isAgg25
  z22 := Tryz.sizeOf25
  v22 := Tryz.zeroValue25
  a24 := Tryz.isAgg24
  z24 := Tryz.sizeOf24
  t25 := Tryz.underlying195
  a25 := Tryz.isAgg195
  z25 := Tryz.sizeOf195
  v25 := Tryz.zeroValue195
  t39 := Tryz.underlying139
  a39 := Tryz.isAgg139
  z39 := Tryz.sizeOf139
  v39 := Tryz.zeroValue139
  t45 := Tryz.underlying259
  a45 := Tryz.isAgg259
  z45 := Tryz.sizeOf259
  v45 := Tryz.zeroValue259
  t46 := Tryz.underlying260
  a46 := Tryz.isAgg260
  z46 := Tryz.sizeOf260
  v46 := Tryz.zeroValue260
  t50 := Tryz.underlying193
  a50 := Tryz.isAgg193
  z50 := Tryz.sizeOf193
  v50 := Tryz.zeroValue193
  t53 := Tryz.underlying266
  a53 := Tryz.isAgg266
  z53 := Tryz.sizeOf266
  v53 := Tryz.zeroValue266
  t55 := Tryz.underlying62
  a55 := Tryz.isAgg62
  z55 := Tryz.sizeOf62
  v55 := Tryz.zeroValue62
  t66 := Tryz.underlying281
  a66 := Tryz.isAgg281
  z66 := Tryz.sizeOf281
  v66 := Tryz.zeroValue281
  t70 := Tryz.underlying285
  a70 := Tryz.isAgg285
  z70 := Tryz.sizeOf285
  v70 := Tryz.zeroValue285
  t76 := Tryz.underlying296
  a76 := Tryz.isAgg296
  z76 := Tryz.sizeOf296
  v76 := Tryz.zeroValue296
  t77 := Tryz.underlying297
  a77 := Tryz.isAgg297
  z77 := Tryz.sizeOf297
  v77 := Tryz.zeroValue297 }
end Go.Proofs.YtdcobapnlpeaaaaGreat
namespace Go.Proofs.YtdcobapnlpeaaaaGreat
open Go.RowKit
def oneOk (P : Pr) (U : List (List Int)) : Prop := rconsB P = true ∧ SubB P U
end Go.Proofs.YtdcobapnlpeaaaaGreat
namespace Go.Proofs.YtdcobapnlpeaaaaGreat
open Go.RowKit
def crOk (P : Pr) (U : List (List Int)) (X : List Int) : Prop := oneOk P U ∧ Vec P.orders X
def IsRep (P : Pr) (U : List (List Int)) (X Y : List Int) : Prop := Rep P (gU P U) (gt (tabTo (cseq P (gU P U)) P.orders.length (cseq P (gU P U)).length)) X Y
theorem Grp.rep_of_to {P : Pr} (G : Grp P) {U : List (List Int)} (hU : SubB P U) {X Y : List Int} (h : RepTo P (cseq P (gU P U)) X (cseq P (gU P U)).length Y) : IsRep P U X Y := by
 have S := G.subB hU
 have hf := G.seq_facts S
 refine ⟨h.vec, h.cos _ S hf.2.1, fun e he hne => ?_⟩
 obtain ⟨m1, m2, m3⟩ := (G.ind_tab S).mem e he hne
 obtain ⟨j, hj, hd⟩ := hf.2.2 _ m1 e he m2 (by rw [m3]; decide)
 rw [← hd]; exact h.zer j hj
theorem Grp.isRep_one {P : Pr} (G : Grp P) {U : List (List Int)} (hU : SubB P U) {X Y Y' : List Int} (hX : Vec P.orders X) (h : IsRep P U X Y) (h' : IsRep P U X Y') : Y = Y' :=
 G.rep_one (G.ind_tab (G.subB hU)) hX h h'
open Classical in
noncomputable def crV (P : Pr) (U : List (List Int)) (X : List Int) : List Int := if h : crOk P U X ∧ ∃ Y, IsRep P U X Y then Classical.choose h.2 else []
open Classical in
noncomputable def crC (P : Pr) (U : List (List Int)) (X : List Int) : Int := if crOk P U X then 0 else 1
theorem cr_bad {P : Pr} {U : List (List Int)} {X : List Int} (h : ¬ crOk P U X) : crC P U X = 1 ∧ crV P U X = [] := by
 unfold crC crV; rw [if_neg h, dif_neg (fun hh => h hh.1)]; exact ⟨rfl, rfl⟩
theorem crC_ok {P : Pr} {U : List (List Int)} {X : List Int} (h : crOk P U X) : crC P U X = 0 := by unfold crC; rw [if_pos h]
theorem cr_ok {P : Pr} {U : List (List Int)} {X Y : List Int} (h : crOk P U X) (hY : IsRep P U X Y) : crV P U X = Y := by
 have hh : crOk P U X ∧ ∃ Y, IsRep P U X Y := ⟨h, Y, hY⟩
 unfold crV
 rw [dif_pos hh]
 exact (grp_of_r h.1.1).isRep_one h.1.2 h.2 (Classical.choose_spec hh.2) hY
theorem cr_is {P : Pr} {U : List (List Int)} {X : List Int} (h : crOk P U X) : IsRep P U X (crV P U X) := by
 have G := grp_of_r h.1.1
 obtain ⟨Y, hY⟩ := G.rep_ex (G.ind_tab (G.subB h.1.2)) h.2
 rw [cr_ok h hY]; exact hY
set_option maxRecDepth 100000 in
set_option maxHeartbeats 4000000 in
theorem iCosRep_ok (P : Pr) (w : World) (pv uv xv : Value) (U : List (List Int)) (X : List Int) (Sp Su Sx : Nat → Prop) (hpv : PresV Sp w pv P) (hu : Rows2 Su w uv U) (hx : Ints Sx w xv X) :
  Calls Tryz.prog 24 #[pv, uv, xv] w (Ret w fun w' v => ∃ a n c, v = .tuple #[.slice a n c, .int .i64 (crC P U X)] ∧ Ints Any w' (.slice a n c) (crV P U X)) := by
 obtain ⟨vo, vp, vc, rfl, h3⟩ := hpv
 have hp0 := PresP.box h3 28
 have hg0 : Ext w (w.alloc (.cells #[vo, vp, vc] 28)) := World.grownBy_alloc _ _ _
 have hs0 : (w.alloc (.cells #[vo, vp, vc] 28)).heap.size = w.heap.size + 1 := by simp
 have hu0 := Rows2.ext hu hg0
 have hx0 := Ints.ext hx hg0
 obtain ⟨au, capu, rfl, _, _⟩ := Sl.shape hu
 obtain ⟨ax, capx, rfl, _, _⟩ := hx.shape
 have hg1 : Ext (w.alloc (.cells #[vo, vp, vc] 28)) ((w.alloc (.cells #[vo, vp, vc] 28)).alloc (.cells #[.slice au U.length capu] 25)) := World.grownBy_alloc _ _ _
 have hl := rows3One hu0
 have hcon := areSubgroups_ok P _ _ _ [U] Any Any (hp0.ext hg1) hl
 rw [hs0] at hcon
 clear hl hu hx
 go_enter Tryz.func24, Tryz.ntmps24
 go_wp2_with fail
 refine Calls.mono hcon ?_
 rintro e1 w1 ⟨v1, rfl, hgA, r1, rfl, hr1⟩
 clear hcon
 have hr1 : r1 = true ↔ oneOk P U := by rw [hr1]; unfold oneOk; simp
 have hg01 := grown_trans hg1 hgA
 have HS := Lib.hid hs0; clear hs0
 generalize hw0 : w.alloc (.cells #[vo, vp, vc] 28) = w0 at *
 clear hw0 hg1 hgA
 cases r1 with
 | false =>
  obtain ⟨hc, hL⟩ := cr_bad (P := P) (U := U) (X := X) (fun h => by have := hr1.2 h.1; cases this)
  have HC := Lib.hid (And.intro hc hL); clear hc hL hr1
  go_wp2
  go_ret2
  exact ⟨_, rfl, grown_trans hg0 hg01, none, 0, 0, by rw [HC.out.1]; rfl, by rw [HC.out.2]; exact ⟨none, 0, rfl, ⟨by simp, by simp, fun _ => rfl⟩, fun i hi => by simp at hi⟩⟩
 | true =>
  have hok := hr1.1 rfl
  have G := grp_of_r hok.1
  have hn6 := G.v.n6
  have hx1 := Ints.ext hx0 hg01
  have hex := isExponents_ok w1 _ _ P X Any Sx (hp0.ext hg01) hx1 (fun i hi => by have := G.v.ord7 i hi; omega)
  by_cases hX : Vec P.orders X
  ·rw [expB_vec.2 hX] at hex
   have hcr : crOk P U X := ⟨hok, hX⟩
   have hc := crC_ok hcr
   have hU := hok.2.2
   have hf := G.seq_facts (G.subB hok.2)
   have hul : U.length ≤ P.orders.length := G.sub_len hok.2
   rw [← hU] at hf
   have HC := Lib.hid (And.intro hc (And.intro hcr (And.intro hf hU))); clear hc hcr hr1 hok hf hU hX
   go_wp2_with fail
   refine Calls.mono hex ?_
   rintro _ _ ⟨rfl, rfl⟩
   clear hex
   go_wp2_with fail
   refine Calls.mono (representative_ok P G w1 _ _ _ U X Any Su Sx (hp0.ext hg01) (Rows2.ext hu0 hg01) HC.out.2.2.1.1 (by omega) hx1 HC.out.2.1.2) ?_
   rintro e2 w2 ⟨v2, rfl, hg2, Y, hO, hR⟩
   have hR' : RepTo P (cseq P (gU P U)) X (cseq P (gU P U)).length Y := by rw [← HC.out.2.2.2]; exact hR
   have hY := cr_ok HC.out.2.1 (G.rep_of_to HC.out.2.1.1.2 hR')
   have hYi := hO.ints (by rw [hR.vec.1]; omega)
   obtain ⟨ay, ny, cy, hvy⟩ : ∃ a n c, v2 = Value.slice a n c := by obtain ⟨a, c, e, _⟩ := hYi.shape; exact ⟨_, _, _, e⟩
   subst hvy
   have HY := Lib.hid (And.intro hY hYi); clear hY hYi hO hR hR'
   go_wp2
   go_ret2
   exact ⟨_, rfl, grown_trans hg0 (grown_trans hg01 hg2), _, _, _, by rw [HC.out.1]; rfl, by rw [HY.out.1]; exact HY.out.2⟩
  ·have hxf : expB P.orders X = false := by cases h : expB P.orders X with | false => rfl | true => exact absurd (expB_vec.1 h) hX
   rw [hxf] at hex
   obtain ⟨hc, hL⟩ := cr_bad (P := P) (U := U) (X := X) (fun h => hX h.2)
   have HC := Lib.hid (And.intro hc hL); clear hc hL hr1 hok hX hxf
   go_wp2_with fail
   refine Calls.mono hex ?_
   rintro _ _ ⟨rfl, rfl⟩
   clear hex
   go_wp2
   go_ret2
   exact ⟨_, rfl, grown_trans hg0 hg01, none, 0, 0, by rw [HC.out.1]; rfl, by rw [HC.out.2]; exact ⟨none, 0, rfl, ⟨by simp, by simp, fun _ => rfl⟩, fun i hi => by simp at hi⟩⟩
set_option maxRecDepth 100000 in
set_option maxHeartbeats 4000000 in
theorem sCosRep_ok (P : Pr) (w : World) (pv uv xv : Value) (U : List (List Int)) (X : List Int) (Sp Su Sx : Nat → Prop) (hpv : PresV Sp w pv P) (hu : Rows2 Su w uv U) (hx : Ints Sx w xv X) :
  Calls Tryz.prog 25 #[pv, uv, xv] w (Ret w fun w' v => ∃ a n c, v = .tuple #[.slice a n c, .int .i64 (crC P U X)] ∧ Ints Any w' (.slice a n c) (crV P U X)) := by
 obtain ⟨vo, vp, vc, rfl, h3⟩ := hpv
 have hp0 := PresP.box h3 28
 have hg0 : Ext w (w.alloc (.cells #[vo, vp, vc] 28)) := World.grownBy_alloc _ _ _
 have hu0 := Rows2.ext hu hg0
 have hx0 := Ints.ext hx hg0
 obtain ⟨au, capu, rfl, _, _⟩ := Sl.shape hu
 obtain ⟨ax, capx, rfl, _, _⟩ := hx.shape
 obtain ⟨vo6, vp6, vc6, _, _, hc0, hc1, hc2, h36⟩ := hp0.at
 simp only [Nat.zero_add] at hc1 hc2
 have hbx : ∀ w', Ext (w.alloc (.cells #[vo, vp, vc] 28)) w' → w'.cell? ⟨w.heap.size, 0, none⟩ = some vo6 ∧ w'.cell? ⟨w.heap.size, 1, none⟩ = some vp6 ∧ w'.cell? ⟨w.heap.size, 2, none⟩ = some vc6 := fun w' h => ⟨h.cell hc0 (by simp), h.cell hc1 (by simp), h.cell hc2 (by simp)⟩
 have HB := Lib.hid hbx; clear hbx
 have hE := sIsSubgroup_ok P (w.alloc (.cells #[vo, vp, vc] 28)) _ _ U Any Su ⟨_, _, _, rfl, h36⟩ hu0
 clear hp0 hu hx
 go_enter Tryz.func25, Tryz.ntmps25
 go_wp2_with fail
 clear hc0 hc1 hc2
 generalize hw0 : w.alloc (.cells #[vo, vp, vc] 28) = w0 at *
 clear hw0
 refine Calls.mono hE ?_
 rintro e1 w1 ⟨v1, rfl, hg1, r1, rfl, hr1⟩
 clear hE
 obtain ⟨hb0, hb1, hb2⟩ := HB.out w1 hg1
 cases r1 with
 | false =>
  obtain ⟨hc, hL⟩ := cr_bad (P := P) (U := U) (X := X) (fun h => by have := hr1.2 h.1; cases this)
  have HC := Lib.hid (And.intro hc hL); clear hc hL hr1
  go_wp2
  go_ret2
  exact ⟨_, rfl, grown_trans hg0 hg1, none, 0, 0, by rw [HC.out.1]; rfl, by rw [HC.out.2]; exact ⟨none, 0, rfl, ⟨by simp, by simp, fun _ => rfl⟩, fun i hi => by simp at hi⟩⟩
 | true =>
  have hok : oneOk P U := hr1.1 rfl
  have G := grp_of_r hok.1
  have hn6 := G.v.n6
  have hx1 := Ints.ext hx0 hg1
  have hel := l10Element_ok P G.v w1 (.agg #[vo6, vp6, vc6]) _ X Any Sx ⟨_, _, _, rfl, Pres3.ext h36 hg1⟩ hx1
  by_cases hX : Vec P.orders X
  ·rw [expB_vec.2 hX] at hel
   have hcr : crOk P U X := ⟨hok, hX⟩
   have hc := crC_ok hcr
   have hu1 : Rows2 Su w1 (.slice au U.length capu) (cseq P (gU P U)) := by rw [← hok.2.2]; exact Rows2.ext hu0 hg1
   have HC := Lib.hid (And.intro hc (And.intro hcr hu1)); clear hc hcr hr1 hok hX hu1
   go_wp2_with fail
   clear hb0 hb1 hb2
   refine Calls.mono hel ?_
   rintro e2 w2 ⟨v2, rfl, hg2, rfl⟩
   clear hel
   have hg12 := grown_trans hg1 hg2
   obtain ⟨hb0, hb1, hb2⟩ := HB.out w2 hg12
   go_wp2_with fail
   clear hb0 hb1 hb2
   refine Calls.mono (l12Sift_ok P G w2 _ _ _ (gU P U) X Any Su Sx (G.subB HC.out.2.1.1.2) ⟨_, _, _, rfl, Pres3.ext h36 hg12⟩ (Rows2.ext HC.out.2.2 hg2) (Ints.ext hx0 hg12) HC.out.2.1.2) ?_
   rintro e3 w3 ⟨v3, rfl, hg3, Y, hO, hR⟩
   have hY := cr_ok HC.out.2.1 hR
   have hYi := hO.ints (by rw [hR.1.1]; omega)
   obtain ⟨ay, ny, cy, hvy⟩ : ∃ a n c, v3 = Value.slice a n c := by obtain ⟨a, c, e, _⟩ := hYi.shape; exact ⟨_, _, _, e⟩
   subst hvy
   have HY := Lib.hid (And.intro hY hYi); clear hY hYi hO hR
   go_wp2
   go_ret2
   exact ⟨_, rfl, grown_trans hg0 (grown_trans hg12 hg3), _, _, _, by rw [HC.out.1]; rfl, by rw [HY.out.1]; exact HY.out.2⟩
  ·have hxf : expB P.orders X = false := by cases h : expB P.orders X with | false => rfl | true => exact absurd (expB_vec.1 h) hX
   rw [hxf] at hel
   obtain ⟨hc, hL⟩ := cr_bad (P := P) (U := U) (X := X) (fun h => hX h.2)
   have HC := Lib.hid (And.intro hc hL); clear hc hL hr1 hok hX hxf
   go_wp2_with fail
   clear hb0 hb1 hb2
   refine Calls.mono hel ?_
   rintro e2 w2 ⟨v2, rfl, hg2, rfl⟩
   clear hel
   go_wp2
   go_ret2
   exact ⟨_, rfl, grown_trans hg0 (grown_trans hg1 hg2), none, 0, 0, by rw [HC.out.1]; rfl, by rw [HC.out.2]; exact ⟨none, 0, rfl, ⟨by simp, by simp, fun _ => rfl⟩, fun i hi => by simp at hi⟩⟩
end Go.Proofs.YtdcobapnlpeaaaaGreat
namespace Go.Proofs.YtdcobapnlpeaaaaGreat
def exP (P : Pr) (U : List (List Int)) (a : List Int) : Nat → List Int
 | 0 => zeros P.orders.length
 | i + 1 => rMul P (exP P U a i) (pw P (gt U i) (gt a i).toNat)
structure Mex (P : Pr) (U : List (List Int)) (H : List Int → Prop) (X : List Int) (i : Nat) (out x : List Int) : Prop where
 len : out.length = i
 mem : H x
 low : ∀ j, j < i → ∀ k, k ≤ dep (gt U j) → gt x k = 0
 prod : rMul P (exP P U out i) x = X
 rng : ∀ j, j < i → 0 ≤ gt out j ∧ gt out j < gt P.orders (dep (gt U j))
theorem exP_app {P : Pr} {U : List (List Int)} {a b : List Int} : ∀ i, i ≤ a.length → exP P U (a ++ b) i = exP P U a i
 | 0, _ => rfl
 | i + 1, h => by
  have e : gt (a ++ b) i = gt a i := gt_append_left _ _ _ (by omega)
  rw [exP, exP, exP_app i (by omega), e]
section
variable {P : Pr} (G : Grp P)
include G
theorem Grp.exP_vec {U : List (List Int)} (hU : ∀ z ∈ U, Vec P.orders z) (a : List Int) : ∀ i, i ≤ U.length → Vec P.orders (exP P U a i)
 | 0, _ => G.oneV
 | i + 1, h => G.mulV (Grp.exP_vec hU a i (by omega)) (G.pw_vec (hU _ (gtMem (by omega))) _)
theorem Grp.mex_drop {u x : List Int} {d : Nat} (hd : d < P.orders.length) (hu : T P d u) (h1 : gt u d = 1) (hx : T P d x) : T P (d + 1) (rMul P (rInv P (pw P u (gt x d).toNat)) x) := by
 have ho := G.v.ord7 d hd
 have hb := hx.1.2 d hd
 have hp := G.pw_T (Nat.le_of_lt hd) hu (gt x d).toNat
 have hi := G.T_inv (Nat.le_of_lt hd) hp
 have hm := G.T_mul (Nat.le_of_lt hd) hi hx
 refine hm.up ?_
 have e1 := (G.right (Nat.le_of_lt hd) hi.1 hp).2 hd
 rw [G.inv_mul hp.1, G.pw_at hd hu, h1, Int.mul_one, Int.toNat_of_nonneg hb.1, Int.emod_eq_of_lt hb.1 hb.2] at e1
 rw [(G.right (Nat.le_of_lt hd) hi.1 hx).2 hd, ← e1]
 exact gt_replicate _ _
theorem Mex.zero {U : List (List Int)} {H : List Int → Prop} {X : List Int} (hX : Vec P.orders X) (h : H X) : Mex P U H X 0 [] X :=
 ⟨rfl, h, fun j hj => by omega, by rw [exP, G.grp.el _ hX], fun j hj => by omega⟩
theorem Mex.deep {H : List Int → Prop} (S : Sub P H) {X : List Int} {i : Nat} {out x : List Int} (h : Mex P (cseq P H) H X i out x) : dep x = P.orders.length ∨ ∃ j, i ≤ j ∧ j < (cseq P H).length ∧ dep (gt (cseq P H) j) = dep x := by
 have hf := G.seq_facts S
 have hV := S.vec x h.mem
 have hl := dep_le x
 rw [hV.1] at hl
 rcases Nat.lt_or_ge (dep x) P.orders.length with h1 | h1
 ·have h0 := dep_ne (x := x) (by rw [hV.1]; exact h1)
  obtain ⟨j, hj, he⟩ := hf.2.2 x h.mem (dep x) h1 (dep_T hV) h0
  refine .inr ⟨j, ?_, hj, he⟩
  rcases Nat.lt_or_ge j i with h2 | h2
  ·exact absurd (h.low j h2 (dep x) (by omega)) h0
  ·exact h2
 ·exact .inl (by omega)
theorem Mex.step {H : List Int → Prop} (S : Sub P H) {X : List Int} {i : Nat} {out x : List Int} (h : Mex P (cseq P H) H X i out x) (hi : i < (cseq P H).length) :
  Mex P (cseq P H) H X (i + 1) (out ++ [gt x (dep (gt (cseq P H) i))]) (rMul P (rInv P (pw P (gt (cseq P H) i) (gt x (dep (gt (cseq P H) i))).toNat)) x) := by
 have hf := G.seq_facts S
 obtain ⟨u1, u2, u3⟩ := hf.1.1 _ (gtMem hi)
 have hV := S.vec x h.mem
 have hT : T P (dep (gt (cseq P H) i)) x := by
  refine ⟨hV, fun k hk => ?_⟩
  rcases Mex.deep G S h with h1 | ⟨j, h1, h2, h3⟩
  ·exact dep_zero (by omega)
  ·have : dep (gt (cseq P H) i) ≤ dep (gt (cseq P H) j) := by
    rcases Nat.lt_or_ge i j with h4 | h4
    ·exact Nat.le_of_lt (hf.1.2 i j h4 h2)
    ·have : i = j := by omega
     rw [this]; exact Nat.le_refl _
   exact dep_zero (by omega)
 have hb := hV.2 (dep (gt (cseq P H) i)) u2
 have hd := G.mex_drop u2 (dep_T u1) u3 hT
 have hpv := G.pw_vec u1 (gt x (dep (gt (cseq P H) i))).toNat
 have hlen : gt (out ++ [gt x (dep (gt (cseq P H) i))]) i = gt x (dep (gt (cseq P H) i)) := by
  have := h.len
  subst this
  exact gt_concat _ _
 have hUv : ∀ z ∈ cseq P H, Vec P.orders z := fun z hz => (hf.1.1 z hz).1
 refine ⟨by rw [List.length_append, h.len]; rfl, S.mul _ _ (S.inv _ ?_) h.mem, fun j hj k hk => ?_, ?_, fun j hj => ?_⟩
 ·have : ∀ k, H (pw P (gt (cseq P H) i) k) := fun k => by
   induction k with
   | zero => exact S.one
   | succ k ih => rw [pw_succ]; exact S.mul _ _ ih (hf.2.1 _ (gtMem hi))
  exact this _
 ·have hk2 : k ≤ dep (gt (cseq P H) i) := by
   rcases Nat.lt_succ_iff_lt_or_eq.1 hj with h4 | h4
   ·have := hf.1.2 j i h4 hi; omega
   ·rw [h4] at hk; exact hk
  exact hd.2 k (by omega)
 ·rw [exP, exP_app i (by rw [h.len]; exact Nat.le_refl _), hlen]
  have hev := G.exP_vec hUv out i (Nat.le_of_lt hi)
  rw [G.ass hev hpv (G.mulV (G.invV hpv) hV), ← G.ass hpv (G.invV hpv) hV, G.mul_inv hpv, G.grp.el _ hV]
  exact h.prod
 ·rcases Nat.lt_succ_iff_lt_or_eq.1 hj with h4 | h4
  ·have e : gt (out ++ [gt x (dep (gt (cseq P H) i))]) j = gt out j := by
    have := h.len
    exact gt_append_left _ _ _ (by omega)
   rw [e]; exact h.rng j h4
  ·subst h4
   rw [hlen]; exact hb
theorem Mex.done {H : List Int → Prop} (S : Sub P H) {X : List Int} {out x : List Int} (h : Mex P (cseq P H) H X (cseq P H).length out x) : x = zeros P.orders.length ∧ exP P (cseq P H) out (cseq P H).length = X := by
 have hf := G.seq_facts S
 have hx : x = zeros P.orders.length := by
  rcases Mex.deep G S h with h1 | ⟨j, h1, h2, _⟩
  ·exact (dep_top G.v (S.vec x h.mem)).1 h1
  ·omega
 refine ⟨hx, ?_⟩
 have hp := h.prod
 rw [hx, G.grp.er _ (G.exP_vec (fun z hz => (hf.1.1 z hz).1) out _ (Nat.le_refl _))] at hp
 exact hp
end
end Go.Proofs.YtdcobapnlpeaaaaGreat
namespace Go.Proofs.YtdcobapnlpeaaaaGreat
open Go.RowKit
theorem exP_pw {P : Pr} (G : Grp P) {a : List Int} (ha : Vec P.orders a) (k : Int) : iPow P a k = pw P a k.toNat := by
 rw [G.iPow_eq ha]
 have : ∀ n : Nat, iter n (fun y => rMul P y a) (zeros P.orders.length) = pw P a n := fun n => by
  induction n with
  | zero => rfl
  | succ n ih => rw [pw_succ, ← ih]; rfl
 exact this _
set_option maxRecDepth 100000 in
set_option maxHeartbeats 4000000 in
theorem memExp_ok (P : Pr) (G : Grp P) (w : World) (p uv xv : Value) (H : List Int → Prop) (X : List Int) (Sp Su Sx : Nat → Prop) (S : Sub P H) (hp : PresP Sp w p P) (hu : Rows2 Su w uv (cseq P H)) (hx : Ints Sx w xv X) (hX : H X) :
  Calls Tryz.prog 124 #[p, uv, xv] w (Ret w fun w' v => ∃ a n c out, v = .tuple #[.slice a n c, .bool true] ∧ Own w.heap.size w' (.slice a n c) out ∧ Mex P (cseq P H) H X (cseq P H).length out (zeros P.orders.length)) := by
 have hP := G.v
 have hn6 := hP.n6
 have hl := G.cseq_len S
 have hf := G.seq_facts S
 obtain ⟨U, hUe⟩ : ∃ U, U = cseq P H := ⟨_, rfl⟩
 rw [← hUe] at hu hl hf ⊢
 obtain ⟨pb, po, rfl⟩ := hp.shape
 obtain ⟨au, capu, rfl, _, _⟩ := Sl.shape hu
 obtain ⟨ax, capx, rfl, _, _⟩ := hx.shape
 have hUz : ∀ z ∈ U, dep z < z.length := fun z hz => by have := hf.1.1 z hz; rw [this.1.1]; exact this.2.1
 have hx0 : Ints (fun k => (Value.slice none 0 0).ownBlock ≠ some k) w (.slice ax X.length capx) X := Ints.sub hx (fun _ _ _ => by simp [Value.ownBlock])
 have hm0 : Mex P (cseq P H) H X 0 [] X := Mex.zero G (S.vec X hX) hX
 have HU := Lib.hid (And.intro hf (And.intro hUe hm0)); clear hf hUe hm0 hx
 go_enter Tryz.func124, Tryz.ntmps124
 go_wp2_with fail
 refine Calls.mono (pivots_ok _ U w Su hu hUz (by omega)) ?_
 rintro e1 w1 ⟨pv, rfl, hg1, hV1⟩
 have hpvs : ∃ az capz, pv = .slice az U.length capz := by
  rcases hV1.form with ⟨h1, h2⟩ | ⟨g, cp, h1, _⟩
  ·have h3 : U.length = 0 := by unfold depV at h2; rw [List.map_eq_nil_iff] at h2; rw [h2]; rfl
   exact ⟨none, 0, by rw [h1, h3]⟩
  ·exact ⟨_, _, by rw [h1]; unfold depV; rw [List.length_map]⟩
 obtain ⟨ap, capp, rfl⟩ := hpvs
 have hx1 := Ints.ext hx0 hg1
 have hVx : ∀ w', Ext w1 w' → OwnV w.heap.size 3 w' (.slice ap U.length capp) (depV U) := fun w' h => hV1.kept h (by cases (Value.slice ap U.length capp).ownBlock <;> simp)
 have HV := Lib.hid hVx; clear hV1 hVx hx0
 go_wp2
 go_loopw [2, 8, 15] (fun xv ov iv wr => ∃ (i : Nat) (out x : List Int) (v2 v8 : Value), v2 = xv ∧ v8 = ov ∧ iv = .int .i64 i ∧ i ≤ U.length ∧ Ext w1 wr ∧ Own w1.heap.size wr v8 out ∧ Ints (fun k => v8.ownBlock ≠ some k) wr v2 x ∧ Hid (Mex P (cseq P H) H X i out x)) (fun _ _ iv _ => U.length - (intOf iv).toNat)
 case atStart => exact ⟨0, [], X, _, _, rfl, rfl, rfl, by omega, Ext.refl _, Own.of (World.ownsRow_nil _ _ _ _), hx1, Lib.hid HU.out.2.2⟩
 case round =>
  clear hx1
  obtain ⟨i, out, x, v2, v8, rfl, rfl, rfl, hi, hg, hO, hxr, hM⟩ := hrel
  have hgw := grown_trans hg1 hg
  obtain ⟨ax2, nx2, capx2, hvx2⟩ : ∃ a n c, v2 = Value.slice a n c := by obtain ⟨a, c, e, _⟩ := hxr.shape; exact ⟨_, _, _, e⟩
  have hxV := S.vec x hM.out.mem
  have hol := hM.out.len
  have hoB : ∀ k, v8.ownBlock = some k → w1.heap.size ≤ k := fun k hk => (hO.lt k hk).1
  by_cases hlt : i < U.length
  ·have hlt' : (i : Int) < U.length := by omega
   have hdi : gt (depV U) i = .int .i64 (dep (gt U i)) := by unfold depV; rw [gt_map _ _ _ hlt]
   have hV := HV.out wr hg
   have hpf : ∃ g, ap = some ⟨g, 0, none⟩ := by
    rcases hV.form with ⟨h1, h2⟩ | ⟨g, cp, h1, _⟩
    ·unfold depV at h2; rw [List.map_eq_nil_iff] at h2; rw [h2] at hlt; simp at hlt
    ·simp only [Value.slice.injEq] at h1; exact ⟨g, h1.1⟩
   obtain ⟨gp, rfl⟩ := hpf
   have hcp := hV.cell i (by unfold depV; rw [List.length_map]; exact hlt)
   rw [hdi] at hcp
   clear hdi hV
   obtain ⟨u, hue⟩ : ∃ u, u = gt U i := ⟨_, rfl⟩
   have hstep := Mex.step G S hM.out (by rw [← HU.out.2.1]; exact hlt)
   rw [← HU.out.2.1, ← hue] at hstep
   obtain ⟨hu1, hu2, hu3⟩ := HU.out.1.1.1 _ (gtMem hlt)
   obtain ⟨bb, off, a3, c3, rfl, _, _, hcu, hru⟩ := Rows2.at hu i hlt
   rw [← hue] at hu1 hu2 hu3 hcu hru hcp
   obtain ⟨d, hd⟩ : ∃ d, d = dep u := ⟨_, rfl⟩
   rw [← hd] at hcp hstep hu2 hu3
   have hxl : d < x.length := by rw [hxV.1]; exact hu2
   have hxi : Ints (fun k => v8.ownBlock ≠ some k) wr (.slice ax2 nx2 capx2) x := hvx2 ▸ hxr
   have hnx : nx2 = x.length := by obtain ⟨a, c, e, _⟩ := hxi.shape; injection e
   subst hnx
   obtain ⟨xb, xo, rfl, hxS, hxbl, hcx⟩ := Ints.at hxi d hxl
   have hxd := hxV.2 d hu2
   have ho7 := hP.ord7 d hu2
   have hdl : (d : Int) < x.length := by omega
   obtain ⟨e, hee⟩ : ∃ e, e = gt x d := ⟨_, rfl⟩
   rw [← hee] at hcx hstep hxd
   subst hvx2
   have hel : e ≤ 1000000000 := by omega
   have HST := Lib.hid (And.intro hstep (And.intro hu1 hxV)); clear hstep hu1 hu2 hu3 hxV hee hd hue hxr hxd ho7
   go_wp2_with (first | (at_builtin; refine wp_app_intb rfl _ _ rfl w1.heap.size v8 out e rfl wr hO rfl rfl (by omega) hg.size ?_; intro v9 w9 hO9 hg9 hb9; have hgw9 : Ext w w9 := grown_own hgw hg9 (fun j hj hlt => by have := hoB j hj; have := hg1.size; omega); have hcr9 := hgw9.cell hcu (by simp)) | fail)
   have hg19 : Ext w1 w9 := grown_own hg hg9 (fun j hj hlt => by have := hoB j hj; omega)
   have hx9 : Ints (fun k => v9.ownBlock ≠ some k) w9 (.slice (some ⟨xb, xo, none⟩) x.length capx2) x := Ints.mono hxi (fun k hk hlt => ⟨fun h9 => by
    rcases hb9 with h | h
    ·rw [h] at h9; exact hk h9
    ·have := h k h9; omega, Nat.lt_of_lt_of_le hlt hg9.size, hg9.block k hlt (fun h => hk h.symm)⟩)
   refine Calls.mono (power_ok P hP w9 _ _ u e Sp Su (hp.ext hgw9) (Ints.ext hru hgw9) HST.out.2.1 hel) ?_
   rintro e2 w2 ⟨v2, rfl, hg2, hO2⟩
   clear hcr9 hcx hcp
   rw [exP_pw G HST.out.2.1] at hO2
   have hpV := G.pw_vec HST.out.2.1 e.toNat
   have hI2 := hO2.ints (by rw [hpV.1]; omega)
   obtain ⟨a4, n4, c4, hv4⟩ : ∃ a n c, v2 = Value.slice a n c := by obtain ⟨a, c, e, _⟩ := hI2.shape; exact ⟨_, _, _, e⟩
   subst hv4
   have HPV := Lib.hid hpV; clear hpV
   have hgw2 := grown_trans hgw9 hg2
   go_wp2_with fail
   refine Calls.mono (invert_ok P hP w2 _ _ (pw P u e.toNat) Sp _ (hp.ext hgw2) hI2 HPV.out) ?_
   rintro e3 w3 ⟨v3, rfl, hg3, hO3⟩
   rw [G.iInv_eq HPV.out] at hO3
   have hiV := G.invV HPV.out
   have hI3 := hO3.ints (by rw [hiV.1]; omega)
   obtain ⟨a5, n5, c5, hv5⟩ : ∃ a n c, v3 = Value.slice a n c := by obtain ⟨a, c, e, _⟩ := hI3.shape; exact ⟨_, _, _, e⟩
   subst hv5
   have HIV := Lib.hid hiV; clear hiV hI2
   have hg93 := grown_trans hg2 hg3
   have hgw3 := grown_trans hgw2 hg3
   go_wp2_with fail
   refine Calls.mono (multiply_ok P hP w3 _ _ _ (rInv P (pw P u e.toNat)) x Sp _ _ (hp.ext hgw3) hI3 (Ints.ext hx9 hg93) HIV.out HST.out.2.2) ?_
   rintro e4 w4 ⟨v4, rfl, hg4, hO4⟩
   rw [G.tv_eq HIV.out HST.out.2.2] at hO4
   have hmV := G.mulV HIV.out HST.out.2.2
   have hob9 : ∀ k, v9.ownBlock = some k → k < w9.heap.size := fun k hk => (hO9.lt k hk).2
   have hs93 := hg93.size
   have hI4 := ints_of_own (S := fun k => v9.ownBlock ≠ some k) hO4 (by rw [hmV.1]; omega) (fun k hk h9 => by have := (hO4.lt k hk).1; have := hob9 k h9; omega)
   have hg94 := grown_trans hg93 hg4
   have HF := Lib.hid (And.intro hI4 (And.intro (hO9.ext0 hg94) (grown_trans hg19 hg94))); clear hI4 hO4 hmV hob9 hI3 hx9 hO9 hO3 hO2
   go_wp2
   go_roundw
   case rel => exact ⟨i + 1, out ++ [e], _, v4, v9, rfl, rfl, by go_num, by omega, HF.out.2.2, HF.out.2.1, HF.out.1, Lib.hid (by rw [← HU.out.2.1]; exact HST.out.1)⟩
   case measure => simp [intOf]; omega
  ·have hie : i = U.length := by omega
   subst hie
   have hM' := hM.out
   rw [HU.out.2.1] at hM'
   have hdn := Mex.done G S hM'
   have HD := Lib.hid (And.intro hdn hM'); clear hM' hdn
   obtain ⟨ao, no, co, hvo⟩ : ∃ a n c, v8 = Value.slice a n c := by obtain ⟨a, c, e, _⟩ := (hO.ints (by omega)).shape; exact ⟨_, _, _, e⟩
   subst hvo
   have hz := isZero_ok v2 x wr _ hxr
   rw [hvx2] at hz
   subst hvx2
   have hzb : isZeroB x = true := (isZeroB_zeros hxV).2 HD.out.1.1
   rw [hzb] at hz
   go_wp2_with fail
   refine Calls.mono hz ?_
   rintro _ _ ⟨rfl, rfl⟩
   go_wp2
   go_ret2
   exact ⟨_, rfl, hgw, ao, no, co, out, rfl, hO.weak hg1.size, by rw [← HD.out.1.1, HU.out.2.1]; exact HD.out.2⟩
theorem Grp.iter_tv {P : Pr} (G : Grp P) {y u : List Int} (hy : Vec P.orders y) (hu : Vec P.orders u) (n : Nat) : iter n (fun o => tv P o u) y = rMul P y (pw P u n) := by
 induction n with
 | zero => rw [pw_zero, G.grp.er _ hy]; rfl
 | succ n ih =>
  show tv P (iter n (fun o => tv P o u) y) u = _
  rw [ih, G.tv_eq (G.mulV hy (G.pw_vec hu n)) hu, G.ass hy (G.pw_vec hu n) hu, pw_succ]
set_option maxRecDepth 100000 in
set_option maxHeartbeats 4000000 in
theorem memEl_ok (P : Pr) (G : Grp P) (w : World) (p uv av : Value) (U : List (List Int)) (A : List Int) (Sp Su Sa : Nat → Prop) (hp : PresP Sp w p P) (hu : Rows2 Su w uv U) (ha : Ints Sa w av A) (hU : ∀ z ∈ U, Vec P.orders z) (hlen : A.length = U.length) (hl : U.length ≤ 100) (hA : ∀ j, j < A.length → 0 ≤ gt A j ∧ gt A j ≤ 7) :
  Calls Tryz.prog 127 #[p, uv, av] w (Ret w fun w' v => ∃ a n c, v = .slice a n c ∧ Own w.heap.size w' (.slice a n c) (exP P U A U.length)) := by
 have hP := G.v
 have hn6 := hP.n6
 obtain ⟨pb, po, rfl⟩ := hp.shape
 obtain ⟨ao, capo, hco0, hoi⟩ := hp.ordAt
 obtain ⟨au, capu, rfl, _, _⟩ := Sl.shape hu
 obtain ⟨aa, capa, rfl, _, _⟩ := ha.shape
 have HU := Lib.hid (And.intro hU (And.intro hA hlen)); clear hU hA
 have hlen2 : A.length ≤ U.length ∧ U.length ≤ A.length := by omega
 clear hlen
 go_enter Tryz.func127, Tryz.ntmps127
 go_wp2_with (at_make; refine wp_make_ints rfl _ _ rfl w.heap.size P.orders.length w.heap.size rfl _ rfl rfl rfl (by omega) (Nat.le_refl _) ?_; intro w1 ho1 hg1 _)
 generalize Value.slice (some ⟨w.heap.size, 0, none⟩) P.orders.length P.orders.length = r at *
 go_loopw [18] (fun iv wr => ∃ i : Nat, iv = .int .i64 i ∧ i ≤ A.length ∧ Ext w wr ∧ Own w.heap.size wr r (exP P U A i)) (fun iv _ => A.length - (intOf iv).toNat)
 case atStart => exact ⟨0, rfl, by omega, hg1, ho1⟩
 case round =>
  clear ho1 hg1
  obtain ⟨i, rfl, hi, hg, hO⟩ := hrel
  by_cases hlt : i < A.length
  ·have hlt' : (i : Int) < A.length := by omega
   obtain ⟨ab, ao2, rfl, _, _, hca⟩ := Ints.at ha i hlt
   have hcar := hg.cell hca (by simp)
   obtain ⟨e, he⟩ : ∃ e, e = gt A i := ⟨_, rfl⟩
   have heb := HU.out.2.1 i hlt
   rw [← he] at hcar heb
   have huV := HU.out.1 _ (gtMem (show i < U.length by omega))
   obtain ⟨bb, off, a3, c3, rfl, _, _, hcu, hru⟩ := Rows2.at hu i (by omega)
   obtain ⟨u, hue⟩ : ∃ u, u = gt U i := ⟨_, rfl⟩
   rw [← hue] at huV hcu hru
   have hyV := G.exP_vec HU.out.1 A i (by omega)
   obtain ⟨y, hye⟩ : ∃ y, y = exP P U A i := ⟨_, rfl⟩
   rw [← hye] at hO hyV
   have hnext : exP P U A (i + 1) = rMul P y (pw P u e.toNat) := by rw [exP, hye, hue, he]
   have HE := Lib.hid (And.intro huV (And.intro hyV hnext)); clear huV hyV hnext he hue hye hca
   go_wp2
   clear hcar
   go_loopw [24] (fun jv wr => ∃ m : Nat, jv = .int .i64 m ∧ m ≤ e.toNat ∧ Ext w wr ∧ Own w.heap.size wr r (iter m (fun o => tv P o u) y)) (fun jv _ => e.toNat - (intOf jv).toNat)
   case atStart => exact ⟨0, rfl, by omega, hg, hO⟩
   case round =>
    clear hO hg
    obtain ⟨m, rfl, hm, hg, hO⟩ := hrel
    by_cases hlm : (m : Int) < e
    ·have hvm : Vec P.orders (iter m (fun o => tv P o u) y) := by rw [G.iter_tv HE.out.2.1 HE.out.1]; exact G.mulV HE.out.2.1 (G.pw_vec HE.out.1 m)
     have HV := Lib.hid hvm; clear hvm
     have hcr := hg.cell hcu (by simp)
     go_wp2_with fail
     refine Calls.mono (timesVector_ok P hP w.heap.size wr _ r _ _ u (hp.mono (off_of hO (Nat.le_refl _) hg)) hO HV.out (hru.mono (off_of hO (Nat.le_refl _) hg)) HE.out.1) ?_
     rintro e2 w2 ⟨v2, rfl, hg2, rfl, hR2⟩
     have hg3 := mut_ext hg hO (Nat.le_refl _) hg2
     clear hcr
     go_wp2
     go_roundw
     case rel => exact ⟨m + 1, by go_num, by omega, hg3, hR2⟩
     case measure => simp [intOf]; omega
    ·have hme : m = e.toNat := by omega
     rw [hme, G.iter_tv HE.out.2.1 HE.out.1, ← HE.out.2.2] at hO
     have HO := Lib.hid hO; clear hO hme
     go_wp2
     go_roundw
     case rel => exact ⟨i + 1, by go_num, by omega, hg, HO.out⟩
     case measure => simp [intOf]; omega
  ·have hie : i = U.length := by omega
   subst hie
   have hoV := G.exP_vec HU.out.1 A U.length (Nat.le_refl _)
   obtain ⟨az, nz, cz, hvz⟩ : ∃ a n c, r = Value.slice a n c := by obtain ⟨a, c, e, _⟩ := (hO.ints (by rw [hoV.1]; omega)).shape; exact ⟨_, _, _, e⟩
   subst hvz
   have HO := Lib.hid hO; clear hO hoV
   go_wp2
   go_ret
   exact ⟨_, rfl, hg, _, _, _, rfl, HO.out⟩
end Go.Proofs.YtdcobapnlpeaaaaGreat
namespace Go.Proofs.YtdcobapnlpeaaaaGreat
open Go.RowKit
set_option maxRecDepth 100000 in
set_option maxHeartbeats 2000000 in
theorem areElements_ok (Q : Pr) (w : World) (p lv : Value) (L : List (List Int)) (Sp Sl' : Nat → Prop) (hp : PresP Sp w p Q) (hl : Rows2 Sl' w lv L) :
  Calls Tryz.prog 133 #[p, lv] w (Ret w fun _ v => ∃ r : Bool, v = .bool r ∧ (r = true ↔ rconsB Q = true ∧ ∀ x ∈ L, Vec Q.orders x)) := by
 obtain ⟨pb, po, rfl⟩ := hp.shape
 obtain ⟨al, capl, rfl, _, _⟩ := Sl.shape hl
 obtain ⟨vo, vp, vc, _, _, hc0, hc1, hc2, h3⟩ := hp.at
 obtain ⟨ao, capo, rfl, _, _⟩ := h3.o.shape
 obtain ⟨ap, capp, rfl, _, _⟩ := Sl.shape h3.p
 obtain ⟨ac, capc, rfl, _, _⟩ := Sl.shape h3.c
 have hcon := isConsistent_ok Q w (.agg #[.slice ao Q.orders.length capo, .slice ap Q.powers.length capp, .slice ac Q.conj.length capc]) Sp ⟨_, _, _, rfl, h3⟩
 rw [icons_eq] at hcon
 go_enter Tryz.func133, Tryz.ntmps133
 go_wp2_with fail
 refine Calls.mono hcon ?_
 rintro e1 w1 ⟨v, rfl, hg1, rfl⟩
 clear hcon
 cases hq : rconsB Q with
 | false =>
  have HQ := Lib.hid hq; clear hq
  go_wp2
  go_ret
  exact ⟨_, rfl, hg1, false, rfl, by simp only [Bool.false_eq_true, false_iff]; rintro ⟨h, _⟩; rw [HQ.out] at h; cases h⟩
 | true =>
  have G := grp_of_r hq
  have hn6 := G.v.n6
  have HQ := Lib.hid hq; clear hq hc0 hc1 hc2
  go_wp2
  go_loopw [14] (fun jv wr => ∃ j : Nat, jv = .int .i64 j ∧ j ≤ L.length ∧ Ext w wr ∧ Hid (∀ l, l < j → Vec Q.orders (gt L l))) (fun jv _ => L.length - (intOf jv).toNat)
  case atStart => exact ⟨0, rfl, by omega, hg1, Lib.hid (fun j h => by omega)⟩
  case round =>
   obtain ⟨j, rfl, hj, hg, hV⟩ := hrel
   by_cases hjl : j < L.length
   ·have hjl' : (j : Int) < L.length := by omega
    obtain ⟨b3, off3, a3, cap3, rfl, _, _, hc3, hr3⟩ := Rows2.at (Rows2.ext hl hg) j hjl
    have hex := isExponents_ok wr _ _ Q (gt L j) Sp Sl' (hp.ext hg) hr3 (fun i hi => by have := G.v.ord7 i hi; omega)
    cases hb : expB Q.orders (gt L j) with
    | true =>
     rw [hb] at hex
     have HB := Lib.hid (expB_vec.1 hb); clear hb
     go_wp2_with fail
     refine Calls.mono hex ?_
     rintro eE wE ⟨rfl, rfl⟩
     clear hex
     go_wp2
     go_roundw
     case rel => exact ⟨j + 1, by go_num, by omega, hg, Lib.hid (fun l hl => by
      rcases Nat.lt_succ_iff_lt_or_eq.1 hl with h | h
      ·exact hV.out l h
      ·rw [h]; exact HB.out)⟩
     case measure => simp [intOf]; omega
    | false =>
     rw [hb] at hex
     have hno : ¬ ∀ x ∈ L, Vec Q.orders x := fun h => by
      have := expB_vec.2 (h _ (gtMem hjl))
      rw [hb] at this; cases this
     have HB := Lib.hid hno; clear hb hno
     go_wp2_with fail
     refine Calls.mono hex ?_
     rintro eE wE ⟨rfl, rfl⟩
     clear hex
     go_wp2
     go_ret
     exact ⟨_, rfl, hg, false, rfl, by simp only [Bool.false_eq_true, false_iff]; rintro ⟨_, h⟩; exact HB.out h⟩
   ·have hke : j = L.length := by omega
    subst hke
    go_wp2
    go_ret
    exact ⟨_, rfl, hg, true, rfl, by
     simp only [true_iff]
     refine ⟨HQ.out, fun x hx => ?_⟩
     obtain ⟨l, hl, rfl⟩ := List.getElem_of_mem hx
     rw [← gt_eq L l hl]; exact hV.out l hl⟩
end Go.Proofs.YtdcobapnlpeaaaaGreat
namespace Go.Proofs.YtdcobapnlpeaaaaGreat
open Go.RowKit
theorem rowsE1 {w : World} {v : Value} {l : List Int} {S : Nat → Prop} (h : Ints S w v l) : Rows2 Any (w.alloc (.cells #[v] 24)) (.slice (some ⟨w.heap.size, 0, none⟩) 1 1) [l] := by
 have hg : Ext w (w.alloc (.cells #[v] 24)) := World.grownBy_alloc _ _ _
 refine ⟨_, 1, rfl, ⟨by simp, by simp, fun h => by cases h⟩, fun i hi => ?_⟩
 obtain rfl : i = 0 := by simp at hi; omega
 exact ⟨w.heap.size, 0, v, rfl, trivial, by simp, by rw [World.cell?_alloc_at _ _ _ _ rfl]; rfl, Ints.sub (Ints.ext h hg) (fun _ _ _ => trivial)⟩
theorem rowsE2 {w : World} {v1 v2 : Value} {l1 l2 : List Int} {S1 S2 : Nat → Prop} (h1 : Ints S1 w v1 l1) (h2 : Ints S2 w v2 l2) : Rows2 Any (w.alloc (.cells #[v1, v2] 24)) (.slice (some ⟨w.heap.size, 0, none⟩) 2 2) [l1, l2] := by
 have hg : Ext w (w.alloc (.cells #[v1, v2] 24)) := World.grownBy_alloc _ _ _
 refine ⟨_, 2, rfl, ⟨by simp, by simp, fun h => by cases h⟩, fun i hi => ?_⟩
 have : i = 0 ∨ i = 1 := by simp at hi; omega
 rcases this with rfl | rfl
 ·exact ⟨w.heap.size, 0, v1, rfl, trivial, by simp, by rw [World.cell?_alloc_at _ _ _ _ rfl]; rfl, Ints.sub (Ints.ext h1 hg) (fun _ _ _ => trivial)⟩
 ·exact ⟨w.heap.size, 0, v2, rfl, trivial, by simp, by rw [World.cell?_alloc_at _ _ _ _ rfl]; rfl, Ints.sub (Ints.ext h2 hg) (fun _ _ _ => trivial)⟩
set_option maxRecDepth 100000 in
set_option maxHeartbeats 4000000 in
theorem iMulE_ok (P : Pr) (hr : rconsB P = true) (w : World) (pv xv yv : Value) (X Y : List Int) (Sp Sx Sy : Nat → Prop) (hpv : PresV Sp w pv P) (hx : Ints Sx w xv X) (hy : Ints Sy w yv Y) (hX : Vec P.orders X) (hY : Vec P.orders Y) :
  Calls Tryz.prog 121 #[pv, xv, yv] w (Ret w fun w' v => ∃ a n c, v = .tuple #[.slice a n c, .int .i64 0] ∧ Own w.heap.size w' (.slice a n c) (rMul P X Y)) := by
 have G := grp_of_r hr
 have hn6 := G.v.n6
 obtain ⟨vo, vp, vc, rfl, h3⟩ := hpv
 have hp0 := PresP.box h3 28
 have hg0 : Ext w (w.alloc (.cells #[vo, vp, vc] 28)) := World.grownBy_alloc _ _ _
 have hs0 : (w.alloc (.cells #[vo, vp, vc] 28)).heap.size = w.heap.size + 1 := by simp
 have hx0 := Ints.ext hx hg0
 obtain ⟨ax, capx, rfl, _, _⟩ := hx.shape
 have hy0 := Ints.ext hy hg0
 obtain ⟨ay, capy, rfl, _, _⟩ := hy.shape
 have hg1 : Ext (w.alloc (.cells #[vo, vp, vc] 28)) ((w.alloc (.cells #[vo, vp, vc] 28)).alloc (.cells #[.slice ax X.length capx, .slice ay Y.length capy] 24)) := World.grownBy_alloc _ _ _
 have hl := rowsE2 hx0 hy0
 have hcon := areElements_ok P _ _ _ [X, Y] Any Any (hp0.ext hg1) hl
 rw [hs0] at hcon
 clear hl hx hy
 have HH := Lib.hid (And.intro hr (And.intro hX ( And.intro hY ((trivial : True))))); clear hr hX hY
 go_enter Tryz.func121, Tryz.ntmps121
 go_wp2_with fail
 refine Calls.mono hcon ?_
 rintro e1 w1 ⟨v1, rfl, hgA, r1, rfl, hr1⟩
 clear hcon
 obtain rfl : r1 = true := hr1.2 (by have := HH.out; simp only [List.mem_cons, List.mem_nil_iff, or_false]; exact ⟨this.1, fun u hu => by rcases hu with rfl | rfl; exact this.2.1; exact this.2.2.1⟩)
 clear hr1
 have hg01 := grown_trans hg1 hgA
 have HS := Lib.hid hs0; clear hs0
 generalize hw0 : (w.alloc (.cells #[vo, vp, vc] 28)) = w0 at *
 clear hw0 hg1 hgA
 have hp1 := hp0.ext hg01
 have hx1 := Ints.ext hx0 hg01
 have hy1 := Ints.ext hy0 hg01
 go_wp2_with fail
 refine Calls.mono (multiply_ok P G.v w1 _ _ _ X Y Any Sx Sy hp1 hx1 hy1 HH.out.2.1 HH.out.2.2.1) ?_
 rintro e2 w2 ⟨v2, rfl, hg2, hO⟩
 rw [G.tv_eq HH.out.2.1 HH.out.2.2.1] at hO
 obtain ⟨ad, nd, capd, hvd⟩ : ∃ a n c, v2 = Value.slice a n c := by obtain ⟨a, c, e, _⟩ := (hO.ints (by rw [(G.mulV HH.out.2.1 HH.out.2.2.1).1]; omega)).shape; exact ⟨_, _, _, e⟩
 subst hvd
 go_wp2
 go_ret2
 exact ⟨_, rfl, grown_trans hg0 (grown_trans hg01 hg2), _, _, _, rfl, hO.weak (by have := hg01.size; have := hg0.size; omega)⟩
set_option maxRecDepth 100000 in
set_option maxHeartbeats 4000000 in
theorem iInvE_ok (P : Pr) (hr : rconsB P = true) (w : World) (pv xv : Value) (X : List Int) (Sp Sx : Nat → Prop) (hpv : PresV Sp w pv P) (hx : Ints Sx w xv X) (hX : Vec P.orders X) :
  Calls Tryz.prog 122 #[pv, xv] w (Ret w fun w' v => ∃ a n c, v = .tuple #[.slice a n c, .int .i64 0] ∧ Own w.heap.size w' (.slice a n c) (rInv P X)) := by
 have G := grp_of_r hr
 have hn6 := G.v.n6
 obtain ⟨vo, vp, vc, rfl, h3⟩ := hpv
 have hp0 := PresP.box h3 28
 have hg0 : Ext w (w.alloc (.cells #[vo, vp, vc] 28)) := World.grownBy_alloc _ _ _
 have hs0 : (w.alloc (.cells #[vo, vp, vc] 28)).heap.size = w.heap.size + 1 := by simp
 have hx0 := Ints.ext hx hg0
 obtain ⟨ax, capx, rfl, _, _⟩ := hx.shape
 have hg1 : Ext (w.alloc (.cells #[vo, vp, vc] 28)) ((w.alloc (.cells #[vo, vp, vc] 28)).alloc (.cells #[.slice ax X.length capx] 24)) := World.grownBy_alloc _ _ _
 have hl := rowsE1 hx0
 have hcon := areElements_ok P _ _ _ [X] Any Any (hp0.ext hg1) hl
 rw [hs0] at hcon
 clear hl hx
 have HH := Lib.hid (And.intro hr (And.intro hX ((trivial : True)))); clear hr hX
 go_enter Tryz.func122, Tryz.ntmps122
 go_wp2_with fail
 refine Calls.mono hcon ?_
 rintro e1 w1 ⟨v1, rfl, hgA, r1, rfl, hr1⟩
 clear hcon
 obtain rfl : r1 = true := hr1.2 (by have := HH.out; simp only [List.mem_cons, List.mem_nil_iff, or_false]; exact ⟨this.1, fun u hu => by subst hu; exact this.2.1⟩)
 clear hr1
 have hg01 := grown_trans hg1 hgA
 have HS := Lib.hid hs0; clear hs0
 generalize hw0 : (w.alloc (.cells #[vo, vp, vc] 28)) = w0 at *
 clear hw0 hg1 hgA
 have hp1 := hp0.ext hg01
 have hx1 := Ints.ext hx0 hg01
 go_wp2_with fail
 refine Calls.mono (invert_ok P G.v w1 _ _ X Any Sx hp1 hx1 HH.out.2.1) ?_
 rintro e2 w2 ⟨v2, rfl, hg2, hO⟩
 rw [G.iInv_eq HH.out.2.1] at hO
 obtain ⟨ad, nd, capd, hvd⟩ : ∃ a n c, v2 = Value.slice a n c := by obtain ⟨a, c, e, _⟩ := (hO.ints (by rw [(G.invV HH.out.2.1).1]; omega)).shape; exact ⟨_, _, _, e⟩
 subst hvd
 go_wp2
 go_ret2
 exact ⟨_, rfl, grown_trans hg0 (grown_trans hg01 hg2), _, _, _, rfl, hO.weak (by have := hg01.size; have := hg0.size; omega)⟩
end Go.Proofs.YtdcobapnlpeaaaaGreat
namespace Go.Proofs.YtdcobapnlpeaaaaGreat
open Go.RowKit
theorem Grp.conjL_vec {P : Pr} (G : Grp P) {U : List (List Int)} {X : List Int} (hU : ∀ x ∈ U, Vec P.orders x) (hX : Vec P.orders X) : ∀ z ∈ conjL P U X, Vec P.orders z := fun z hz => by
 unfold conjL at hz
 obtain ⟨y, hy, rfl⟩ := List.mem_map.1 hz
 exact G.conjV (hU y hy) hX
end Go.Proofs.YtdcobapnlpeaaaaGreat
namespace Go.Proofs.YtdcobapnlpeaaaaGreat
open Go.Proofs Go.Shelf Go.RowKit Go.Lib
def Tryz.growRows_ren : Go.Shelf.Ren := ⟨fun | 4 => 253 | n => n, fun | 22 => 25 | 25 => 24 | 3 => 3 | 4 => 4 | 9 => 9 | 20 => 20 | 0 => 0 | n => n, fun | n => n⟩
theorem Tryz.growRows : Go.Proofs.Lays8.n4 Tryz.prog Tryz.growRows_ren := {
  mixed := by kernel_rfl
  f4 := ⟨Tryz.f253.name, by decide, Tryz.func253.trans (congrArg some (by kernel_rfl))⟩
  t0 := Tryz.underlying0
  a0 := Tryz.isAgg0
  z0 := Tryz.sizeOf0
  v0 := Tryz.zeroValue0
  t3 := Tryz.underlying3
  a3 := Tryz.isAgg3
  z3 := Tryz.sizeOf3
  v3 := Tryz.zeroValue3
  t4 := Tryz.underlying4
  a4 := Tryz.isAgg4
  z4 := Tryz.sizeOf4
  v4 := Tryz.zeroValue4
  t9 := Tryz.underlying9
  a9 := Tryz.isAgg9
  z9 := Tryz.sizeOf9
  v9 := Tryz.zeroValue9
  t20 := Tryz.underlying20
  a20 := Tryz.isAgg20
  z20 := Tryz.sizeOf20
  v20 := Tryz.zeroValue20
  t22 := Tryz.underlying25
  a22 := Tryz.isAgg25
  z22 := Tryz.sizeOf25
  v22 := Tryz.zeroValue25 }
end Go.Proofs.YtdcobapnlpeaaaaGreat
namespace Go.Proofs.YtdcobapnlpeaaaaGreat
open Go.RowKit
set_option maxRecDepth 100000 in
set_option maxHeartbeats 4000000 in
theorem iConjSub_ok (P : Pr) (hr : rconsB P = true) (w : World) (pv uv xv : Value) (U : List (List Int)) (X : List Int) (Sp Su Sx : Nat → Prop) (hpv : PresV Sp w pv P) (hu : Rows2 Su w uv U) (hx : Ints Sx w xv X) (hU : SubB P U) (hX : Vec P.orders X) :
  Calls Tryz.prog 35 #[pv, uv, xv] w (Ret w fun w' v => ∃ a n c, v = .tuple #[.slice a n c, .int .i64 0] ∧ RowsO w.heap.size w' (.slice a n c) (cseq P (gU P (conjL P U X)))) := by
 have G := grp_of_r hr
 have hn6 := G.v.n6
 obtain ⟨vo, vp, vc, rfl, h3⟩ := hpv
 have hp0 := PresP.box h3 28
 have hg0 : Ext w (w.alloc (.cells #[vo, vp, vc] 28)) := World.grownBy_alloc _ _ _
 have hs0 : (w.alloc (.cells #[vo, vp, vc] 28)).heap.size = w.heap.size + 1 := by simp
 have hu0 := Rows2.ext hu hg0
 have hx0 := Ints.ext hx hg0
 obtain ⟨au, capu, rfl, _, _⟩ := Sl.shape hu
 obtain ⟨ax, capx, rfl, _, _⟩ := hx.shape
 have hg1 : Ext (w.alloc (.cells #[vo, vp, vc] 28)) ((w.alloc (.cells #[vo, vp, vc] 28)).alloc (.cells #[.slice au U.length capu] 25)) := World.grownBy_alloc _ _ _
 have hl := rows3One hu0
 have hcon := areSubgroups_ok P _ _ _ [U] Any Any (hp0.ext hg1) hl
 rw [hs0] at hcon
 clear hl hu hx
 have hulU : U.length ≤ P.orders.length := G.sub_len hU
 have HH := Lib.hid (And.intro hr (And.intro hU ( And.intro hX ((trivial : True))))); clear hr hU hX
 go_enter Tryz.func35, Tryz.ntmps35
 go_wp2_with fail
 refine Calls.mono hcon ?_
 rintro e1 w1 ⟨v1, rfl, hgA, r1, rfl, hr1⟩
 clear hcon
 obtain rfl : r1 = true := hr1.2 (by have := HH.out; simp only [List.mem_cons, List.mem_nil_iff, or_false]; exact ⟨this.1, fun u hu => by subst hu; exact this.2.1⟩)
 clear hr1
 have hg01 := grown_trans hg1 hgA
 have HS := Lib.hid hs0; clear hs0
 generalize hw0 : (w.alloc (.cells #[vo, vp, vc] 28)) = w0 at *
 clear hw0 hg1 hgA
 have hp1 := hp0.ext hg01
 have hu1 := Rows2.ext hu0 hg01
 have hx1 := Ints.ext hx0 hg01
 have hex := isExponents_ok w1 _ _ P X Any Sx hp1 hx1 (fun i hi => by have := G.v.ord7 i hi; omega)
 rw [expB_vec.2 HH.out.2.2.1] at hex
 go_wp2_with fail
 refine Calls.mono hex ?_
 rintro _ _ ⟨rfl, rfl⟩
 clear hex
 go_wp2_with fail
 refine Calls.mono (conjugateSubgroup_ok P G w1 _ _ _ U X Any Su Sx hp1 hu1 HH.out.2.1.1 (by omega) hx1 HH.out.2.2.1) ?_
 rintro e4 w4 ⟨v4, rfl, hg4, hO4⟩
 have hcl : (cseq P (gU P (conjL P U X))).length ≤ P.orders.length := G.cseq_len (G.genP_sub (G.conjL_vec HH.out.2.1.1 HH.out.2.2.1))
 obtain ⟨ad, nd, capd, hvd⟩ : ∃ a n c, v4 = .slice a n c := by
  obtain ⟨a, c, h⟩ := RowsO.shapeC hO4 (by show (cseq P (gU P (conjL P U X))).length ≤ _; omega)
  exact ⟨a, _, c, h⟩
 subst hvd
 go_wp2
 go_ret2
 exact ⟨_, rfl, grown_trans hg0 (grown_trans hg01 hg4), _, _, _, rfl, hO4.weak (by have := hg01.size; have := hg0.size; omega)⟩
set_option maxRecDepth 100000 in
set_option maxHeartbeats 4000000 in
theorem iMember_ok (P : Pr) (hr : rconsB P = true) (w : World) (pv uv xv : Value) (U : List (List Int)) (X : List Int) (Sp Su Sx : Nat → Prop) (hpv : PresV Sp w pv P) (hu : Rows2 Su w uv U) (hx : Ints Sx w xv X) (hU : SubB P U) (hX : Vec P.orders X) :
  Calls Tryz.prog 29 #[pv, uv, xv] w (Ret w fun _ v => ∃ r : Bool, v = .tuple #[.bool r, .int .i64 0] ∧ (r = true ↔ gU P U X)) := by
 have G := grp_of_r hr
 have hn6 := G.v.n6
 obtain ⟨vo, vp, vc, rfl, h3⟩ := hpv
 have hp0 := PresP.box h3 28
 have hg0 : Ext w (w.alloc (.cells #[vo, vp, vc] 28)) := World.grownBy_alloc _ _ _
 have hs0 : (w.alloc (.cells #[vo, vp, vc] 28)).heap.size = w.heap.size + 1 := by simp
 have hu0 := Rows2.ext hu hg0
 have hx0 := Ints.ext hx hg0
 obtain ⟨au, capu, rfl, _, _⟩ := Sl.shape hu
 obtain ⟨ax, capx, rfl, _, _⟩ := hx.shape
 have hg1 : Ext (w.alloc (.cells #[vo, vp, vc] 28)) ((w.alloc (.cells #[vo, vp, vc] 28)).alloc (.cells #[.slice au U.length capu] 25)) := World.grownBy_alloc _ _ _
 have hl := rows3One hu0
 have hcon := areSubgroups_ok P _ _ _ [U] Any Any (hp0.ext hg1) hl
 rw [hs0] at hcon
 clear hl hu hx
 have hulU : U.length ≤ P.orders.length := G.sub_len hU
 have HH := Lib.hid (And.intro hr (And.intro hU ( And.intro hX ((trivial : True))))); clear hr hU hX
 go_enter Tryz.func29, Tryz.ntmps29
 go_wp2_with fail
 refine Calls.mono hcon ?_
 rintro e1 w1 ⟨v1, rfl, hgA, r1, rfl, hr1⟩
 clear hcon
 obtain rfl : r1 = true := hr1.2 (by have := HH.out; simp only [List.mem_cons, List.mem_nil_iff, or_false]; exact ⟨this.1, fun u hu => by subst hu; exact this.2.1⟩)
 clear hr1
 have hg01 := grown_trans hg1 hgA
 have HS := Lib.hid hs0; clear hs0
 generalize hw0 : (w.alloc (.cells #[vo, vp, vc] 28)) = w0 at *
 clear hw0 hg1 hgA
 have hp1 := hp0.ext hg01
 have hu1 := Rows2.ext hu0 hg01
 have hx1 := Ints.ext hx0 hg01
 have hex := isExponents_ok w1 _ _ P X Any Sx hp1 hx1 (fun i hi => by have := G.v.ord7 i hi; omega)
 rw [expB_vec.2 HH.out.2.2.1] at hex
 go_wp2_with fail
 refine Calls.mono hex ?_
 rintro _ _ ⟨rfl, rfl⟩
 clear hex
 have hu2 : Rows2 Su w1 (.slice au U.length capu) (cseq P (gU P U)) := by rw [← HH.out.2.1.2]; exact hu1
 have hcn := isMember_ok P G w1 _ _ _ (gU P U) X Any Su Sx (G.subB HH.out.2.1) hp1 hu2 hx1 HH.out.2.2.1
 have HC := Lib.hid hcn; clear hcn hu2
 go_wp2_with fail
 refine Calls.mono HC.out ?_
 rintro e2 w2 ⟨v2, rfl, hg2, r, rfl, hri⟩
 have HRI := Lib.hid hri; clear hri HC
 go_wp2
 go_ret2
 exact ⟨_, rfl, grown_trans hg0 (grown_trans hg01 hg2), r, rfl, HRI.out⟩
end Go.Proofs.YtdcobapnlpeaaaaGreat
namespace Go.Proofs.YtdcobapnlpeaaaaGreat
open Go.RowKit
set_option maxRecDepth 100000 in
set_option maxHeartbeats 4000000 in
theorem iMexp_ok (P : Pr) (hr : rconsB P = true) (w : World) (pv uv xv : Value) (U : List (List Int)) (X : List Int) (Sp Su Sx : Nat → Prop) (hpv : PresV Sp w pv P) (hu : Rows2 Su w uv U) (hx : Ints Sx w xv X) (hU : SubB P U) (hX : Vec P.orders X) (hm : gU P U X) :
  Calls Tryz.prog 30 #[pv, uv, xv] w (Ret w fun w' v => ∃ a n c out, v = .tuple #[.slice a n c, .int .i64 0] ∧ Own w.heap.size w' (.slice a n c) out ∧ Mex P U (gU P U) X U.length out (zeros P.orders.length)) := by
 have G := grp_of_r hr
 have hn6 := G.v.n6
 obtain ⟨vo, vp, vc, rfl, h3⟩ := hpv
 have hp0 := PresP.box h3 28
 have hg0 : Ext w (w.alloc (.cells #[vo, vp, vc] 28)) := World.grownBy_alloc _ _ _
 have hs0 : (w.alloc (.cells #[vo, vp, vc] 28)).heap.size = w.heap.size + 1 := by simp
 have hu0 := Rows2.ext hu hg0
 have hx0 := Ints.ext hx hg0
 obtain ⟨au, capu, rfl, _, _⟩ := Sl.shape hu
 obtain ⟨ax, capx, rfl, _, _⟩ := hx.shape
 have hg1 : Ext (w.alloc (.cells #[vo, vp, vc] 28)) ((w.alloc (.cells #[vo, vp, vc] 28)).alloc (.cells #[.slice au U.length capu] 25)) := World.grownBy_alloc _ _ _
 have hl := rows3One hu0
 have hcon := areSubgroups_ok P _ _ _ [U] Any Any (hp0.ext hg1) hl
 rw [hs0] at hcon
 clear hl hu hx
 have hulU : U.length ≤ P.orders.length := G.sub_len hU
 have HH := Lib.hid (And.intro hr (And.intro hU ( And.intro hX ((trivial : True))))); clear hr hU hX
 go_enter Tryz.func30, Tryz.ntmps30
 go_wp2_with fail
 refine Calls.mono hcon ?_
 rintro e1 w1 ⟨v1, rfl, hgA, r1, rfl, hr1⟩
 clear hcon
 obtain rfl : r1 = true := hr1.2 (by have := HH.out; simp only [List.mem_cons, List.mem_nil_iff, or_false]; exact ⟨this.1, fun u hu => by subst hu; exact this.2.1⟩)
 clear hr1
 have hg01 := grown_trans hg1 hgA
 have HS := Lib.hid hs0; clear hs0
 generalize hw0 : (w.alloc (.cells #[vo, vp, vc] 28)) = w0 at *
 clear hw0 hg1 hgA
 have hp1 := hp0.ext hg01
 have hu1 := Rows2.ext hu0 hg01
 have hx1 := Ints.ext hx0 hg01
 have hex := isExponents_ok w1 _ _ P X Any Sx hp1 hx1 (fun i hi => by have := G.v.ord7 i hi; omega)
 rw [expB_vec.2 HH.out.2.2.1] at hex
 go_wp2_with fail
 refine Calls.mono hex ?_
 rintro _ _ ⟨rfl, rfl⟩
 clear hex
 have hu2 : Rows2 Su w1 (.slice au U.length capu) (cseq P (gU P U)) := by rw [← HH.out.2.1.2]; exact hu1
 have hcn := memExp_ok P G w1 _ _ _ (gU P U) X Any Su Sx (G.subB HH.out.2.1) hp1 hu2 hx1 hm
 have HC := Lib.hid hcn; clear hcn hu2
 go_wp2_with fail
 refine Calls.mono HC.out ?_
 rintro e2 w2 ⟨v2, rfl, hg2, a2, n2, c2, out, rfl, hO, hM⟩
 have hM' : Mex P U (gU P U) X U.length out (zeros P.orders.length) := by
  have e : cseq P (gU P U) = U := HH.out.2.1.2.symm
  rw [e] at hM; exact hM
 have HF := Lib.hid (And.intro hO hM'); clear hM hM' hO HC
 go_wp2
 go_ret2
 exact ⟨_, rfl, grown_trans hg0 (grown_trans hg01 hg2), _, _, _, out, rfl, HF.out.1.weak (by have := hg01.size; have := hg0.size; omega), HF.out.2⟩
set_option maxRecDepth 100000 in
set_option maxHeartbeats 1000000 in
theorem mul9_ok (P : Pr) (hr : rconsB P = true) (w : World) (pv xv yv : Value) (X Y : List Int) (Sp Sx Sy : Nat → Prop) (hpv : PresV Sp w pv P) (hx : Ints Sx w xv X) (hy : Ints Sy w yv Y) (hX : Vec P.orders X) (hY : Vec P.orders Y) :
  Calls Tryz.prog 27 #[pv, xv, yv] w (Ret w fun w' v => ∃ a n c, v = .slice a n c ∧ Own w.heap.size w' (.slice a n c) (rMul P X Y)) := by
 have hrH := Lib.hid (And.intro hr ((And.intro hX (And.intro hY (trivial : True))))); clear hr hX hY
 obtain ⟨vo, vp, vc, rfl, h3⟩ := hpv
 have hp0 := PresP.box h3 28
 have hg0 : Ext w (w.alloc (.cells #[vo, vp, vc] 28)) := World.grownBy_alloc _ _ _
 have hx0 := Ints.ext hx hg0
 obtain ⟨ax, capx, rfl, _, _⟩ := hx.shape
 have hy0 := Ints.ext hy hg0
 obtain ⟨ay, capy, rfl, _, _⟩ := hy.shape
 obtain ⟨vo6, vp6, vc6, _, _, hc0, hc1, hc2, h36⟩ := hp0.at
 simp only [Nat.zero_add] at hc1 hc2
 clear hp0 hx hy
 go_enter Tryz.func27, Tryz.ntmps27
 go_wp2_with fail
 clear hc0 hc1 hc2
 refine Calls.mono (iMulE_ok P hrH.out.1 _ _ _ _ X Y _ _ _ ⟨_, _, _, rfl, h36⟩ hx0 hy0 hrH.out.2.1 hrH.out.2.2.1) ?_
 rintro e1 w1 ⟨v1, rfl, hg1, a1, n1, c1, rfl, hO⟩
 have HO := Lib.hid hO; clear hO
 go_wp2
 go_ret
 exact ⟨_, rfl, grown_trans hg0 hg1, _, _, _, rfl, HO.out.weak (by have := hg0.size; omega)⟩
set_option maxRecDepth 100000 in
set_option maxHeartbeats 1000000 in
theorem inv9_ok (P : Pr) (hr : rconsB P = true) (w : World) (pv xv : Value) (X : List Int) (Sp Sx : Nat → Prop) (hpv : PresV Sp w pv P) (hx : Ints Sx w xv X) (hX : Vec P.orders X) :
  Calls Tryz.prog 28 #[pv, xv] w (Ret w fun w' v => ∃ a n c, v = .slice a n c ∧ Own w.heap.size w' (.slice a n c) (rInv P X)) := by
 have hrH := Lib.hid (And.intro hr ((And.intro hX (trivial : True)))); clear hr hX
 obtain ⟨vo, vp, vc, rfl, h3⟩ := hpv
 have hp0 := PresP.box h3 28
 have hg0 : Ext w (w.alloc (.cells #[vo, vp, vc] 28)) := World.grownBy_alloc _ _ _
 have hx0 := Ints.ext hx hg0
 obtain ⟨ax, capx, rfl, _, _⟩ := hx.shape
 obtain ⟨vo6, vp6, vc6, _, _, hc0, hc1, hc2, h36⟩ := hp0.at
 simp only [Nat.zero_add] at hc1 hc2
 clear hp0 hx
 go_enter Tryz.func28, Tryz.ntmps28
 go_wp2_with fail
 clear hc0 hc1 hc2
 refine Calls.mono (iInvE_ok P hrH.out.1 _ _ _ X _ _ ⟨_, _, _, rfl, h36⟩ hx0 hrH.out.2.1) ?_
 rintro e1 w1 ⟨v1, rfl, hg1, a1, n1, c1, rfl, hO⟩
 have HO := Lib.hid hO; clear hO
 go_wp2
 go_ret
 exact ⟨_, rfl, grown_trans hg0 hg1, _, _, _, rfl, HO.out.weak (by have := hg0.size; omega)⟩
end Go.Proofs.YtdcobapnlpeaaaaGreat
namespace Go.Proofs.YtdcobapnlpeaaaaGreat
open Go.RowKit
set_option maxRecDepth 100000 in
set_option maxHeartbeats 4000000 in
theorem iMel_ok (P : Pr) (hr : rconsB P = true) (w : World) (pv uv xv : Value) (U : List (List Int)) (X : List Int) (Sp Su Sx : Nat → Prop) (hpv : PresV Sp w pv P) (hu : Rows2 Su w uv U) (hx : Ints Sx w xv X) (hU : SubB P U) (hXl : X.length = U.length) (hXr : ∀ j, j < U.length → 0 ≤ gt X j ∧ gt X j < gt P.orders (dep (gt U j))) :
  Calls Tryz.prog 31 #[pv, uv, xv] w (Ret w fun w' v => ∃ a n c, v = .tuple #[.slice a n c, .int .i64 0] ∧ Own w.heap.size w' (.slice a n c) (exP P U X U.length)) := by
 have G := grp_of_r hr
 have hn6 := G.v.n6
 obtain ⟨vo, vp, vc, rfl, h3⟩ := hpv
 have hp0 := PresP.box h3 28
 have hg0 : Ext w (w.alloc (.cells #[vo, vp, vc] 28)) := World.grownBy_alloc _ _ _
 have hs0 : (w.alloc (.cells #[vo, vp, vc] 28)).heap.size = w.heap.size + 1 := by simp
 have hu0 := Rows2.ext hu hg0
 have hx0 := Ints.ext hx hg0
 obtain ⟨au, capu, rfl, _, _⟩ := Sl.shape hu
 obtain ⟨ax, capx, rfl, _, _⟩ := hx.shape
 have hg1 : Ext (w.alloc (.cells #[vo, vp, vc] 28)) ((w.alloc (.cells #[vo, vp, vc] 28)).alloc (.cells #[.slice au U.length capu] 25)) := World.grownBy_alloc _ _ _
 have hl := rows3One hu0
 have hcon := areSubgroups_ok P _ _ _ [U] Any Any (hp0.ext hg1) hl
 rw [hs0] at hcon
 clear hl hu hx
 have hulU : U.length ≤ P.orders.length := G.sub_len hU
 have HH := Lib.hid (And.intro hr (And.intro hU (And.intro hXl hXr))); clear hr hU hXl hXr
 go_enter Tryz.func31, Tryz.ntmps31
 go_wp2_with fail
 refine Calls.mono hcon ?_
 rintro e1 w1 ⟨v1, rfl, hgA, r1, rfl, hr1⟩
 clear hcon
 obtain rfl : r1 = true := hr1.2 (by have := HH.out; simp only [List.mem_cons, List.mem_nil_iff, or_false]; exact ⟨this.1, fun u hu => by subst hu; exact this.2.1⟩)
 clear hr1
 have hg01 := grown_trans hg1 hgA
 have HS := Lib.hid hs0; clear hs0
 generalize hw0 : (w.alloc (.cells #[vo, vp, vc] 28)) = w0 at *
 clear hw0 hg1 hgA
 have hp1 := hp0.ext hg01
 have hu1 := Rows2.ext hu0 hg01
 have hx1 := Ints.ext hx0 hg01
 have hf := G.seq_facts (G.subB HH.out.2.1)
 rw [← HH.out.2.1.2] at hf
 have hUz : ∀ z ∈ U, dep z < z.length := fun z hz => by have := hf.1.1 z hz; rw [this.1.1]; exact this.2.1
 have hXU : X.length ≤ U.length ∧ U.length ≤ X.length := by have := HH.out.2.2.1; omega
 have hne : ((X.length : Int) != (U.length : Int)) = false := by simp; omega
 obtain ⟨ao, capo, hco0, hoi⟩ := hp1.ordAt
 have HU := Lib.hid (And.intro hf hUz); clear hf hUz
 have HCO := Lib.hid (And.intro hco0 hoi); clear hco0 hoi
 go_wp2_with fail
 refine Calls.mono (pivots_ok _ U w1 Su hu1 HU.out.2 (by omega)) ?_
 rintro e2 w2 ⟨pv, rfl, hg2, hV⟩
 clear hne
 have hpvs : ∃ az capz, pv = .slice az U.length capz := by
  rcases hV.form with ⟨h1, h2⟩ | ⟨g, cp, h1, _⟩
  ·have h3 : U.length = 0 := by unfold depV at h2; rw [List.map_eq_nil_iff] at h2; rw [h2]; rfl
   exact ⟨none, 0, by rw [h1, h3]⟩
  ·exact ⟨_, _, by rw [h1]; unfold depV; rw [List.length_map]⟩
 obtain ⟨ap, capp, rfl⟩ := hpvs
 have hVx : ∀ w', Ext w2 w' → OwnV w1.heap.size 3 w' (.slice ap U.length capp) (depV U) := fun w' h => hV.kept h (by cases (Value.slice ap U.length capp).ownBlock <;> simp)
 have HV := Lib.hid hVx; clear hV hVx
 have hx2 := Ints.ext hx1 hg2
 go_wp2
 go_loopw [22] (fun iv wr => ∃ i : Nat, iv = .int .i64 i ∧ i ≤ U.length ∧ Ext w2 wr) (fun iv _ => U.length - (intOf iv).toNat)
 case atStart => exact ⟨0, rfl, by omega, Ext.refl _⟩
 case round =>
  obtain ⟨i, rfl, hi, hg⟩ := hrel
  have hg1r := grown_trans hg2 hg
  by_cases hlt : i < U.length
  ·have hlt' : (i : Int) < U.length := by omega
   have hdi : gt (depV U) i = .int .i64 (dep (gt U i)) := by unfold depV; rw [gt_map _ _ _ hlt]
   have hVr := HV.out wr hg
   have hpf : ∃ g, ap = some ⟨g, 0, none⟩ := by
    rcases hVr.form with ⟨h1, h2⟩ | ⟨g, cp, h1, _⟩
    ·unfold depV at h2; rw [List.map_eq_nil_iff] at h2; rw [h2] at hlt; simp at hlt
    ·simp only [Value.slice.injEq] at h1; exact ⟨g, h1.1⟩
   obtain ⟨gp, rfl⟩ := hpf
   have hcp := hVr.cell i (by unfold depV; rw [List.length_map]; exact hlt)
   rw [hdi] at hcp
   clear hdi hVr
   have hrng := HH.out.2.2.2 i hlt
   have hdn : dep (gt U i) < P.orders.length := (HU.out.1.1.1 _ (gtMem hlt)).2.1
   obtain ⟨d, hd⟩ : ∃ d, d = dep (gt U i) := ⟨_, rfl⟩
   rw [← hd] at hcp hrng hdn
   have ho7 := G.v.ord7 d hdn
   obtain ⟨xb, xo, rfl, _, _, hcx⟩ := Ints.at hx2 i (by omega)
   obtain ⟨ob, oo, hoe, _, _, hco⟩ := Ints.at (HCO.out.2.ext hg1r) d hdn
   have hco0 := hg1r.cell HCO.out.1 (by simp)
   have hcxr := hg.cell hcx (by simp)
   rw [hoe] at hco0
   obtain ⟨x, hxe⟩ : ∃ x, x = gt X i := ⟨_, rfl⟩
   obtain ⟨y, hye⟩ : ∃ y, y = gt P.orders d := ⟨_, rfl⟩
   rw [← hxe] at hcxr hrng
   rw [← hye] at hco hrng ho7
   have hin : inB x 0 (y - 1) = true := by unfold inB; simp; omega
   have hww : IntKind.i64.wrap (y - 1) = y - 1 := IntWalk.i64_in _ (by omega)
   have hdi' : (d : Int) < P.orders.length := by omega
   have hxi' : (i : Int) < X.length := by omega
   have f1 : ∀ w', Ext wr w' → w'.cell? ⟨xb, xo + i, none⟩ = some (.int .i64 x) := fun w' h => h.cell hcxr (by simp)
   have f2 : ∀ w', Ext wr w' → w'.cell? ⟨w.heap.size, 0, none⟩ = some (.slice (some ⟨ob, oo, none⟩) P.orders.length capo) := fun w' h => h.cell hco0 (by simp)
   have f3 : ∀ w', Ext wr w' → w'.cell? ⟨ob, oo + d, none⟩ = some (.int .i64 y) := fun w' h => h.cell hco (by simp)
   have HI := Lib.hid hin; clear hin hcxr hco0 hco hxe hye hd hrng ho7 hcx
   go_wp2
   go_region_held3 (fun w' => Ext wr w') (first | exact grown_drew _ _ | assumption)
    (first
     | (go_at_call 126; refine (inside_ok _ _ _ _).mono ?_; rintro _ _ ⟨rfl, rfl⟩; rw [HI.out]))
   clear f1 f2 f3
   go_wp2
   go_roundw
   case rel => exact ⟨i + 1, by go_num, by omega, grown_trans hg (grown_drew _ _)⟩
   case measure => simp [intOf]; omega
  ·have hie : i = U.length := by omega
   subst hie
   have hm := memEl_ok P G wr _ _ _ U X Any Su Sx (hp1.ext hg1r) (Rows2.ext hu1 hg1r) (Ints.ext hx2 hg) HH.out.2.1.1 HH.out.2.2.1 (by omega) (fun j hj => by
    have h1 := HH.out.2.2.2 j (by omega)
    have h2 := G.v.ord7 _ (HU.out.1.1.1 _ (gtMem (show j < U.length by omega))).2.1
    omega)
   have HM := Lib.hid hm; clear hm
   go_wp2_with fail
   refine Calls.mono HM.out ?_
   rintro e3 w3 ⟨v3, rfl, hg3, a3, n3, c3, rfl, hO⟩
   have HO := Lib.hid hO; clear hO
   go_wp2
   go_ret2
   exact ⟨_, rfl, grown_trans hg0 (grown_trans hg01 (grown_trans hg1r hg3)), _, _, _, rfl, HO.out.weak (by have := hg01.size; have := hg0.size; have := hg1r.size; omega)⟩
end Go.Proofs.YtdcobapnlpeaaaaGreat
namespace Go.Proofs.YtdcobapnlpeaaaaGreat
open Go.RowKit
set_option maxHeartbeats 400000 in
theorem likeInts_ok (v1 v2 : Value) (l1 l2 : List Int) (w : World) (S1 S2 : Nat → Prop) (h1 : Ints S1 w v1 l1) (h2 : Ints S2 w v2 l2) :
  Calls Tryz.prog 26 #[v1, v2] w (Ret w fun _ v => v = .bool (eqB l1 l2)) := by
 obtain ⟨a, cap, rfl, _, _⟩ := h1.shape
 obtain ⟨a2, cap2, rfl, _, _⟩ := h2.shape
 by_cases hl : l1.length = l2.length
 ·have hd : ((l1.length : Int) != (l2.length : Int)) = false := by simp [hl]
  have hl1 : l1.length ≤ l2.length ∧ l2.length ≤ l1.length := by omega
  have HL := Lib.hid hl; clear hl
  go_enter Tryz.func26, Tryz.ntmps26
  go_wp2
  go_loopw [5] (fun i wr => ∃ k : Nat, i = .int .i64 k ∧ k ≤ l1.length ∧ Ext w wr ∧ ∀ i, i < k → gt l1 i = gt l2 i) (fun i _ => l1.length - (intOf i).toNat)
  case atStart => exact ⟨0, rfl, by omega, Ext.refl _, fun i hi => by omega⟩
  case round =>
   obtain ⟨k, rfl, hk, hg, hz⟩ := hrel
   have HZ := Lib.hid hz; clear hz
   by_cases hlt : k < l1.length
   ·obtain ⟨b, off, rfl, _, _, hc⟩ := Ints.at (h1.ext hg) k hlt
    obtain ⟨b2, off2, rfl, _, _, hc2⟩ := Ints.at (h2.ext hg) k (by omega)
    by_cases hx : gt l1 k = gt l2 k
    ·have hb : (gt l1 k != gt l2 k) = false := by simp [hx]
     have hx2 := Lib.hid hx; clear hx
     go_wp2
     go_quiet (fail)
     go_wp2
     go_roundw
     case rel => exact ⟨k + 1, by go_num, by omega, grown_trans hg (grown_drewN _ _ _), fun i hi => by
      rcases Nat.lt_or_ge i k with h1 | h1
      ·exact HZ.out i h1
      ·have : i = k := by omega
       rw [this, hx2.out]⟩
     case measure => simp [intOf]; omega
    ·have hb : (gt l1 k != gt l2 k) = true := by simp [hx]
     have hx2 := Lib.hid hx; clear hx
     go_wp2
     go_quiet (fail)
     go_wp2
     go_ret
     exact ret_bool (grown_trans hg (grown_drewN _ _ _)) (by rw [eqB_false_at (hx := hx2.out)])
   ·go_wp2
    go_ret
    exact ret_bool hg (by rw [eqB_true.2 (ext_gt HL.out (fun i hi => HZ.out i (by omega)))])
 ·have hd : ((l1.length : Int) != (l2.length : Int)) = true := by simp; omega
  have HL := Lib.hid hl; clear hl
  go_enter Tryz.func26, Tryz.ntmps26
  go_wp2
  go_ret
  exact ret_bool (Ext.refl _) (by rw [eqB_false.2 (fun h => HL.out (by rw [h]))])
end Go.Proofs.YtdcobapnlpeaaaaGreat
namespace Go.Proofs.YtdcobapnlpeaaaaGreat
open Go.RowKit
attribute [local go_sem ↓] Go.wp_at_zero Go.wp_at_succ
set_option maxRecDepth 100000 in
set_option maxHeartbeats 8000000 in
theorem lawCo_ok (w : World) (cv : Value) (bs : List Int) (S : Nat → Prop) (hb : Bytes S w cv bs) :
  Calls Tryz.prog 4 #[cv] w (Ret w fun _ v => v = .bool true) := by
 obtain ⟨ca, cc, rfl, _, _⟩ := Sl.shape hb
 go_enter Tryz.func4, Tryz.ntmps4
 go_wp2_with fail
 refine Calls.mono (big_ok w _ bs S hb) ?_
 rintro _ _ ⟨rfl, rfl⟩
 by_cases hbg : 4096 < bs.length
 ·have hd : decide (4096 < bs.length) = true := by simp [hbg]
  rw [hd]
  go_wp2
  go_ret
  exact ⟨_, rfl, grown_refl _ _, rfl⟩
 have hbl : bs.length ≤ 4096 := by omega
 have hd : decide (4096 < bs.length) = false := by simp [hbg]
 rw [hd]; clear hd hbg
 go_wp2_with fail
 refine Calls.mono (DrawCosetRepresentative_ok w _ bs S hb) ?_
 rintro e1 w1 ⟨v1, rfl, hg1, vo, vp, vc, rv, x0v, P, rfl, hPl, hP, ⟨U, _, _, hU⟩, ⟨X0, _, hX0⟩⟩
 obtain ⟨a1, n1, c1, hy1⟩ : ∃ a n c, vo = .slice a n c := by obtain ⟨a, c, e, _⟩ := hP.o.shape; exact ⟨_, _, _, e⟩
 obtain ⟨a2, n2, c2, hy2⟩ : ∃ a n c, vp = .slice a n c := by obtain ⟨a, c, e, _⟩ := Sl.shape hP.p; exact ⟨_, _, _, e⟩
 obtain ⟨a3, n3, c3, hy3⟩ : ∃ a n c, vc = .slice a n c := by obtain ⟨a, c, e, _⟩ := Sl.shape hP.c; exact ⟨_, _, _, e⟩
 subst hy1 hy2 hy3
 obtain ⟨ra, rn, rc, hrr⟩ : ∃ a n c, rv = .slice a n c := by obtain ⟨a, c, e, _⟩ := Sl.shape hU; exact ⟨_, _, _, e⟩
 subst hrr
 obtain ⟨x0a, x0n, x0c, hrx0⟩ : ∃ a n c, x0v = .slice a n c := by obtain ⟨a, c, e, _⟩ := Sl.shape hX0; exact ⟨_, _, _, e⟩
 subst hrx0
 have hgX : Ext w1 (w1.alloc (.cells #[.slice a1 n1 c1, .slice a2 n2 c2, .slice a3 n3 c3] 28)) := World.grownBy_alloc _ _ _
 have hX := Box3.made w1 28 (.slice a1 n1 c1) (.slice a2 n2 c2) (.slice a3 n3 c3)
 have hPX := hP.ext hgX
 have hUX := Rows2.ext hU hgX
 have hX0X := Ints.ext hX0 hgX
 have hgw := grown_trans hg1 hgX
 have hbX := Bytes.ext hb hgw
 have HA0 := Lib.hid (And.intro hPX (And.intro hUX (And.intro hX0X (And.intro hgw hbX)))); clear hPX hUX hX0X hgw hbX hgX hP hU hX0 hg1 hb
 obtain ⟨pb, hpb⟩ : ∃ pb, pb = w1.heap.size := ⟨_, rfl⟩
 rw [← hpb] at hX
 have HP := Lib.hid hpb; clear hpb
 go_wp2_with fail
 rw [← HP.out]
 generalize w1.alloc (.cells #[.slice a1 n1 c1, .slice a2 n2 c2, .slice a3 n3 c3] 28) = w2 at *
 clear HP
 have hall : ∀ w', Ext w2 w' → Box3 w' pb (.slice a1 n1 c1) (.slice a2 n2 c2) (.slice a3 n3 c3) ∧ PresV (From w.heap.size) w' (.agg #[.slice a1 n1 c1, .slice a2 n2 c2, .slice a3 n3 c3]) P ∧ Rows2 (From w.heap.size) w' (.slice ra rn rc) U ∧ Ints (From w.heap.size) w' (.slice x0a x0n x0c) X0 ∧ Bytes S w' (.slice ca bs.length cc) bs :=
  fun w' h => ⟨hX.ext h, ⟨_, _, _, rfl, HA0.out.1.ext h⟩, Rows2.ext HA0.out.2.1 h, Ints.ext HA0.out.2.2.1 h, Bytes.ext HA0.out.2.2.2.2 h⟩
 have HA := Lib.hid hall; clear hall hX
 have hgw := grown_refl w2 none
 obtain ⟨b0_, b1_, b2_, b3_, _⟩ := id (HA.out w2 hgw).1
 go_wp2_with fail
 clear b0_ b1_ b2_ b3_
 refine Calls.mono (iCosRep_ok P w2 _ _ _ U X0 _ _ _ (HA.out w2 hgw).2.1 (HA.out w2 hgw).2.2.1 (HA.out w2 hgw).2.2.2.1) ?_
 rintro e3 w3 ⟨v3, rfl, hg_, ya, yn, yc, rfl, hY_⟩
 replace hgw := grown_trans hgw hg_
 have hYr : Ints Any w3 (.slice ya yn yc) (crV P U X0) := hY_
 have hYx : ∀ w', Ext w3 w' → Ints Any w' (.slice ya yn yc) (crV P U X0) := fun w' h => Ints.ext hYr h
 have HY := Lib.hid hYx; clear hYr hYx
 have hgY := grown_refl w3 none
 clear hY_
 clear hg_
 obtain ⟨b0_, b1_, b2_, b3_, _⟩ := id (HA.out w3 hgw).1
 go_wp2_with fail
 clear b0_ b1_ b2_ b3_
 refine Calls.mono (sCosRep_ok P w3 _ _ _ U X0 _ _ _ (HA.out w3 hgw).2.1 (HA.out w3 hgw).2.2.1 (HA.out w3 hgw).2.2.2.1) ?_
 rintro e4 w4 ⟨v4, rfl, hg_, ta, tn, tc, rfl, hT_⟩
 replace hgw := grown_trans hgw hg_
 replace hgY := grown_trans hgY hg_
 have hTr : Ints Any w4 (.slice ta tn tc) (crV P U X0) := hT_
 have hTx : ∀ w', Ext w4 w' → Ints Any w' (.slice ta tn tc) (crV P U X0) := fun w' h => Ints.ext hTr h
 have HT := Lib.hid hTx; clear hTr hTx
 have hgT := grown_refl w4 none
 clear hT_
 clear hg_
 go_wp2_with fail
 refine Calls.mono (likeInts_ok _ _ (crV P U X0) (crV P U X0) w4 Any Any (HY.out w4 hgY) (HT.out w4 hgT)) ?_
 rintro e5 w5 ⟨v5, rfl, hg_, rfl⟩
 replace hgw := grown_trans hgw hg_
 replace hgY := grown_trans hgY hg_
 replace hgT := grown_trans hgT hg_
 rw [show eqB (crV P U X0) (crV P U X0) = true from eqB_true.2 rfl]
 clear HT hgT
 clear hg_
 by_cases h1 : crOk P U X0
 case neg =>
  rw [(cr_bad h1).1]
  go_wp2
  go_ret
  exact ⟨_, rfl, grown_trans HA0.out.2.2.2.1 hgw, rfl⟩
 have hr := h1.1.1
 have hUB := h1.1.2
 have G := grp_of_r hr
 have hn6 := G.v.n6
 have SU := G.subB hUB
 have hX := h1.2
 have hR := cr_is h1
 rw [crC_ok h1]
 obtain ⟨Y, hYe⟩ : ∃ Y, Y = crV P U X0 := ⟨_, rfl⟩
 rw [← hYe] at HY hR
 have hYV := hR.1
 have h2 : crOk P U Y := ⟨h1.1, hYV⟩
 have hRY : IsRep P U Y Y := ⟨hYV, by rw [G.inv_mul hYV]; exact SU.one, hR.2.2⟩
 have eZ := cr_ok h2 hRY
 have hM : gU P U (rMul P (rInv P X0) Y) := hR.2.1
 have hXM : rMul P X0 (rMul P (rInv P X0) Y) = Y := by rw [← G.ass hX (G.invV hX) hYV, G.mul_inv hX, G.grp.el _ hYV]
 have hMV := SU.vec _ hM
 have hMX := fun out (h : Mex P U (gU P U) (rMul P (rInv P X0) Y) U.length out (zeros P.orders.length)) => (show exP P U out U.length = rMul P (rInv P X0) Y from by
  have e : cseq P (gU P U) = U := hUB.2.symm
  have h' : Mex P (cseq P (gU P U)) (gU P U) (rMul P (rInv P X0) Y) (cseq P (gU P U)).length out (zeros P.orders.length) := by rw [e]; exact h
  have := (Mex.done G SU h').2
  rw [e] at this; exact this)
 obtain ⟨M, hMe⟩ : ∃ M, M = rMul P (rInv P X0) Y := ⟨_, rfl⟩
 rw [← hMe] at hM hXM hMV hMX
 have HH := Lib.hid (And.intro SU (And.intro eZ (And.intro hM (And.intro hXM (And.intro hMV (And.intro hX (And.intro hYV (And.intro hMe hMX)))))))); clear SU eZ hM hXM hMV hX hYV hMe hYe hMX hR h2 hRY
 obtain ⟨b0_, b1_, b2_, b3_, _⟩ := id (HA.out w5 hgw).1
 go_wp2_with fail
 clear b0_ b1_ b2_ b3_
 refine Calls.mono (iCosRep_ok P w5 _ _ _ U Y _ _ _ (HA.out w5 hgw).2.1 (HA.out w5 hgw).2.2.1 (HY.out w5 hgY)) ?_
 rintro e6 w6 ⟨v6, rfl, hg_, za, zn, zc, rfl, hZ_⟩
 replace hgw := grown_trans hgw hg_
 replace hgY := grown_trans hgY hg_
 rw [crC_ok ⟨h1.1, HH.out.2.2.2.2.2.2.1⟩]
 rw [HH.out.2.1] at hZ_
 have hZr : Ints Any w6 (.slice za zn zc) (Y) := hZ_
 have hZx : ∀ w', Ext w6 w' → Ints Any w' (.slice za zn zc) (Y) := fun w' h => Ints.ext hZr h
 have HZ := Lib.hid hZx; clear hZr hZx
 have hgZ := grown_refl w6 none
 clear hZ_
 clear hg_
 have f1_ : ∀ w', Ext w6 w' → w'.cell? ⟨pb, 0, none⟩ = some (.slice a1 n1 c1) := fun w' h => (HA.out w' (grown_trans hgw h)).1.2.1
 have f2_ : ∀ w', Ext w6 w' → w'.cell? ⟨pb, 1, none⟩ = some (.slice a2 n2 c2) := fun w' h => (HA.out w' (grown_trans hgw h)).1.2.2.1
 have f3_ : ∀ w', Ext w6 w' → w'.cell? ⟨pb, 2, none⟩ = some (.slice a3 n3 c3) := fun w' h => (HA.out w' (grown_trans hgw h)).1.2.2.2.1
 have hIV := G.invV HH.out.2.2.2.2.2.1
 have HIV := Lib.hid hIV; clear hIV
 go_wp2
 go_region_held3 (fun w' => Ext w6 w') (first | exact grown_drew _ _ | assumption)
  (first
   | (go_at_call 28; refine Calls.mono (Calls.rel2 (w0 := w6) (by assumption) (inv9_ok P hr _ _ _ X0 _ _ (HA.out _ (grown_trans hgw (by assumption))).2.1 (HA.out _ (grown_trans hgw (by assumption))).2.2.2.1 HH.out.2.2.2.2.2.1)) ?_; rintro eI wI ⟨vI, rfl, hgI, _, _, ia, in_, ic, rfl, hI_⟩; have hIi := hI_.ints (by rw [HIV.out.1]; omega))
   | (go_at_call 27; refine Calls.mono (Calls.rel (w0 := w6) (by assumption) (mul9_ok P hr _ _ _ _ (rInv P X0) Y _ _ _ (HA.out _ (grown_trans hgw (by assumption))).2.1 hIi (HY.out _ (grown_trans hgY (by assumption))) HIV.out HH.out.2.2.2.2.2.2.1)) ?_; rintro e7 w7 ⟨v7, rfl, hg_, _, ma, mn, mc, rfl, hM_⟩))
 clear f1_ f2_ f3_
 replace hgw := grown_trans hgw hg_
 replace hgY := grown_trans hgY hg_
 replace hgZ := grown_trans hgZ hg_
 rw [← HH.out.2.2.2.2.2.2.2.1] at hM_
 have hMr : Ints Any w7 (.slice ma mn mc) (M) := hM_.ints (by rw [HH.out.2.2.2.2.1.1]; omega)
 have hMx : ∀ w', Ext w7 w' → Ints Any w' (.slice ma mn mc) (M) := fun w' h => Ints.ext hMr h
 have HM := Lib.hid hMx; clear hMr hMx
 have hgM := grown_refl w7 none
 clear hM_ hIi hI_ hgI hg_
 obtain ⟨b0_, b1_, b2_, b3_, _⟩ := id (HA.out w7 hgw).1
 go_wp2_with fail
 clear b0_ b1_ b2_ b3_
 refine Calls.mono (iMember_ok P hr w7 _ _ _ U M _ _ _ (HA.out w7 hgw).2.1 (HA.out w7 hgw).2.2.1 (HM.out w7 hgM) hUB HH.out.2.2.2.2.1) ?_
 rintro e8 w8 ⟨v8, rfl, hg_, r_, rfl, hr_⟩
 replace hgw := grown_trans hgw hg_
 replace hgY := grown_trans hgY hg_
 replace hgZ := grown_trans hgZ hg_
 replace hgM := grown_trans hgM hg_
 obtain rfl : r_ = true := hr_.2 HH.out.2.2.1
 clear hr_
 clear hg_
 go_wp2_with fail
 refine Calls.mono (likeInts_ok _ _ Y Y w8 Any Any (HZ.out w8 hgZ) (HY.out w8 hgY)) ?_
 rintro e9 w9 ⟨v9, rfl, hg_, rfl⟩
 replace hgw := grown_trans hgw hg_
 replace hgY := grown_trans hgY hg_
 replace hgZ := grown_trans hgZ hg_
 replace hgM := grown_trans hgM hg_
 rw [show eqB Y Y = true from eqB_true.2 rfl]
 clear HZ hgZ
 clear hg_
 obtain ⟨b0_, b1_, b2_, b3_, _⟩ := id (HA.out w9 hgw).1
 go_wp2_with fail
 clear b0_ b1_ b2_ b3_
 refine Calls.mono (iMexp_ok P hr w9 _ _ _ U M _ _ _ (HA.out w9 hgw).2.1 (HA.out w9 hgw).2.2.1 (HM.out w9 hgM) hUB HH.out.2.2.2.2.1 HH.out.2.2.1) ?_
 rintro e10 w10 ⟨v10, rfl, hg_, aa, an, ac, A, rfl, hA_, hMx⟩
 replace hgw := grown_trans hgw hg_
 replace hgY := grown_trans hgY hg_
 replace hgM := grown_trans hgM hg_
 have hAl := hMx.len
 have hul := G.sub_len hUB
 have hAr := hMx.rng
 have hAe := HH.out.2.2.2.2.2.2.2.2 A hMx
 have hAr : Ints Any w10 (.slice aa an ac) (A) := hA_.ints (by omega)
 have hAx : ∀ w', Ext w10 w' → Ints Any w' (.slice aa an ac) (A) := fun w' h => Ints.ext hAr h
 have HAA := Lib.hid hAx; clear hAr hAx
 have hgA := grown_refl w10 none
 have HE := Lib.hid (And.intro hAl (And.intro hAr hAe)); clear hAl hAr hAe hA_ hMx hul
 clear hg_
 obtain ⟨b0_, b1_, b2_, b3_, _⟩ := id (HA.out w10 hgw).1
 go_wp2_with fail
 clear b0_ b1_ b2_ b3_
 refine Calls.mono (iMel_ok P hr w10 _ _ _ U A _ _ _ (HA.out w10 hgw).2.1 (HA.out w10 hgw).2.2.1 (HAA.out w10 hgA) hUB HE.out.1 HE.out.2.1) ?_
 rintro e11 w11 ⟨v11, rfl, hg_, ba, bn, bc, rfl, hB_⟩
 replace hgw := grown_trans hgw hg_
 replace hgY := grown_trans hgY hg_
 replace hgM := grown_trans hgM hg_
 replace hgA := grown_trans hgA hg_
 rw [HE.out.2.2] at hB_
 have hBr : Ints Any w11 (.slice ba bn bc) (M) := hB_.ints (by rw [HH.out.2.2.2.2.1.1]; omega)
 have hBx : ∀ w', Ext w11 w' → Ints Any w' (.slice ba bn bc) (M) := fun w' h => Ints.ext hBr h
 have HB := Lib.hid hBx; clear hBr hBx
 have hgB := grown_refl w11 none
 clear hB_ HAA hgA
 clear hg_
 go_wp2_with fail
 refine Calls.mono (likeInts_ok _ _ M M w11 Any Any (HB.out w11 hgB) (HM.out w11 hgM)) ?_
 rintro e12 w12 ⟨v12, rfl, hg_, rfl⟩
 replace hgw := grown_trans hgw hg_
 replace hgY := grown_trans hgY hg_
 replace hgM := grown_trans hgM hg_
 replace hgB := grown_trans hgB hg_
 rw [show eqB M M = true from eqB_true.2 rfl]
 clear HB hgB
 clear hg_
 obtain ⟨b0_, b1_, b2_, b3_, _⟩ := id (HA.out w12 hgw).1
 go_wp2_with fail
 clear b0_ b1_ b2_ b3_
 refine Calls.mono (mul9_ok P hr w12 _ _ _ X0 M _ _ _ (HA.out w12 hgw).2.1 (HA.out w12 hgw).2.2.2.1 (HM.out w12 hgM) HH.out.2.2.2.2.2.1 HH.out.2.2.2.2.1) ?_
 rintro e13 w13 ⟨v13, rfl, hg_, va, vn, vc0, rfl, hV_⟩
 replace hgw := grown_trans hgw hg_
 replace hgY := grown_trans hgY hg_
 replace hgM := grown_trans hgM hg_
 rw [HH.out.2.2.2.1] at hV_
 have hVi := hV_.ints (by rw [HH.out.2.2.2.2.2.2.1.1]; omega)
 clear hV_
 clear hg_
 go_wp2_with fail
 refine Calls.mono (likeInts_ok _ _ Y Y w13 _ Any hVi (HY.out w13 hgY)) ?_
 rintro e14 w14 ⟨v14, rfl, hg_, rfl⟩
 replace hgw := grown_trans hgw hg_
 replace hgY := grown_trans hgY hg_
 replace hgM := grown_trans hgM hg_
 rw [show eqB Y Y = true from eqB_true.2 rfl]
 clear hg_
 go_wp2
 go_ret
 exact ⟨_, rfl, grown_trans HA0.out.2.2.2.1 hgw, rfl⟩
end Go.Proofs.YtdcobapnlpeaaaaGreat
