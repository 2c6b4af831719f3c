/-
  The reference's tables by depths: spec.l02Lead, l12Depth, l12Table; how a table reads.
  The reference's coset representatives and membership: spec.l12Reduce, l12Sift, l12Has.
  impl.isMember.
  The reference's membership and order: spec.l01Zero, l12Sift, l12Has, l12Order.
  Plain: the elements of a subgroup as products with exponents (for the reference's list of elements).
  The reference's reduced sequence: spec.l12Full.
  The reference's sifting: spec.l12Strip.
  The reference's closure: spec.l01Own2, l01Inv, l10Comm, l12Close.
  The reference's list of the elements of a subgroup: spec.l12Orders, l10At at orders alone, l12Product, l12Elements.
  The reference's list of the elements of a subgroup: spec.l12Product, l12Elements.
  The reference's list of the elements of a subgroup: spec.l12Elements.
  spec.l19Table: the numbers of all products.
  spec.l19Span: the mask of the subgroup that some elements generate.
  spec.l19Sequence: the sequence of the subgroup that a mask tells.
  What a run does to the count of draws: it never falls.
  impl.pivots and impl.sizeOf again: the count of draws does not fall. (Printed from PivW and SizeW.)
-/
import Derived.Test.YtdklekdpdbjfiaaGreatK6
import Derived.Test.YtdklekdpdbjfiaaGreatK5
import Derived.Test.YtdklekdpdbjfiaaGreatK2
import Derived.Test.YtdklekdpdbjfiaaGreatK1
/- The reference's tables by depths: spec.l02Lead, l12Depth, l12Table; how a table reads. -/
namespace Go.Proofs.YtdklekdpdbjfiaaGreat
open Go.RowKit

set_option maxHeartbeats 400000 in
theorem l02Lead_ok (v : Value) (X : List Int) (w : World) (S : Nat → Prop) (h : Ints S w v X) :
    Calls Tryz.prog 175 #[v] w fun e w' => e = .returned (.int .i64 (dep X)) ∧ w = w' := by
  obtain ⟨a, cap, rfl, _, _⟩ := h.shape
  go_enter Tryz.func175, Tryz.ntmps175
  go_wp2
  go_loop [3] (fun i => ∃ k : Nat, i = .int .i64 k ∧ k ≤ X.length ∧ ∀ j, j < k → gt X j = 0) (fun i => X.length - (intOf i).toNat)
  case atStart => exact ⟨0, rfl, by omega, fun j hj => by omega⟩
  case round =>
    obtain ⟨k, rfl, hk, hz⟩ := hrel
    have HZ := Lib.hid hz; clear hz
    by_cases hlt : k < X.length
    · obtain ⟨b, off, rfl, _, _, hc⟩ := Ints.at h k hlt
      by_cases hx : gt X k = 0
      · have hb : (gt X k != 0) = false := by simp [hx]
        have HX := Lib.hid hx; clear hx
        go_wp2
        go_round
        case rel => exact ⟨k + 1, by go_num, by omega, fun j hj => by
          rcases Nat.lt_succ_iff_lt_or_eq.1 hj with h1 | h1
          · exact HZ.out j h1
          · rw [h1]; exact HX.out⟩
        case measure => simp [intOf]; omega
      · have hb : (gt X k != 0) = true := by simp [hx]
        have he : dep X = k := dep_eq hlt HZ.out hx
        have HE := Lib.hid he; clear he hx
        go_wp2
        go_ret
        exact ⟨by rw [HE.out]; rfl, rfl⟩
    · have hke : k = X.length := by omega
      have he : dep X = X.length := dep_all (fun j hj => HZ.out j (by omega))
      have HE := Lib.hid he; clear he
      go_wp2
      go_ret
      exact ⟨by rw [HE.out]; rfl, rfl⟩

theorem l12Depth_ok (v : Value) (X : List Int) (w : World) (S : Nat → Prop) (h : Ints S w v X) :
    Calls Tryz.prog 111 #[v] w (Ret w fun _ r => r = .int .i64 (dep X)) := by
  have hcon := l02Lead_ok v X w S h
  obtain ⟨a, cap, rfl, _, _⟩ := h.shape
  go_enter Tryz.func111, Tryz.ntmps111
  go_wp2_with fail
  refine Calls.mono hcon ?_
  rintro e1 w1 ⟨rfl, rfl⟩
  clear hcon
  go_wp2
  go_ret
  exact ⟨_, rfl, Ext.refl _, rfl⟩

/-- a table reads as rows, nothing as a row without elements -/
theorem TabAt.rows {B gb n : Nat} {bad : Nat → Prop} {w : World} {b : List (List Int)} (h : TabAt B bad w gb n b) (hn : n ≤ 1000000) : Rows2 (fun k => k = gb ∨ (k ≠ gb ∧ ¬ bad k)) w (.slice (some ⟨gb, 0, none⟩) n n) b := by
  have hl := h.len
  have hlt := h.lt
  refine ⟨_, _, by rw [hl], ⟨by omega, by omega, fun h => by cases h⟩, fun i hi => ?_⟩
  obtain ⟨_, hc⟩ := h.at i (by omega)
  rcases hc with ⟨h0, hc⟩ | ⟨_, a, cap, hc, hI⟩
  · refine ⟨gb, 0, _, rfl, .inl rfl, hlt.2, by rw [Nat.zero_add]; exact hc, ?_⟩
    rw [h0]
    exact ⟨none, 0, rfl, ⟨by simp, by simp, fun _ => rfl⟩, fun j hj => by simp at hj⟩
  · exact ⟨gb, 0, _, rfl, .inl rfl, hlt.2, by rw [Nat.zero_add]; exact hc, Ints.sub hI (fun k hk _ => .inr hk)⟩

set_option maxRecDepth 100000 in
set_option maxHeartbeats 1000000 in
theorem l12Table_ok (P : Pr) (hP : Valid P) (w : World) (pv uv : Value) (U : List (List Int)) (Sp Su : Nat → Prop) (hpv : PresV Sp w pv P) (hu : Rows2 Su w uv U) (hU : SeqOk P U) (hl : U.length ≤ 6) :
    Calls Tryz.prog 245 #[pv, uv] w (Ret w fun w' v => Rows2 Any w' v (tabTo U P.orders.length U.length)) := by
  have hn6 := hP.n6
  obtain ⟨vo, vp, vc, rfl, h3⟩ := hpv
  have hp0 := PresP.box h3 31
  have hg0 : Ext w (w.alloc (.cells #[vo, vp, vc] 31)) := World.grownBy_alloc _ _ _
  obtain ⟨ao, capo, hco, hoi⟩ := hp0.ordAt
  obtain ⟨au, capu, rfl, _, _⟩ := Sl.shape hu
  have HU := Lib.hid hU; clear hU
  go_enter Tryz.func245, Tryz.ntmps245
  go_wp2_with (first | (at_make; refine wp_make_tab rfl _ _ rfl w.heap.size P.orders.length (w.heap.size + 1) (by simp) _ rfl rfl rfl (by omega) (by omega) ?_; intro w1 hT1 hg1 hlt1) | fail)
  have hgw := grown_trans hg0 hg1
  have hT := hT1 (fun _ => False)
  clear hT1 hco hoi hp0
  go_loopw [6] (fun iv wr => ∃ i : Nat, iv = .int .i64 i ∧ i ≤ U.length ∧ Ext w wr ∧ TabAt w.heap.size (fun _ => False) wr (w.heap.size + 1) P.orders.length (tabTo U P.orders.length i)) (fun iv _ => U.length - (intOf iv).toNat)
  case atStart => exact ⟨0, rfl, by omega, hgw, hT⟩
  case round =>
    clear hT hgw
    obtain ⟨i, rfl, hi, hg, hT⟩ := hrel
    by_cases hlt : i < U.length
    · have hlt' : (i : Int) < U.length := by omega
      obtain ⟨b, off, a2, cap2, rfl, _, hbl0, hc0, hr⟩ := Rows2.at hu i hlt
      have hc := hg.cell hc0 (by simp)
      clear hc0
      obtain ⟨hzV, hzd, hz1⟩ := HU.out.1 _ (gtMem hlt)
      have hst : tabTo U P.orders.length (i + 1) = (tabTo U P.orders.length i).set (dep (gt U i)) (gt U i) := rfl
      obtain ⟨z, hz⟩ : ∃ z, z = gt U i := ⟨_, rfl⟩
      rw [← hz] at hc hr hzV hzd hz1 hst
      clear hz
      obtain ⟨d, hd⟩ : ∃ d, d = dep z := ⟨_, rfl⟩
      rw [← hd] at hzd hst hz1
      have HD := Lib.hid hd; clear hd
      have hbl : b < w.heap.size := hbl0
      have hr3 := Ints.ext hr hg
      have hzne : z ≠ [] := fun e => by have := hzV.1; rw [e] at this; simp at this; omega
      have hrS : Ints (fun k => k ≠ w.heap.size + 1 ∧ ¬ False) wr (.slice a2 z.length cap2) z := by
        have h1 : Ints (fun k => k < w.heap.size) w (.slice a2 z.length cap2) z := Ints.sub hr (fun _ _ h => h)
        exact h1.mono (fun k hk hlt => ⟨⟨by omega, id⟩, Nat.lt_of_lt_of_le hlt hg.size, hg.block k hlt (by simp)⟩)
      obtain ⟨hfr, hcc⟩ := hT.at d hzd
      have HS := Lib.hid (And.intro hst (And.intro hzne (And.intro hzV hz1))); clear hst hzne hzV hz1
      have hdn : (d : Int) < P.orders.length := by omega
      obtain ⟨u0, hu0⟩ : ∃ u0, wr.cell? ⟨w.heap.size + 1, d, none⟩ = some u0 := by rcases hcc with ⟨_, h⟩ | ⟨_, _, _, h, _⟩ <;> exact ⟨_, h⟩
      clear hcc hbl0
      have e1 : ∀ w', Near wr (w.heap.size + 1) w' → w'.cell? ⟨b, off + i, none⟩ = some (.slice a2 z.length cap2) := fun w' h => h.cell hc (by simp; omega)
      go_wp2
      go_region_held3 (fun w' => Near wr (w.heap.size + 1) w') (first | exact Near.of (grown_drew _ _) | exact Near.of (by assumption) | exact Near.store (by assumption) | assumption)
        (first
          | (go_at_call 111; refine Calls.mono (Calls.rel (w0 := wr) (by first | exact grown_drew _ _ | assumption) (l12Depth_ok _ z _ Any (Ints.sub (Ints.ext hr3 (by first | exact grown_drew _ _ | assumption)) (fun _ _ _ => trivial)))) ?_; rintro eE wE ⟨vE, rfl, hgE, hsE, hvE⟩; rw [← HD.out] at hvE; subst hvE; have hcel2 := hgE.cell hu0 (by simp); have hfr2 := ((hT.ext hgE).at d hzd).1))
      clear e1
      obtain ⟨hT5, hg5⟩ := (hT.ext hgE).put d (u := .slice a2 z.length cap2) (y := z) (Ints.ext hrS hgE) HS.out.2.1
      have hgn : Ext w (wE.setCell ⟨w.heap.size + 1, d, none⟩ (.slice a2 z.length cap2)) := grown_own (grown_trans hg hgE) hg5 (fun j hj hlt => by cases hj; omega)
      clear hcel2 hfr2 hg5
      go_wp2
      go_roundw
      case rel => exact ⟨i + 1, by go_num, by omega, hgn, by rw [HS.out.1]; exact hT5⟩
      case measure => simp [intOf]; omega
    · have hie : i = U.length := by omega
      subst hie
      go_wp2
      go_ret
      exact ⟨_, rfl, hg, Rows2.sub (hT.rows (by omega)) (fun _ _ _ => trivial)⟩

end Go.Proofs.YtdklekdpdbjfiaaGreat

/- The reference's coset representatives and membership: spec.l12Reduce, l12Sift, l12Has. -/
namespace Go.Proofs.YtdklekdpdbjfiaaGreat
open Go.RowKit

set_option maxRecDepth 100000 in
set_option maxHeartbeats 2000000 in
theorem l12Reduce_ok (P : Pr) (G : Grp P) (w : World) (pv tv xv : Value) (b : List (List Int)) (X : List Int) (H : List Int → Prop) (Sp Sb Sx : Nat → Prop) (hpv : PresV Sp w pv P) (ht : Rows2 Sb w tv b) (hx : Ints Sx w xv X) (hX : Vec P.orders X)
    (hlb : b.length = P.orders.length) (hI : Ind P H (gt b)) :
    Calls Tryz.prog 244 #[pv, tv, xv] w (Ret w fun w' v => ∃ Y, Own w.heap.size w' v Y ∧ RedTo P H b X P.orders.length Y) := by
  have hP := G.v
  have hn6 := hP.n6
  obtain ⟨vo, vp, vc, rfl, h3⟩ := hpv
  have hp0 := PresP.box h3 31
  have hg0 : Ext w (w.alloc (.cells #[vo, vp, vc] 31)) := World.grownBy_alloc _ _ _
  have hx0 := hx.ext hg0
  have ht0 := Rows2.ext ht hg0
  have hXl : X.length ≤ 6 := by rw [hX.1]; omega
  have hs0 : (w.alloc (.cells #[vo, vp, vc] 31)).heap.size = w.heap.size + 1 := by simp
  obtain ⟨at_, capt, hvt, _, _⟩ := Sl.shape ht
  rw [hlb] at hvt
  subst hvt
  have HI := Lib.hid (And.intro hI (And.intro hX hlb)); clear hI hX hlb
  obtain ⟨vo6, vp6, vc6, _, _, hc0, hc1, hc2, h36⟩ := hp0.at
  simp only [Nat.zero_add] at hc1 hc2
  clear hp0
  go_enter Tryz.func244, Tryz.ntmps244
  go_wp2_with fail
  have HS := Lib.hid hs0; clear hs0
  generalize hw0 : w.alloc (.cells #[vo, vp, vc] 31) = w0 at *
  clear hw0
  refine Calls.mono (l01Own_ok w0 xv X Sx hx0 (by omega)) ?_
  rintro e1 w1 ⟨ov, rfl, hg1, hO1⟩
  go_wp2
  go_loopw [7, 8] (fun ov iv wr => ∃ (d : Nat) (Y : List Int), iv = .int .i64 d ∧ d ≤ P.orders.length ∧ Ext w0 wr ∧ Own w.heap.size wr ov Y ∧ Hid (RedTo P H b X d Y)) (fun _ iv _ => P.orders.length - (intOf iv).toNat)
  case atStart => exact ⟨0, X, rfl, by omega, hg1, hO1.weak (by have := HS.out; omega), Lib.hid (G.redTo_zero HI.out.1.sub HI.out.2.1)⟩
  case round =>
    clear hO1
    obtain ⟨d, Y, rfl, hd, hg, hO, hR⟩ := hrel
    have hYV := hR.out.vec
    have hYl : Y.length = P.orders.length := hYV.1
    have hYi := hO.ints (by omega)
    obtain ⟨ay, capy, hvy, _, _⟩ := hYi.shape
    rw [hYl] at hvy
    subst hvy
    by_cases hlt : d < P.orders.length
    · have hlt' : (d : Int) < P.orders.length := by omega
      obtain ⟨bb, off, a2, cap2, rfl, _, _, hc, hr⟩ := Rows2.at (Rows2.ext ht0 hg) d (by rw [HI.out.2.2]; exact hlt)
      obtain ⟨by_, oy, rfl, _, _, hcy⟩ := Ints.at hYi d (by omega)
      by_cases hb : gt b d = []
      · have hbl : ¬ (0 : Int) < (gt b d).length := by rw [hb]; simp
        have hR2 := Lib.hid (hR.out.skip (.inl hb)); clear hb hYV
        go_wp2
        go_roundw
        case rel => exact ⟨d + 1, Y, by go_num, by omega, hg, hO, hR2⟩
        case measure => simp [intOf]; omega
      · have hbl : (0 : Int) < (gt b d).length := by
          have : 0 < (gt b d).length := List.length_pos_iff.2 hb
          omega
        by_cases hy : gt Y d = 0
        · have hyb : (gt Y d != 0) = false := by simp [hy]
          have hR2 := Lib.hid (hR.out.skip (.inr hy)); clear hb hYV hy
          go_wp2
          go_roundw
          case rel => exact ⟨d + 1, Y, by go_num, by omega, hg, hO, hR2⟩
          case measure => simp [intOf]; omega
        · have hyb : (gt Y d != 0) = true := by simp [hy]
          have hyd := hYV.2 d hlt
          have ho := hP.ord7 d hlt
          have hwn : IntKind.i64.wrap (-(gt Y d)) = -(gt Y d) := IntWalk.i64_in _ (by omega)
          obtain ⟨m1, m2, m3⟩ := HI.out.1.mem d hlt hb
          have hR2 := Lib.hid (G.redTo_step HI.out.1 HI.out.2.1 hlt hb hR.out)
          have hpV := G.pwZ_vec m2.1 (-(gt Y d))
          have hpl : (pwZ P (gt b d) (-(gt Y d))).length ≤ 6 := by rw [hpV.1]; omega
          have HB := Lib.hid (And.intro m2.1 (And.intro hpV (And.intro hpl (And.intro hYV (And.intro hyd ho))))); clear m1 m2 m3 hpV hpl hYV hyd ho hb hy
          have e1 : ∀ w', Ext wr w' → w'.cell? ⟨w.heap.size, 0, none⟩ = some vo6 := fun w' h => (grown_trans hg h).cell hc0 (by simp)
          have e2 : ∀ w', Ext wr w' → w'.cell? ⟨w.heap.size, 1, none⟩ = some vp6 := fun w' h => (grown_trans hg h).cell hc1 (by simp)
          have e3 : ∀ w', Ext wr w' → w'.cell? ⟨w.heap.size, 2, none⟩ = some vc6 := fun w' h => (grown_trans hg h).cell hc2 (by simp)
          have e4 : ∀ w', Ext wr w' → w'.cell? ⟨bb, off + d, none⟩ = some (.slice a2 (gt b d).length cap2) := fun w' h => h.cell hc (by simp)
          have e5 : ∀ w', Ext wr w' → w'.cell? ⟨by_, oy + d, none⟩ = some (.int .i64 (gt Y d)) := fun w' h => h.cell hcy (by simp)
          go_wp2
          clear hc hcy
          go_region_held3 (fun w' => Ext wr w') (first | exact grown_drew _ _ | assumption)
            (first
              | (go_at_call 113; refine Calls.mono (Calls.rel (w0 := wr) (by assumption) (l10Pow_ok P G _ _ _ (gt b d) _ Any Any ⟨_, _, _, rfl, Pres3.ext (Pres3.ext h36 hg) (by assumption)⟩ (Ints.sub (Ints.ext hr (by assumption)) (fun _ _ _ => trivial)) HB.out.1 (by have := HB.out.2.2.2.2.1; have := HB.out.2.2.2.2.2; omega))) ?_; rintro eA wA ⟨vA, rfl, hgA, hsA, hOA⟩; have hOA2 := hOA.ints (by have := HB.out.2.2.1; omega))
              | (go_at_call 176; refine Calls.mono (Calls.rel (w0 := wr) (by assumption) (l08Mul_ok P hP _ _ _ _ Y _ Any Any Any ⟨_, _, _, rfl, Pres3.ext (Pres3.ext h36 hg) (by assumption)⟩ (Ints.sub (Ints.ext hYi (by assumption)) (fun _ _ _ => trivial)) hOA2 HB.out.2.2.2.1 HB.out.2.1)) ?_; rintro eB wB ⟨vB, rfl, hgB, hsB, hOB⟩))
          clear e1 e2 e3 e4 e5
          go_wp2
          go_roundw
          case rel => exact ⟨d + 1, _, by go_num, by omega, grown_trans hg hgB, hOB.weak (by have := hg.size; have := HS.out; omega), hR2⟩
          case measure => simp [intOf]; omega
    · have hde : d = P.orders.length := by omega
      subst hde
      go_wp2
      go_ret
      exact ⟨_, rfl, grown_trans hg0 hg, Y, hO, hR.out⟩

end Go.Proofs.YtdklekdpdbjfiaaGreat

/- impl.isMember. -/
namespace Go.Proofs.YtdklekdpdbjfiaaGreat
open Go.RowKit

theorem Grp.repTo_mem {P : Pr} (G : Grp P) {H : List Int → Prop} (S : Sub P H) {X Y : List Int} (hX : Vec P.orders X) (h : RepTo P (cseq P H) X (cseq P H).length Y) : Y = zeros P.orders.length ↔ H X := by
  obtain ⟨h1, h2, h3⟩ := G.seq_facts S
  have hi := G.invV hX
  have hc := h.cos H S h2
  constructor
  · intro h0
    rw [h0, G.grp.er _ hi] at hc
    have := S.inv _ hc
    rwa [G.inv_inv hX] at this
  · intro hx
    have hy := S.mul _ _ hx hc
    rw [← G.ass hX hi h.vec, G.mul_inv hX, G.grp.el _ h.vec] at hy
    by_cases h0 : Y = zeros P.orders.length
    · exact h0
    · obtain ⟨d, hd, hT, hne⟩ := depth_ex h.vec h0
      obtain ⟨j, hj, hjd⟩ := h3 Y hy d hd hT hne
      exact absurd (by rw [← hjd]; exact h.zer j hj) hne

theorem isZeroB_zeros {o l : List Int} (h : Vec o l) : isZeroB l = true ↔ l = zeros o.length := by
  rw [isZeroB_true]
  constructor
  · intro h0
    refine ext_gt (by rw [h.1]; simp [zeros]) (fun i hi => ?_)
    rw [h0 i hi]; exact (gt_replicate _ _).symm
  · intro h0 i hi
    rw [h0]; exact gt_replicate _ _

set_option maxHeartbeats 400000 in
theorem isMember_ok (P : Pr) (G : Grp P) (w : World) (p uv xv : Value) (H : List Int → Prop) (X : List Int) (Sp Su Sx : Nat → Prop) (S : Sub P H) (hp : PresP Sp w p P) (hu : Rows2 Su w uv (cseq P H)) (hx : Ints Sx w xv X) (hX : Vec P.orders X) :
    Calls Tryz.prog 134 #[p, uv, xv] w (Ret w fun _ v => ∃ r : Bool, v = .bool r ∧ (r = true ↔ H X)) := by
  have hn6 := G.v.n6
  have hl := G.cseq_len S
  have hsq := (G.seq_facts S).1
  have hcon := representative_ok P G w p uv xv (cseq P H) X Sp Su Sx hp hu hsq (by omega) hx hX
  obtain ⟨pb, po, rfl⟩ := hp.shape
  obtain ⟨au, capu, rfl, _, _⟩ := Sl.shape hu
  obtain ⟨ax, capx, rfl, _, _⟩ := hx.shape
  have HQ := Lib.hid hsq; clear hsq
  go_enter Tryz.func134, Tryz.ntmps134
  go_wp2_with fail
  refine Calls.mono hcon ?_
  rintro e1 w1 ⟨v1, rfl, hg1, Y, hO, hR⟩
  clear hcon
  have hYi := hO.ints (by rw [hR.vec.1]; omega)
  obtain ⟨ay, capy, rfl, _, _⟩ := hYi.shape
  have hiff := (isZeroB_zeros hR.vec).trans (G.repTo_mem S hX hR)
  cases hb : isZeroB Y with
  | true =>
    rw [hb] at hiff
    have HI := Lib.hid hiff
    have hz := isZero_ok _ _ w1 Any hYi
    rw [hb] at hz
    clear hiff hb hR
    go_wp2_with fail
    refine Calls.mono hz ?_
    rintro e2 w2 ⟨rfl, rfl⟩
    clear hz
    go_wp2
    go_ret
    exact ⟨_, rfl, hg1, true, rfl, by simpa using HI.out⟩
  | false =>
    rw [hb] at hiff
    have HI := Lib.hid hiff
    have hz := isZero_ok _ _ w1 Any hYi
    rw [hb] at hz
    clear hiff hb hR
    go_wp2_with fail
    refine Calls.mono hz ?_
    rintro e2 w2 ⟨rfl, rfl⟩
    clear hz
    go_wp2
    go_ret
    exact ⟨_, rfl, hg1, false, rfl, by simpa using HI.out⟩

end Go.Proofs.YtdklekdpdbjfiaaGreat

/- The reference's membership and order: spec.l01Zero, l12Sift, l12Has, l12Order. -/
namespace Go.Proofs.YtdklekdpdbjfiaaGreat
open Go.RowKit

theorem l01Zero_ok (v : Value) (l : List Int) (w : World) (S : Nat → Prop) (h : Ints S w v l) :
    Calls Tryz.prog 212 #[v] w fun e w' => e = .returned (.bool (isZeroB l)) ∧ w = w' := by
  obtain ⟨a, cap, rfl, _, _⟩ := h.shape
  go_enter Tryz.func212, Tryz.ntmps212
  go_wp2
  go_loop [3] (fun i => ∃ k : Nat, i = .int .i64 k ∧ k ≤ l.length ∧ ∀ j, j < k → gt l j = 0) (fun i => l.length - (intOf i).toNat)
  case atStart => exact ⟨0, rfl, by omega, fun j hj => by omega⟩
  case round =>
    obtain ⟨k, rfl, hk, hz⟩ := hrel
    have HZ := Lib.hid hz; clear hz
    by_cases hlt : k < l.length
    · obtain ⟨b, off, rfl, _, _, hc⟩ := Ints.at h k hlt
      by_cases hx : gt l k = 0
      · have hb : (gt l k != 0) = false := by simp [hx]
        have HX := Lib.hid hx; clear hx
        go_wp2
        go_round
        case rel => exact ⟨k + 1, by go_num, by omega, fun j hj => by
          rcases Nat.lt_succ_iff_lt_or_eq.1 hj with h1 | h1
          · exact HZ.out j h1
          · rw [h1]; exact HX.out⟩
        case measure => simp [intOf]; omega
      · have hb : (gt l k != 0) = true := by simp [hx]
        have he : isZeroB l = false := by
          cases hq : isZeroB l with
          | false => rfl
          | true => exact absurd (isZeroB_true.1 hq k hlt) hx
        have HE := Lib.hid he; clear he hx
        go_wp2
        go_ret
        exact ⟨by rw [HE.out]; rfl, rfl⟩
    · have he : isZeroB l = true := isZeroB_true.2 (fun j hj => HZ.out j (by omega))
      have HE := Lib.hid he; clear he
      go_wp2
      go_ret
      exact ⟨by rw [HE.out]; rfl, rfl⟩

set_option maxRecDepth 100000 in
set_option maxHeartbeats 2000000 in
theorem l12Sift_ok (P : Pr) (G : Grp P) (w : World) (pv uv xv : Value) (H : List Int → Prop) (X : List Int) (Sp Su Sx : Nat → Prop) (S : Sub P H) (hpv : PresV Sp w pv P) (hu : Rows2 Su w uv (cseq P H)) (hx : Ints Sx w xv X) (hX : Vec P.orders X) :
    Calls Tryz.prog 213 #[pv, uv, xv] w (Ret w fun w' v => ∃ Y, Own w.heap.size w' v Y ∧ Rep P H (gt (tabTo (cseq P H) P.orders.length (cseq P H).length)) X Y) := by
  have hP := G.v
  have hn6 := hP.n6
  have hl := G.cseq_len S
  have hsq := (G.seq_facts S).1
  have hI := G.ind_tab S
  obtain ⟨vo, vp, vc, rfl, h3⟩ := hpv
  have hp0 := PresP.box h3 31
  have hg0 : Ext w (w.alloc (.cells #[vo, vp, vc] 31)) := World.grownBy_alloc _ _ _
  have hu0 := Rows2.ext hu hg0
  have hx0 := hx.ext hg0
  have hs0 : (w.alloc (.cells #[vo, vp, vc] 31)).heap.size = w.heap.size + 1 := by simp
  obtain ⟨au, capu, hvu, _, _⟩ := Sl.shape hu
  obtain ⟨ax, capx, hvx, _, _⟩ := hx.shape
  subst hvu hvx
  obtain ⟨vo6, vp6, vc6, _, _, hc0, hc1, hc2, h36⟩ := hp0.at
  simp only [Nat.zero_add] at hc1 hc2
  have HI := Lib.hid (And.intro hsq (And.intro hI (And.intro hX hl))); clear hsq hI hX hl hp0 hu hx
  go_enter Tryz.func213, Tryz.ntmps213
  go_wp2
  have HS := Lib.hid hs0; clear hs0
  generalize hw0 : w.alloc (.cells #[vo, vp, vc] 31) = w0 at *
  clear hw0
  have e1 : ∀ w', Ext w0 w' → w'.cell? ⟨w.heap.size, 0, none⟩ = some vo6 := fun w' h => h.cell hc0 (by simp)
  have e2 : ∀ w', Ext w0 w' → w'.cell? ⟨w.heap.size, 1, none⟩ = some vp6 := fun w' h => h.cell hc1 (by simp)
  have e3 : ∀ w', Ext w0 w' → w'.cell? ⟨w.heap.size, 2, none⟩ = some vc6 := fun w' h => h.cell hc2 (by simp)
  clear hc0 hc1 hc2
  go_region_held3 (fun w' => Ext w0 w') (first | exact grown_drew _ _ | assumption)
    (first
      | (go_at_call 245; refine Calls.mono (Calls.rel (w0 := w0) (by assumption) (l12Table_ok P hP _ _ _ (cseq P H) Any Any ⟨_, _, _, rfl, Pres3.ext h36 (by assumption)⟩ (Rows2.sub (Rows2.ext hu0 (by assumption)) (fun _ _ _ => trivial)) HI.out.1 (by have := HI.out.2.2.2; omega))) ?_; rintro eA wA ⟨tA, rfl, hgA, hsA, hTA⟩; obtain ⟨aA, capA, hvA, _, _⟩ := Sl.shape hTA; subst hvA)
      | (go_at_call 244; refine Calls.mono (Calls.rel (w0 := w0) (by assumption) (l12Reduce_ok P G _ _ _ _ _ X H Any Any Any ⟨_, _, _, rfl, Pres3.ext h36 (by assumption)⟩ hTA (Ints.sub (Ints.ext hx0 (by assumption)) (fun _ _ _ => trivial)) HI.out.2.2.1 (tabTo_len _ _ _) HI.out.2.1)) ?_; rintro eB wB ⟨vB, rfl, hgB, hsB, Y, hOB, hRB⟩))
  clear e1 e2 e3
  have HR := Lib.hid hRB; clear hRB
  go_wp2
  go_ret
  exact ⟨_, rfl, grown_trans hg0 hgB, Y, hOB.weak (by have := HS.out; omega), HR.out.rep⟩

set_option maxHeartbeats 1000000 in
theorem l12Has_ok (P : Pr) (G : Grp P) (w : World) (pv uv xv : Value) (H : List Int → Prop) (X : List Int) (Sp Su Sx : Nat → Prop) (S : Sub P H) (hpv : PresV Sp w pv P) (hu : Rows2 Su w uv (cseq P H)) (hx : Ints Sx w xv X) (hX : Vec P.orders X) :
    Calls Tryz.prog 153 #[pv, uv, xv] w (Ret w fun _ v => ∃ r : Bool, v = .bool r ∧ (r = true ↔ H X)) := by
  have hn6 := G.v.n6
  have hI := G.ind_tab S
  obtain ⟨vo, vp, vc, rfl, h3⟩ := hpv
  have hp0 := PresP.box h3 31
  have hg0 : Ext w (w.alloc (.cells #[vo, vp, vc] 31)) := World.grownBy_alloc _ _ _
  have hu0 := Rows2.ext hu hg0
  have hx0 := hx.ext hg0
  obtain ⟨au, capu, hvu, _, _⟩ := Sl.shape hu
  obtain ⟨ax, capx, hvx, _, _⟩ := hx.shape
  subst hvu hvx
  obtain ⟨vo6, vp6, vc6, _, _, hc0, hc1, hc2, h36⟩ := hp0.at
  simp only [Nat.zero_add] at hc1 hc2
  have hcon := l12Sift_ok P G (w.alloc (.cells #[vo, vp, vc] 31)) _ _ _ H X Any Su Sx S ⟨_, _, _, rfl, h36⟩ hu0 hx0 hX
  have HI := Lib.hid (And.intro hI hX); clear hI hX hp0 hu hx
  go_enter Tryz.func153, Tryz.ntmps153
  go_wp2_with fail
  clear hc0 hc1 hc2
  refine Calls.mono hcon ?_
  rintro e1 w1 ⟨v1, rfl, hg1, Y, hO, hR⟩
  clear hcon
  have hYi := hO.ints (by rw [hR.1.1]; omega)
  obtain ⟨ay, capy, rfl, _, _⟩ := hYi.shape
  have hiff := (isZeroB_zeros hR.1).trans (G.rep_mem HI.out.1 HI.out.2 hR)
  have hz := l01Zero_ok _ _ w1 Any hYi
  cases hb : isZeroB Y with
  | true =>
    rw [hb] at hiff hz
    have HF := Lib.hid hiff
    clear hiff hb hR
    go_wp2_with fail
    refine Calls.mono hz ?_
    rintro e2 w2 ⟨rfl, rfl⟩
    clear hz
    go_wp2
    go_ret
    exact ⟨_, rfl, grown_trans hg0 hg1, true, rfl, by simpa using HF.out⟩
  | false =>
    rw [hb] at hiff hz
    have HF := Lib.hid hiff
    clear hiff hb hR
    go_wp2_with fail
    refine Calls.mono hz ?_
    rintro e2 w2 ⟨rfl, rfl⟩
    clear hz
    go_wp2
    go_ret
    exact ⟨_, rfl, grown_trans hg0 hg1, false, rfl, by simpa using HF.out⟩

set_option maxRecDepth 100000 in
set_option maxHeartbeats 2000000 in
theorem l12Order_ok (P : Pr) (hP : Valid P) (w : World) (pv uv : Value) (U : List (List Int)) (Sp Su : Nat → Prop) (hpv : PresV Sp w pv P) (hu : Rows2 Su w uv U) (hU : SeqOk P U) (hl : U.length ≤ 100) :
    Calls Tryz.prog 61 #[pv, uv] w (Ret w fun _ v => v = .int .i64 (prodU P U U.length)) := by
  have hn6 := hP.n6
  obtain ⟨vo, vp, vc, rfl, h3⟩ := hpv
  have hp0 := PresP.box h3 31
  have hg0 : Ext w (w.alloc (.cells #[vo, vp, vc] 31)) := World.grownBy_alloc _ _ _
  have hu0 := Rows2.ext hu hg0
  obtain ⟨ao, capo, hco, hoi⟩ := hp0.ordAt
  obtain ⟨au, capu, rfl, _, _⟩ := Sl.shape hu
  have HU := Lib.hid hU; clear hU hp0 hu
  go_enter Tryz.func61, Tryz.ntmps61
  go_wp2
  generalize hw0 : w.alloc (.cells #[vo, vp, vc] 31) = w0 at *
  clear hw0
  go_loopw [5, 6] (fun mv iv wr => ∃ i : Nat, mv = .int .i64 (prodU P U i) ∧ iv = .int .i64 i ∧ i ≤ U.length ∧ Ext w0 wr) (fun _ iv _ => U.length - (intOf iv).toNat)
  case atStart => exact ⟨0, rfl, rfl, by omega, Ext.refl _⟩
  case round =>
    obtain ⟨i, rfl, rfl, hi, hg⟩ := hrel
    by_cases hlt : i < U.length
    · have hlt' : (i : Int) < U.length := by omega
      obtain ⟨b, off, a2, cap2, rfl, _, _, hc, hr⟩ := Rows2.at (Rows2.ext hu0 hg) i hlt
      have hst : prodU P U (i + 1) = prodU P U i * gt P.orders (dep (gt U i)) := rfl
      have hb := prodU_729 hP HU.out (i + 1) hlt
      rw [hst] at hb
      obtain ⟨z, hz⟩ : ∃ z, z = gt U i := ⟨_, rfl⟩
      rw [← hz] at hc hr hst hb
      obtain ⟨d, hd⟩ : ∃ d, d = dep z := ⟨_, rfl⟩
      rw [← hd] at hst hb
      have hdn : d < P.orders.length := by rw [hd, hz]; exact (HU.out.1 _ (gtMem hlt)).2.1
      have HD := Lib.hid (And.intro hd hz); clear hd hz
      have hdn' : (d : Int) < P.orders.length := by omega
      obtain ⟨bo, oo, rfl, _, _, hcd⟩ := Ints.at (hoi.ext hg) d hdn
      have hw : IntKind.i64.wrap (prodU P U i * gt P.orders d) = prodU P U i * gt P.orders d := IntWalk.i64_in _ (by omega)
      have HS := Lib.hid hst; clear hst hb
      have e1 : ∀ w', Ext wr w' → w'.cell? ⟨w.heap.size, 0, none⟩ = some (.slice (some ⟨bo, oo, none⟩) P.orders.length capo) := fun w' h => (grown_trans hg h).cell hco (by simp)
      have e2 : ∀ w', Ext wr w' → w'.cell? ⟨b, off + i, none⟩ = some (.slice a2 z.length cap2) := fun w' h => h.cell hc (by simp)
      have e3 : ∀ w', Ext wr w' → w'.cell? ⟨bo, oo + d, none⟩ = some (.int .i64 (gt P.orders d)) := fun w' h => h.cell hcd (by simp)
      clear hc hcd
      go_wp2
      go_region_held3 (fun w' => Ext wr w') (first | exact grown_drew _ _ | assumption)
        (first
          | (go_at_call 111; refine Calls.mono (Calls.rel (w0 := wr) (by first | exact grown_drew _ _ | assumption) (l12Depth_ok _ z _ Any (Ints.sub (Ints.ext hr (by first | exact grown_drew _ _ | assumption)) (fun _ _ _ => trivial)))) ?_; rintro eE wE ⟨vE, rfl, hgE, hsE, hvE⟩; rw [← HD.out.1] at hvE; subst hvE))
      clear e1 e2 e3
      go_wp2
      go_roundw
      case rel => exact ⟨i + 1, by rw [HS.out], by go_num, by omega, grown_trans hg hgE⟩
      case measure => simp [intOf]; omega
    · have hie : i = U.length := by omega
      subst hie
      go_wp2
      go_ret
      exact ⟨_, rfl, grown_trans hg0 hg, rfl⟩

end Go.Proofs.YtdklekdpdbjfiaaGreat

/- Plain: the elements of a subgroup as products with exponents (for the reference's list of elements). -/
namespace Go.Proofs.YtdklekdpdbjfiaaGreat

/-- the orders at the depths of rows -/
def ordsU (P : Pr) (U : List (List Int)) : List Int := U.map (fun z => gt P.orders (dep z))

theorem ordsU_len (P : Pr) (U : List (List Int)) : (ordsU P U).length = U.length := by unfold ordsU; rw [List.length_map]
theorem ordsU_at (P : Pr) (U : List (List Int)) (i : Nat) (hi : i < U.length) : gt (ordsU P U) i = gt P.orders (dep (gt U i)) := by unfold ordsU; rw [gt_map _ _ _ hi]

/-- the product of powers of the first k rows -/
def prodR (P : Pr) (U : List (List Int)) (a : List Int) : Nat → List Int
  | 0 => zeros P.orders.length
  | k + 1 => rMul P (prodR P U a k) (pwZ P (gt U k) (gt a k))

/-- a plain structure with given orders, of which only the orders count -/
def shapeP (o : List Int) : Pr := ⟨o, List.replicate o.length (zeros o.length), (List.range o.length).map (fun i => List.replicate (o.length - 1 - i) (zeros o.length))⟩

theorem gt_rep {α : Type} [Inhabited α] (n : Nat) (x : α) (i : Nat) (hi : i < n) : gt (List.replicate n x) i = x := by simp [gt, hi]

theorem shapeP_valid {o : List Int} (hn : o.length ≤ 6) (ho : ∀ i, i < o.length → gt o i = 2 ∨ gt o i = 3 ∨ gt o i = 5 ∨ gt o i = 7) (hp : prodTo o o.length ≤ 729) : Valid (shapeP o) := by
  have hz : Vec o (zeros o.length) := ⟨by simp [zeros], fun i hi => by
    have : gt (zeros o.length) i = 0 := gt_replicate _ _
    rw [this]; rcases ho i hi with h | h | h | h <;> rw [h] <;> decide⟩
  have hz0 : ∀ i, ZeroTo i (zeros o.length) := fun i j _ => gt_replicate _ _
  refine ⟨hp, hn, by simp [shapeP], by simp [shapeP], ho, fun i hi => ?_, fun i hi => ?_⟩
  · show Vec o (gt (List.replicate o.length (zeros o.length)) i) ∧ ZeroTo i (gt (List.replicate o.length (zeros o.length)) i)
    rw [gt_rep o.length _ _ hi]
    exact ⟨hz, hz0 i⟩
  · have e : gt (shapeP o).conj i = List.replicate (o.length - 1 - i) (zeros o.length) := by
      unfold shapeP
      have h2 : i < (List.range o.length).length := by rw [List.length_range]; exact hi
      have := gt_map (fun i => List.replicate (o.length - 1 - i) (zeros o.length)) (List.range o.length) i h2
      rw [this]
      simp [gt, show i < o.length from hi]
    rw [e]
    refine ⟨by simp [shapeP], fun k hk => ?_⟩
    rw [gt_rep (o.length - 1 - i) _ _ hk]
    exact ⟨hz, hz0 i⟩

theorem prodR_congr {P : Pr} {U : List (List Int)} {a a' : List Int} (k : Nat) (h : ∀ j, j < k → gt a j = gt a' j) : prodR P U a k = prodR P U a' k := by
  induction k with
  | zero => rfl
  | succ k ih =>
    simp only [prodR]
    rw [ih (fun j hj => h j (by omega)), h k (by omega)]

theorem prodTo_ordsU (P : Pr) (U : List (List Int)) (k : Nat) (hk : k ≤ U.length) : prodTo (ordsU P U) k = prodU P U k := by
  induction k with
  | zero => rfl
  | succ k ih => simp only [prodTo, prodU]; rw [ih (by omega), ordsU_at P U k (by omega)]

section
variable {P : Pr} (G : Grp P)
include G

theorem Grp.prodR_vec {U : List (List Int)} (hU : ∀ z ∈ U, Vec P.orders z) (a : List Int) (k : Nat) (hk : k ≤ U.length) : Vec P.orders (prodR P U a k) := by
  induction k with
  | zero => exact G.oneV
  | succ k ih => exact G.mulV (ih (by omega)) (G.pwZ_vec (hU _ (gtMem (by omega))) _)

theorem Grp.mem_elsP {U : List (List Int)} (hU : SeqOk P U) (x : List Int) : ∀ k, k ≤ U.length → (x ∈ elsP P U k ↔ ∃ a : List Int, a.length = U.length ∧ (∀ j, j < k → 0 ≤ gt a j ∧ gt a j < gt P.orders (dep (gt U j))) ∧ x = prodR P U a k) := by
  intro k
  induction k generalizing x with
  | zero =>
    intro _
    simp only [elsP, List.mem_singleton, prodR]
    exact ⟨fun h => ⟨List.replicate U.length 0, by simp, fun j hj => by omega, h⟩, fun ⟨_, _, _, h⟩ => h⟩
  | succ k ih =>
    intro hk
    have hd := (hU.1 _ (gtMem (show k < U.length by omega))).2.1
    have ho := G.v.ord7 _ hd
    simp only [elsP, List.mem_flatMap, stepE, List.mem_map, List.mem_range]
    constructor
    · rintro ⟨y, hy, t, ht, rfl⟩
      obtain ⟨a, ha, hb, rfl⟩ := (ih y (by omega)).1 hy
      refine ⟨a.set k t, by simp [ha], fun j hj => ?_, ?_⟩
      · rcases Nat.lt_succ_iff_lt_or_eq.1 hj with h | h
        · rw [gt_set_ne _ _ _ _ (by omega)]; exact hb j h
        · subst h; rw [gt_set_eq _ _ _ (by omega)]; omega
      · simp only [prodR]
        rw [gt_set_eq _ _ _ (by omega), pwZ_nat _ _ _ (by omega), prodR_congr (a := a.set k t) (a' := a) k (fun j hj => gt_set_ne _ _ _ _ (by omega))]
        rfl
    · rintro ⟨a, ha, hb, rfl⟩
      have hk2 := hb k (by omega)
      refine ⟨prodR P U a k, (ih _ (by omega)).2 ⟨a, ha, fun j hj => hb j (by omega), rfl⟩, (gt a k).toNat, by omega, ?_⟩
      simp only [prodR]
      rw [pwZ_nat _ _ _ hk2.1]

/-- the members of a subgroup are the products with exponents below the orders -/
theorem Grp.mem_prods {H : List Int → Prop} (S : Sub P H) (x : List Int) : H x ↔ ∃ m : Int, 0 ≤ m ∧ m < prodU P (cseq P H) (cseq P H).length ∧ x = prodR P (cseq P H) (elAt (shapeP (ordsU P (cseq P H))) m) (cseq P H).length := by
  obtain ⟨h1, h2, h3⟩ := G.seq_facts S
  obtain ⟨U, hU⟩ : ∃ U, U = cseq P H := ⟨_, rfl⟩
  rw [← hU] at h1 h2 h3 ⊢
  have hlen : U.length ≤ P.orders.length := by rw [hU]; exact G.cseq_len S
  have hn6 := G.v.n6
  have hol := ordsU_len P U
  have hV : Valid (shapeP (ordsU P U)) := by
    refine shapeP_valid (by omega) (fun i hi => ?_) ?_
    · rw [ordsU_at P U i (by omega)]
      exact G.v.ord _ (h1.1 _ (gtMem (by omega))).2.1
    · rw [hol, prodTo_ordsU P U U.length (Nat.le_refl _)]
      exact (prodU_729 G.v h1 U.length (Nat.le_refl _)).2
  have hO : ordP (shapeP (ordsU P U)) = prodU P U U.length := by
    unfold ordP
    show prodTo (ordsU P U) (ordsU P U).length = _
    rw [hol]; exact prodTo_ordsU P U U.length (Nat.le_refl _)
  rw [← G.elsP_mem S h1 h2 h3 x, G.mem_elsP h1 x U.length (Nat.le_refl _)]
  constructor
  · rintro ⟨a, ha, hb, rfl⟩
    have hav : Vec (shapeP (ordsU P U)).orders a := ⟨by rw [ha]; exact hol.symm, fun i hi => by
      have hi : i < (ordsU P U).length := hi
      show _ ∧ _ < gt (ordsU P U) i
      rw [ordsU_at P U i (by omega)]; exact hb i (by omega)⟩
    have hbd := num_bd hV hav
    refine ⟨num _ a, hbd.1, by rw [← hO]; exact hbd.2, ?_⟩
    rw [elAt_num hV hav]
  · rintro ⟨m, h4, h5, rfl⟩
    have hv := elAt_vec hV m h4
    have hvl : (elAt (shapeP (ordsU P U)) m).length = (ordsU P U).length := hv.1
    refine ⟨_, by rw [hvl, hol], fun j hj => ?_, rfl⟩
    have h6 : 0 ≤ gt (elAt (shapeP (ordsU P U)) m) j ∧ gt (elAt (shapeP (ordsU P U)) m) j < gt (ordsU P U) j := hv.2 j (by show j < (ordsU P U).length; omega)
    rw [ordsU_at P U j hj] at h6; exact h6

end

end Go.Proofs.YtdklekdpdbjfiaaGreat

/- The reference's reduced sequence: spec.l12Full. -/
namespace Go.Proofs.YtdklekdpdbjfiaaGreat
open Go.RowKit

/-- a list of shared rows reads as rows -/
theorem ShQ.rows {bad : Nat → Prop} {B : Nat} {w : World} {v : Value} {xs : List (List Int)} (h : ShQ bad B w v xs) : Rows2 Any w v xs := by
  obtain ⟨vs, hl, hq, hr⟩ := h
  rcases hq with ⟨rfl, rfl⟩ | ⟨g, off, cap, cur, rfl, hb, hg, hnc, hcm, hsz, hc⟩
  · have : xs = [] := List.eq_nil_of_length_eq_zero (by simpa using hl.symm)
    subst this
    exact ⟨none, 0, rfl, ⟨by simp, by simp, fun _ => rfl⟩, fun i hi => by simp at hi⟩
  · refine ⟨_, cap, by rw [hl], ⟨by omega, by unfold maxLen at hcm; omega, fun h => by cases h⟩, fun i hi => ⟨g, off, gt vs i, rfl, trivial, (Array.getElem?_eq_some_iff.1 hg).1, ?_, Ints.sub (hr i hi) (fun _ _ _ => trivial)⟩⟩
    simp only [World.cell?, hg, Option.isSome_none, Bool.false_eq_true, if_false]
    exact hc i (by omega)

theorem ShQ.lit (bad : Nat → Prop) (B : Nat) (w : World) (hB : B ≤ w.heap.size) : ShQ bad B (w.alloc (.cells #[] 22)) (.slice (some ⟨w.heap.size, 0, none⟩) 0 0) [] :=
  ⟨[], rfl, QOwn.of (World.ownsRow_lit w #[] 0 hB (by decide) rfl), fun i hi => by simp at hi⟩

theorem CanInv.congr {P : Pr} {H : List Int → Prop} {b r r' : Nat → List Int} {m : Nat} (h : CanInv P H b r m) (he : ∀ e, m ≤ e → e < P.orders.length → r' e = r e) : CanInv P H b r' m :=
  ⟨fun e h1 h2 => by rw [he e h1 h2]; exact h.nil e h1 h2, fun e h1 h2 h3 => by rw [he e h1 h2] at h3 ⊢; exact h.mem e h1 h2 h3,
    fun e e' h1 h2 h3 h4 h5 => by rw [he e h1 (by omega)] at h4 ⊢; rw [he e' (by omega) h3] at h5; exact h.red e e' h1 h2 h3 h4 h5⟩

end Go.Proofs.YtdklekdpdbjfiaaGreat

/- The reference's sifting: spec.l12Strip. -/
namespace Go.Proofs.YtdklekdpdbjfiaaGreat
open Go.RowKit

end Go.Proofs.YtdklekdpdbjfiaaGreat

/- The reference's closure: spec.l01Own2, l01Inv, l10Comm, l12Close. -/
namespace Go.Proofs.YtdklekdpdbjfiaaGreat
open Go.RowKit

set_option maxHeartbeats 1000000 in
theorem l01Own2_ok (w : World) (v : Value) (L : List (List Int)) (S : Nat → Prop) (hv : Rows2 S w v L) (hL : ∀ x ∈ L, x.length ≤ 1000000) (hlen : L.length ≤ 1000000) :
    Calls Tryz.prog 65 #[v] w (Ret w fun w' r => RowsO w.heap.size w' r L) := by
  obtain ⟨a, cap, rfl, _, _⟩ := Sl.shape hv
  have HL := Lib.hid hL; clear hL
  go_enter Tryz.func65, Tryz.ntmps65
  go_wp2
  go_loopw [3, 4] (fun ov iv wr => ∃ (i : Nat) (v4 : Value), v4 = ov ∧ iv = .int .i64 i ∧ i ≤ L.length ∧ Ext w wr ∧ RowsO w.heap.size wr v4 (L.take i)) (fun _ iv _ => L.length - (intOf iv).toNat)
  case atStart => exact ⟨0, _, rfl, rfl, by omega, World.grownBy_alloc _ _ _, [], fun _ _ => False, rfl, World.ownsRow_lit w #[] 0 (Nat.le_refl _) (by decide) rfl, by simp, by simp, by simp⟩
  case round =>
    obtain ⟨i, v4, rfl, rfl, hi, hg, hO⟩ := hrel
    by_cases hlt : i < L.length
    · have hlt' : (i : Int) < L.length := by omega
      obtain ⟨b, off, a2, cap2, rfl, _, _, hc, hr⟩ := Rows2.at (Rows2.ext hv hg) i hlt
      have hstep := take_succ_gt L i hlt
      have hll := HL.out _ (gtMem hlt)
      have htl : (L.take i).length ≤ 1000000 := by rw [List.length_take]; omega
      have HST := Lib.hid (And.intro hstep hll); clear hstep hll
      go_wp2_with fail
      refine Calls.mono (l01Own_ok wr _ (gt L i) _ hr (by have := HST.out.2; omega)) ?_
      rintro eC wC ⟨vC, rfl, hgC, hOC⟩
      have hYO : OwnIn (From wr.heap.size) wC vC (gt L i) := OwnIn.of hOC (by have := HST.out.2; omega) (fun j h1 _ => h1)
      obtain ⟨ay, capy, hvy, _, _⟩ := hYO.ints.shape
      subst hvy
      clear hc
      go_wp2_with (first | (at_builtin; refine wp_app_row rfl _ _ rfl w.heap.size wr wC v4 _ (L.take i) (gt L i) rfl hO hgC hYO rfl rfl htl hg.size ?_; intro v5 w5 hO5 hg5 hg6; have hgw5 := hO.extw hg (Nat.le_refl _) hg5) | fail)
      go_roundw
      case rel => exact ⟨i + 1, v5, rfl, by go_num, by omega, hgw5, by rw [HST.out.1]; exact hO5⟩
      case measure => simp [intOf]; omega
    · have hie : i = L.length := by omega
      subst hie
      rw [List.take_length] at hO
      obtain ⟨az, capz, hvz, _, _⟩ := SlD.shape (hO.toD (by omega))
      subst hvz
      go_wp2
      go_ret
      exact ⟨_, rfl, hg, hO⟩

end Go.Proofs.YtdklekdpdbjfiaaGreat

/- The reference's list of the elements of a subgroup: spec.l12Orders, l10At at orders alone, l12Product, l12Elements. -/
namespace Go.Proofs.YtdklekdpdbjfiaaGreat
open Go.RowKit

/-- l10One, of which the orders alone count -/
theorem l10OneO_ok (o : List Int) (w : World) (vo vp vc : Value) (S : Nat → Prop) (ho : Ints S w vo o) (hn : o.length ≤ 6) :
    Calls Tryz.prog 195 #[.agg #[vo, vp, vc]] w (Ret w fun w' v => Own w.heap.size w' v (zeros o.length)) := by
  obtain ⟨ao, capo, rfl, _, _⟩ := ho.shape
  have hco : (w.alloc (.cells #[.slice ao o.length capo, vp, vc] 31)).cell? ⟨w.heap.size, 0, none⟩ = some (.slice ao o.length capo) := by rw [World.cell?_alloc_at _ _ _ _ rfl]; rfl
  go_enter Tryz.func195, Tryz.ntmps195
  go_wp2_with (at_make; refine wp_make_ints rfl _ _ rfl (w.heap.size + 1) o.length (w.heap.size + 1) (by simp) _ rfl rfl rfl (by omega) (by simp) ?_; intro w1 ho1 hg1 _)
  go_ret
  exact ⟨_, rfl, grown_trans (World.grownBy_alloc _ _ _) hg1, ho1.weak (by omega)⟩

set_option maxHeartbeats 1000000 in
theorem l10AtO_ok (o : List Int) (hP : Valid (shapeP o)) (w : World) (vo vp vc : Value) (m : Int) (S : Nat → Prop) (hov : Ints S w vo o) (hm : 0 ≤ m) (hm2 : m ≤ 1000000000) :
    Calls Tryz.prog 130 #[.agg #[vo, vp, vc], .int .i64 m] w (Ret w fun w' v => Own w.heap.size w' v (elAt (shapeP o) m)) := by
  have hn6 : o.length ≤ 6 := hP.n6
  have ho7 : ∀ i, i < o.length → 2 ≤ gt o i ∧ gt o i ≤ 7 := fun i hi => hP.ord7 i hi
  have hinv : ∀ k, k ≤ o.length → (elTo o o.length m k).1.length = o.length ∧ 0 ≤ (elTo o o.length m k).2 ∧ (elTo o o.length m k).2 ≤ m := fun k hk => ⟨elTo_len _ _ _ _, (elTo_inv hP m hm k hk).2⟩
  have HO := Lib.hid (And.intro ho7 hinv); clear ho7 hinv hP
  obtain ⟨ao, capo, rfl, _, _⟩ := hov.shape
  have hg0 : Ext w (w.alloc (.cells #[.slice ao o.length capo, vp, vc] 31)) := World.grownBy_alloc _ _ _
  have hco0 : (w.alloc (.cells #[.slice ao o.length capo, vp, vc] 31)).cell? ⟨w.heap.size, 0, none⟩ = some (.slice ao o.length capo) := by rw [World.cell?_alloc_at _ _ _ _ rfl]; rfl
  have hco1 : (w.alloc (.cells #[.slice ao o.length capo, vp, vc] 31)).cell? ⟨w.heap.size, 1, none⟩ = some vp := by rw [World.cell?_alloc_at _ _ _ _ rfl]; rfl
  have hco2 : (w.alloc (.cells #[.slice ao o.length capo, vp, vc] 31)).cell? ⟨w.heap.size, 2, none⟩ = some vc := by rw [World.cell?_alloc_at _ _ _ _ rfl]; rfl
  have hoi := hov.ext hg0
  have hs0 : (w.alloc (.cells #[.slice ao o.length capo, vp, vc] 31)).heap.size = w.heap.size + 1 := by simp
  go_enter Tryz.func130, Tryz.ntmps130
  go_wp2_with fail
  have HS := Lib.hid hs0; clear hs0
  clear hco1 hco2
  have HCO := Lib.hid hco0; clear hco0
  generalize hw0 : w.alloc (.cells #[.slice ao o.length capo, vp, vc] 31) = w0 at *
  clear hw0
  refine Calls.mono (l10OneO_ok o w0 _ _ _ S hoi hn6) ?_
  rintro e1 w1 ⟨r, rfl, hg1, ho1⟩
  have hri := ho1.ints (by simp [zeros]; omega)
  obtain ⟨ar, capr, rfl, _, _⟩ := hri.shape
  have hzl : (zeros o.length).length = o.length := by simp [zeros]
  rw [hzl] at hri
  have ho1 : Own w0.heap.size w1 (.slice ar o.length capr) (zeros o.length) := by rw [hzl] at ho1; exact ho1
  simp only [hzl]
  clear hzl hri
  go_wp2
  go_loopw [1, 6] (fun mv i wr => ∃ k : Nat, i = .int .i64 ((o.length : Int) - 1 - k) ∧ mv = .int .i64 (elTo o o.length m k).2 ∧ k ≤ o.length ∧ Ext w0 wr ∧
      Own w0.heap.size wr (.slice ar o.length capr) (elTo o o.length m k).1) (fun _ i _ => (intOf i + 1).toNat)
  case atStart => exact ⟨0, by simp, rfl, by omega, hg1, ho1⟩
  case round =>
    clear ho1
    obtain ⟨k, rfl, rfl, hk, hg, hO⟩ := hrel
    obtain ⟨hv, hm0, hm1⟩ := HO.out.2 k hk
    by_cases hlt : k < o.length
    · obtain ⟨g, capg, hfm, hgb, hgs⟩ := hO.form (by omega)
      rw [hv] at hfm
      obtain ⟨rfl, _⟩ : ar = some ⟨g, 0, none⟩ ∧ capr = capg := by cases hfm; exact ⟨rfl, rfl⟩
      clear hfm
      obtain ⟨b2, off2, rfl, _, _, hc20⟩ := Ints.at hoi (o.length - 1 - k) (by omega)
      have hco := hg.cell HCO.out (by simp)
      have hc2 := hg.cell hc20 (by simp)
      have ho7 := HO.out.1 (o.length - 1 - k) (by omega)
      have hc := hO.cell (o.length - 1 - k) (by omega)
      have hf := hO.frozen (o.length - 1 - k)
      have hsucc : elTo o o.length m (k + 1) = ((elTo o o.length m k).1.set (o.length - 1 - k) ((elTo o o.length m k).2 % gt o (o.length - 1 - k)), (elTo o o.length m k).2 / gt o (o.length - 1 - k)) := rfl
      have HSC := Lib.hid hsucc; clear hsucc
      obtain ⟨hO2, hg2⟩ := hO.store (o.length - 1 - k) ((elTo o o.length m k).2 % gt o (o.length - 1 - k))
      have hgx : Ext w0 (wr.setCell ⟨g, o.length - 1 - k, none⟩ (.int .i64 ((elTo o o.length m k).2 % gt o (o.length - 1 - k)))) := grown_own hg hg2 (fun j hj hlt => by cases hj; omega)
      have hco3 := hgx.cell HCO.out (by simp)
      have hc23 := hgx.cell hc20 (by simp)
      clear hc20 hv
      have hidx : ((o.length : Int) - 1 - k).toNat = o.length - 1 - k := by omega
      generalize hi : o.length - 1 - k = i at *
      generalize (elTo o o.length m k).1 = L at *
      generalize (elTo o o.length m k).2 = M at *
      have ho70 : 2 ≤ gt o i := ho7.1
      have ho71 : gt o i ≤ 7 := ho7.2
      have HI := Lib.hid hi; clear hi ho7
      go_wp2
      go_roundw
      case rel => exact ⟨k + 1, by congr 1; omega, by rw [HSC.out], by omega, hgx, by rw [HSC.out]; exact hO2⟩
      case measure => simp [intOf]; omega
    · have hke : k = o.length := by omega
      subst hke
      clear hv
      go_wp2
      go_ret
      exact ⟨_, rfl, grown_trans hg0 hg, hO.weak (by have := HS.out; omega)⟩

set_option maxRecDepth 100000 in
set_option maxHeartbeats 2000000 in
theorem l12Orders_ok (P : Pr) (hP : Valid P) (w : World) (pv uv : Value) (U : List (List Int)) (Sp Su : Nat → Prop) (hpv : PresV Sp w pv P) (hu : Rows2 Su w uv U) (hU : SeqOk P U) (hl : U.length ≤ 100) :
    Calls Tryz.prog 214 #[pv, uv] w (Ret w fun w' v => Own w.heap.size w' v (ordsU P U)) := by
  have hn6 := hP.n6
  obtain ⟨vo, vp, vc, rfl, h3⟩ := hpv
  have hp0 := PresP.box h3 31
  have hg0 : Ext w (w.alloc (.cells #[vo, vp, vc] 31)) := World.grownBy_alloc _ _ _
  have hu0 := Rows2.ext hu hg0
  obtain ⟨ao, capo, hco, hoi⟩ := hp0.ordAt
  obtain ⟨au, capu, rfl, _, _⟩ := Sl.shape hu
  have hs0 : (w.alloc (.cells #[vo, vp, vc] 31)).heap.size = w.heap.size + 1 := by simp
  have hol := ordsU_len P U
  have HU := Lib.hid (And.intro hU hol); clear hU hol hp0 hu
  go_enter Tryz.func214, Tryz.ntmps214
  go_wp2
  have HS := Lib.hid hs0; clear hs0
  generalize hw0 : w.alloc (.cells #[vo, vp, vc] 31) = w0 at *
  clear hw0
  go_loopw [5, 6] (fun ov iv wr => ∃ (i : Nat) (v4 : Value), v4 = ov ∧ iv = .int .i64 i ∧ i ≤ U.length ∧ Ext w0 wr ∧ Own w0.heap.size wr v4 ((ordsU P U).take i)) (fun _ iv _ => U.length - (intOf iv).toNat)
  case atStart => exact ⟨0, _, rfl, rfl, by omega, World.grownBy_alloc _ _ _, by rw [← HS.out]; exact World.ownsRow_lit w0 #[] 0 (Nat.le_refl _) (by decide) rfl⟩
  case round =>
    obtain ⟨i, v4, rfl, rfl, hi, hg, hO⟩ := hrel
    by_cases hlt : i < U.length
    · have hlt' : (i : Int) < U.length := by omega
      obtain ⟨b, off, a2, cap2, rfl, _, _, hc, hr⟩ := Rows2.at hu0 i hlt
      have hst : (ordsU P U).take (i + 1) = (ordsU P U).take i ++ [gt P.orders (dep (gt U i))] := by rw [take_succ_gt _ i (by rw [HU.out.2]; exact hlt), ordsU_at P U i hlt]
      obtain ⟨z, hz⟩ : ∃ z, z = gt U i := ⟨_, rfl⟩
      rw [← hz] at hc hr hst
      obtain ⟨d, hd⟩ : ∃ d, d = dep z := ⟨_, rfl⟩
      rw [← hd] at hst
      have hdn : d < P.orders.length := by rw [hd, hz]; exact (HU.out.1.1 _ (gtMem hlt)).2.1
      have htl : ((ordsU P U).take i).length ≤ 1000000 := by rw [List.length_take]; omega
      have HD := Lib.hid (And.intro hd (And.intro hz htl)); clear hd hz htl
      have hdn' : (d : Int) < P.orders.length := by omega
      obtain ⟨bo, oo, rfl, _, _, hcd⟩ := Ints.at hoi d hdn
      have HST := Lib.hid hst; clear hst
      have e1 : ∀ w', Ext w0 w' → w'.cell? ⟨w.heap.size, 0, none⟩ = some (.slice (some ⟨bo, oo, none⟩) P.orders.length capo) := fun w' h => h.cell hco (by simp)
      have e2 : ∀ w', Ext w0 w' → w'.cell? ⟨b, off + i, none⟩ = some (.slice a2 z.length cap2) := fun w' h => h.cell hc (by simp)
      have e3 : ∀ w', Ext w0 w' → w'.cell? ⟨bo, oo + d, none⟩ = some (.int .i64 (gt P.orders d)) := fun w' h => h.cell hcd (by simp)
      clear hc hcd
      go_wp2
      go_region_held3 (fun w' => Ext w0 w') (first | exact grown_trans hg (grown_drew _ _) | assumption | exact grown_trans hgE (World.grownBy_alloc _ _ _))
        (first
          | (go_at_call 111; refine Calls.mono (Calls.rel2 (w0 := w0) (by assumption) (l12Depth_ok _ z _ Any (Ints.sub (Ints.ext hr (by assumption)) (fun _ _ _ => trivial)))) ?_; rintro eE wE ⟨vE, rfl, hgE, hgE2, hsE, hvE⟩; rw [← HD.out.1] at hvE; subst hvE)
          | (refine step_app_int rfl _ _ rfl w0.heap.size _ ((ordsU P U).take i) (gt P.orders d) rfl wE (hO.ext0 (grown_trans (grown_drew _ _) hgE2)) rfl rfl HD.out.2.2 hgE.size ?_; intro v5 w5 hO5 hg5; have hgw5 : Ext w0 w5 := grown_own hgE hg5 (fun j hj hlt => by have := (hO.lt j hj).1; omega)))
      clear e1 e2 e3
      rw [← HST.out] at hO5
      go_wp2
      go_roundw
      case rel => exact ⟨i + 1, v5, rfl, by go_num, by omega, hgw5, hO5⟩
      case measure => simp [intOf]; omega
    · have hie : i = U.length := by omega
      subst hie
      rw [List.take_of_length_le (by rw [HU.out.2]; exact Nat.le_refl _)] at hO
      obtain ⟨az, capz, hvz, _, _⟩ := (hO.ints (by rw [HU.out.2]; omega)).shape
      subst hvz
      go_wp2
      go_ret
      exact ⟨_, rfl, grown_trans hg0 hg, hO.weak (by have := HS.out; omega)⟩

end Go.Proofs.YtdklekdpdbjfiaaGreat

/- The reference's list of the elements of a subgroup: spec.l12Product, l12Elements. -/
namespace Go.Proofs.YtdklekdpdbjfiaaGreat
open Go.RowKit

set_option maxRecDepth 100000 in
set_option maxHeartbeats 2000000 in
theorem l12Product_ok (P : Pr) (G : Grp P) (w : World) (pv uv av : Value) (U : List (List Int)) (A : List Int) (Sp Su Sa : Nat → Prop) (hpv : PresV Sp w pv P) (hu : Rows2 Su w uv U) (ha : Ints Sa w av A) (hU : ∀ z ∈ U, Vec P.orders z) (hl : U.length ≤ A.length)
    (hA : ∀ i, i < U.length → 0 ≤ gt A i ∧ gt A i ≤ 1000) :
    Calls Tryz.prog 215 #[pv, uv, av] w (Ret w fun w' v => Own w.heap.size w' v (prodR P U A U.length)) := by
  have hP := G.v
  have hn6 := hP.n6
  obtain ⟨vo, vp, vc, rfl, h3⟩ := hpv
  have hp0 := PresP.box h3 31
  have hg0 : Ext w (w.alloc (.cells #[vo, vp, vc] 31)) := World.grownBy_alloc _ _ _
  have hu0 := Rows2.ext hu hg0
  have ha0 := ha.ext hg0
  obtain ⟨au, capu, rfl, _, _⟩ := Sl.shape hu
  obtain ⟨aa, capa, rfl, _, _⟩ := ha.shape
  have hs0 : (w.alloc (.cells #[vo, vp, vc] 31)).heap.size = w.heap.size + 1 := by simp
  obtain ⟨vo6, vp6, vc6, _, _, hc0, hc1, hc2, h36⟩ := hp0.at
  simp only [Nat.zero_add] at hc1 hc2
  have HU := Lib.hid (And.intro hU hA); clear hU hA hp0 hu ha
  go_enter Tryz.func215, Tryz.ntmps215
  go_wp2_with fail
  have HS := Lib.hid hs0; clear hs0
  generalize hw0 : w.alloc (.cells #[vo, vp, vc] 31) = w0 at *
  clear hw0
  refine Calls.mono (l10One_ok P hP w0 _ Any ⟨_, _, _, rfl, h36⟩) ?_
  rintro e1 w1 ⟨r, rfl, hg1, ho1⟩
  go_wp2
  go_loopw [7, 8] (fun ov iv wr => ∃ i : Nat, iv = .int .i64 i ∧ i ≤ U.length ∧ Ext w0 wr ∧ Own w.heap.size wr ov (prodR P U A i)) (fun _ iv _ => U.length - (intOf iv).toNat)
  case atStart => exact ⟨0, rfl, by omega, hg1, ho1.weak (by have := HS.out; omega)⟩
  case round =>
    clear ho1
    obtain ⟨i, rfl, hi, hg, hO⟩ := hrel
    have hYV := G.prodR_vec HU.out.1 A i hi
    have hYl : (prodR P U A i).length = P.orders.length := hYV.1
    have hYi := hO.ints (by omega)
    obtain ⟨ay, capy, hvy, _, _⟩ := hYi.shape
    subst hvy
    by_cases hlt : i < U.length
    · have hlt' : (i : Int) < U.length := by omega
      have hla : (i : Int) < A.length := by omega
      obtain ⟨bb, off, a2, cap2, rfl, _, _, hc, hr⟩ := Rows2.at (Rows2.ext hu0 hg) i hlt
      obtain ⟨ba, oa, rfl, _, _, hca⟩ := Ints.at (ha0.ext hg) i (by omega)
      have hzV := HU.out.1 _ (gtMem hlt)
      have hab := HU.out.2 i hlt
      have hst : prodR P U A (i + 1) = rMul P (prodR P U A i) (pwZ P (gt U i) (gt A i)) := rfl
      have hpV := G.pwZ_vec hzV (gt A i)
      have hpl : (pwZ P (gt U i) (gt A i)).length ≤ 6 := by rw [hpV.1]; omega
      have HB := Lib.hid (And.intro hzV (And.intro hpV (And.intro hpl (And.intro hYV (And.intro hab hst))))); clear hzV hpV hpl hYV hab hst hYl
      have e1 : ∀ w', Ext wr w' → w'.cell? ⟨w.heap.size, 0, none⟩ = some vo6 := fun w' h => (grown_trans hg h).cell hc0 (by simp)
      have e2 : ∀ w', Ext wr w' → w'.cell? ⟨w.heap.size, 1, none⟩ = some vp6 := fun w' h => (grown_trans hg h).cell hc1 (by simp)
      have e3 : ∀ w', Ext wr w' → w'.cell? ⟨w.heap.size, 2, none⟩ = some vc6 := fun w' h => (grown_trans hg h).cell hc2 (by simp)
      have e4 : ∀ w', Ext wr w' → w'.cell? ⟨bb, off + i, none⟩ = some (.slice a2 (gt U i).length cap2) := fun w' h => h.cell hc (by simp)
      have e5 : ∀ w', Ext wr w' → w'.cell? ⟨ba, oa + i, none⟩ = some (.int .i64 (gt A i)) := fun w' h => h.cell hca (by simp)
      clear hc hca
      go_wp2
      go_region_held3 (fun w' => Ext wr w') (first | exact grown_drew _ _ | assumption)
        (first
          | (go_at_call 113; refine Calls.mono (Calls.rel (w0 := wr) (by assumption) (l10Pow_ok P G _ _ _ (gt U i) _ Any Any ⟨_, _, _, rfl, Pres3.ext (Pres3.ext h36 hg) (by assumption)⟩ (Ints.sub (Ints.ext hr (by assumption)) (fun _ _ _ => trivial)) HB.out.1 (by have := HB.out.2.2.2.2.1; omega))) ?_; rintro eA wA ⟨vA, rfl, hgA, hsA, hOA⟩; have hOA2 := hOA.ints (by have := HB.out.2.2.1; omega))
          | (go_at_call 176; refine Calls.mono (Calls.rel (w0 := wr) (by assumption) (l08Mul_ok P hP _ _ _ _ (prodR P U A i) _ Any Any Any ⟨_, _, _, rfl, Pres3.ext (Pres3.ext h36 hg) (by assumption)⟩ (Ints.sub (Ints.ext hYi (by assumption)) (fun _ _ _ => trivial)) hOA2 HB.out.2.2.2.1 HB.out.2.1)) ?_; rintro eB wB ⟨vB, rfl, hgB, hsB, hOB⟩))
      clear e1 e2 e3 e4 e5
      rw [← HB.out.2.2.2.2.2] at hOB
      go_wp2
      go_roundw
      case rel => exact ⟨i + 1, by go_num, by omega, grown_trans hg hgB, hOB.weak (by have := hg.size; have := HS.out; omega)⟩
      case measure => simp [intOf]; omega
    · have hie : i = U.length := by omega
      subst hie
      clear hYl
      go_wp2
      go_ret
      exact ⟨_, rfl, grown_trans hg0 hg, hO⟩

/-- marks at places -/
def markAt (N : Nat) (f : Nat → Nat) : Nat → List Bool
  | 0 => List.replicate N false
  | k + 1 => (markAt N f k).set (f k) true

theorem markAt_len (N : Nat) (f : Nat → Nat) (k : Nat) : (markAt N f k).length = N := by
  induction k with
  | zero => simp [markAt]
  | succ k ih => simp only [markAt, List.length_set]; exact ih

theorem markAt_true (N : Nat) (f : Nat → Nat) (k t : Nat) (ht : t < N) : gt (markAt N f k) t = true ↔ ∃ j, j < k ∧ f j = t := by
  induction k with
  | zero => simp [markAt, gt, ht]
  | succ k ih =>
    simp only [markAt]
    by_cases e : f k = t
    · rw [e, gt_set_eq _ _ _ (by rw [markAt_len]; exact ht)]
      exact ⟨fun _ => ⟨k, by omega, e⟩, fun _ => rfl⟩
    · rw [gt_set_ne _ _ _ _ e, ih]
      exact ⟨fun ⟨j, h1, h2⟩ => ⟨j, by omega, h2⟩, fun ⟨j, h1, h2⟩ => by
        rcases Nat.lt_succ_iff_lt_or_eq.1 h1 with h | h
        · exact ⟨j, h, h2⟩
        · subst h; exact absurd h2 e⟩

/-- the product with a number -/
def prodN (P : Pr) (U : List (List Int)) (k : Nat) : List Int := prodR P U (elAt (shapeP (ordsU P U)) (k : Int)) U.length

theorem Grp.marks_elems {P : Pr} (G : Grp P) {H : List Int → Prop} (S : Sub P H) (t : Nat) (ht : t < (ordP P).toNat) :
    gt (markAt (ordP P).toNat (fun k => (num P (prodN P (cseq P H) k)).toNat) (prodU P (cseq P H) (cseq P H).length).toNat) t = true ↔ H (elAt P (t : Int)) := by
  have hV := fun z hz => S.vec z ((G.seq_facts S).2.1 z hz)
  have hpv : ∀ k, Vec P.orders (prodN P (cseq P H) k) := fun k => G.prodR_vec hV _ _ (Nat.le_refl _)
  rw [markAt_true _ _ _ _ ht, G.mem_prods S]
  constructor
  · rintro ⟨j, hj, h⟩
    have hb := num_bd G.v (hpv j)
    refine ⟨(j : Int), by omega, by omega, ?_⟩
    have h2 : num P (prodN P (cseq P H) j) = (t : Int) := by omega
    rw [← h2, elAt_num G.v (hpv j)]; rfl
  · rintro ⟨m, h1, h2, h3⟩
    refine ⟨m.toNat, by omega, ?_⟩
    have h4 : prodN P (cseq P H) m.toNat = elAt P (t : Int) := by
      unfold prodN
      rw [show ((m.toNat : Nat) : Int) = m by omega]
      exact h3.symm
    rw [h4, num_elAt G.v _ (by omega) (by omega)]; omega

/-- the first k numbers of elements in a set -/
noncomputable def elemsTo (P : Pr) (H : List Int → Prop) (k : Nat) : List (List Int) := by
  classical exact (List.range k).filterMap (fun t : Nat => if H (elAt P (t : Int)) then some (elAt P (t : Int)) else none)

theorem elemsTo_succ (P : Pr) (H : List Int → Prop) (k : Nat) : elemsTo P H (k + 1) = elemsTo P H k ++ (by classical exact if H (elAt P (k : Int)) then [elAt P (k : Int)] else []) := by
  unfold elemsTo
  rw [List.range_succ, List.filterMap_append]
  congr 1
  by_cases h : H (elAt P (k : Int)) <;> simp [h]

theorem elemsTo_all (P : Pr) (H : List Int → Prop) : elemsTo P H (ordP P).toNat = elemsIn P H := by
  unfold elemsTo elemsIn
  rfl

theorem elemsTo_len (P : Pr) (H : List Int → Prop) (k : Nat) : (elemsTo P H k).length ≤ k := by
  unfold elemsTo
  have := List.length_filterMap_le (fun t : Nat => by classical exact (if H (elAt P (t : Int)) then some (elAt P (t : Int)) else none)) (List.range k)
  rw [List.length_range] at this
  exact this

end Go.Proofs.YtdklekdpdbjfiaaGreat

/- The reference's list of the elements of a subgroup: spec.l12Elements. -/
namespace Go.Proofs.YtdklekdpdbjfiaaGreat
open Go.RowKit

set_option maxRecDepth 100000 in
set_option maxHeartbeats 8000000 in
theorem l12Elements_ok (P : Pr) (G : Grp P) (w : World) (pv uv : Value) (H : List Int → Prop) (Sp Su : Nat → Prop) (S : Sub P H) (hpv : PresV Sp w pv P) (hu : Rows2 Su w uv (cseq P H)) :
    Calls Tryz.prog 155 #[pv, uv] w (Ret w fun w' v => RowsO w.heap.size w' v (elemsIn P H)) := by
  have hP := G.v
  have hn6 := hP.n6
  have h729 : ordP P ≤ 729 := hP.le729
  have hpos := hP.ordP_pos
  have hl := G.cseq_len S
  have hsq := (G.seq_facts S).1
  have hUV : ∀ z ∈ cseq P H, Vec P.orders z := fun z hz => S.vec z ((G.seq_facts S).2.1 z hz)
  have hmk := G.marks_elems S
  obtain ⟨U, hU⟩ : ∃ U, U = cseq P H := ⟨_, rfl⟩
  rw [← hU] at hl hsq hUV hmk hu
  have hpr := prodU_729 hP hsq U.length (Nat.le_refl _)
  have hol := ordsU_len P U
  have hshape : Valid (shapeP (ordsU P U)) := by
    refine shapeP_valid (by omega) (fun i hi => ?_) ?_
    · rw [ordsU_at P U i (by omega)]
      exact hP.ord _ (hsq.1 _ (gtMem (by omega))).2.1
    · rw [hol, prodTo_ordsU P U U.length (Nat.le_refl _)]; exact hpr.2
  obtain ⟨vo, vp, vc, rfl, h3⟩ := hpv
  have hp0 := PresP.box h3 31
  have hg0 : Ext w (w.alloc (.cells #[vo, vp, vc] 31)) := World.grownBy_alloc _ _ _
  have hu0 := Rows2.ext hu hg0
  have hs0 : (w.alloc (.cells #[vo, vp, vc] 31)).heap.size = w.heap.size + 1 := by simp
  obtain ⟨au, capu, rfl, _, _⟩ := Sl.shape hu
  obtain ⟨vo6, vp6, vc6, _, _, hc0, hc1, hc2, h36⟩ := hp0.at
  simp only [Nat.zero_add] at hc1 hc2
  have hbx : ∀ w', Ext (w.alloc (.cells #[vo, vp, vc] 31)) w' → w'.cell? ⟨w.heap.size, 0, none⟩ = some vo6 ∧ w'.cell? ⟨w.heap.size, 1, none⟩ = some vp6 ∧ w'.cell? ⟨w.heap.size, 2, none⟩ = some vc6 := fun w' h => ⟨h.cell hc0 (by simp), h.cell hc1 (by simp), h.cell hc2 (by simp)⟩
  have HB := Lib.hid hbx; clear hbx
  have hE := l12Order_ok P hP (w.alloc (.cells #[vo, vp, vc] 31)) _ _ U Any Su ⟨_, _, _, rfl, h36⟩ hu0 hsq (by omega)
  have HU := Lib.hid (And.intro hsq (And.intro hUV (And.intro hshape (And.intro hU hol)))); clear hsq hUV hshape hU hol hp0 hu
  go_enter Tryz.func155, Tryz.ntmps155
  go_wp2_with fail
  have HS := Lib.hid hs0; clear hs0 hc0 hc1 hc2
  generalize hw0 : w.alloc (.cells #[vo, vp, vc] 31) = w0 at *
  clear hw0
  refine Calls.mono hE ?_
  rintro e1 w1 ⟨v1, rfl, hg1, rfl⟩
  clear hE
  obtain ⟨hb0, hb1, hb2⟩ := HB.out w1 hg1
  go_wp2_with fail
  clear hb0 hb1 hb2
  refine Calls.mono (l10Order_ok w1 _ P Any hP ⟨_, _, _, rfl, Pres3.ext h36 hg1⟩) ?_
  rintro e2 w2 ⟨v2, rfl, hg2, rfl⟩
  have hg02 := grown_trans hg1 hg2
  obtain ⟨hb0, hb1, hb2⟩ := HB.out w2 hg02
  have hle1 := hg1.size
  have hle2 := hg2.size
  go_wp2_with (first | (at_make; refine wp_make_bools rfl _ _ rfl w2.heap.size (ordP P).toNat w2.heap.size rfl (ordP P) rfl rfl (by omega) (by omega) (Nat.le_refl _) ?_; intro w3 hM3 hg3 hlt3; have hb03 := HB.out w3 (grown_trans hg02 hg3); obtain ⟨hc0, hc1, hc2⟩ := hb03) | fail)
  clear hb0 hb1 hb2 hc0 hc1 hc2
  have hg03 := grown_trans hg02 hg3
  refine Calls.mono (l12Orders_ok P hP w3 _ _ U Any Su ⟨_, _, _, rfl, Pres3.ext h36 hg03⟩ (Rows2.ext hu0 hg03) HU.out.1 (by omega)) ?_
  rintro e4 w4 ⟨ov, rfl, hg4, hO4⟩
  have hOi := hO4.ints (by rw [HU.out.2.2.2.2]; omega)
  obtain ⟨aor, capor, hvo, _, _⟩ := hOi.shape
  subst hvo
  have hg04 := grown_trans hg03 hg4
  have hs2 : w.heap.size < w2.heap.size := by have := HS.out; omega
  have hs4 : w3.heap.size ≤ w4.heap.size := hg4.size
  have hgm : w2.heap.size ≠ w4.heap.size := by omega
  have hE5 : Ext w4 (w4.alloc (.cells #[.slice aor (ordsU P U).length capor, .slice none 0 0, .slice none 0 0] 31)) := World.grownBy_alloc _ _ _
  have hS5 : ∀ k, k < 3 → (w4.alloc (.cells #[.slice aor (ordsU P U).length capor, .slice none 0 0, .slice none 0 0] 31)).cell? ⟨w4.heap.size, k, none⟩ = some (gt [Value.slice aor (ordsU P U).length capor, .slice none 0 0, .slice none 0 0] k) := fun k hk => by
    rw [World.cell?_alloc_at _ _ _ _ rfl]
    rcases (show k = 0 ∨ k = 1 ∨ k = 2 by omega) with rfl | rfl | rfl <;> rfl
  have hO5 : Ints (fun k => w3.heap.size ≤ k) (w4.alloc (.cells #[.slice aor (ordsU P U).length capor, .slice none 0 0, .slice none 0 0] 31)) (.slice aor (ordsU P U).length capor) (ordsU P U) := (ints_of_own hO4 (by rw [HU.out.2.2.2.2]; omega) (fun k hk => (hO4.lt k hk).1)).ext hE5
  have hM5 := (hM3.ext0 hg4).ext0 hE5
  have hE25 := grown_trans hg3 (grown_trans hg4 hE5)
  have hsz5 : (w4.alloc (.cells #[.slice aor (ordsU P U).length capor, .slice none 0 0, .slice none 0 0] 31)).heap.size = w4.heap.size + 1 := by simp
  have HSZ := Lib.hid hsz5; clear hsz5
  go_wp2_with fail
  generalize hw5 : w4.alloc (.cells #[.slice aor (ordsU P U).length capor, .slice none 0 0, .slice none 0 0] 31) = w5 at *
  clear hw5 hO4 hOi hM3
  obtain ⟨N, hN⟩ : ∃ N, N = (ordP P).toNat := ⟨_, rfl⟩
  obtain ⟨f, hf⟩ : ∃ f : Nat → Nat, f = fun k => (num P (prodN P U k)).toNat := ⟨_, rfl⟩
  rw [← hf, ← hN] at hmk
  have HN := Lib.hid (And.intro hf (And.intro hmk hN)); clear hf hmk
  rw [← hN] at hM5 ⊢
  have hNo : (N : Int) = ordP P := by omega
  clear hN
  have HNo := Lib.hid hNo; clear hNo
  have hM0 : BOwn w2.heap.size w5 (.slice (some ⟨w2.heap.size, 0, none⟩) N N) (markAt N f 0) := hM5
  clear hM5
  go_loopw [8] (fun kv wr => ∃ k : Nat, kv = .int .i64 k ∧ (k : Int) ≤ prodU P U U.length ∧ w5.grownBy wr (some w2.heap.size) ∧ BOwn w2.heap.size wr (.slice (some ⟨w2.heap.size, 0, none⟩) N N) (markAt N f k)) (fun kv _ => (prodU P U U.length).toNat - (intOf kv).toNat)
  case atStart => exact ⟨0, rfl, by omega, grown_refl _ _, hM0⟩
  case round =>
    clear hM0
    obtain ⟨k, rfl, hk, hgk, hM⟩ := hrel
    have hE2r : Ext w2 wr := grown_own hE25 hgk (fun j hj hlt => by cases hj; omega)
    have hE0r := grown_trans hg02 hE2r
    by_cases hlt : (k : Int) < prodU P U U.length
    · have hkx : (k : Int) ≤ 729 := by omega
      have hgr : w5.heap.size ≤ wr.heap.size := hgk.size
      have hbr := HB.out wr hE0r
      obtain ⟨hb0, hb1, hb2⟩ := hbr
      have hs0 : wr.cell? ⟨w4.heap.size, 0, none⟩ = some (.slice aor (ordsU P U).length capor) := hgk.cell (hS5 0 (by omega)) (by simp; omega)
      have hs1 : wr.cell? ⟨w4.heap.size, 1, none⟩ = some (.slice none 0 0) := hgk.cell (hS5 1 (by omega)) (by simp; omega)
      have hs2' : wr.cell? ⟨w4.heap.size, 2, none⟩ = some (.slice none 0 0) := hgk.cell (hS5 2 (by omega)) (by simp; omega)
      have hOr : Ints Any wr (.slice aor (ordsU P U).length capor) (ordsU P U) := Ints.mono hO5 (frame_of hgk (fun j hj _ => ⟨trivial, fun e => by cases e; omega⟩))
      have hvA := elAt_vec HU.out.2.2.1 (k : Int) (by omega)
      have hvl : (elAt (shapeP (ordsU P U)) (k : Int)).length = U.length := hvA.1.trans HU.out.2.2.2.2
      have hvb : ∀ i, i < U.length → 0 ≤ gt (elAt (shapeP (ordsU P U)) (k : Int)) i ∧ gt (elAt (shapeP (ordsU P U)) (k : Int)) i ≤ 1000 := fun i hi => by
        have h1 : 0 ≤ gt (elAt (shapeP (ordsU P U)) (k : Int)) i ∧ gt (elAt (shapeP (ordsU P U)) (k : Int)) i < gt (ordsU P U) i := hvA.2 i (by show i < (ordsU P U).length; rw [HU.out.2.2.2.2]; exact hi)
        have h2 : 2 ≤ gt (ordsU P U) i ∧ gt (ordsU P U) i ≤ 7 := HU.out.2.2.1.ord7 i (by show i < (ordsU P U).length; rw [HU.out.2.2.2.2]; exact hi)
        omega
      have hpV : Vec P.orders (prodN P U k) := G.prodR_vec HU.out.2.1 _ _ (Nat.le_refl _)
      have hpl : (prodN P U k).length ≤ 6 := by rw [hpV.1]; omega
      have hnb := num_bd hP hpV
      have hpe : prodR P U (elAt (shapeP (ordsU P U)) (k : Int)) U.length = prodN P U k := rfl
      have hfk : f k = (num P (prodN P U k)).toNat := by rw [HN.out.1]
      have hNo2 := HNo.out
      obtain ⟨n0, n1⟩ := hnb
      obtain ⟨m, hm⟩ : ∃ m, m = num P (prodN P U k) := ⟨_, rfl⟩
      rw [← hm] at n0 n1 hfk
      have hmN : m < N := by omega
      have hmk2 : markAt N f (k + 1) = (markAt N f k).set m.toNat true := by rw [← hfk]; rfl
      have HV := Lib.hid (And.intro hvl (And.intro hvb (And.intro hpV (And.intro hpl (And.intro hpe (And.intro hm hmk2)))))); clear hvl hvb hpV hpl hpe hm hmk2 hvA hfk hNo2
      have hcel := hM.cell m.toNat (by rw [markAt_len]; omega)
      have hfr := hM.frozen m.toNat
      have e1 : ∀ w', Near wr w2.heap.size w' → w'.cell? ⟨w.heap.size, 0, none⟩ = some vo6 := fun w' h => h.cell hb0 (by simp; omega)
      have e2 : ∀ w', Near wr w2.heap.size w' → w'.cell? ⟨w.heap.size, 1, none⟩ = some vp6 := fun w' h => h.cell hb1 (by simp; omega)
      have e3 : ∀ w', Near wr w2.heap.size w' → w'.cell? ⟨w.heap.size, 2, none⟩ = some vc6 := fun w' h => h.cell hb2 (by simp; omega)
      have e4 : ∀ w', Near wr w2.heap.size w' → w'.cell? ⟨w4.heap.size, 0, none⟩ = some (.slice aor (ordsU P U).length capor) := fun w' h => h.cell hs0 (by simp; omega)
      have e5 : ∀ w', Near wr w2.heap.size w' → w'.cell? ⟨w4.heap.size, 1, none⟩ = some (.slice none 0 0) := fun w' h => h.cell hs1 (by simp; omega)
      have e6 : ∀ w', Near wr w2.heap.size w' → w'.cell? ⟨w4.heap.size, 2, none⟩ = some (.slice none 0 0) := fun w' h => h.cell hs2' (by simp; omega)
      clear hb0 hb1 hb2 hs0 hs1 hs2'
      have h3r := Pres3.ext h36 hE0r
      have hur := Rows2.ext hu0 hE0r
      go_wp2
      go_region_held3 (fun w' => Near wr w2.heap.size w') (first | exact Near.of (grown_drew _ _) | exact Near.of (by assumption) | exact Near.store (by assumption) | assumption)
        (first
          | (go_at_call 130; refine Calls.mono (Calls.rel (w0 := wr) (by first | exact grown_drew _ _ | assumption) (l10AtO_ok (ordsU P U) HU.out.2.2.1 _ _ _ _ (k : Int) Any (Ints.ext hOr (by first | exact grown_drew _ _ | assumption)) (by omega) (by omega))) ?_; rintro eE wE ⟨vE, rfl, hgE, hsE, hOE⟩; have hEi := hOE.ints (by rw [HV.out.1]; omega))
          | (go_at_call 215; refine Calls.mono (Calls.rel (w0 := wr) (by assumption) (l12Product_ok P G _ _ _ _ U _ Any Any Any ⟨_, _, _, rfl, Pres3.ext h3r (by assumption)⟩ (Rows2.sub (Rows2.ext hur (by assumption)) (fun _ _ _ => trivial)) hEi HU.out.2.1 (by rw [HV.out.1]; exact Nat.le_refl _) HV.out.2.1)) ?_; rintro eF wF ⟨vF, rfl, hgF, hsF, hOF⟩; rw [HV.out.2.2.2.2.1] at hOF; have hFi := hOF.ints (by have := HV.out.2.2.2.1; omega))
          | (go_at_call 207; refine Calls.mono (Calls.rel (w0 := wr) (by assumption) (l10Number_ok P hP _ _ _ _ Any Any ⟨_, _, _, rfl, Pres3.ext h3r (by assumption)⟩ hFi HV.out.2.2.1)) ?_; rintro eG wG ⟨vG, rfl, hgG, hsG, hvG⟩; rw [← HV.out.2.2.2.2.2.1] at hvG; subst hvG; have hcel2 := hgG.cell hcel (by simp); have hfr2 := (hM.ext0 hgG).frozen m.toNat))
      clear e1 e2 e3 e4 e5 e6
      obtain ⟨hO3, hgs⟩ := (hM.ext0 hgG).store m.toNat true
      have hgn : w5.grownBy (wG.setCell ⟨w2.heap.size, m.toNat, none⟩ (.bool true)) (some w2.heap.size) := grown_trans (grown_trans hgk (grown_of_ext _ hgG)) hgs
      rw [← HV.out.2.2.2.2.2.2] at hO3
      clear hcel hcel2 hfr hfr2 hgs
      go_wp2
      go_roundw
      case rel => exact ⟨k + 1, by go_num, by omega, hgn, hO3⟩
      case measure => simp [intOf]; omega
    · have hke : k = (prodU P U U.length).toNat := by omega
      obtain ⟨wo, rfl⟩ : ∃ wo : World, wo = wr := ⟨_, rfl⟩
      rw [hke] at hM
      have HK := Lib.hid hke; clear hke
      go_wp2
      go_loopw [9, 10] (fun ov tv wr => ∃ (t : Nat) (v4 : Value), v4 = ov ∧ tv = .int .i64 t ∧ t ≤ N ∧ Ext wo wr ∧ RowsO wo.heap.size wr v4 (elemsTo P H t)) (fun _ tv _ => N - (intOf tv).toNat)
      case atStart => exact ⟨0, _, rfl, rfl, by omega, World.grownBy_alloc _ _ _, [], fun _ _ => False, by simp [elemsTo], World.ownsRow_lit wo #[] 0 (Nat.le_refl _) (by decide) rfl, by simp, by simp, by simp [elemsTo]⟩
      case round =>
        obtain ⟨t, v4, rfl, rfl, ht, hgt, hO⟩ := hrel
        by_cases htl : t < N
        · have htl' : (t : Int) < N := by omega
          have hcm := hgt.cell (hM.cell t (by rw [markAt_len]; exact htl)) (by simp)
          have hiff := HN.out.2.1 t htl
          have hst := elemsTo_succ P H t
          have htlen := elemsTo_len P H t
          have hbx := HB.out wr (grown_trans hE0r hgt)
          obtain ⟨hb0, hb1, hb2⟩ := hbx
          cases hq : gt (markAt N f (prodU P U U.length).toNat) t with
          | true =>
            rw [hq] at hcm
            rw [if_pos (hiff.1 hq)] at hst
            have htN := HNo.out
            have hvE := elAt_vec hP (t : Int) (by omega)
            have hvl : (elAt P (t : Int)).length = P.orders.length := hvE.1
            have HST := Lib.hid (And.intro hst (And.intro hvl htN)); clear hst hvl hiff hq hvE htN
            have hN729 : N ≤ 729 := by have := HST.out.2.2; omega
            go_wp2_with fail
            clear hb0 hb1 hb2 hcm
            refine Calls.mono (l10At_ok P hP wr _ (t : Int) Any ⟨_, _, _, rfl, Pres3.ext h36 (grown_trans hE0r hgt)⟩ (by omega) (by omega)) ?_
            rintro eA wA ⟨vA, rfl, hgA, hOA⟩
            have hYO : OwnIn (From wr.heap.size) wA vA (elAt P (t : Int)) := OwnIn.of hOA (by rw [HST.out.2.1]; omega) (fun j h1 _ => h1)
            obtain ⟨ay, capy, hvy, _, _⟩ := hYO.ints.shape
            subst hvy
            go_wp2_with (first | (at_builtin; refine wp_app_row rfl _ _ rfl wo.heap.size wr wA v4 _ (elemsTo P H t) (elAt P (t : Int)) rfl hO hgA hYO rfl rfl (by omega) hgt.size ?_; intro v5 w6 hO6 hg6 hg7; have hgw6 := hO.extw hgt (Nat.le_refl _) hg6) | fail)
            go_roundw
            case rel => exact ⟨t + 1, v5, rfl, by go_num, by omega, hgw6, by rw [HST.out.1]; exact hO6⟩
            case measure => simp [intOf]; omega
          | false =>
            rw [hq] at hcm
            rw [if_neg (fun h => by have := hiff.2 h; rw [hq] at this; cases this), List.append_nil] at hst
            have HST := Lib.hid hst; clear hst hiff hq
            have hN729 : N ≤ 729 := by have := HNo.out; omega
            go_wp2
            go_roundw
            case rel => exact ⟨t + 1, v4, rfl, by go_num, by omega, hgt, by rw [HST.out]; exact hO⟩
            case measure => simp [intOf]; omega
        · have hte : t = N := by omega
          have hel : elemsTo P H t = elemsIn P H := by rw [hte, HN.out.2.2]; exact elemsTo_all P H
          have htlen := elemsTo_len P H t
          rw [hel] at hO htlen
          have hN729 : N ≤ 729 := by have := HNo.out; omega
          obtain ⟨az, capz, hvz, _, _⟩ := SlD.shape (hO.toD (by omega))
          subst hvz
          have HX := Lib.hid (And.intro hte hel); clear hte hel
          go_wp2
          go_ret
          exact ⟨_, rfl, grown_trans hg0 (grown_trans hE0r hgt), hO.weak (by have := hE0r.size; have := HS.out; omega)⟩

end Go.Proofs.YtdklekdpdbjfiaaGreat

/- spec.l19Table: the numbers of all products. -/
namespace Go.Proofs.YtdklekdpdbjfiaaGreat
open Go.RowKit

set_option maxRecDepth 100000 in
set_option maxHeartbeats 4000000 in
theorem l19Table_ok (P : Pr) (G : Grp P) (w : World) (pv : Value) (Sp : Nat → Prop) (hpv : PresV Sp w pv P) :
    Calls Tryz.prog 142 #[pv] w (Ret w fun w' v => Rows2 (From w.heap.size) w' v (tabL P)) := by
  have hP := G.v
  have hn6 := hP.n6
  have h729 : ordP P ≤ 729 := hP.le729
  have hpos := hP.ordP_pos
  obtain ⟨vo, vp, vc, rfl, h3⟩ := hpv
  have hp0 := PresP.box h3 31
  have hg0 : Ext w (w.alloc (.cells #[vo, vp, vc] 31)) := World.grownBy_alloc _ _ _
  obtain ⟨vo6, vp6, vc6, _, _, hc0, hc1, hc2, h36⟩ := hp0.at
  simp only [Nat.zero_add] at hc1 hc2
  have hbx : ∀ w', Ext (w.alloc (.cells #[vo, vp, vc] 31)) w' → w'.cell? ⟨w.heap.size, 0, none⟩ = some vo6 ∧ w'.cell? ⟨w.heap.size, 1, none⟩ = some vp6 ∧ w'.cell? ⟨w.heap.size, 2, none⟩ = some vc6 := fun w' h => ⟨h.cell hc0 (by simp), h.cell hc1 (by simp), h.cell hc2 (by simp)⟩
  have hs0 : (w.alloc (.cells #[vo, vp, vc] 31)).heap.size = w.heap.size + 1 := by simp
  have HB := Lib.hid (And.intro hbx hs0); clear hbx hs0 hp0
  obtain ⟨N, hN⟩ : ∃ N, N = (ordP P).toNat := ⟨_, rfl⟩
  have hNo : ordP P = (N : Int) := by omega
  have hNb : N ≤ 729 := by omega
  have hat : ∀ i, i < N → Vec P.orders (elAt P i) := fun i hi => G.elAtV (by omega)
  have HN := Lib.hid (And.intro hN (And.intro hNo hat)); clear hN hNo hat h729 hpos
  go_enter Tryz.func142, Tryz.ntmps142
  go_wp2
  clear hc0 hc1 hc2
  generalize hw0 : w.alloc (.cells #[vo, vp, vc] 31) = w0 at *
  clear hw0
  go_loopw [3, 4] (fun ov iv wr => ∃ (i : Nat) (v4 : Value), v4 = ov ∧ iv = .int .i64 i ∧ i ≤ N ∧ Ext w0 wr ∧ SlO (fun F w u (x : List Int) => Ints F w u x) 22 w0.heap.size wr v4 ((tabL P).take i)) (fun _ iv _ => N - (intOf iv).toNat)
  case atStart => exact ⟨0, _, rfl, rfl, by omega, World.grownBy_alloc _ _ _, by rw [← HB.out.2]; exact ⟨[], fun _ _ => False, rfl, World.ownsRow_lit w0 #[] 0 (Nat.le_refl _) (by decide) rfl, by simp, by simp, by simp⟩⟩
  case round =>
    obtain ⟨i, v4, rfl, rfl, hi, hg, hO⟩ := hrel
    obtain ⟨hc0, hc1, hc2⟩ := HB.out.1 wr hg
    have hor := l10Order_ok wr _ P Any hP ⟨_, _, _, rfl, Pres3.ext h36 hg⟩
    rw [HN.out.2.1] at hor
    go_wp2_with fail
    clear hc0 hc1 hc2
    refine Calls.mono hor ?_
    rintro eo wo ⟨vo', rfl, hgo, rfl⟩
    clear hor
    have hgo0 := grown_trans hg hgo
    have hOo := SlO.ext rdInts hO hgo
    clear hO
    by_cases hlt : i < N
    · have hlt' : (i : Int) < N := by omega
      have hxV := HN.out.2.2 i hlt
      go_wp2
      have hga : Ext wo (wo.alloc (.cells #[] 2)) := World.grownBy_alloc _ _ _
      go_loopw [5, 6] (fun rv jv wr => ∃ (j : Nat) (v7 : Value), v7 = rv ∧ jv = .int .i64 j ∧ j ≤ N ∧ Ext wo wr ∧ Own wo.heap.size wr v7 ((gt (tabL P) i).take j)) (fun _ jv _ => N - (intOf jv).toNat)
      case atStart => exact ⟨0, _, rfl, rfl, by omega, hga, World.ownsRow_lit wo #[] 0 (Nat.le_refl _) (by decide) rfl⟩
      case round =>
        obtain ⟨j, v7, rfl, rfl, hj, hgj, hR⟩ := hrel
        have hg0j := grown_trans hgo0 hgj
        have hTl : (gt (tabL P) i).length = N := by rw [tabL_row (by rw [← HN.out.1]; exact hlt), ← HN.out.1]; simp
        obtain ⟨hc0, hc1, hc2⟩ := HB.out.1 wr hg0j
        have hor := l10Order_ok wr _ P Any hP ⟨_, _, _, rfl, Pres3.ext h36 hg0j⟩
        rw [HN.out.2.1] at hor
        go_wp2_with fail
        clear hc0 hc1 hc2
        refine Calls.mono hor ?_
        rintro ep wp ⟨vp', rfl, hgp, rfl⟩
        clear hor
        have hgjp := grown_trans hgj hgp
        have hg0p := grown_trans hg0j hgp
        have hRp := hR.ext0 hgp
        clear hR
        by_cases hltj : j < N
        · have hltj' : (j : Int) < N := by omega
          have hyV := HN.out.2.2 j hltj
          have hmV := G.mulV hxV hyV
          obtain ⟨q, hq⟩ : ∃ q, q = num P (rMul P (elAt P i) (elAt P j)) := ⟨_, rfl⟩
          have hstep : (gt (tabL P) i).take (j + 1) = (gt (tabL P) i).take j ++ [q] := by
            rw [take_succ_gt _ j (by omega), tabL_at (by rw [← HN.out.1]; exact hlt) (by rw [← HN.out.1]; exact hltj), hq]
            congr 2
            unfold tb
            have := num_bd hP hmV
            omega
          have hlen : ((gt (tabL P) i).take j).length ≤ 1000000 := by rw [List.length_take]; omega
          have hxl : (elAt P (i : Int)).length ≤ 6 := by rw [hxV.1]; exact hn6
          have hyl : (elAt P (j : Int)).length ≤ 6 := by rw [hyV.1]; exact hn6
          have hml : (rMul P (elAt P i) (elAt P j)).length ≤ 6 := by rw [hmV.1]; exact hn6
          obtain ⟨x, hx⟩ : ∃ x, x = elAt P (i : Int) := ⟨_, rfl⟩
          obtain ⟨y, hy⟩ : ∃ y, y = elAt P (j : Int) := ⟨_, rfl⟩
          obtain ⟨z, hz⟩ : ∃ z, z = rMul P (elAt P i) (elAt P j) := ⟨_, rfl⟩
          rw [← hz] at hmV hq hml
          rw [← hx, ← hy] at hz
          have hxV' := hxV
          rw [← hx] at hxV' hxl
          rw [← hy] at hyV hyl
          have HY := Lib.hid (And.intro (And.intro hxV' (And.intro hyV hmV)) (And.intro (And.intro hxl (And.intro hyl hml)) (And.intro hq (And.intro hstep (And.intro hlen (And.intro hx (And.intro hy hz)))))))
          clear hxV' hyV hmV hxl hyl hml hq hstep hlen hx hy hz hTl
          have e1 : ∀ w', Ext wo w' → w'.cell? ⟨w.heap.size, 0, none⟩ = some vo6 := fun w' h => (HB.out.1 w' (grown_trans hgo0 h)).1
          have e2 : ∀ w', Ext wo w' → w'.cell? ⟨w.heap.size, 1, none⟩ = some vp6 := fun w' h => (HB.out.1 w' (grown_trans hgo0 h)).2.1
          have e3 : ∀ w', Ext wo w' → w'.cell? ⟨w.heap.size, 2, none⟩ = some vc6 := fun w' h => (HB.out.1 w' (grown_trans hgo0 h)).2.2
          have h3p := Pres3.ext h36 hgo0
          go_wp2
          go_region_held3 (fun w' => Ext wo w') (first | exact grown_trans hgjp (grown_drew _ _) | assumption | exact grown_trans hgD (World.grownBy_alloc _ _ _))
            (first
              | (revert hgB; intro hgB; go_at_call 176; refine Calls.mono (Calls.rel2 (w0 := wo) (by assumption) (l08Mul_ok P hP _ _ _ _ x y Any Any Any ⟨_, _, _, rfl, Pres3.ext h3p (by assumption)⟩ (Ints.ext hAi hgB2) hBi HY.out.1.1 HY.out.1.2.1)) ?_; rintro eC wC ⟨vC, rfl, hgC, hgC2, hsC, hOC⟩; rw [← HY.out.2.2.2.2.2.2.2] at hOC; have hCi : Ints Any wC vC z := ints_of_own hOC (by have := HY.out.2.1.2.2; omega) (fun _ _ => trivial); obtain ⟨aC, capC, hvC, _, _⟩ := hCi.shape; subst hvC)
              | (go_at_call 207; refine Calls.mono (Calls.rel2 (w0 := wo) (by assumption) (l10Number_ok P hP _ _ _ z Any Any ⟨_, _, _, rfl, Pres3.ext h3p (by assumption)⟩ hCi HY.out.1.2.2)) ?_; rintro eD wD ⟨vD, rfl, hgD, hgD2, hsD, hvD⟩; rw [← HY.out.2.2.1] at hvD; subst hvD)
              | (revert hgA; intro hgA; go_at_call 130; refine Calls.mono (Calls.rel2 (w0 := wo) (by assumption) (l10At_ok P hP _ _ (j : Int) Any ⟨_, _, _, rfl, Pres3.ext h3p (by assumption)⟩ (by omega) (by omega))) ?_; rintro eB wB ⟨vB, rfl, hgB, hgB2, hsB, hOB⟩; rw [← HY.out.2.2.2.2.2.2.1] at hOB; have hBi : Ints Any wB vB y := ints_of_own hOB (by have := HY.out.2.1.2.1; omega) (fun _ _ => trivial); obtain ⟨aB, capB, hvB, _, _⟩ := hBi.shape; subst hvB)
              | (go_at_call 130; refine Calls.mono (Calls.rel2 (w0 := wo) (by assumption) (l10At_ok P hP _ _ (i : Int) Any ⟨_, _, _, rfl, Pres3.ext h3p (by assumption)⟩ (by omega) (by omega))) ?_; rintro eA wA ⟨vA, rfl, hgA, hgA2, hsA, hOA⟩; rw [← HY.out.2.2.2.2.2.1] at hOA; have hAi : Ints Any wA vA x := ints_of_own hOA (by have := HY.out.2.1.1; omega) (fun _ _ => trivial); obtain ⟨aA, capA, hvA, _, _⟩ := hAi.shape; subst hvA)
              | (refine step_app_int rfl _ _ rfl wo.heap.size _ ((gt (tabL P) i).take j) q rfl wD (hRp.ext0 (grown_trans (grown_trans (grown_trans (grown_trans (grown_drew _ _) hgA2) hgB2) hgC2) hgD2)) rfl rfl HY.out.2.2.2.2.1 hgD.size ?_; intro v5 w5 hO5 hg5; have hgw5 : Ext wo w5 := grown_own hgD hg5 (fun j hj hlt => by have := (hRp.lt j hj).1; omega)))
          clear e1 e2 e3
          rw [← HY.out.2.2.2.1] at hO5
          go_wp2
          go_roundw
          case rel => exact ⟨j + 1, v5, rfl, by go_num, by omega, hgw5, hO5⟩
          case measure => simp [intOf]; omega
        · have hje : j = N := by omega
          subst hje
          have hR2 : Own wo.heap.size wp v7 (gt (tabL P) i) := by rw [List.take_of_length_le (by omega)] at hRp; exact hRp
          have hrow : Ints (From wo.heap.size) wp v7 (gt (tabL P) i) := ints_of_own hR2 (by omega) (fun k hk => (hR2.lt k hk).1)
          obtain ⟨a7, c7, hv7, _, _⟩ := hrow.shape
          subst hv7
          have hstep : (tabL P).take (i + 1) = (tabL P).take i ++ [gt (tabL P) i] := take_succ_gt _ i (by rw [tabL_len, ← HN.out.1]; exact hlt)
          have hlen : ((tabL P).take i).length ≤ 1000000 := by rw [List.length_take]; omega
          have HZ := Lib.hid (And.intro hstep hlen); clear hstep hlen hTl hRp
          go_wp2_with (first | (at_builtin; refine wp_app_one rdInts 23 22 (.slice none 0 0) 24 und_rows Tryz.infoRow rfl (by decide) rfl _ _ rfl w0.heap.size wo wp v4 _ ((tabL P).take i) (gt (tabL P) i) rfl hOo hgjp hrow rfl rfl HZ.out.2 hgo0.size ?_; intro v5 w5 hO5 hg5 hg5b) | fail)
          have hgw5 : Ext w0 w5 := grown_own hgo0 hg5 (fun b hb hlt => by have := (hOo.lt b hb).1; omega)
          rw [← HZ.out.1] at hO5
          clear hOo hrow hg5 hg5b hR2
          go_roundw
          case rel => exact ⟨i + 1, v5, rfl, by go_num, by omega, hgw5, hO5⟩
          case measure => simp [intOf]; omega
    · have hie : i = N := by omega
      subst hie
      have hfin : SlO (fun F w u (x : List Int) => Ints F w u x) 22 w.heap.size wo v4 (tabL P) := by
        rw [List.take_of_length_le (by rw [tabL_len, ← HN.out.1]; exact Nat.le_refl _)] at hOo
        exact hOo.weak (by have := HB.out.2; omega)
      have hrows : Rows2 (From w.heap.size) wo v4 (tabL P) := rows_of_slO hfin (by rw [tabL_len, ← HN.out.1]; omega)
      clear hOo hfin
      go_wp2
      go_ret
      exact ⟨_, rfl, grown_trans hg0 hgo0, hrows⟩

end Go.Proofs.YtdklekdpdbjfiaaGreat

/- spec.l19Span: the mask of the subgroup that some elements generate. -/
namespace Go.Proofs.YtdklekdpdbjfiaaGreat
open Go.RowKit

def natI (q : List Nat) : List Int := q.map (fun t : Nat => (t : Int))
theorem natI_len (q : List Nat) : (natI q).length = q.length := by unfold natI; rw [List.length_map]
theorem natI_gt {q : List Nat} {k : Nat} (h : k < q.length) : gt (natI q) k = ((gt q k : Nat) : Int) := by unfold natI; exact gt_map _ _ _ h
theorem natI_app (q : List Nat) (y : Nat) : natI (q ++ [y]) = natI q ++ [(y : Int)] := by unfold natI; rw [List.map_append]; rfl

theorem wp_app_int {ops : Array Oper} {rest : List Oper} {o : Oper} {a : Act} {Q : Exit → Act → World → Prop} {w : World} (hgd : o.guard = none) (s x : Operand)
    (ho : o.op = Op.call { callee := Callee.builtin Builtin.append, args := #[s, x], argTypes := #[22, 22] }) (B : Nat) (v : Value) (l : List Int) (y : Int) (hs : a.eval s = v) (w2 : World) (hown : Own B w2 v l)
    (hw : w = w2.alloc (.cells #[.int .i64 y] 2)) (hx : a.eval x = .slice (some ⟨w2.heap.size, 0, none⟩) 1 1) (hlen : l.length ≤ 1000000) (hbase : B ≤ w2.heap.size)
    (h : ∀ v' w', Own B w' v' (l ++ [y]) → w2.grownBy w' v.ownBlock → wpList Tryz.prog ops Q rest (a.put o.dst v') w') :
    wpList Tryz.prog ops Q (o :: rest) a w :=
  wp_app_v 22 2 (.int .i64 0) 8 und_ints Tryz.infoInt rfl (by decide) hgd s x ho B w2 v (.int .i64 y) (l.map (Value.int .i64)) hs hown.v hw rfl hx (by rw [List.length_map]; exact hlen) hbase
    (fun v' w' h1 h2 => h v' w' (Own.of (by rw [List.map_append]; exact h1)) h2)

/-- the reference's test of one bit -/
theorem bit_rem (m t : Nat) : ((m : Int) / 2 ^ t).tmod 2 = if m.testBit t then 1 else 0 := by
  have e : ((m : Int) / 2 ^ t) = ((m / 2 ^ t : Nat) : Int) := by rw [Int.natCast_ediv, Int.natCast_pow]; rfl
  rw [e, Nat.testBit_eq_decide_div_mod_eq, Int.tmod_eq_emod_of_nonneg (Int.natCast_nonneg _)]
  by_cases h : m / 2 ^ t % 2 = 1
  · simp [h]; omega
  · have : m / 2 ^ t % 2 = 0 := by omega
    simp [this]; omega
theorem shl_oneI (t : Nat) (ht : t < 32) : IntKind.i64.wrap (2 ^ t) = ((2 ^ t : Nat) : Int) := by
  have h1 : (2 : Nat) ^ t < 2 ^ 32 := Nat.pow_lt_pow_right (by decide) ht
  have e : ((2 : Int) ^ t) = ((2 ^ t : Nat) : Int) := by rw [Int.natCast_pow]; rfl
  rw [e]
  obtain ⟨q, hq⟩ : ∃ q, q = 2 ^ t := ⟨_, rfl⟩
  rw [← hq] at h1 ⊢
  exact IntWalk.i64_in _ ⟨by omega, by omega⟩

set_option maxRecDepth 100000 in
set_option maxHeartbeats 4000000 in
theorem l19Span_ok (P : Pr) (G : Grp P) (w : World) (tv gv : Value) (gs : List Nat) (S Sg : Nat → Prop) (h32 : ordP P ≤ 32) (ht : Rows2 S w tv (tabL P)) (hgv : Ints Sg w gv (natI gs)) (hg : ∀ g ∈ gs, g < (ordP P).toNat) (hgl : gs.length ≤ 100000) :
    Calls Tryz.prog 204 #[tv, gv] w (Ret w fun _ v => v = .int .i64 ((msk P (genN P gs) : Nat) : Int)) := by
  obtain ⟨at', capt, rfl, _, _⟩ := Sl.shape ht
  obtain ⟨ag, capg, rfl, _, _⟩ := hgv.shape
  have hpos := G.v.ordP_pos
  obtain ⟨N, hN⟩ : ∃ N, N = (ordP P).toNat := ⟨_, rfl⟩
  have hN32 : N ≤ 32 := by omega
  have hlen : (tabL P).length = N := by rw [tabL_len, hN]
  have hgnl := natI_len gs
  have hgI : Ints Sg w (.slice ag gs.length capg) (natI gs) := by rw [← hgnl]; exact hgv
  have htN : Rows2 S w (.slice at' N capt) (tabL P) := by rw [← hlen]; exact ht
  rw [hlen, hgnl]
  have hB := Lib.hid (And.intro hN (And.intro hlen (And.intro hg hgnl))); clear hN hlen hg hgnl hgv ht hpos
  go_enter Tryz.func204, Tryz.ntmps204
  go_wp2
  go_loopw [5, 6, 7] (fun mv qv kv wr => ∃ (q : List Nat) (k m : Nat) (v6 : Value), mv = .int .i64 (m : Int) ∧ v6 = qv ∧ kv = .int .i64 k ∧ k ≤ q.length ∧ Ext w wr ∧ Own w.heap.size wr v6 (natI q) ∧ Hid (Spn P gs q k 0) ∧ Hid (Bits m q)) (fun _ _ kv _ => 33 - (intOf kv).toNat)
  case atStart => exact ⟨[0], 0, 1, _, rfl, rfl, rfl, by simp, World.grownBy_alloc _ _ _, World.ownsRow_lit w #[.int .i64 0] 1 (Nat.le_refl _) (by decide) rfl, Lib.hid (G.spn_start gs), Lib.hid (fun t => by
    rw [show (1 : Nat) = 2 ^ 0 by rfl, bit_pow, decide_eq_true_iff]; simp; omega)⟩
  case round =>
    obtain ⟨q, k, m, v6, rfl, rfl, rfl, hk, hgw, hO, hS, hM⟩ := hrel
    have hql := hS.out.len
    rw [← hB.out.1] at hql
    have hnl := natI_len q
    have hqi := hO.ints (by omega)
    obtain ⟨aq, capq, hvq, _, _⟩ := hqi.shape
    rw [hnl] at hvq
    subst hvq
    by_cases hlt : k < q.length
    · have hlt' : (k : Int) < q.length := by omega
      have hmm := Lib.hid (And.intro hS hM)
      go_wp2
      go_loopw [5, 6, 8] (fun mv qv iv wr => ∃ (q : List Nat) (i m : Nat) (v6 : Value), mv = .int .i64 (m : Int) ∧ v6 = qv ∧ iv = .int .i64 i ∧ i ≤ gs.length ∧ k < q.length ∧ Ext w wr ∧ Own w.heap.size wr v6 (natI q) ∧ Hid (Spn P gs q k i) ∧ Hid (Bits m q)) (fun _ _ iv _ => gs.length - (intOf iv).toNat)
      case atStart => exact ⟨q, 0, m, _, rfl, rfl, rfl, by omega, hlt, hgw, hO, hmm.out.1, hmm.out.2⟩
      case round =>
        clear hO hS hM hmm hlt hlt' hk hgw hql hnl hqi
        obtain ⟨q, i, m, v6, rfl, rfl, rfl, hi, hlt, hgw, hO, hS, hM⟩ := hrel
        have hql := hS.out.len
        rw [← hB.out.1] at hql
        have hnl := natI_len q
        have hqi := hO.ints (by omega)
        obtain ⟨aq, capq, hvq, _, _⟩ := hqi.shape
        rw [hnl] at hvq
        subst hvq
        have hlt' : (k : Int) < q.length := by omega
        by_cases hil : i < gs.length
        · have hil' : (i : Int) < gs.length := by omega
          obtain ⟨bq, oq, hbq, _, _, hcq⟩ := Ints.at (show Sl IntEl _ wr (.slice aq q.length capq) (natI q) by rw [← hnl] at hqi ⊢; exact hqi) k (by omega)
          subst hbq
          rw [natI_gt hlt] at hcq
          obtain ⟨bg, og, hbg, _, _, hcg⟩ := Ints.at (Ints.ext hgI hgw) i (by rw [natI_len]; exact hil)
          subst hbg
          rw [natI_gt hil] at hcg
          have ha := (hS.out.rng _ (gtMem hlt)).1
          have hb := hB.out.2.2.1 _ (gtMem hil)
          obtain ⟨bt, ot, a2, cap2, hbt, _, _, hct, hrt⟩ := Rows2.at (Rows2.ext htN hgw) (gt q k) (by rw [hB.out.2.1, hB.out.1]; exact ha)
          subst hbt
          have hrl : (gt (tabL P) (gt q k)).length = N := by rw [tabL_row ha, hB.out.1]; simp
          obtain ⟨br, or', hbr, _, _, hcr⟩ := Ints.at hrt (gt gs i) (by rw [hrl, hB.out.1]; exact hb)
          subst hbr
          rw [hrl] at hct
          rw [tabL_at ha hb] at hcr
          have htb := (G.tb_lt ha hb).1
          obtain ⟨a, haa⟩ : ∃ a, a = gt q k := ⟨_, rfl⟩
          obtain ⟨b, hbb⟩ : ∃ b, b = gt gs i := ⟨_, rfl⟩
          rw [← haa] at hcq hct hcr ha htb
          rw [← hbb] at hcg hcr hb htb
          obtain ⟨y, hy⟩ : ∃ y, y = tb P a b := ⟨_, rfl⟩
          rw [← hy] at hcr htb
          have haN : a < N := by rw [hB.out.1]; exact ha
          have hbN : b < N := by rw [hB.out.1]; exact hb
          have hyN : y < N := by rw [hB.out.1]; exact htb
          have haN' : (a : Int) < N := by omega
          have hbN' : (b : Int) < N := by omega
          have HY := Lib.hid (And.intro haa (And.intro hbb hy)); clear haa hbb hy ha hb htb hrl
          go_wp2
          go_quiet (fail)
          rename_i nq _
          clear hcq hcg hct hcr hqi hrt
          have hgq : Ext w (wr.drewN nq) := grown_trans hgw (grown_drewN _ _ _)
          have hOq : Own w.heap.size (wr.drewN nq) (.slice (some ⟨bq, oq, none⟩) q.length capq) (natI q) := hO
          generalize wr.drewN nq = wq at *
          clear hO hgw
          have hm32 : m < 4294967296 := by
            have h1 : m < 2 ^ N := Nat.lt_pow_two_of_testBit _ (fun t ht => by
              rw [Bool.eq_false_iff]
              intro e
              have := (hS.out.rng t ((hM.out t).1 e)).1
              rw [← hB.out.1] at this
              omega)
            exact Nat.lt_of_lt_of_le h1 (Nat.pow_le_pow_right (n := 2) (by decide) hN32)
          have hrem := bit_rem m y
          cases hbit : m.testBit y with
          | true =>
            rw [hbit] at hrem
            have hrem : ((m : Int) / 2 ^ y).tmod 2 = 1 := hrem
            have hS2 := Lib.hid (hS.out.skip (by rw [← HY.out.1, ← HY.out.2.1, ← HY.out.2.2]; exact (hM.out y).1 hbit))
            clear hS hbit
            go_wp2
            clear hrem
            go_roundw
            case rel => exact ⟨q, i + 1, m, _, rfl, rfl, by go_num, by omega, hlt, hgq, hOq, hS2, hM⟩
            case measure => simp [intOf]; omega
          | false =>
            rw [hbit] at hrem
            have hrem : ((m : Int) / 2 ^ y).tmod 2 = 0 := hrem
            have hyq : ¬ y ∈ q := fun h => by rw [(hM.out y).2 h] at hbit; cases hbit
            have hS2 := G.spn_app hS.out hB.out.2.2.1 hlt hil (by rw [← HY.out.1, ← HY.out.2.1, ← HY.out.2.2]; exact hyq)
            rw [← HY.out.1, ← HY.out.2.1, ← HY.out.2.2] at hS2
            have hM2 := hM.out.app hyq
            have hshl := shl_oneI y (by omega)
            have hp32 : (2 : Nat) ^ y < 2 ^ 32 := Nat.pow_lt_pow_right (by decide) (by omega)
            obtain ⟨p, hp⟩ : ∃ p, p = 2 ^ y := ⟨_, rfl⟩
            rw [← hp] at hshl hM2 hp32
            have hadd : IntKind.i64.wrap ((m : Int) + (p : Int)) = ((m + p : Nat) : Int) := by
              rw [IntWalk.i64_in _ ⟨by omega, by omega⟩]; omega
            have hal : (natI q).length ≤ 1000000 := by omega
            have happ := natI_app q y
            have HS2 := Lib.hid (And.intro hS2 (And.intro hM2 (And.intro hal happ)))
            clear hS hbit hyq hS2 hM2 hp hp32 hM hal happ
            go_wp2_with (first | (at_builtin; refine wp_app_int rfl _ _ rfl w.heap.size _ (natI q) (y : Int) rfl wq hOq rfl rfl HS2.out.2.2.1 hgq.size ?_; intro v5 w5 hO5 hg5; have hgw5 := grown_own hgq hg5 (fun j hj hlt => by have := (hOq.lt j hj).1; omega)) | fail)
            clear hrem hshl hadd
            go_roundw
            case rel => exact ⟨q ++ [y], i + 1, m + p, _, rfl, rfl, by go_num, by omega, by simp; omega, hgw5, by rw [HS2.out.2.2.2]; exact hO5, Lib.hid HS2.out.1, Lib.hid HS2.out.2.1⟩
            case measure => simp [intOf]; omega
        · have hie : i = gs.length := by omega
          subst hie
          have hS2 := Lib.hid hS.out.next
          clear hS
          go_wp2
          go_roundw
          case rel => exact ⟨q, k + 1, m, _, rfl, rfl, by go_num, by omega, hgw, hO, hS2, hM⟩
          case measure => simp [intOf]; omega
    · have hke : k = q.length := by omega
      have hend := G.spn_end hB.out.2.2.1 (by rw [← hke]; exact hS.out) hM.out
      have hnk : ¬ (k : Int) < q.length := by omega
      have HE := Lib.hid hend; clear hend hS hM hke hlt
      go_wp2
      go_ret
      exact ⟨_, rfl, hgw, congrArg (fun z : Nat => Value.int .i64 (z : Int)) HE.out⟩

end Go.Proofs.YtdklekdpdbjfiaaGreat

/- spec.l19Sequence: the sequence of the subgroup that a mask tells. -/
namespace Go.Proofs.YtdklekdpdbjfiaaGreat
open Go.RowKit

def dmk (n : Nat) (L : List (List Int)) : List Bool := (List.range n).map (fun d => L.any (fun y => dep y == d))
theorem dmk_len (n : Nat) (L : List (List Int)) : (dmk n L).length = n := by unfold dmk; simp
theorem dmk_nil (n : Nat) : dmk n [] = List.replicate n false := by
  refine List.ext_getElem (by simp [dmk]) (fun i h1 h2 => ?_)
  simp [dmk]
theorem dmk_app (n : Nat) (L : List (List Int)) (x : List Int) : (dmk n L).set (dep x) true = dmk n (L ++ [x]) := by
  refine List.ext_getElem (by simp [dmk]) (fun i h1 h2 => ?_)
  rw [List.getElem_set]
  unfold dmk
  simp only [List.getElem_map, List.getElem_range, List.any_append, List.any_cons, List.any_nil, Bool.or_false]
  by_cases he : dep x = i
  · simp [he]
  · have : (dep x == i) = false := by simpa using he
    rw [if_neg he, this, Bool.or_false]
theorem dmk_at {n d : Nat} {L : List (List Int)} (hd : d < n) : gt (dmk n L) d = true ↔ ∃ y ∈ L, dep y = d := by
  rw [gt_eq _ _ (by rw [dmk_len]; exact hd)]
  simp [dmk]

theorem ShQ.rowsB {bad : Nat → Prop} {B : Nat} {w : World} {v : Value} {xs : List (List Int)} (h : ShQ bad B w v xs) (hb : ∀ k, bad k → k < B) : Rows2 (fun k => ¬ bad k) w v xs := by
  obtain ⟨vs, hl, hq, hr⟩ := h
  rcases hq with ⟨rfl, rfl⟩ | ⟨g, off, cap, cur, rfl, hB, hg, hnc, hcm, hsz, hc⟩
  · have : xs = [] := List.eq_nil_of_length_eq_zero (by simpa using hl.symm)
    subst this
    exact ⟨none, 0, rfl, ⟨by simp, by simp, fun _ => rfl⟩, fun i hi => by simp at hi⟩
  · have hgs : g < w.heap.size := (Array.getElem?_eq_some_iff.1 hg).1
    have hcm2 : cap ≤ 9223372036854775807 := by unfold maxLen at hcm; omega
    refine ⟨_, cap, by rw [hl], ⟨by omega, by omega, fun h => by cases h⟩, fun i hi => ⟨g, off, gt vs i, rfl, fun h => by have := hb g h; omega, hgs, ?_, Ints.sub (hr i hi) (fun k hk _ => hk.1)⟩⟩
    simp only [World.cell?, hg, Option.isSome_none, Bool.false_eq_true, if_false]
    exact hc i (by omega)

/-- fits as far as the depths below e tell -/
def FitE (L : List (List Int)) (d : Nat) (x : List Int) (e : Nat) : Prop := dep x = d ∧ gt x d = 1 ∧ ∀ e', d < e' → e' < e → (∃ y ∈ L, dep y = e') → gt x e' = 0
theorem fitE_end (P : Pr) (L : List (List Int)) (d : Nat) (x : List Int) : FitE L d x P.orders.length ↔ Fits P L d x := Iff.rfl
theorem fitE_step {L : List (List Int)} {d : Nat} {x : List Int} {e : Nat} (hde : d < e) : FitE L d x (e + 1) ↔ FitE L d x e ∧ ((∃ y ∈ L, dep y = e) → gt x e = 0) :=
  ⟨fun ⟨h1, h2, h3⟩ => ⟨⟨h1, h2, fun e' a b => h3 e' a (by omega)⟩, h3 e hde (by omega)⟩, fun ⟨⟨h1, h2, h3⟩, h4⟩ => ⟨h1, h2, fun e' a b => by
    rcases Nat.lt_succ_iff_lt_or_eq.1 b with h | h
    · exact h3 e' a h
    · subst h; exact h4⟩⟩

open Classical in
noncomputable def fitT (P : Pr) (L : List (List Int)) (d k : Nat) : List (List Int) := (L.take k).filter (fun x => decide (Fits P L d x))
theorem fitT_yes {P : Pr} {L : List (List Int)} {d k : Nat} (hk : k < L.length) (h : Fits P L d (gt L k)) : fitT P L d (k + 1) = fitT P L d k ++ [gt L k] := by
  unfold fitT; rw [take_succ_gt L k hk, List.filter_append]; simp [h]
theorem fitT_no {P : Pr} {L : List (List Int)} {d k : Nat} (hk : k < L.length) (h : ¬ Fits P L d (gt L k)) : fitT P L d (k + 1) = fitT P L d k := by
  unfold fitT; rw [take_succ_gt L k hk, List.filter_append]; simp [h]
theorem fitT_all (P : Pr) (L : List (List Int)) (d : Nat) : seqTo P L d ++ fitT P L d L.length = seqTo P L (d + 1) := by
  unfold fitT; rw [List.take_length]; rfl
open Classical in
theorem fitT_len (P : Pr) (L : List (List Int)) (d k : Nat) : (fitT P L d k).length ≤ k := by
  unfold fitT
  have := List.length_filter_le (fun x => decide (Fits P L d x)) (L.take k)
  rw [List.length_take] at this
  omega
theorem seqTo_len (P : Pr) (L : List (List Int)) (d : Nat) : (seqTo P L d).length ≤ d * L.length := by
  induction d with
  | zero => simp [seqTo]
  | succ d ih =>
    have := fitT_len P L d L.length
    rw [← fitT_all, List.length_append, Nat.succ_mul]; omega

set_option maxRecDepth 100000 in
set_option maxHeartbeats 8000000 in
theorem l19Sequence_ok (P : Pr) (G : Grp P) (w : World) (pv : Value) (H : List Int → Prop) (Sp : Nat → Prop) (S : Sub P H) (h32 : ordP P ≤ 32) (hpv : PresV Sp w pv P) :
    Calls Tryz.prog 205 #[pv, .int .i64 ((msk P H : Nat) : Int)] w (Ret w fun w' v => Rows2 (From w.heap.size) w' v (cseq P H)) := by
  have hP := G.v
  have hn6 := hP.n6
  have hpos := hP.ordP_pos
  obtain ⟨n, hn⟩ : ∃ n, n = P.orders.length := ⟨_, rfl⟩
  rw [← hn] at hn6
  have HN2 := Lib.hid hn
  obtain ⟨vo, vp, vc, rfl, h3⟩ := hpv
  obtain ⟨ao, capo, hvo, _, _⟩ := h3.o.shape
  rw [← hn] at hvo
  subst hvo
  clear hn
  have hp0 := PresP.box h3 31
  have hg0 : Ext w (w.alloc (.cells #[.slice ao n capo, vp, vc] 31)) := World.grownBy_alloc _ _ _
  obtain ⟨vo6, vp6, vc6, _, _, hc0, hc1, hc2, h36⟩ := hp0.at
  simp only [Nat.zero_add] at hc1 hc2
  have hbx : ∀ w', Ext (w.alloc (.cells #[.slice ao n capo, vp, vc] 31)) w' → w'.cell? ⟨w.heap.size, 0, none⟩ = some vo6 ∧ w'.cell? ⟨w.heap.size, 1, none⟩ = some vp6 ∧ w'.cell? ⟨w.heap.size, 2, none⟩ = some vc6 := fun w' h => ⟨h.cell hc0 (by simp), h.cell hc1 (by simp), h.cell hc2 (by simp)⟩
  have hs0 : (w.alloc (.cells #[.slice ao n capo, vp, vc] 31)).heap.size = w.heap.size + 1 := by simp
  have HB := Lib.hid (And.intro hbx hs0); clear hbx hs0 hp0
  obtain ⟨N, hN⟩ : ∃ N, N = (ordP P).toNat := ⟨_, rfl⟩
  have hNo : ordP P = (N : Int) := by omega
  have hN32 : N ≤ 32 := by omega
  have hNpos : 1 ≤ N := by omega
  have hfin := G.seqTo_eq S
  obtain ⟨m, hm⟩ : ∃ m, m = msk P H := ⟨_, rfl⟩
  rw [← hm, ← hN] at hfin
  rw [← hm]
  have HN := Lib.hid (And.intro hN (And.intro hNo (And.intro hm hfin))); clear hN hNo hm hfin hpos h32
  go_enter Tryz.func205, Tryz.ntmps205
  have hs1 : ((w.alloc (.cells #[.slice ao n capo, vp, vc] 31)).alloc (.cells #[] 22)).heap.size = w.heap.size + 1 + 1 := by simp
  have hg1 : Ext (w.alloc (.cells #[.slice ao n capo, vp, vc] 31)) ((w.alloc (.cells #[.slice ao n capo, vp, vc] 31)).alloc (.cells #[] 22)) := World.grownBy_alloc _ _ _
  have hL1 : SlOA OwnIn 22 (w.heap.size + 1) (fun k => k = w.heap.size + 1 + 1) ((w.alloc (.cells #[.slice ao n capo, vp, vc] 31)).alloc (.cells #[] 22)) (.slice (some ⟨w.heap.size + 1, 0, none⟩) 0 0) [] := by
    refine ⟨[], fun _ _ => False, rfl, ?_, by simp, by simp, by simp, by simp, fun k hk => by have := own_blk hk; omega⟩
    have : OwnV (w.alloc (.cells #[.slice ao n capo, vp, vc] 31)).heap.size 22 ((w.alloc (.cells #[.slice ao n capo, vp, vc] 31)).alloc (.cells #[] 22)) (.slice (some ⟨(w.alloc (.cells #[.slice ao n capo, vp, vc] 31)).heap.size, 0, none⟩) 0 0) [] := World.ownsRow_lit (w.alloc (.cells #[.slice ao n capo, vp, vc] 31)) #[] 0 (Nat.le_refl _) (by decide) rfl
    rw [HB.out.2] at this; exact this
  have HL1 := Lib.hid (And.intro hs1 (And.intro hg1 hL1)); clear hs1 hg1 hL1
  go_wp2_with (first | (at_make; refine wp_make_bools rfl _ _ rfl (w.heap.size + 1 + 1) n (w.heap.size + 1 + 1) HL1.out.1 (n : Int) rfl rfl rfl (by omega) (Nat.le_refl _) ?_; intro w3 hM3 hg3 hlt3) | fail)
  clear hc0 hc1 hc2
  generalize hw0 : w.alloc (.cells #[.slice ao n capo, vp, vc] 31) = w0 at *
  clear hw0
  have hg03 := grown_trans HL1.out.2.1 hg3
  have hL3 := HL1.out.2.2.ext rdOwn hg3
  have hlo : w0.heap.size = w.heap.size + 1 := HB.out.2
  obtain ⟨db, hdb⟩ : ∃ db, db = w.heap.size + 1 + 1 := ⟨_, rfl⟩
  rw [← hdb] at hM3 hL3 hlt3
  rw [← hdb]
  have hdb1 : w.heap.size + 1 < db := by omega
  clear hdb
  have HDB := Lib.hid (And.intro hL3 hM3); clear hL3 hM3
  go_loopw [5, 7] (fun ov tv wr => ∃ (t : Nat) (v5 : Value), v5 = ov ∧ tv = .int .i64 t ∧ 1 ≤ t ∧ t ≤ N ∧ Ext w0 wr ∧ db < wr.heap.size ∧ SlOA OwnIn 22 (w.heap.size + 1) (fun k => k = db) wr v5 (memL P m t) ∧ BOwn db wr (.slice (some ⟨db, 0, none⟩) n n) (dmk n (memL P m t))) (fun _ tv _ => N - (intOf tv).toNat)
  case atStart => exact ⟨1, _, rfl, rfl, by omega, hNpos, hg03, hlt3, HDB.out.1, by rw [show memL P m 1 = [] from rfl, dmk_nil]; exact HDB.out.2⟩
  case round =>
    clear HDB
    obtain ⟨t, v5, rfl, rfl, ht1, ht, hg, hdl, hL, hD⟩ := hrel
    obtain ⟨hc0, hc1, hc2⟩ := HB.out.1 wr hg
    have hor := l10Order_ok wr _ P Any hP ⟨_, _, _, rfl, Pres3.ext h36 hg⟩
    rw [HN.out.2.1] at hor
    have hml := memL_len P m t
    go_wp2_with fail
    clear hc0 hc1 hc2
    refine Calls.mono hor ?_
    rintro eo wo ⟨vo', rfl, hgo, rfl⟩
    clear hor
    have hgo0 := grown_trans hg hgo
    have hLo := hL.ext rdOwn hgo
    have hDo := hD.ext0 hgo
    have hdo : db < wo.heap.size := Nat.lt_of_lt_of_le hdl hgo.size
    clear hL hD hdl
    by_cases hlt : t < N
    · have hlt' : (t : Int) < N := by omega
      have hrem := bit_rem m t
      cases hb : m.testBit t with
      | false =>
        rw [hb] at hrem
        have hrem : ((m : Int) / 2 ^ t).tmod 2 = 0 := hrem
        have hst : memL P m (t + 1) = memL P m t := by rw [memL, if_neg (by rw [hb]; simp)]
        have HS := Lib.hid hst; clear hst hb
        go_wp2
        clear hrem
        go_roundw
        case rel => exact ⟨t + 1, v5, rfl, by go_num, by omega, by omega, hgo0, hdo, by rw [HS.out]; exact hLo, by rw [HS.out]; exact hDo⟩
        case measure => simp [intOf]; omega
      | true =>
        rw [hb] at hrem
        have hrem : ((m : Int) / 2 ^ t).tmod 2 = 1 := hrem
        have hst : memL P m (t + 1) = memL P m t ++ [elAt P (t : Int)] := by rw [memL, if_pos ⟨by omega, hb⟩]
        have htN : t < (ordP P).toNat := by have := HN.out.1; omega
        have hxV : Vec P.orders (elAt P (t : Int)) := G.elAtV htN
        have hxn : dep (elAt P (t : Int)) < n := by
          have h1 := dep_le (elAt P (t : Int))
          rw [hxV.1] at h1
          rcases Nat.lt_or_ge (dep (elAt P (t : Int))) P.orders.length with h2 | h2
          · rw [HN2.out]; exact h2
          · have h4 := (dep_top hP hxV).1 (by omega)
            have h5 := G.num_el htN
            rw [h4, num_zeros hP] at h5
            omega
        have hdset := dmk_app n (memL P m t) (elAt P (t : Int))
        obtain ⟨x, hx⟩ : ∃ x, x = elAt P (t : Int) := ⟨_, rfl⟩
        have hxl : x.length ≤ 6 := by rw [hx, hxV.1, ← HN2.out]; exact hn6
        rw [← hx] at hst hxV hxn hdset
        obtain ⟨d, hd⟩ : ∃ d, d = dep x := ⟨_, rfl⟩
        rw [← hd] at hxn hdset
        rw [← hst] at hdset
        have HS := Lib.hid (And.intro hst (And.intro hxV (And.intro hdset (And.intro hx (And.intro hd hxl))))); clear hst hb hdset hxV hx hd hxl
        obtain ⟨hc0, hc1, hc2⟩ := HB.out.1 wo hgo0
        go_wp2_with fail
        clear hrem hc0 hc1 hc2
        refine Calls.mono (l10At_ok P hP wo _ (t : Int) Any ⟨_, _, _, rfl, Pres3.ext h36 hgo0⟩ (by omega) (by omega)) ?_
        rintro eX wX ⟨xv, rfl, hgX, hOX⟩
        rw [← HS.out.2.2.2.1] at hOX
        have hXI : OwnIn (From wo.heap.size) wX xv x := OwnIn.of hOX (by have := HS.out.2.2.2.2.2; omega) (fun k h1 _ => h1)
        obtain ⟨xa, xc, hxv, _, _⟩ := hXI.ints.shape
        subst hxv
        have hml2 : (memL P m t).length ≤ 1000000 := by omega
        go_wp2_with (first | (at_builtin; refine wp_app_rowA rfl _ _ rfl (w.heap.size + 1) (fun k => k = db) wo wX v5 _ (memL P m t) x rfl hLo (fun k hk => by omega) none hgX (fun k hk => by cases hk) hXI rfl rfl hml2 (by have := hgo0.size; omega) ?_; intro v8 w8 hL8 hg8) | fail)
        have hav := hLo.avoids
        have hg08 : Ext w0 w8 := grown_own (grown_trans hgo0 hgX) hg8 (fun b hb hlt => by have := (hav b hb).2.1; omega)
        have hD8 : BOwn db w8 (.slice (some ⟨db, 0, none⟩) n n) (dmk n (memL P m t)) := by
          have h1 := hDo.ext0 hgX
          cases hv : v5.ownBlock with
          | none => rw [hv] at hg8; exact h1.ext0 hg8
          | some r => rw [hv] at hg8; exact h1.keep hg8 (fun e => (hav r hv).1 e.symm)
        have hX8 : Ints Any w8 (.slice xa x.length xc) x := Ints.mono hXI.ints (frame_of hg8 (fun k hk _ => ⟨trivial, fun e => by
          have h1 : wo.heap.size ≤ k := hk
          have := (hav k e).2.2; omega⟩))
        have hd8 : db < w8.heap.size := Nat.lt_of_lt_of_le hdo (Nat.le_trans hgX.size hg8.size)
        clear hLo hDo hg8 hgX hXI hOX
        refine Calls.mono (l12Depth_ok _ x w8 Any hX8) ?_
        rintro eD wD ⟨dv, rfl, hgD, hdv⟩
        rw [← HS.out.2.2.2.2.1] at hdv
        subst hdv
        have hDD := hD8.ext0 hgD
        have hLD := hL8.ext rdOwn hgD
        have hcel := hDD.cell d (by rw [dmk_len]; exact hxn)
        have hfr := hDD.frozen d
        have hxn' : (d : Int) < n := by omega
        obtain ⟨hD9, hgs⟩ := hDD.store d true
        have hL9 := hLD.kept rdOwn hgs rfl
        have hg09 := grown_own (grown_trans hg08 hgD) hgs (fun b hb hlt => by cases hb; omega)
        rw [HS.out.2.2.1] at hD9
        rw [← HS.out.1] at hL9
        have hd9 : db < (wD.setCell ⟨db, d, none⟩ (.bool true)).heap.size := by have := hgs.size; have := hgD.size; omega
        have HF := Lib.hid (And.intro hD9 (And.intro hL9 (And.intro hg09 hd9))); clear hD9 hL9 hg09 hd9 hgs hLD hDD hL8 hD8 hX8
        go_wp2
        clear hcel hfr
        go_roundw
        case rel => exact ⟨t + 1, v8, rfl, by go_num, by omega, by omega, HF.out.2.2.1, HF.out.2.2.2, HF.out.2.1, HF.out.1⟩
        case measure => simp [intOf]; omega
    · have hte : t = N := by omega
      rw [hte] at hLo hDo
      have hml3 := memL_len P m N
      obtain ⟨L, hLd⟩ : ∃ L, L = memL P m N := ⟨_, rfl⟩
      rw [← hLd] at hLo hDo hml3
      have hLV : ∀ x ∈ L, x.length = n := fun x hx => by
        rw [hLd] at hx
        obtain ⟨t', h1, _, _, rfl⟩ := memL_mem.1 hx
        rw [(G.elAtV (by have := HN.out.1; omega)).1, HN2.out]
      have hfin := HN.out.2.2.2
      rw [← hLd, ← HN2.out] at hfin
      have hsl : ∀ d k, d ≤ n → k ≤ L.length → (seqTo P L d ++ fitT P L d k).length ≤ 1000000 := fun d k hd hk => by
        have h1 := seqTo_len P L d
        have h2 := fitT_len P L d k
        have h3 : d * L.length ≤ 6 * 32 := Nat.mul_le_mul (by omega) (by omega)
        rw [List.length_append]; omega
      have hR0 := RowsD.rows (hLo.o.toD (by omega))
      obtain ⟨al, capl, hvl, _, _⟩ := Sl.shape hR0
      subst hvl
      have HL := Lib.hid (And.intro hLV (And.intro hfin hsl)); clear hLV hfin hsl hLd hml hLo
      have hnt : ¬ (t : Int) < N := by omega
      have hR0 : Rows2 (From (w.heap.size + 1)) wo (.slice al L.length capl) L := hR0
      go_wp2
      clear hnt hte hlt ht ht1 hg hgo
      obtain ⟨wL, rfl⟩ : ∃ wL : World, wL = wo := ⟨_, rfl⟩
      go_loopw [9, 10] (fun ov dv wr => ∃ (d : Nat) (v9 : Value), v9 = ov ∧ dv = .int .i64 d ∧ d ≤ n ∧ Ext wL wr ∧ ShQ (fun k => k < w.heap.size) wL.heap.size wr v9 (seqTo P L d)) (fun _ dv _ => n - (intOf dv).toNat)
      case atStart => exact ⟨0, _, rfl, rfl, by omega, World.grownBy_alloc _ _ _, ShQ.lit _ _ _ (Nat.le_refl _)⟩
      case round =>
        obtain ⟨d, v9, rfl, rfl, hd, hg, hQ⟩ := hrel
        by_cases hltd : d < n
        · have hltd' : (d : Int) < n := by omega
          go_wp2
          go_loopw [9, 11] (fun ov kv wr => ∃ (k : Nat) (v9 : Value), v9 = ov ∧ kv = .int .i64 k ∧ k ≤ L.length ∧ Ext wL wr ∧ ShQ (fun k => k < w.heap.size) wL.heap.size wr v9 (seqTo P L d ++ fitT P L d k)) (fun _ kv _ => L.length - (intOf kv).toNat)
          case atStart => exact ⟨0, v9, rfl, rfl, by omega, hg, by rw [show fitT P L d 0 = [] by simp [fitT], List.append_nil]; exact hQ⟩
          case round =>
            clear hg hQ
            obtain ⟨k, v9, rfl, rfl, hk, hg, hQ⟩ := hrel
            by_cases hlt : k < L.length
            · have hlt' : (k : Int) < L.length := by omega
              obtain ⟨bb, off, a2, cap2, hal, _, _, hc, hr⟩ := Rows2.at hR0 k hlt
              subst hal
              have hcr := hg.cell hc (by simp)
              have hxl := HL.out.1 _ (gtMem hlt)
              have hyes := fitT_yes (P := P) (d := d) hlt
              have hno := fitT_no (P := P) (d := d) hlt
              have hsl := HL.out.2.2 d k hd hk
              obtain ⟨x, hx⟩ : ∃ x, x = gt L k := ⟨_, rfl⟩
              rw [← hx] at hc hcr hr hxl hyes hno
              rw [hxl] at hc hcr
              have hrn : Ints (From (w.heap.size + 1)) wL (.slice a2 n cap2) x := by rw [← hxl]; exact hr
              have HX := Lib.hid (And.intro hxl (And.intro hyes (And.intro hno (And.intro hsl hx)))); clear hyes hno hsl hr hx hc
              go_wp2_with fail
              clear hcr
              refine Calls.mono (l12Depth_ok _ x wr _ (Ints.ext hrn hg)) ?_
              rintro eD wD ⟨dv, rfl, hgD, rfl⟩
              have hgLD := grown_trans hg hgD
              have hrD := Ints.ext hrn hgLD
              have hQD := hQ.ext hgD
              obtain ⟨bd, od, hbd, _, _, hcd⟩ := Ints.at hrD d (by omega)
              subst hbd
              have hDD := hDo.ext0 hgLD
              have hcs : (dep x = d ∧ gt x d = 1) ∨ (dep x = d ∧ ¬ gt x d = 1) ∨ ¬ dep x = d := by omega
              clear hQ hg
              rcases hcs with ⟨h1, h2⟩ | ⟨h1, h2⟩ | h1
              have HF0 : Hid ((true = true) ↔ FitE L d x (d + 1)) := Lib.hid ⟨fun _ => ⟨h1, h2, fun e' a b => by omega⟩, fun _ => rfl⟩
              have h1' : ((dep x : Nat) : Int) = (d : Int) := by omega
              clear h1
              go_wp2
              rotate_left
              have HF0 : Hid ((false = true) ↔ FitE L d x (d + 1)) := Lib.hid ⟨fun h => (by cases h), fun h => absurd h.2.1 h2⟩
              have h2 : (gt x d == 1) = false := by simpa using h2
              have h1' : ((dep x : Nat) : Int) = (d : Int) := by omega
              clear h1
              go_wp2
              rotate_left
              have HF0 : Hid ((false = true) ↔ FitE L d x (d + 1)) := Lib.hid ⟨fun h => (by cases h), fun h => absurd h.1 h1⟩
              have h1' : ¬ ((dep x : Nat) : Int) = (d : Int) := by omega
              have h2 : True := trivial
              clear h1
              go_wp2
              rotate_left
              all_goals
                clear hcd
                go_loopw [13, 14] (fun fv ev wr => ∃ (f : Bool) (e : Nat), fv = .bool f ∧ ev = .int .i64 e ∧ d + 1 ≤ e ∧ e ≤ n ∧ wr = wD ∧ Hid (f = true ↔ FitE L d x e)) (fun _ ev _ => n - (intOf ev).toNat)
                case atStart => exact ⟨_, d + 1, rfl, rfl, by omega, by omega, rfl, by first | exact HF0 | exact Lib.hid (by have h3 := HF0.out; simpa using h3) | exact Lib.hid (by have h3 := HF0.out; rw [h2]; exact h3)⟩
                case round =>
                  clear HF0 h1' h2
                  obtain ⟨f, e, rfl, rfl, he1, he2, hw, hF⟩ := hrel
                  subst hw
                  by_cases hlte : e < n
                  · have hlte' : (e : Int) < n := by omega
                    have hce := hDD.cell e (by rw [dmk_len]; exact hlte)
                    obtain ⟨bx, ox, hbx, _, _, hcx⟩ := Ints.at hrD e (by omega)
                    cases hbx
                    have hdk := dmk_at (L := L) hlte
                    have hfs := fitE_step (L := L) (x := x) (show d < e by omega)
                    cases f with
                    | false =>
                      have HF1 : Hid ((false = true) ↔ FitE L d x (e + 1)) := Lib.hid ⟨fun h => (by cases h), fun h => hF.out.2 (hfs.1 h).1⟩
                      clear hdk hfs hF hce hcx
                      go_wp2
                      go_roundw
                      case rel => exact ⟨false, e + 1, rfl, by go_num, by omega, by omega, by first | rfl | trivial, HF1⟩
                      case measure => simp [intOf]; omega
                    | true =>
                      cases hb : gt (dmk n L) e with
                      | false =>
                        rw [hb] at hce
                        have HF1 : Hid ((true = true) ↔ FitE L d x (e + 1)) := Lib.hid ⟨fun _ => hfs.2 ⟨hF.out.1 rfl, fun h => by rw [hdk.2 h] at hb; cases hb⟩, fun _ => rfl⟩
                        clear hdk hfs hF hb hcx
                        go_wp2
                        clear hce
                        go_roundw
                        case rel => exact ⟨true, e + 1, rfl, by go_num, by omega, by omega, by first | rfl | trivial, HF1⟩
                        case measure => simp [intOf]; omega
                      | true =>
                        rw [hb] at hce
                        have hex := hdk.1 hb
                        obtain ⟨q2, hq2⟩ : ∃ q2, q2 = gt x e := ⟨_, rfl⟩
                        rw [← hq2] at hcx hfs
                        by_cases hz : q2 = 0
                        · have HF1 : Hid ((true = true) ↔ FitE L d x (e + 1)) := Lib.hid ⟨fun _ => hfs.2 ⟨hF.out.1 rfl, fun _ => hz⟩, fun _ => rfl⟩
                          clear hdk hfs hF hb hq2 hex
                          subst hz
                          go_wp2
                          clear hce hcx
                          go_roundw
                          case rel => exact ⟨true, e + 1, rfl, by go_num, by omega, by omega, by first | rfl | trivial, HF1⟩
                          case measure => simp [intOf]; omega
                        · have HF1 : Hid ((false = true) ↔ FitE L d x (e + 1)) := Lib.hid ⟨fun h => (by cases h), fun h => absurd ((hfs.1 h).2 hex) hz⟩
                          clear hdk hfs hF hb hq2 hex
                          have hz' : (q2 == 0) = false := by simpa using hz
                          go_wp2
                          clear hce hcx
                          go_roundw
                          case rel => exact ⟨false, e + 1, rfl, by go_num, by omega, by omega, by first | rfl | trivial, HF1⟩
                          case measure => simp [intOf]; omega
                  · have hen : e = n := by omega
                    have hfit := hF.out
                    rw [hen, HN2.out, fitE_end] at hfit
                    have hnl : ¬ (e : Int) < n := by omega
                    cases f with
                    | true =>
                      have hst := HX.out.2.1 (hfit.1 rfl)
                      have HST := Lib.hid hst; clear hst hfit hF hen
                      have hrA : Ints (fun k => ¬ k < w.heap.size ∧ v9.ownBlock ≠ some k) wr (.slice (some ⟨bd, od, none⟩) n cap2) x := Ints.mono hrn (fun k hk hlt => ⟨⟨by have : w.heap.size + 1 ≤ k := hk; omega, fun e => by have := (hQD.lt k e).1; omega⟩, Nat.lt_of_lt_of_le hlt hgLD.size, hgLD.block k hlt (by simp)⟩)
                      go_wp2_with (first | (at_builtin; refine wp_shq_app rfl _ _ rfl (fun k => k < w.heap.size) wL.heap.size v9 _ (seqTo P L d ++ fitT P L d k) x rfl wr hQD rfl hrA rfl HX.out.2.2.2.1 hgLD.size ?_; intro v5 w5 hQ5 hg5 hb5; have hgw5 := grown_own hgLD hg5 (fun j hj hlt => by have := (hQD.lt j hj).1; omega)) | fail)
                      go_roundw
                      case rel => exact ⟨k + 1, v5, rfl, by go_num, by omega, hgw5, by rw [HST.out, ← List.append_assoc]; exact hQ5⟩
                      case measure => simp [intOf]; omega
                    | false =>
                      have hst := HX.out.2.2.1 (fun h => (by have := hfit.2 h; cases this))
                      have HST := Lib.hid hst; clear hst hfit hF hen
                      go_wp2
                      go_roundw
                      case rel => exact ⟨k + 1, v9, rfl, by go_num, by omega, hgLD, by rw [HST.out]; exact hQD⟩
                      case measure => simp [intOf]; omega
            · have hke : k = L.length := by omega
              rw [hke, fitT_all] at hQ
              have hnl : ¬ (k : Int) < L.length := by omega
              clear hke
              go_wp2
              go_roundw
              case rel => exact ⟨d + 1, v9, rfl, by go_num, by omega, hg, hQ⟩
              case measure => simp [intOf]; omega
        · have hde : d = n := by omega
          rw [hde, HL.out.2.1] at hQ
          have hrows := hQ.rowsB (fun k hk => by have := hgo0.size; omega)
          have hrows2 : Rows2 (From w.heap.size) wr v9 (cseq P H) := Rows2.sub hrows (fun k hk _ => by
            have h : ¬ k < w.heap.size := hk
            show w.heap.size ≤ k; omega)
          obtain ⟨az, capz, hvz, _, _⟩ := Sl.shape hrows2
          subst hvz
          have hnl : ¬ (d : Int) < n := by omega
          have HR := Lib.hid hrows2; clear hrows hrows2 hde hQ
          go_wp2
          go_ret
          exact ⟨_, rfl, grown_trans hg0 (grown_trans hgo0 hg), HR.out⟩

end Go.Proofs.YtdklekdpdbjfiaaGreat

/- What a run does to the count of draws: it never falls. -/
namespace Go.Proofs.YtdklekdpdbjfiaaGreat

theorem freeze_drawn (w : World) (a : Addr) (n : Nat) : (w.freeze a n).drawn = w.drawn := by
  unfold World.freeze; split <;> rfl

theorem ask_drawn {α : Type} (q : Ask α) : ∀ w : World, w.drawn ≤ (w.ask q).2.drawn := by
  induction q with
  | done a => intro w; exact Nat.le_refl _
  | ask what range k ih =>
    intro w
    unfold World.ask
    dsimp only
    split
    · exact ih _ _
    · exact Nat.le_trans (Nat.le_succ _) (ih _ { w with drawn := w.drawn + 1 })

theorem sys_drawn (w : World) (c : Sys) : w.drawn ≤ (w.sys c).2.drawn := by
  unfold World.sys
  have h := ask_drawn (Kernel.perform c w.os) w
  revert h
  generalize w.ask (Kernel.perform c w.os) = r
  intro h
  split
  · exact Nat.le_refl _
  · exact h

theorem viewStore_drawn (p : Program) (w : World) (at_ : Addr) (u : TypeId) (k : Addr) (v : Value) (atomic : Bool) (r : World × List Addr) (h : w.viewStore p at_ u k v atomic = .ok r) : r.1.drawn = w.drawn := by
  unfold World.viewStore at h
  simp only [bind, Except.bind, pure, Except.pure] at h
  repeat' split at h
  all_goals first | (cases h; done) | (cases h; rfl)

theorem farStore_drawn (p : Program) (w : World) (a : Addr) (v : Value) (atomic : Bool) (r : World × List Addr) (h : w.farStore p a v atomic = .ok r) : r.1.drawn = w.drawn := by
  unfold World.farStore at h
  split at h
  · split at h
    · rename_i hv
      cases h
      exact viewStore_drawn _ _ _ _ _ _ _ _ hv
    · cases h
  · cases h

theorem run_drawn {α : Type} (p : Program) (s : Sem α) : ∀ (w w' : World) (a : α), s.run p w = .ok a w' → w.drawn ≤ w'.drawn := by
  induction s with
  | pure a => intro w w' b h; cases h; exact Nat.le_refl _
  | load m a k ih =>
    intro w w' b h
    unfold Sem.run at h
    split at h
    · exact ih _ _ _ _ h
    · split at h
      · exact ih _ _ _ _ h
      · cases h
  | store m a v k ih =>
    intro w w' b h
    cases v <;> simp only [Sem.run] at h
    all_goals try (cases h; done)
    all_goals
      split at h
      · split at h
        · cases h
        · exact ih (w.setCell a _) _ _ h
      · split at h
        · rename_i w1 l hf
          have h1 := farStore_drawn _ _ _ _ _ _ hf
          have h2 := ih _ _ _ h
          dsimp only at h1
          omega
        · cases h
  | new o k ih => intro w w' b h; exact ih _ { w with heap := w.heap.push o } _ _ h
  | shape r k ih => intro w w' b h; exact ih _ _ _ _ h
  | freeze a n k ih => intro w w' b h; have := ih _ _ _ h; rw [freeze_drawn] at this; exact this
  | frozen a k ih => intro w w' b h; exact ih _ _ _ _ h
  | getObj r k ih =>
    intro w w' b h
    unfold Sem.run at h
    split at h
    · cases h
    · exact ih _ _ _ _ h
    · cases h
  | setObj r o k ih =>
    intro w w' b h
    unfold Sem.run at h
    split at h
    · cases h
    · exact ih { w with heap := w.heap.setIfInBounds r o } _ _ h
    · cases h
  | choose q k ih =>
    intro w w' b h
    unfold Sem.run at h
    split at h
    · exact ih _ _ _ _ h
    · exact Nat.le_trans (Nat.le_succ _) (ih _ _ _ _ h)
  | sys c k ih => intro w w' b h; exact Nat.le_trans (sys_drawn w c) (ih _ _ _ _ h)
  | program k ih => intro w w' b h; exact ih _ _ _ _ h
  | mark m k ih => intro w w' b h; exact ih _ _ _ h
  | halt hh => intro w w' b h; cases h

/-- an operation that hands back a value: its run never lets the count of draws fall -/
theorem wpList_drawn {P : Program} {ops : Array Oper} {rest : List Oper} {o : Oper} {a : Act} {Q : Exit → Act → World → Prop} {w : World} {Φ : Act → World → Prop} (hgd : o.guard = none)
    (hnc : ∀ f args w', (execOp a.eval o).run P w ≠ .ok (.enter f args) w') (hnr : ∀ r args w', (execOp a.eval o).run P w ≠ .ok (.row r args) w')
    (h : wpList P ops (fun e a' w' => e = .normal ∧ Φ a' w') [o] a w) (k : ∀ a' w', Φ a' w' → w.drawn ≤ w'.drawn → wpList P ops Q rest a' w') :
    wpList P ops Q (o :: rest) a w := by
  have hw : Region.wanted o (yielded ops a.tmps) = true := by simp [Region.wanted, hgd]
  unfold wpList at h ⊢
  rw [if_pos hw] at h ⊢
  rcases h with h | ⟨_, ⟨_, _, he, _⟩⟩
  · left
    unfold Oper.wp at h ⊢
    cases hr : (execOp a.eval o).run P w with
    | ok n w' =>
      have hd := run_drawn _ _ _ _ _ hr
      rw [hr] at h
      cases n with
      | value v => exact k _ _ h.2 hd
      | skip => exact k _ _ h.2 hd
      | defer d => exact k _ _ h.2 hd
      | enter f args => exact absurd hr (hnc _ _ _)
      | row r args => exact absurd hr (hnr _ _ _)
      | _ => exact h.elim
    | halt hh w' =>
      rw [hr] at h
      cases hh with
      | panic v => cases h.1
      | _ => exact h.elim
  · cases he

theorem run_value_only (P : Program) (s : Sem Value) (w w' : World) (n : Next) (h : Sem.run P (do pure (Next.value (← s))) w = .ok n w') : ∃ v, n = .value v := by
  rw [Sem.run_bind] at h
  cases hs : Sem.run P s w with
  | ok v w1 => rw [hs] at h; cases h; exact ⟨v, rfl⟩
  | halt hh w1 => rw [hs] at h; cases h

theorem append_value {P : Program} {o : Oper} {a : Act} {w w' : World} {n : Next} {args : Array Operand} {tys : Array TypeId} (ho : o.op = Op.call { callee := Callee.builtin Builtin.append, args := args, argTypes := tys })
    (h : (execOp a.eval o).run P w = .ok n w') : ∃ v, n = .value v := by
  unfold execOp at h
  rw [ho] at h
  exact run_value_only P (Builtin.append_ tys o.type (args.map a.eval)) w w' n h

/-- the builtin append does not let the count of draws fall -/
theorem append_drawn {P : Program} {ops : Array Oper} {rest : List Oper} {o : Oper} {a : Act} {Q : Exit → Act → World → Prop} {w : World} {Φ : Act → World → Prop} (hgd : o.guard = none) {args : Array Operand} {tys : Array TypeId}
    (ho : o.op = Op.call { callee := Callee.builtin Builtin.append, args := args, argTypes := tys })
    (h : wpList P ops (fun e a' w' => e = .normal ∧ Φ a' w') [o] a w) (k : ∀ a' w', Φ a' w' → w.drawn ≤ w'.drawn → wpList P ops Q rest a' w') :
    wpList P ops Q (o :: rest) a w :=
  wpList_drawn hgd (fun f x w' hr => by obtain ⟨v, hv⟩ := append_value ho hr; cases hv) (fun f x w' hr => by obtain ⟨v, hv⟩ := append_value ho hr; cases hv) h k

end Go.Proofs.YtdklekdpdbjfiaaGreat

/- impl.pivots and impl.sizeOf again: the count of draws does not fall. (Printed from PivW and SizeW.) -/
namespace Go.Proofs.YtdklekdpdbjfiaaGreat
open Go.RowKit

theorem wp_app_valD (T E : Nat) (z : Value) (bytes : Nat) (hT : Tryz.prog.underlying T = some (.slice E)) (hE : (Tryz.prog.info? E).map (fun i => (i.zero, i.size, i.bytes)) = some (some z, 1, bytes))
    (hzs : z.cells.size = 1) (hbt : bytes ≤ 64) {ops : Array Oper} {rest : List Oper} {o : Oper} {a : Act} {Q : Exit → Act → World → Prop} {w : World} (hgd : o.guard = none) (s x : Operand)
    (ho : o.op = Op.call { callee := Callee.builtin Builtin.append, args := #[s, x], argTypes := #[T, T] }) (B : Nat) (v u : Value) (xs : List Value) (hs : a.eval s = v) (w0 : World) (hown : OwnV B E w0 v xs) (hw : w = w0.alloc (.cells #[u] E)) (h1 : u.oneCell' = true)
    (hx : a.eval x = .slice (some ⟨w0.heap.size, 0, none⟩) 1 1) (hlen : xs.length ≤ 1000000) (hbase : B ≤ w0.heap.size)
    (h : ∀ v' w', OwnV B E w' v' (xs ++ [u]) → w0.grownBy w' v.ownBlock → w0.drawn ≤ w'.drawn → wpList Tryz.prog ops Q rest (a.put o.dst v') w') :
    wpList Tryz.prog ops Q (o :: rest) a w := by
  refine append_drawn (Φ := fun a' w' => ∃ v', OwnV B E w' v' (xs ++ [u]) ∧ w0.grownBy w' v.ownBlock ∧ a' = a.put o.dst v') hgd ho ?_ ?_
  · exact wp_app_val T E z bytes hT hE hzs hbt hgd s x ho B v u xs hs w0 hown hw h1 hx hlen hbase (fun v' w' k1 k2 => ⟨rfl, v', k1, k2, rfl⟩)
  · rintro a' w' ⟨v', k1, k2, rfl⟩ hd
    subst hw
    exact h v' w' k1 k2 hd

set_option maxHeartbeats 1000000 in
theorem pivotsD_ok (v : Value) (U : List (List Int)) (w : World) (S : Nat → Prop) (h : Rows2 S w v U) (hU : ∀ z ∈ U, dep z < z.length) (hl : U.length ≤ 100000) :
    Calls Tryz.prog 120 #[v] w (Ret w fun w' r => OwnV w.heap.size 3 w' r (depV U) ∧ w.drawn ≤ w'.drawn) := by
  obtain ⟨a, cap, rfl, _, _⟩ := Sl.shape h
  have HU := Lib.hid hU; clear hU
  go_enter Tryz.func120, Tryz.ntmps120
  go_wp2
  go_loopw [3, 8] (fun ov iv wr => ∃ (k : Nat) (v4 : Value), v4 = ov ∧ iv = .int .i64 k ∧ k ≤ U.length ∧ Ext w wr ∧ OwnV w.heap.size 3 wr v4 (depV (U.take k)) ∧ w.drawn ≤ wr.drawn) (fun _ iv _ => U.length - (intOf iv).toNat)
  case atStart => exact ⟨0, _, rfl, rfl, by omega, Ext.refl _, World.ownsRow_nil _ _ _ _, Nat.le_refl _⟩
  case round =>
    obtain ⟨k, v4, rfl, rfl, hk, hg, hO, hdr⟩ := hrel
    by_cases hlt : k < U.length
    · obtain ⟨b, off, a2, cap2, rfl, _, _, hc, hi⟩ := Rows2.at (Rows2.ext h hg) k hlt
      have hstep : depV (U.take (k + 1)) = depV (U.take k) ++ [.int .i64 (dep (gt U k))] := by unfold depV; rw [take_succ_gt U k hlt, List.map_append]; rfl
      have hdl : (depV (U.take k)).length ≤ 1000000 := by unfold depV; rw [List.length_map, List.length_take]; omega
      have HS := Lib.hid hstep; clear hstep
      have hlt' : (k : Int) < U.length := by omega
      go_wp2_with fail
      refine Calls.mono (idxNz_ok _ (gt U k) wr _ hi (HU.out _ (gtMem hlt))) ?_
      rintro e1 w1 ⟨rfl, rfl⟩
      go_wp2_with (first | (at_builtin; refine wp_app_valD 110 3 (.int .i64 0) 8 und_intsG Tryz.infoIntG rfl (by decide) rfl _ _ rfl w.heap.size v4 _ (depV (U.take k)) rfl wr hO rfl rfl rfl hdl hg.size ?_; intro v5 w5 hO5 hg5 hd5) | fail)
      have hg6 : Ext w w5 := grown_own hg hg5 (fun j hj hlt => by have := (hO.lt j hj).1; omega)
      go_roundw
      case rel => exact ⟨k + 1, v5, rfl, by go_num, by omega, hg6, by rw [HS.out]; exact hO5, Nat.le_trans hdr hd5⟩
      case measure => simp [intOf]; omega
    · have hke : k = U.length := by omega
      subst hke
      rw [List.take_length] at hO
      have hsh : ∃ az capz, v4 = .slice az U.length capz := by
        rcases hO.form with ⟨h1, h2⟩ | ⟨g, cp, h1, _⟩
        · have h3 : U.length = 0 := by unfold depV at h2; rw [List.map_eq_nil_iff] at h2; rw [h2]; rfl
          exact ⟨none, 0, by rw [h1, h3]⟩
        · exact ⟨_, _, by rw [h1]; unfold depV; rw [List.length_map]⟩
      obtain ⟨az, capz, rfl⟩ := hsh
      go_wp2
      go_ret
      exact ⟨_, rfl, hg, hO, hdr⟩

set_option maxHeartbeats 1000000 in
theorem sizeOfD_ok (P : Pr) (hP : Valid P) (w : World) (p uv : Value) (U : List (List Int)) (Sp Su : Nat → Prop) (hp : PresP Sp w p P) (hu : Rows2 Su w uv U) (hU : SeqOk P U) (hl : U.length ≤ 100) :
    Calls Tryz.prog 69 #[p, uv] w (Ret w fun w' v => v = .int .i64 (prodU P U U.length) ∧ w.drawn ≤ w'.drawn) := by
  have hn6 := hP.n6
  obtain ⟨pb, po, rfl⟩ := hp.shape
  obtain ⟨ao, capo, hco0, hoi⟩ := hp.ordAt
  obtain ⟨au, capu, rfl, _, _⟩ := Sl.shape hu
  have hUz : ∀ z ∈ U, dep z < z.length := fun z hz => by have := hU.1 z hz; rw [this.1.1]; exact this.2.1
  have HU := Lib.hid hU; clear hU
  go_enter Tryz.func69, Tryz.ntmps69
  go_wp2_with fail
  refine Calls.mono (pivotsD_ok _ U w Su hu hUz (by omega)) ?_
  rintro e1 w1 ⟨pv, rfl, hg1, hV1, hd1⟩
  have hpvs : ∃ az capz, pv = .slice az U.length capz := by
    rcases hV1.form with ⟨h1, h2⟩ | ⟨g, cp, h1, _⟩
    · have h3 : U.length = 0 := by unfold depV at h2; rw [List.map_eq_nil_iff] at h2; rw [h2]; rfl
      exact ⟨none, 0, by rw [h1, h3]⟩
    · exact ⟨_, _, by rw [h1]; unfold depV; rw [List.length_map]⟩
  obtain ⟨ap, capp, rfl⟩ := hpvs
  go_wp2
  go_loopw [5, 11] (fun mv iv wr => ∃ i : Nat, mv = .int .i64 (prodU P U i) ∧ iv = .int .i64 i ∧ i ≤ U.length ∧ w1 = wr) (fun _ iv _ => U.length - (intOf iv).toNat)
  case atStart => exact ⟨0, rfl, rfl, by omega, rfl⟩
  case round =>
    obtain ⟨i, rfl, rfl, hi, rfl⟩ := hrel
    by_cases hlt : i < U.length
    · have hlt' : (i : Int) < U.length := by omega
      have hdi : gt (depV U) i = .int .i64 (dep (gt U i)) := by unfold depV; rw [gt_map _ _ _ hlt]
      have hpf : ∃ g, ap = some ⟨g, 0, none⟩ := by
        rcases hV1.form with ⟨h1, h2⟩ | ⟨g, cp, h1, _⟩
        · unfold depV at h2; rw [List.map_eq_nil_iff] at h2; rw [h2] at hlt; simp at hlt
        · simp only [Value.slice.injEq] at h1; exact ⟨g, h1.1⟩
      obtain ⟨gp, rfl⟩ := hpf
      have hcp := hV1.cell i (by unfold depV; rw [List.length_map]; exact hlt)
      rw [hdi] at hcp
      clear hdi
      have hst : prodU P U (i + 1) = prodU P U i * gt P.orders (dep (gt U i)) := rfl
      have hb := prodU_729 hP HU.out (i + 1) hlt
      rw [hst] at hb
      obtain ⟨d, hd⟩ : ∃ d, d = dep (gt U i) := ⟨_, rfl⟩
      rw [← hd] at hcp hst hb
      have hdn : d < P.orders.length := by rw [hd]; exact (HU.out.1 _ (gtMem hlt)).2.1
      clear hd
      have hdn' : (d : Int) < P.orders.length := by omega
      obtain ⟨b, off, rfl, _, _, hco⟩ := Ints.at (hoi.ext hg1) d hdn
      have hc0 := hg1.cell hco0 (by simp)
      have hw : IntKind.i64.wrap (prodU P U i * gt P.orders d) = prodU P U i * gt P.orders d := IntWalk.i64_in _ (by omega)
      have HS := Lib.hid hst; clear hst hb
      go_wp2
      go_roundw
      case rel => exact ⟨i + 1, by rw [HS.out], by go_num, by omega, trivial⟩
      case measure => simp [intOf]; omega
    · have hie : i = U.length := by omega
      subst hie
      go_wp2
      go_ret
      exact ⟨_, rfl, hg1, rfl, hd1⟩

end Go.Proofs.YtdklekdpdbjfiaaGreat
