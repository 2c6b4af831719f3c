/-
  The reference's closure: spec.l12Close.
  The codes and orders of Hall subgroups: impl.hallOrder, isPrimeSet, hallCode; spec.l20Primes, l20Code.
  The codes of Hall subgroups: impl.hallCode; spec.l20Primes, l20Code.
  spec.l01Part, l20Part: the part of an order for a set of primes.
  impl.factors at the orders of groups: the primes that divide, ascending. (Printed by gen_fac.py.)
  spec.l20Divisors: the group primes that divide the order, ascending; the order divides a power of 210.
  A vector of the call's own whose rows lie in other blocks; append of all rows of another list.
  Orders of elements and residues: impl.orderOfElement, impl.residue; the reference's power: spec.l10Pow.
  impl.orderOfElement: the order divides that of every Hall subgroup for the primes of the element.
  Plain: the normal subgroups are those of classes of one.
  The library's sort at [][]int64, laid from the shelf.
  A row that the call has built, sorted by the library: any elements of one cell. (After the library's Sort/OwnSortedInts, at a general reading.)
  The order of subgroups as a comparison: by order, then by the entries.
  Plain: the way up to a Hall subgroup, element by element.
  Plain: the entries of a list at the places with a property.
  Plain: the minimal normal subgroups, as both sides pick them.
  append(slices.Clone(rows), row) in a drawn region, in both orders.
  The library's sort on a slice that the call has built: any elements of one cell in blocks of their own, any comparison that lays blocks and draws but turns nothing.
-/
import Derived.Test.YtdklekdpdbjfiaaGreatK6
import Derived.Test.YtdklekdpdbjfiaaGreatK5
import Derived.Test.YtdklekdpdbjfiaaGreatK1
import Derived.Test.YtdklekdpdbjfiaaGreatK4
import Derived.Test.YtdklekdpdbjfiaaGreatK3
import Derived.Shelf.SlSortCmp.NoneTotal
import Derived.Sort.OwnSortedInts
/- The reference's closure: spec.l12Close. -/
namespace Go.Proofs.YtdklekdpdbjfiaaGreat
open Go.RowKit

theorem tab_kept {B gb n W : Nat} {wI w2 : World} {v1 v2 : Value} {b : List (List Int)} (h : TabAt B (fun k => v1.ownBlock = some k) wI gb n b) (hv : ∀ k, v1.ownBlock = some k → W ≤ k) (hgb : gb < W)
    (hg2 : wI.grownBy w2 v1.ownBlock) (hb2 : v2.ownBlock = v1.ownBlock ∨ ∀ k, v2.ownBlock = some k → wI.heap.size ≤ k) : TabAt B (fun k => v2.ownBlock = some k) w2 gb n b := by
  refine h.kept hg2.size (fun k hk hc => hg2.block k hk (fun e => ?_)) (fun k hk e => ?_)
  · rcases hc with rfl | hc
    · have := hv _ e.symm; omega
    · exact hc e.symm
  · rcases hb2 with h | h
    · rw [← h]; exact e
    · have := h k e; omega

/-- rows in blocks of their own, as a stack -/
theorem SlO.shq {bad : Nat → Prop} {B : Nat} {w : World} {v : Value} {xs : List (List Int)} (h : RowsO B w v xs) (hbad : ∀ k, bad k → k < B) : ShQ bad B w v xs := by
  obtain ⟨vs, G, hl, hO, hG, _, hE⟩ := h
  refine ⟨vs, hl, QOwn.of hO, fun i hi => Ints.sub (hE i hi).ints (fun k hk _ => ?_)⟩
  obtain ⟨h1, h2, _⟩ := hG i k hi hk
  exact ⟨fun h => by have := hbad k h; omega, h2⟩

/-- the world has grown from w0, and block g is as it was in w1 -/
def HeldB (w0 w1 : World) (g : Nat) (w' : World) : Prop := Ext w0 w' ∧ w'.heap[g]? = w1.heap[g]?
theorem heldB_ext {w0 w1 w' : World} {g : Nat} (h0 : Ext w0 w1) (hg : g < w1.heap.size) (h : Ext w1 w') : HeldB w0 w1 g w' := ⟨grown_trans h0 h, h.block g hg (by simp)⟩
theorem HeldB.cell {w0 w1 w' : World} {g i : Nat} {v : Value} (h : HeldB w0 w1 g w') (hc : w1.cell? ⟨g, i, none⟩ = some v) : w'.cell? ⟨g, i, none⟩ = some v := (World.cell?_of_block (w := w1) h.2).trans hc

set_option maxRecDepth 100000 in
set_option maxHeartbeats 8000000 in
theorem l12Close_ok (P : Pr) (G : Grp P) (w : World) (pv lv : Value) (L : List (List Int)) (Sp Sr : Nat → Prop) (hpv : PresV Sp w pv P) (hl : Rows2 Sr w lv L) (hL : ∀ x ∈ L, Vec P.orders x) (hlen : L.length ≤ 10000) :
    Calls Tryz.prog 64 #[pv, lv] w (Ret w fun w' v => Rows2 Any w' v (cseq P (genP P (fun x => x ∈ L)))) := by
  have hP := G.v
  have hn6 := hP.n6
  obtain ⟨vo, vp, vc, rfl, h3⟩ := hpv
  have hp0 := PresP.box h3 31
  have hg0 : Ext w (w.alloc (.cells #[vo, vp, vc] 31)) := World.grownBy_alloc _ _ _
  have hs0 : (w.alloc (.cells #[vo, vp, vc] 31)).heap.size = w.heap.size + 1 := by simp
  obtain ⟨vo6, vp6, vc6, _, _, hc0, hc1, hc2, h36⟩ := hp0.at
  simp only [Nat.zero_add] at hc1 hc2
  obtain ⟨ao, capo, rfl, _, _⟩ := h36.o.shape
  clear hp0
  obtain ⟨al, capl, rfl, _, _⟩ := Sl.shape hl
  have hLl : ∀ x ∈ L, x.length ≤ 1000000 := fun x hx => by rw [(hL x hx).1]; omega
  have HL := Lib.hid (And.intro hL hLl); clear hL hLl
  go_enter Tryz.func64, Tryz.ntmps64
  go_wp2_with (first | (at_make; refine wp_make_tab rfl _ _ rfl w.heap.size P.orders.length (w.heap.size + 1) (by simp) _ rfl rfl rfl (by omega) (by omega) ?_; intro w1 hT1 hg1 hlt1) | fail)
  have HS := Lib.hid hs0; clear hs0
  generalize hw0 : w.alloc (.cells #[vo, vp, vc] 31) = w0 at *
  clear hw0
  have hl0 := Rows2.ext hl hg0
  clear hl
  have hgb1 : w.heap.size + 1 < w1.heap.size := hlt1
  refine Calls.mono (l01Own2_ok w1 _ L Sr (Rows2.ext hl0 hg1) HL.out.2 (by omega)) ?_
  rintro e2 w2 ⟨qv0, rfl, hg2, hQ2⟩
  have hq2 : ShQ (fun k => k = w.heap.size + 1) w1.heap.size w2 qv0 L := hQ2.shq (fun k hk => by omega)
  have hg02 := grown_trans hg1 hg2
  have hown2 : ∀ k, qv0.ownBlock = some k → w1.heap.size ≤ k := fun k hk => (hq2.lt k hk).1
  have hT2 : TabAt w.heap.size (fun k => qv0.ownBlock = some k) w2 (w.heap.size + 1) P.orders.length (List.replicate P.orders.length []) := (hT1 _).ext hg2
  clear hT1 hQ2 hl0
  -- facts of the box and the orders
  have hbx : ∀ w', Ext w0 w' → w'.cell? ⟨w.heap.size, 0, none⟩ = some (.slice ao P.orders.length capo) ∧ w'.cell? ⟨w.heap.size, 1, none⟩ = some vp6 ∧ w'.cell? ⟨w.heap.size, 2, none⟩ = some vc6 := fun w' h => ⟨h.cell hc0 (by simp), h.cell hc1 (by simp), h.cell hc2 (by simp)⟩
  have HB := Lib.hid hbx; clear hbx hc0 hc1 hc2
  obtain ⟨Q, hQ⟩ : ∃ Q : List Int → Prop, Q = fun x => x = zeros P.orders.length ∨ x ∈ L.reverse := ⟨_, rfl⟩
  have hst : ∃ R, AddInv P Q (gt (List.replicate P.orders.length [])) L.reverse R := by
    rw [hQ]; exact ⟨_, G.addInv_start G.ind_one (fun x hx => HL.out.1 x (List.mem_reverse.1 hx))⟩
  have hQL : genP P Q = genP P (fun x => x ∈ L) := by
    rw [hQ, genP_one]
    congr 1
    funext x
    simp
  have HST := Lib.hid (And.intro hst hQL); clear hst hQL hQ
  go_wp2
  go_loopg [7] (miss (List.replicate P.orders.length ([] : List Int)) P.orders.length * (P.orders.length + 3) + L.length) (fun gk qv wr => ∃ (b q : List (List Int)), gk ≤ 20000 ∧ gk = miss b P.orders.length * (P.orders.length + 3) + q.length ∧ Ext w0 wr ∧
    TabAt w.heap.size (fun k => qv.ownBlock = some k) wr (w.heap.size + 1) P.orders.length b ∧ ShQ (fun k => k = w.heap.size + 1) w1.heap.size wr qv q ∧ Hid (∃ R, AddInv P Q (gt b) q.reverse R))
  case atStart =>
    have hk0 : miss (List.replicate P.orders.length ([] : List Int)) P.orders.length * (P.orders.length + 3) + L.length ≤ 20000 := by
      have h3 : miss (List.replicate P.orders.length ([] : List Int)) P.orders.length * (P.orders.length + 3) ≤ 6 * 9 := Nat.mul_le_mul (by have := miss_le (List.replicate P.orders.length ([] : List Int)) P.orders.length; omega) (by omega)
      omega
    exact ⟨_, L, hk0, rfl, hg02, hT2, hq2, Lib.hid HST.out.1⟩
  case round =>
    clear hT2 hq2 hown2 hg02
    obtain ⟨b, q, hgkb, hgk, hg, hT, hq, hA⟩ := hrel
    have hlb := hT.len
    obtain ⟨hb1, hb2, hb3⟩ := HB.out wr hg
    have hqc : q = [] ∨ ∃ q1 y, q = q1 ++ [y] := by
      rcases List.eq_nil_or_concat q with h | ⟨q1, y, h⟩
      · exact .inl h
      · exact .inr ⟨q1, y, by rw [h, List.concat_eq_append]⟩
    rcases hqc with rfl | ⟨q1, y, rfl⟩
    · obtain ⟨aq, capq, rfl, _⟩ := hq.shape
      have hI : Ind P (genP P Q) (gt b) := by obtain ⟨R, hA⟩ := hA.out; exact G.addInv_end hA
      have HI := Lib.hid hI; clear hI hA
      go_wp2_with fail
      refine Calls.mono (l12Full_ok P G wr _ _ b (genP P Q) Any _ ⟨_, _, _, rfl, Pres3.ext h36 hg⟩ (hT.rows (by omega)) hlb HI.out) ?_
      rintro eF wF ⟨vF, rfl, hgF, hRF⟩
      rw [HST.out.2] at hRF
      go_wp2
      go_ret
      exact ⟨_, rfl, grown_trans hg0 (grown_trans hg hgF), hRF⟩
    · obtain ⟨aq, capq, rfl, _⟩ := hq.shape
      obtain ⟨k1, hk1⟩ : ∃ k1, k1 = q1.length := ⟨_, rfl⟩
      obtain ⟨gq, off, u, rfl, hgB, hglt, hcell, hyI⟩ := ShQ.head hq q1.length (by simp)
      rw [gt_concat] at hyI
      have hcap : k1 ≤ capq := by
        obtain ⟨vs, hvl, hqo, _⟩ := hq
        rcases hqo with ⟨h, _⟩ | ⟨g, o, cp, cur, hv, _, _, h1, _⟩
        · simp at h
        · simp only [Value.slice.injEq] at hv
          obtain ⟨_, _, rfl⟩ := hv
          simp at hvl; omega
      have hq1 := hq.init
      rw [← hk1] at hcell hq1
      have hml : (q1 ++ [y]).length = k1 + 1 := by simp [hk1]
      obtain ⟨m, hm⟩ : ∃ m, m = (q1 ++ [y]).length := ⟨_, rfl⟩
      rw [← hm] at hml hgk ⊢
      have hyV : Vec P.orders y := by obtain ⟨R, hA⟩ := hA.out; exact hA.vec _ (hA.que _ (by simp))
      have htab : ∀ d, d < P.orders.length → gt b d ≠ [] → T P d (gt b d) ∧ gt (gt b d) d = 1 := by obtain ⟨R, hA⟩ := hA.out; exact fun d hd h => (hA.tab d hd h).2
      have hA1 : ∃ R, AddInv P Q (gt b) (y :: q1.reverse) R := by
        obtain ⟨R, hA⟩ := hA.out
        rw [List.reverse_append] at hA
        exact ⟨R, hA⟩
      obtain ⟨ay, capy, hvy, _, _⟩ := hyI.shape
      rw [hyV.1] at hvy
      subst hvy
      have HY := Lib.hid (And.intro hyV (And.intro htab (And.intro hA1 (And.intro hk1 hgk)))); clear hyV htab hA1 hA hk1 hgk
      have hmb : m ≤ 20000 := by have := HY.out.2.2.2.2; omega
      have hmi : (0 : Int) < m := by omega
      have hwm : IntKind.i64.wrap ((m : Int) - 1) = (k1 : Int) := by rw [show (m : Int) - 1 = (k1 : Int) by omega]; exact IntWalk.i64_in _ (by omega)
      have hkm : (k1 : Int) < m := by omega
      have hk0 : (0 : Int) ≤ k1 := by omega
      have hrt := run_head_rows wr (some ⟨gq, off, none⟩) m capq (k1 : Int) hk0 (by omega)
      rw [show ((k1 : Int)).toNat = k1 by omega] at hrt
      have HM := Lib.hid (And.intro hml hm); clear hml hm
      have hTr := hT.rows (by omega)
      go_wp2_with fail
      refine Calls.mono (l12Strip_ok P G wr _ _ _ b y Any _ _ ⟨_, _, _, rfl, Pres3.ext h36 hg⟩ hTr hyI HY.out.1 hlb HY.out.2.1) ?_
      rintro eS wS ⟨vS, rfl, hgS, d, rv, Y, rfl, hOY, hSY, hdn, hdY⟩
      have hYV := hSY.vec.1
      have hYi := hOY.ints (by rw [hYV.1]; omega)
      have hA2 : ∃ R, AddInv P Q (gt b) (Y :: q1.reverse) R := by
        obtain ⟨R, hA⟩ := HY.out.2.2.1
        exact hSY.inv _ _ _ hA
      obtain ⟨ar, capr, hvr, _, _⟩ := hYi.shape
      rw [hYV.1] at hvr
      subst hvr
      have hgT := grown_trans hg hgS
      have hqS := hq1.ext hgS
      have hTS : TabAt w.heap.size (fun k => (Value.slice (some ⟨gq, off, none⟩) k1 capq).ownBlock = some k) wS (w.heap.size + 1) P.orders.length b := hT.ext hgS
      have HLB := Lib.hid hlb
      clear hT hq hq1 hTr hyI hcell hrt hwm hb1 hb2 hb3 hlb
      have hT0 := hSY.vec
      have HA2 := Lib.hid (And.intro hA2 (And.intro hT0 hYV)); clear hA2 hT0 hYV hSY
      by_cases hd : d = P.orders.length
      · have hY0 : Y = zeros P.orders.length := T.top hP (by rw [← hd]; exact HA2.out.2.1)
        have hA3 : Hid (∃ R, AddInv P Q (gt b) q1.reverse R) := by
          obtain ⟨R, hA⟩ := HA2.out.1
          exact Lib.hid ⟨R, addInv_drop hA hY0⟩
        clear hdY hY0
        subst hd
        go_wp2
        go_roundg (gk - 1)
        case measure => have := HY.out.2.2.2.2; omega
        case rel => exact ⟨b, q1, by omega, by have := HY.out.2.2.2.2; have := HY.out.2.2.2.1; have := HM.out.1; omega, hgT, hTS, hqS, hA3⟩
      · have hdl : d < P.orders.length := by omega
        obtain ⟨hy0, hbd⟩ := hdY hdl
        clear hdY
        have hdi : ((d : Int) == (P.orders.length : Int)) = false := by simp; omega
        have hYV := HA2.out.2.2
        have ho := hP.ord7 d hdl
        have hpr := hP.ord d hdl
        have hyd := hYV.2 d hdl
        obtain ⟨br, or_, rfl, _, _, hcr⟩ := Ints.at hYi d (by rw [hYV.1]; exact hdl)
        obtain ⟨bo, oo, rfl, _, _, hco⟩ := Ints.at (Ints.ext h36.o hgT) d hdl
        have hyd1 : 1 ≤ gt Y d := by omega
        have HD := Lib.hid (And.intro hbd (And.intro hpr (And.intro hy0 hd))); clear hbd hpr hy0 hd
        have hd0 : (0 : Int) ≤ d := by omega
        have hdn' : (d : Int) < P.orders.length := by omega
        have e1 : ∀ w', Ext wS w' → w'.cell? ⟨w.heap.size, 0, none⟩ = some (.slice (some ⟨bo, oo, none⟩) P.orders.length capo) := fun w' h => (HB.out w' (grown_trans hgT h)).1
        have e2 : ∀ w', Ext wS w' → w'.cell? ⟨w.heap.size, 1, none⟩ = some vp6 := fun w' h => (HB.out w' (grown_trans hgT h)).2.1
        have e3 : ∀ w', Ext wS w' → w'.cell? ⟨w.heap.size, 2, none⟩ = some vc6 := fun w' h => (HB.out w' (grown_trans hgT h)).2.2
        have e4 : ∀ w', Ext wS w' → w'.cell? ⟨br, or_ + d, none⟩ = some (.int .i64 (gt Y d)) := fun w' h => h.cell hcr (by simp)
        have e5 : ∀ w', Ext wS w' → w'.cell? ⟨bo, oo + d, none⟩ = some (.int .i64 (gt P.orders d)) := fun w' h => h.cell hco (by simp)
        clear hcr hco
        go_wp2
        go_region_held3 (fun w' => Ext wS w') (first | exact grown_drew _ _ | assumption)
          (first
            | (go_at_call 114; refine Calls.mono (Calls.rel (w0 := wS) (by first | exact grown_drew _ _ | assumption) (l01Inv_ok (gt Y d) (gt P.orders d) _ HD.out.2.1 hyd1 hyd.2)) ?_; rintro eI wI ⟨vI, rfl, hgI, hsI, kk, rfl, hk1', hk2', hkk⟩; have HK := Lib.hid hkk; clear hkk)
            | (go_at_call 113; refine Calls.mono (Calls.rel (w0 := wS) (by assumption) (l10Pow_ok P G _ _ _ Y _ Any Any ⟨_, _, _, rfl, Pres3.ext (Pres3.ext h36 hgT) (by assumption)⟩ (Ints.sub (Ints.ext hYi (by assumption)) (fun _ _ _ => trivial)) hYV (by omega))) ?_; rintro eZ wZ ⟨zv, rfl, hgZ, hsZ, hOZ⟩))
        clear e1 e2 e3 e4 e5
        rw [pwZ_nat _ _ _ hk1'] at hOZ
        obtain ⟨Z, hZ⟩ : ∃ Z, Z = pw P Y kk.toNat := ⟨_, rfl⟩
        rw [← hZ] at hOZ
        have hZV : Vec P.orders Z := by rw [hZ]; exact G.pw_vec hYV _
        have hZl : Z.length = P.orders.length := hZV.1
        have hZne : Z ≠ [] := fun h => by rw [h] at hZl; simp at hZl; omega
        have hgwZ := grown_trans hgT hgZ
        have hszS := hgS.size
        have hZI : Ints (fun k => k ≠ w.heap.size + 1 ∧ ¬ ((Value.slice (some ⟨gq, off, none⟩) k1 capq).ownBlock = some k)) wZ zv Z := ints_of_own hOZ (by omega) (fun k hk => by
          have h1 := (hOZ.lt k hk).1
          exact ⟨by omega, fun e => by have := own_blk e; omega⟩)
        obtain ⟨az, capz, hvz, _, _⟩ := hZI.shape
        rw [hZl] at hvz
        subst hvz
        obtain ⟨hT5, hg5⟩ := (hTS.ext hgZ).put d hZI hZne
        obtain ⟨hfr, hcc⟩ := (hTS.ext hgZ).at d hdl
        have hcd : wZ.cell? ⟨w.heap.size + 1, d, none⟩ = some (.slice none 0 0) := hcc.elim (fun h => h.2) (fun h => absurd HD.out.1 h.1)
        have hfar : ∀ (S : Nat → Prop) k, (k ≠ w.heap.size + 1 ∧ S k) → k < wZ.heap.size → (k ≠ w.heap.size + 1 ∧ S k) ∧ k < (wZ.setCell ⟨w.heap.size + 1, d, none⟩ (.slice az P.orders.length capz)).heap.size ∧ (wZ.setCell ⟨w.heap.size + 1, d, none⟩ (.slice az P.orders.length capz)).heap[k]? = wZ.heap[k]? := fun S k hk hlt => ⟨hk, Nat.lt_of_lt_of_le hlt hg5.size, hg5.block k hlt (fun e => hk.1 (by cases e; rfl))⟩
        have hZ5 := Ints.mono hZI (hfar _)
        have hr5 : Ints (fun k => k ≠ w.heap.size + 1 ∧ ¬ ((Value.slice (some ⟨gq, off, none⟩) k1 capq).ownBlock = some k)) (wZ.setCell ⟨w.heap.size + 1, d, none⟩ (.slice az P.orders.length capz)) (.slice (some ⟨br, or_, none⟩) P.orders.length capr) Y := Ints.mono (ints_of_own (hOY.ext0 hgZ) (by rw [hYV.1]; omega) (fun k hk => by
          have h1 := ((hOY.ext0 hgZ).lt k hk).1
          exact ⟨by omega, fun e => by have := own_blk e; omega⟩)) (hfar _)
        have hq5 : ShQ (fun k => k = w.heap.size + 1) w1.heap.size (wZ.setCell ⟨w.heap.size + 1, d, none⟩ (.slice az P.orders.length capz)) (.slice (some ⟨gq, off, none⟩) k1 capq) q1 := (hqS.ext hgZ).kept hg5.size (fun j hj hc => hg5.block j hj (fun e => by
          have e := Option.some.inj e
          subst e
          rcases hc with hc | hc
          · have := own_blk hc; omega
          · exact hc rfl)) (fun _ _ h => h)
        have hgw5 : Ext w0 (wZ.setCell ⟨w.heap.size + 1, d, none⟩ (.slice az P.orders.length capz)) := grown_own hgwZ hg5 (fun j hj hlt => by cases hj; have := HS.out; omega)
        have hqown : ∀ k, (Value.slice (some ⟨gq, off, none⟩) k1 capq).ownBlock = some k → w1.heap.size ≤ k := fun k hk => by have := own_blk hk; omega
        have HZ := Lib.hid (And.intro hZ (And.intro hZV (And.intro hZl hZne))); clear hZ hZV hZl hZne hcc hTS hqS hOZ hOY hZI
        have hq1l : q1.length ≤ 20000 := by have := HY.out.2.2.2.1; omega
        generalize hw5 : wZ.setCell ⟨w.heap.size + 1, d, none⟩ (.slice az P.orders.length capz) = w5 at *
        have hs5 : w1.heap.size ≤ w5.heap.size := by have := hgw5.size; have := hg5.size; have := hgZ.size; omega
        go_wp2_with (first | (at_builtin; refine wp_shq_app rfl _ _ rfl (fun k => k = w.heap.size + 1) w1.heap.size _ _ q1 Y rfl w5 hq5 rfl hr5 rfl (by omega) hs5 ?_; intro v6 w6 hq6 hg6 hb6; have hgw6 := grown_own hgw5 hg6 (fun j hj hlt => by have := hqown j hj; have := HS.out; omega)) | fail)
        have hT6 := tab_kept hT5 hqown hgb1 hg6 hb6
        have hZ6 : Ints (fun k => ¬ (k = w.heap.size + 1) ∧ v6.ownBlock ≠ some k) w6 (.slice az P.orders.length capz) Z := Ints.mono hZ5 (q_kept (bad := fun k => k = w.heap.size + 1) hg6 hb6)
        have hs6 : w1.heap.size ≤ w6.heap.size := by have := hg6.size; omega
        have hqlt6 : ∀ k, v6.ownBlock = some k → w1.heap.size ≤ k := fun k hk => (hq6.lt k hk).1
        clear hw5 hfar hT5 hg5 hZ5 hr5 hq5 hg6 hb6 hfr hcd hqown
        have hTV : Vec P.orders (pw P Z (gt P.orders d).toNat) := G.pw_vec HZ.out.2.1 _
        have hTl : (pw P Z (gt P.orders d).toNat).length ≤ 6 := by rw [hTV.1]; omega
        have hTe : pwZ P Z (gt P.orders d) = pw P Z (gt P.orders d).toNat := pwZ_nat _ _ _ (by omega)
        have HTV := Lib.hid (And.intro hTl hTe); clear hTl hTe hTV
        have e1 : ∀ w', Ext w0 w' → w'.cell? ⟨w.heap.size, 0, none⟩ = some (.slice (some ⟨bo, oo, none⟩) P.orders.length capo) := fun w' h => (HB.out w' h).1
        have e2 : ∀ w', Ext w0 w' → w'.cell? ⟨w.heap.size, 1, none⟩ = some vp6 := fun w' h => (HB.out w' h).2.1
        have e3 : ∀ w', Ext w0 w' → w'.cell? ⟨w.heap.size, 2, none⟩ = some vc6 := fun w' h => (HB.out w' h).2.2
        obtain ⟨_, _, hbb, _, _, hco⟩ := Ints.at h36.o d hdl
        have e5 : ∀ w', Ext w0 w' → w'.cell? ⟨bo, oo + d, none⟩ = some (.int .i64 (gt P.orders d)) := fun w' h => h.cell (by cases hbb; exact hco) (by simp)
        clear hco hbb
        go_region_held3 (fun w' => Ext w0 w') (first | exact grown_trans hgw6 (grown_drew _ _) | assumption | exact grown_trans hgwT (World.grownBy_alloc _ _ _))
          (first
            | (go_at_call 113; refine Calls.mono (Calls.rel2 (w0 := w6) (grown_drew _ _) (l10Pow_ok P G _ _ _ Z (gt P.orders d) Any _ ⟨_, _, _, rfl, Pres3.ext h36 (grown_trans hgw6 (grown_drew _ _))⟩ (hZ6.ext (grown_drew _ _)) HZ.out.2.1 (by omega))) ?_; rintro eT wT ⟨vT, rfl, hgT6, hgT7, hsT, hOT⟩; have hgwT := grown_trans hgw6 hgT6; rw [HTV.out.2] at hOT; have hTI : Ints (fun k => ¬ (k = w.heap.size + 1) ∧ v6.ownBlock ≠ some k) wT vT (pw P Z (gt P.orders d).toNat) := ints_of_own hOT (by have := HTV.out.1; omega) (fun k hk => by
                have h1 := (hOT.lt k hk).1
                have h3 := hgw6.size
                exact ⟨by omega, fun e => by have := (hq6.lt k e).2; omega⟩); obtain ⟨aT, capT, hvT, _, _⟩ := hTI.shape; subst hvT)
            | (refine step_shq_app rfl _ _ rfl (fun k => k = w.heap.size + 1) w1.heap.size v6 _ (q1 ++ [Y]) _ rfl wT (hq6.ext hgT6) rfl hTI rfl (by simp; omega) (by have := hgT6.size; omega) ?_; intro v7 w7 hq7 hg7 hb7; have hgw7 := grown_own hgwT hg7 (fun j hj hlt => by have := hqlt6 j hj; have := HS.out; omega)))
        clear e1 e2 e3 e5
        have hs7 : w1.heap.size ≤ w7.heap.size := by have := hg7.size; have := hgT6.size; omega
        have hT7 := tab_kept (hT6.ext hgT6) hqlt6 hgb1 hg7 hb7
        have hZ7 : Ints (fun k => ¬ (k = w.heap.size + 1) ∧ v7.ownBlock ≠ some k) w7 (.slice az P.orders.length capz) Z := Ints.mono (hZ6.ext hgT6) (q_kept (bad := fun k => k = w.heap.size + 1) hg7 hb7)
        obtain ⟨T1, hT1e⟩ : ∃ T1, T1 = pw P Z (gt P.orders d).toNat := ⟨_, rfl⟩
        rw [← hT1e] at hq7
        have HT1 := Lib.hid hT1e; clear hT1e hq6 hT6 hZ6 hqlt6 hTI hOT hg7 hb7
        go_wp2
        go_loopw [7, 12] (fun qv ev wr2 => ∃ (e : Nat) (v8 : Value), v8 = qv ∧ ev = .int .i64 e ∧ e ≤ P.orders.length ∧ w1.heap.size ≤ wr2.heap.size ∧ Ext w0 wr2 ∧ TabAt w.heap.size (fun j => v8.ownBlock = some j) wr2 (w.heap.size + 1) P.orders.length (b.set d Z) ∧
          ShQ (fun k => k = w.heap.size + 1) w1.heap.size wr2 v8 (q1 ++ [Y] ++ [T1] ++ comsR P b Z e) ∧ Ints (fun j => ¬ (j = w.heap.size + 1) ∧ v8.ownBlock ≠ some j) wr2 (.slice az P.orders.length capz) Z) (fun _ ev _ => P.orders.length - (intOf ev).toNat)
        case atStart => exact ⟨0, v7, rfl, rfl, by omega, hs7, hgw7, hT7, by simpa [comsR] using hq7, hZ7⟩
        case round =>
          obtain ⟨e, v8, rfl, rfl, he, hs8, hg8, hT8, hq8, hZ8⟩ := hrel
          clear hT7 hq7 hZ7
          have hqlt8 : ∀ j, v8.ownBlock = some j → w1.heap.size ≤ j := fun j hj => (hq8.lt j hj).1
          by_cases he2 : e < P.orders.length
          · have he' : (e : Int) < P.orders.length := by omega
            have he0 : (0 : Int) ≤ e := by omega
            by_cases hed : e = d
            · have hcs : comsR P b Z (e + 1) = comsR P b Z e := by simp only [comsR]; rw [if_pos (by rw [hed]; exact HD.out.1), List.append_nil]
              have hne : ((e : Int) != (d : Int)) = false := by simp [hed]
              have HC := Lib.hid hcs; clear hcs hed
              go_wp2
              go_roundw
              case rel => exact ⟨e + 1, v8, rfl, by go_num, by omega, hs8, hg8, hT8, by rw [HC.out]; exact hq8, hZ8⟩
              case measure => simp [intOf]; omega
            · have hne : ((e : Int) != (d : Int)) = true := by simp; omega
              have hbe : gt (b.set d Z) e = gt b e := gt_set_ne _ _ _ _ (fun h => hed h.symm)
              obtain ⟨_, hcc⟩ := hT8.at e he2
              rw [hbe] at hcc
              clear hbe hed
              rcases hcc with ⟨h0, hcell⟩ | ⟨hnn, ab, capb, hcell, hbI⟩
              · have hcs : comsR P b Z (e + 1) = comsR P b Z e := by simp only [comsR]; rw [if_pos h0, List.append_nil]
                have HC := Lib.hid hcs; clear hcs h0
                go_wp2
                go_roundw
                case rel => exact ⟨e + 1, v8, rfl, by go_num, by omega, hs8, hg8, hT8, by rw [HC.out]; exact hq8, hZ8⟩
                case measure => simp [intOf]; omega
              · have hcs : comsR P b Z (e + 1) = comsR P b Z e ++ [comR P Z (gt b e)] := by simp only [comsR]; rw [if_neg hnn]
                have hbV := (HY.out.2.1 e he2 hnn).1.1
                have hcV : Vec P.orders (comR P Z (gt b e)) := G.mulV (G.invV (G.mulV hbV HZ.out.2.1)) (G.mulV HZ.out.2.1 hbV)
                have hbl : (0 : Int) < (gt b e).length := by
                  have : 0 < (gt b e).length := List.length_pos_iff.2 hnn
                  omega
                have hcl := comsR_len P b Z e
                have HC := Lib.hid (And.intro hcs (And.intro hbV (And.intro hcV hcl))); clear hcs hbV hcV hcl hnn
                have hgbl : w.heap.size + 1 < wr.heap.size := by have := hT8.lt; omega
                go_wp2
                have e1 : ∀ w', HeldB w0 wr (w.heap.size + 1) w' → w'.cell? ⟨w.heap.size, 0, none⟩ = some (.slice (some ⟨bo, oo, none⟩) P.orders.length capo) := fun w' h => (HB.out w' h.1).1
                have e2 : ∀ w', HeldB w0 wr (w.heap.size + 1) w' → w'.cell? ⟨w.heap.size, 1, none⟩ = some vp6 := fun w' h => (HB.out w' h.1).2.1
                have e3 : ∀ w', HeldB w0 wr (w.heap.size + 1) w' → w'.cell? ⟨w.heap.size, 2, none⟩ = some vc6 := fun w' h => (HB.out w' h.1).2.2
                have e4 : ∀ w', HeldB w0 wr (w.heap.size + 1) w' → w'.cell? ⟨w.heap.size + 1, e, none⟩ = some (.slice (some ab) (gt b e).length capb) := fun w' h => h.cell hcell
                clear hcell
                go_region_held3 (fun w' => HeldB w0 wr (w.heap.size + 1) w') (first | exact heldB_ext hg8 hgbl (grown_drew _ _) | assumption | exact heldB_ext hg8 hgbl hgC | exact heldB_ext hg8 hgbl (grown_trans hgC (World.grownBy_alloc _ _ _)))
                  (first
                    | (go_at_call 115; refine Calls.mono (Calls.rel2 (w0 := wr) (grown_drew _ _) (l10Comm_ok P G _ _ _ _ Z (gt b e) Any _ _ ⟨_, _, _, rfl, Pres3.ext h36 (grown_trans hg8 (grown_drew _ _))⟩ (hZ8.ext (grown_drew _ _)) (Ints.ext hbI (grown_drew _ _)) HZ.out.2.1 HC.out.2.1)) ?_; rintro eC wC ⟨vC, rfl, hgC, hgC2, hsC, hOC⟩; have hCI : Ints (fun k => ¬ (k = w.heap.size + 1) ∧ v8.ownBlock ≠ some k) wC vC (comR P Z (gt b e)) := ints_of_own hOC (by rw [HC.out.2.2.1.1]; omega) (fun k hk => by
                        have h1 := (hOC.lt k hk).1
                        exact ⟨by omega, fun e => by have := (hq8.lt k e).2; omega⟩); obtain ⟨aC, capC, hvC, _, _⟩ := hCI.shape; subst hvC)
                    | (refine step_shq_app rfl _ _ rfl (fun k => k = w.heap.size + 1) w1.heap.size v8 _ (q1 ++ [Y] ++ [T1] ++ comsR P b Z e) _ rfl wC (hq8.ext hgC) rfl hCI rfl (by have := HC.out.2.2.2; simp; omega) (by have := hgC.size; omega) ?_; intro v9 w9 hq9 hg9 hb9; have hH9 : HeldB w0 wr (w.heap.size + 1) w9 := ⟨grown_own (grown_trans hg8 hgC) hg9 (fun j hj hlt => by have := hqlt8 j hj; have := HS.out; omega), (hg9.block _ (by have := hgC.size; omega) (fun e => by have := hqlt8 _ e.symm; omega)).trans (hgC.block _ hgbl (by simp))⟩))
                clear e1 e2 e3 e4
                have hs9 : w1.heap.size ≤ w9.heap.size := by have := hg9.size; have := hgC.size; omega
                have hT9 := tab_kept (hT8.ext hgC) hqlt8 hgb1 hg9 hb9
                have hZ9 : Ints (fun k => ¬ (k = w.heap.size + 1) ∧ v9.ownBlock ≠ some k) w9 (.slice az P.orders.length capz) Z := Ints.mono (hZ8.ext hgC) (q_kept (bad := fun k => k = w.heap.size + 1) hg9 hb9)
                clear hq8 hT8 hZ8 hg9 hb9 hCI hOC
                go_wp2
                go_roundw
                case rel => exact ⟨e + 1, v9, rfl, by go_num, by omega, hs9, hH9.1, hT9, by rw [HC.out.1, ← List.append_assoc]; exact hq9, hZ9⟩
                case measure => simp [intOf]; omega
          · have hee : e = P.orders.length := by omega
            subst hee
            have hms := miss_set (b := b) (z := Z) HD.out.1 HZ.out.2.2.2 P.orders.length (by rw [HLB.out]; exact Nat.le_refl _)
            rw [if_pos hdl] at hms
            have hcl := comsR_len P b Z P.orders.length
            have hll : (q1 ++ [Y] ++ [T1] ++ comsR P b Z P.orders.length).length ≤ q1.length + 2 + P.orders.length := by simp; omega
            have hmul : miss b P.orders.length * (P.orders.length + 3) = miss (b.set d Z) P.orders.length * (P.orders.length + 3) + (P.orders.length + 3) := by rw [← hms, Nat.add_mul, Nat.one_mul]
            have hA5 : Hid (∃ R, AddInv P Q (gt (b.set d Z)) (q1 ++ [Y] ++ [T1] ++ comsR P b Z P.orders.length).reverse R) := by
              obtain ⟨R, hA⟩ := HA2.out.1
              have hst := G.close_step (q' := (q1 ++ [Y] ++ [T1] ++ comsR P b Z P.orders.length).reverse) hA hdl HA2.out.2.1 HD.out.1 HLB.out kk hk1' HK.out (fun x => by
                rw [← HZ.out.1, ← HT1.out]
                simp only [List.mem_reverse, List.mem_append, List.mem_singleton, or_assoc])
              rw [← HZ.out.1] at hst
              exact Lib.hid hst
            have hlt5 : miss (b.set d Z) P.orders.length * (P.orders.length + 3) + (q1 ++ [Y] ++ [T1] ++ comsR P b Z P.orders.length).length < gk := by
              have := HY.out.2.2.2.2; have := HY.out.2.2.2.1; have := HM.out.1; omega
            have HX := Lib.hid (And.intro hll (And.intro hlt5 (And.intro hmul hms))); clear hll hmul hms hlt5 hcl hZ8
            go_wp2
            go_roundg (miss (b.set d Z) P.orders.length * (P.orders.length + 3) + (q1 ++ [Y] ++ [T1] ++ comsR P b Z P.orders.length).length)
            case measure => exact HX.out.2.1
            case rel => exact ⟨b.set d Z, _, by have := HX.out.2.1; omega, rfl, hg8, hT8, hq8, hA5⟩

end Go.Proofs.YtdklekdpdbjfiaaGreat

/- The codes and orders of Hall subgroups: impl.hallOrder, isPrimeSet, hallCode; spec.l20Primes, l20Code. -/
namespace Go.Proofs.YtdklekdpdbjfiaaGreat
open Go.RowKit

set_option maxRecDepth 100000 in
set_option maxHeartbeats 1000000 in
theorem indexInt_ok (l : List Int) (x : Int) (w : World) (v : Value) (S : Nat → Prop) (hv : Ints S w v l) :
    Calls Tryz.prog 186 #[v, .int .i64 x] w (Ret w fun _ r => ∃ k : Int, r = .int .i64 k ∧ (0 ≤ k ↔ x ∈ l)) := by
  obtain ⟨a, c, rfl, _, _⟩ := hv.shape
  have HV := Lib.hid hv; clear hv
  go_enter Tryz.func186, Tryz.ntmps186
  go_wp2
  go_loopw [8] (fun iv wr => ∃ i : Nat, iv = .int .i64 i ∧ i ≤ l.length ∧ Ext w wr ∧ Hid (∀ j, j < i → gt l j ≠ x)) (fun iv _ => l.length - (intOf iv).toNat)
  case atStart => exact ⟨0, by go_num, by omega, Ext.refl _, Lib.hid (fun j hj => by omega)⟩
  case round =>
    obtain ⟨i, rfl, hi, hg, hN⟩ := hrel
    by_cases hlt : i < l.length
    · have hlt' : (i : Int) < l.length := by omega
      obtain ⟨b, o, hab, _, _, hc⟩ := Ints.at HV.out i hlt
      subst hab
      have hcr := hg.cell hc (by simp)
      by_cases he : gt l i = x
      · have hd : x ∈ l := by rw [← he]; exact gt_mem hlt
        rw [he] at hcr
        have HD := Lib.hid hd; clear hd he hc
        go_wp2
        go_ret
        exact ⟨_, rfl, hg, (i : Int), rfl, ⟨fun _ => HD.out, fun _ => by omega⟩⟩
      · have hne : (x == gt l i) = false := by
          have : ¬ x = gt l i := fun e => he e.symm
          simpa using this
        have hN2 : ∀ j, j < i + 1 → gt l j ≠ x := fun j hj => by
          rcases Nat.lt_succ_iff_lt_or_eq.1 hj with h | h
          · exact hN.out j h
          · rw [h]; exact he
        have HN2 := Lib.hid hN2; clear hN2 he hc hN
        generalize gt l i = y at *
        go_wp2
        clear hne
        go_roundw
        case rel => exact ⟨i + 1, by go_num, by omega, hg, HN2⟩
        case measure => simp [intOf]; omega
    · have hie : i = l.length := by omega
      have hd : ¬ x ∈ l := fun h => by
        obtain ⟨j, hj, e⟩ := mem_gt h
        exact hN.out j (by omega) e
      have hnl : ¬ (i : Int) < l.length := by omega
      have HD := Lib.hid hd; clear hd hie hN
      go_wp2
      go_ret
      exact ⟨_, rfl, hg, -1, rfl, ⟨fun h => by omega, fun h => absurd h HD.out⟩⟩

set_option maxRecDepth 100000 in
set_option maxHeartbeats 1000000 in
theorem containsInt_ok (l : List Int) (x : Int) (w : World) (v : Value) (S : Nat → Prop) (hv : Ints S w v l) :
    Calls Tryz.prog 121 #[v, .int .i64 x] w (Ret w fun _ r => r = .bool (decide (x ∈ l))) := by
  have hi := indexInt_ok l x w v S hv
  obtain ⟨a, c, rfl, _, _⟩ := hv.shape
  go_enter Tryz.func121, Tryz.ntmps121
  go_wp2_with fail
  refine Calls.mono hi ?_
  rintro e1 w1 ⟨v1, rfl, hg1, k, rfl, hk⟩
  have HK := Lib.hid hk; clear hk hi
  go_wp2
  go_ret
  refine ⟨_, rfl, hg1, ?_⟩
  show Value.bool (decide (0 ≤ k)) = _
  rw [decide_eq_decide.2 HK.out]

theorem hallTo_le {P : Pr} (hP : Valid P) (pr : List Int) : ∀ k, k ≤ P.orders.length → 1 ≤ hallTo P pr k ∧ hallTo P pr k ≤ prodTo P.orders k
  | 0, _ => ⟨Int.le_refl 1, Int.le_refl 1⟩
  | k + 1, h => by
    obtain ⟨h1, h2⟩ := hallTo_le hP pr k (by omega)
    have ho := hP.ord7 k (by omega)
    have h3 : 1 * 1 ≤ hallTo P pr k * gt P.orders k := Int.mul_le_mul h1 (by omega) (by omega) (by omega)
    have h4 : hallTo P pr k * gt P.orders k ≤ prodTo P.orders k * gt P.orders k := Int.mul_le_mul_of_nonneg_right h2 (by omega)
    have h5 : prodTo P.orders k * 1 ≤ prodTo P.orders k * gt P.orders k := Int.mul_le_mul_of_nonneg_left (by omega) (by omega)
    unfold hallTo prodTo
    split <;> omega
theorem hallTo_729 {P : Pr} (hP : Valid P) (pr : List Int) (k : Nat) (hk : k ≤ P.orders.length) : 1 ≤ hallTo P pr k ∧ hallTo P pr k ≤ 729 := by
  have h1 := hallTo_le hP pr k hk
  have h2 := hP.pre k hk
  omega
theorem hallTo_yes {P : Pr} {pr : List Int} {k : Nat} (h : gt P.orders k ∈ pr) : hallTo P pr (k + 1) = hallTo P pr k * gt P.orders k := by rw [hallTo, if_pos h]
theorem hallTo_no {P : Pr} {pr : List Int} {k : Nat} (h : ¬ gt P.orders k ∈ pr) : hallTo P pr (k + 1) = hallTo P pr k := by rw [hallTo, if_neg h]

set_option maxRecDepth 100000 in
set_option maxHeartbeats 1000000 in
theorem hallOrder_ok (P : Pr) (hP : Valid P) (pr : List Int) (w : World) (p v : Value) (Sp S : Nat → Prop) (hp : PresP Sp w p P) (hv : Ints S w v pr) :
    Calls Tryz.prog 70 #[p, v] w (Ret w fun _ r => r = .int .i64 (hallO P pr)) := by
  have hn6 := hP.n6
  obtain ⟨pb, po, rfl⟩ := hp.shape
  obtain ⟨ao, capo, hco0, hoi⟩ := hp.ordAt
  obtain ⟨a, c, rfl, _, _⟩ := hv.shape
  have HV := Lib.hid hv; clear hv
  go_enter Tryz.func70, Tryz.ntmps70
  go_wp2
  clear hco0
  go_loopw [5, 13] (fun ov iv wr => ∃ i : Nat, ov = .int .i64 (hallTo P pr i) ∧ iv = .int .i64 i ∧ i ≤ P.orders.length ∧ Ext w wr) (fun _ iv _ => P.orders.length - (intOf iv).toNat)
  case atStart => exact ⟨0, rfl, by go_num, by omega, Ext.refl _⟩
  case round =>
    obtain ⟨i, rfl, rfl, hi, hg⟩ := hrel
    by_cases hlt : i < P.orders.length
    · have hlt' : (i : Int) < P.orders.length := by omega
      obtain ⟨b, o, hab, _, _, hc⟩ := Ints.at hoi i hlt
      subst hab
      have hcr := hg.cell hc (by simp)
      have hb := hallTo_729 hP pr i hi
      have hb1 := hallTo_729 hP pr (i + 1) hlt
      have hyes := @hallTo_yes P pr i
      have hno := @hallTo_no P pr i
      obtain ⟨q, hq⟩ : ∃ q, q = gt P.orders i := ⟨_, rfl⟩
      obtain ⟨h0, hh0⟩ : ∃ h, h = hallTo P pr i := ⟨_, rfl⟩
      rw [← hq] at hcr hyes hno
      rw [← hh0] at hb hyes hno ⊢
      have hcon := containsInt_ok pr q wr _ S (Ints.ext HV.out hg)
      have HY := Lib.hid (And.intro hyes (And.intro hno hb1)); clear hyes hno hb1 hc hq hh0
      go_wp2_with fail
      refine Calls.mono hcon ?_
      rintro e1 w1 ⟨v1, rfl, hg1, rfl⟩
      clear hcon hcr
      have hg01 := grown_trans hg hg1
      by_cases hm : q ∈ pr
      · have hd : decide (q ∈ pr) = true := decide_eq_true hm
        have hst := HY.out.1 hm
        have hbd := HY.out.2.2
        rw [hst] at hbd
        have hw : wrap64 (h0 * q) = h0 * q := IntWalk.wrap64_in _ (by omega)
        rw [hd]
        have HS := Lib.hid hst; clear hst hm hd
        go_wp2
        go_roundw
        case rel => exact ⟨i + 1, by rw [HS.out], by go_num, by omega, hg01⟩
        case measure => simp [intOf]; omega
      · have hd : decide (q ∈ pr) = false := decide_eq_false hm
        have hst := HY.out.2.1 hm
        rw [hd]
        have HS := Lib.hid hst; clear hst hm hd
        go_wp2
        go_roundw
        case rel => exact ⟨i + 1, by rw [HS.out], by go_num, by omega, hg01⟩
        case measure => simp [intOf]; omega
    · have hie : i = P.orders.length := by omega
      have hnl : ¬ (i : Int) < P.orders.length := by omega
      subst hie
      go_wp2
      go_ret
      exact ⟨_, rfl, hg, rfl⟩

/-- a set of primes, as both sides take it -/
def PrSet (pr : List Int) : Prop := ∀ i, i < pr.length → primeB (gt pr i) = true ∧ (0 < i → gt pr (i - 1) < gt pr i)

set_option maxRecDepth 100000 in
set_option maxHeartbeats 1000000 in
theorem isPrimeSet_ok (pr : List Int) (w : World) (v : Value) (S : Nat → Prop) (hv : Ints S w v pr) :
    Calls Tryz.prog 131 #[v] w (Ret w fun _ r => ∃ b : Bool, r = .bool b ∧ (b = true ↔ PrSet pr)) := by
  obtain ⟨a, c, rfl, _, _⟩ := hv.shape
  have HV := Lib.hid hv; clear hv
  go_enter Tryz.func131, Tryz.ntmps131
  go_wp2
  go_loopw [7] (fun iv wr => ∃ i : Nat, iv = .int .i64 i ∧ i ≤ pr.length ∧ Ext w wr ∧ Hid (∀ j, j < i → primeB (gt pr j) = true ∧ (0 < j → gt pr (j - 1) < gt pr j))) (fun iv _ => pr.length - (intOf iv).toNat)
  case atStart => exact ⟨0, by go_num, by omega, Ext.refl _, Lib.hid (fun j hj => by omega)⟩
  case round =>
    obtain ⟨i, rfl, hi, hg, hN⟩ := hrel
    by_cases hlt : i < pr.length
    · have hlt' : (i : Int) < pr.length := by omega
      obtain ⟨b, o, hab, _, _, hc⟩ := Ints.at HV.out i hlt
      subst hab
      have hcr := hg.cell hc (by simp)
      have hip := isGroupPrime_ok (gt pr i) wr
      have hno : (primeB (gt pr i) = true ∧ (0 < i → gt pr (i - 1) < gt pr i) → False) → ¬ PrSet pr := fun h hh => h (hh i hlt)
      have hgo : primeB (gt pr i) = true → (0 < i → gt pr (i - 1) < gt pr i) → Hid (∀ j, j < i + 1 → primeB (gt pr j) = true ∧ (0 < j → gt pr (j - 1) < gt pr j)) := fun h1 h2 => Lib.hid (fun j hj => by
        rcases Nat.lt_succ_iff_lt_or_eq.1 hj with h | h
        · exact hN.out j h
        · subst h; exact ⟨h1, h2⟩)
      rcases Nat.eq_zero_or_pos i with h0 | h0
      · subst h0
        obtain ⟨q, hq⟩ : ∃ q, q = gt pr 0 := ⟨_, rfl⟩
        rw [← hq] at hcr hip hno hgo
        obtain ⟨pb, hpb⟩ : ∃ pb, pb = primeB q := ⟨_, rfl⟩
        rw [← hpb] at hip hno hgo
        have HH := Lib.hid (And.intro hno hgo); clear hno hgo hc hq hpb hN
        have hcr : wr.cell? ⟨b, o, none⟩ = some (.int .i64 q) := hcr
        go_wp2_with fail
        refine Calls.mono hip ?_
        rintro e1 w1 ⟨rfl, rfl⟩
        cases pb with
        | false =>
          have hn := HH.out.1 (fun h => by cases h.1)
          have HN := Lib.hid hn; clear hn
          go_wp2
          go_ret
          exact ⟨_, rfl, hg, false, rfl, by simpa using HN.out⟩
        | true =>
          have hn := HH.out.2 rfl (fun h => by omega)
          go_wp2
          go_roundw
          case rel => exact ⟨1, by go_num, by omega, hg, hn⟩
          case measure => simp [intOf]; omega
      · obtain ⟨b2, o2, hab2, _, _, hc2⟩ := Ints.at HV.out (i - 1) (by omega)
        cases hab2
        have hcr2 := hg.cell hc2 (by simp)
        obtain ⟨q, hq⟩ : ∃ q, q = gt pr i := ⟨_, rfl⟩
        obtain ⟨q', hq'⟩ : ∃ q', q' = gt pr (i - 1) := ⟨_, rfl⟩
        rw [← hq] at hcr hip hno hgo
        rw [← hq'] at hcr2 hno hgo
        obtain ⟨pb, hpb⟩ : ∃ pb, pb = primeB q := ⟨_, rfl⟩
        rw [← hpb] at hip hno hgo
        have HH := Lib.hid (And.intro hno hgo); clear hno hgo hc hc2 hq hq' hpb hN
        obtain ⟨k, rfl⟩ : ∃ k, i = k + 1 := ⟨i - 1, by omega⟩
        have hcr2 : wr.cell? ⟨b, o + k, none⟩ = some (.int .i64 q') := by rw [Nat.add_sub_cancel] at hcr2; exact hcr2
        have hk1 : (((k + 1 : Nat) : Int) > 0) := by omega
        have hkk : ((k + 1 : Nat) : Int) - 1 = (k : Int) := by omega
        have hwk : wrap64 (((k + 1 : Nat) : Int) - 1) = (k : Int) := by rw [IntWalk.wrap64_in _ (by omega)]; omega
        go_wp2_with fail
        refine Calls.mono hip ?_
        rintro e1 w1 ⟨rfl, rfl⟩
        clear hip
        cases pb with
        | false =>
          have hn := HH.out.1 (fun h => by cases h.1)
          have HN := Lib.hid hn; clear hn
          go_wp2
          go_ret
          exact ⟨_, rfl, hg, false, rfl, by simpa using HN.out⟩
        | true =>
          by_cases hq : q' < q
          · have hn := HH.out.2 rfl (fun _ => hq)
            have hge : ¬ q' ≥ q := by omega
            go_wp2
            go_roundw
            case rel => exact ⟨k + 1 + 1, by go_num, by omega, hg, hn⟩
            case measure => simp [intOf]; omega
          · have hn := HH.out.1 (fun h => hq (h.2 (by omega)))
            have hge : q' ≥ q := by omega
            have HN := Lib.hid hn; clear hn
            go_wp2
            go_ret
            exact ⟨_, rfl, hg, false, rfl, by simpa using HN.out⟩
    · have hyes : PrSet pr := fun j hj => hN.out j (by omega)
      have hnl : ¬ (i : Int) < pr.length := by omega
      have HY := Lib.hid hyes; clear hyes hN
      go_wp2
      go_ret
      first | exact ⟨_, rfl, hg, true, rfl, by simpa using HY.out⟩ | exact ⟨_, rfl, hg, .inr ⟨rfl, HY.out⟩⟩

end Go.Proofs.YtdklekdpdbjfiaaGreat

/- The codes of Hall subgroups: impl.hallCode; spec.l20Primes, l20Code. -/
namespace Go.Proofs.YtdklekdpdbjfiaaGreat
open Go.RowKit

open Classical in
noncomputable def hcC (P : Pr) (pr : List Int) : Int := if rconsB P = true then (if PrSet pr then (if 128 < ordP P then 3 else 0) else 2) else 1
theorem hc_zero {P : Pr} {pr : List Int} (h : hcC P pr = 0) : rconsB P = true ∧ PrSet pr ∧ ordP P ≤ 128 := by
  unfold hcC at h
  by_cases h1 : rconsB P = true
  · rw [if_pos h1] at h
    by_cases h2 : PrSet pr
    · rw [if_pos h2] at h
      by_cases h3 : 128 < ordP P
      · rw [if_pos h3] at h; cases h
      · exact ⟨h1, h2, by omega⟩
    · rw [if_neg h2] at h; cases h
  · rw [if_neg h1] at h; cases h

theorem l01PrimeR_ok (n : Int) (w : World) : Calls Tryz.prog 110 #[.int .i64 n] w (Ret w fun _ v => v = .bool (primeB n)) := by
  refine Calls.mono (l01Prime_ok n w) ?_
  rintro e w' ⟨rfl, rfl⟩
  exact ⟨_, rfl, Ext.refl _, rfl⟩

set_option maxRecDepth 100000 in
set_option maxHeartbeats 1000000 in
theorem hallCode_ok (P : Pr) (pr : List Int) (w : World) (p v : Value) (Sp S : Nat → Prop) (hp : PresP Sp w p P) (hv : Ints S w v pr) :
    Calls Tryz.prog 76 #[p, v] w (Ret w fun _ r => r = .int .i64 (hcC P pr)) := by
  obtain ⟨pb, po, rfl⟩ := hp.shape
  obtain ⟨vo6, vp6, vc6, _, _, hc0, hc1, hc2, h36⟩ := hp.at
  have hcon := isConsistent_ok P w (.agg #[vo6, vp6, vc6]) Sp ⟨_, _, _, rfl, h36⟩
  rw [icons_eq] at hcon
  obtain ⟨a, c, rfl, _, _⟩ := hv.shape
  have HV := Lib.hid hv; clear hv
  go_enter Tryz.func76, Tryz.ntmps76
  go_wp2_with fail
  clear hc0 hc1 hc2
  refine Calls.mono hcon ?_
  rintro e1 w1 ⟨v1, rfl, hg1, rfl⟩
  cases hq : rconsB P with
  | false =>
    have e : hcC P pr = 1 := by unfold hcC; rw [if_neg (by rw [hq]; decide)]
    have HE := Lib.hid e; clear e hq hcon
    go_wp2
    go_ret
    exact ⟨_, rfl, hg1, by rw [HE.out]; rfl⟩
  | true =>
    have G := grp_of_r hq
    have hip := isPrimeSet_ok pr w1 _ S (Ints.ext HV.out hg1)
    have HQ := Lib.hid hq; clear hq hcon
    go_wp2_with fail
    refine Calls.mono hip ?_
    rintro e2 w2 ⟨v2, rfl, hg2, r, rfl, hr⟩
    clear hip
    have hg02 := grown_trans hg1 hg2
    cases r with
    | false =>
      have e : hcC P pr = 2 := by unfold hcC; rw [if_pos HQ.out, if_neg (fun h => by have := hr.2 h; cases this)]
      have HE := Lib.hid e; clear e hr
      go_wp2
      go_ret
      exact ⟨_, rfl, hg02, by rw [HE.out]; rfl⟩
    | true =>
      have e : hcC P pr = if 128 < ordP P then 3 else 0 := by unfold hcC; rw [if_pos HQ.out, if_pos (hr.1 rfl)]
      have HE := Lib.hid e; clear e hr
      go_wp2_with fail
      refine Calls.mono (orderOf_ok w2 _ P Sp G.v (hp.ext hg02)) ?_
      rintro e3 w3 ⟨rfl, rfl⟩
      by_cases hbig : 128 < ordP P
      · have e := HE.out
        rw [if_pos hbig] at e
        have HE2 := Lib.hid e; clear e
        go_wp2
        go_ret
        exact ⟨_, rfl, hg02, by rw [HE2.out]; rfl⟩
      · have e := HE.out
        rw [if_neg hbig] at e
        have HE2 := Lib.hid e; clear e
        go_wp2
        go_ret
        exact ⟨_, rfl, hg02, by rw [HE2.out]; rfl⟩

set_option maxRecDepth 100000 in
set_option maxHeartbeats 4000000 in
set_option linter.unusedSimpArgs false in
theorem l20Primes_ok (pr : List Int) (w : World) (v : Value) (S : Nat → Prop) (hv : Ints S w v pr) :
    Calls Tryz.prog 126 #[v] w (Ret w fun _ r => ∃ b : Bool, r = .bool b ∧ (b = true ↔ PrSet pr)) := by
  obtain ⟨a, c, rfl, _, _⟩ := hv.shape
  have HV := Lib.hid hv; clear hv
  go_enter Tryz.func126, Tryz.ntmps126
  go_wp2
  go_loopw [3] (fun iv wr => ∃ i : Nat, iv = .int .i64 i ∧ i ≤ pr.length ∧ Ext w wr ∧ Hid (∀ j, j < i → primeB (gt pr j) = true ∧ (0 < j → gt pr (j - 1) < gt pr j))) (fun iv _ => pr.length - (intOf iv).toNat)
  case atStart => exact ⟨0, by go_num, by omega, Ext.refl _, Lib.hid (fun j hj => by omega)⟩
  case round =>
    obtain ⟨i, rfl, hi, hg, hN⟩ := hrel
    by_cases hlt : i < pr.length
    · have hlt' : (i : Int) < pr.length := by omega
      obtain ⟨b, o, hab, _, _, hc⟩ := Ints.at HV.out i hlt
      subst hab
      have hcr : ∀ w', Ext wr w' → w'.cell? ⟨b, o + i, none⟩ = some (.int .i64 (gt pr i)) := fun w' h => (grown_trans hg h).cell hc (by simp)
      have hno : (primeB (gt pr i) = true ∧ (0 < i → gt pr (i - 1) < gt pr i) → False) → ¬ PrSet pr := fun h hh => h (hh i hlt)
      have hgo : primeB (gt pr i) = true → (0 < i → gt pr (i - 1) < gt pr i) → Hid (∀ j, j < i + 1 → primeB (gt pr j) = true ∧ (0 < j → gt pr (j - 1) < gt pr j)) := fun h1 h2 => Lib.hid (fun j hj => by
        rcases Nat.lt_succ_iff_lt_or_eq.1 hj with h | h
        · exact hN.out j h
        · subst h; exact ⟨h1, h2⟩)
      have hprev : 0 < i → ∀ w', Ext wr w' → w'.cell? ⟨b, o + (i - 1), none⟩ = some (.int .i64 (gt pr (i - 1))) := fun h0 w' h => by
        obtain ⟨b2, o2, hab2, _, _, hc2⟩ := Ints.at HV.out (i - 1) (by omega)
        cases hab2
        exact (grown_trans hg h).cell hc2 (by simp)
      obtain ⟨q, hq⟩ : ∃ q, q = gt pr i := ⟨_, rfl⟩
      obtain ⟨q', hq'⟩ : ∃ q', q' = gt pr (i - 1) := ⟨_, rfl⟩
      rw [← hq] at hcr hno hgo
      rw [← hq'] at hprev hno hgo
      have HH := Lib.hid (And.intro hno (And.intro hgo hprev)); clear hno hgo hprev hc hq hq' hN
      by_cases hpq : primeB q = false
      · have hn := HH.out.1 (fun h => by have := h.1; rw [hpq] at this; cases this)
        have HN := Lib.hid hn; clear hn
        go_wp2
        refine wp_region_held_drew (S := (fun w' => Ext wr w')) (by kernel_rfl) (by first | exact grown_drew _ _ | assumption) (fun hHeld => ?_)
        refine wpAnyH_take (i := 0) (v := ?va0) rfl (by kernel_rfl) (by kernel_rfl) (by kernel_rfl) (fun _ _ _ h => h) (Or.inl ⟨by rfl, ?hya0⟩) (by assumption) ?resta0
        case hya0 => (intro w hSw; (try dsimp only at hSw); go_simp; try with_reducible rfl)
        try simp only [Act.put, List.getElem_toArray, List.getElem_cons_succ, List.getElem_cons_zero, List.setIfInBounds_toArray, List.set_cons_zero, List.set_cons_succ]
        refine wpAnyH_take (i := 1) (v := ?va1) rfl (by kernel_rfl) (by kernel_rfl) (by kernel_rfl) (fun _ _ _ h => h) (Or.inl ⟨by rfl, ?hya1⟩) (by assumption) ?resta1
        case hya1 => (intro w hSw; (try dsimp only at hSw); go_simp; try with_reducible rfl)
        try simp only [Act.put, List.getElem_toArray, List.getElem_cons_succ, List.getElem_cons_zero, List.setIfInBounds_toArray, List.set_cons_zero, List.set_cons_succ]
        refine wpAnyH_take (i := 2) (v := ?va2) rfl (by kernel_rfl) (by kernel_rfl) (by kernel_rfl) (fun _ _ _ h => h) (Or.inl ⟨by rfl, ?hya2⟩) (by assumption) ?resta2
        case hya2 => (intro w hSw; (try dsimp only at hSw); go_simp; try with_reducible rfl)
        try simp only [Act.put, List.getElem_toArray, List.getElem_cons_succ, List.getElem_cons_zero, List.setIfInBounds_toArray, List.set_cons_zero, List.set_cons_succ]
        refine wpAnyH_take (i := 3) (v := ?va3) rfl (by kernel_rfl) (by kernel_rfl) (by kernel_rfl) (fun _ _ _ h => h) (Or.inl ⟨by rfl, ?hya3⟩) (by assumption) ?resta3
        case hya3 => (intro w hSw; (try dsimp only at hSw); go_simp; try with_reducible rfl)
        try simp only [Act.put, List.getElem_toArray, List.getElem_cons_succ, List.getElem_cons_zero, List.setIfInBounds_toArray, List.set_cons_zero, List.set_cons_succ]
        refine wpAnyH_ready (rs := [4]) (by kernel_rfl) (by simp) ?_
        refine AllReadyH.cons rfl (fun Kc hKc => ?_) AllReadyH.nil
        go_simp
        go_at_call 110
        refine Calls.mono (Calls.rel (w0 := wr) (by first | assumption | exact grown_drew _ _) (l01PrimeR_ok q _)) ?_
        rintro eP wP ⟨vP, rfl, hgP, hsP, rfl⟩
        go_wp2_with fail
        refine hKc.out _ _ ?_ (fun hHeld => ?_)
        · first | exact grown_drew _ _ | assumption
        clear hKc Kc
        try simp only [Act.put, List.getElem_toArray, List.getElem_cons_succ, List.getElem_cons_zero, List.setIfInBounds_toArray, List.set_cons_zero, List.set_cons_succ]
        refine wpAnyH_take (i := 5) (v := ?va5) rfl (by kernel_rfl) (by kernel_rfl) (by kernel_rfl) (fun _ _ _ h => h) (Or.inl ⟨by rfl, ?hya5⟩) (by assumption) ?resta5
        case hya5 => (intro w hSw; (try dsimp only at hSw); go_simp; try with_reducible rfl)
        try simp only [Act.put, List.getElem_toArray, List.getElem_cons_succ, List.getElem_cons_zero, List.setIfInBounds_toArray, List.set_cons_zero, List.set_cons_succ]
        refine wpAnyH_take (i := 6) (v := ?va6) rfl (by kernel_rfl) (by kernel_rfl) (by kernel_rfl) (fun _ _ _ h => h) (Or.inl ⟨by rfl, ?hya6⟩) (by assumption) ?resta6
        case hya6 => (intro w hSw; (try dsimp only at hSw); go_simp; try with_reducible rfl)
        try simp only [Act.put, List.getElem_toArray, List.getElem_cons_succ, List.getElem_cons_zero, List.setIfInBounds_toArray, List.set_cons_zero, List.set_cons_succ]
        refine wpAnyH_take (i := 7) (v := undef) rfl (by kernel_rfl) (by kernel_rfl) (by kernel_rfl) (fun _ _ _ h => h) (Or.inr ⟨by rfl, rfl⟩) (by assumption) ?_
        try simp only [Act.put, List.getElem_toArray, List.getElem_cons_succ, List.getElem_cons_zero, List.setIfInBounds_toArray, List.set_cons_zero, List.set_cons_succ]
        refine wpAnyH_take (i := 8) (v := undef) rfl (by kernel_rfl) (by kernel_rfl) (by kernel_rfl) (fun _ _ _ h => h) (Or.inr ⟨by rfl, rfl⟩) (by assumption) ?_
        try simp only [Act.put, List.getElem_toArray, List.getElem_cons_succ, List.getElem_cons_zero, List.setIfInBounds_toArray, List.set_cons_zero, List.set_cons_succ]
        refine wpAnyH_take (i := 9) (v := undef) rfl (by kernel_rfl) (by kernel_rfl) (by kernel_rfl) (fun _ _ _ h => h) (Or.inr ⟨by rfl, rfl⟩) (by assumption) ?_
        try simp only [Act.put, List.getElem_toArray, List.getElem_cons_succ, List.getElem_cons_zero, List.setIfInBounds_toArray, List.set_cons_zero, List.set_cons_succ]
        refine wpAnyH_take (i := 10) (v := undef) rfl (by kernel_rfl) (by kernel_rfl) (by kernel_rfl) (fun _ _ _ h => h) (Or.inr ⟨by rfl, rfl⟩) (by assumption) ?_
        try simp only [Act.put, List.getElem_toArray, List.getElem_cons_succ, List.getElem_cons_zero, List.setIfInBounds_toArray, List.set_cons_zero, List.set_cons_succ]
        refine wpAnyH_take (i := 11) (v := undef) rfl (by kernel_rfl) (by kernel_rfl) (by kernel_rfl) (fun _ _ _ h => h) (Or.inr ⟨by rfl, rfl⟩) (by assumption) ?_
        try simp only [Act.put, List.getElem_toArray, List.getElem_cons_succ, List.getElem_cons_zero, List.setIfInBounds_toArray, List.set_cons_zero, List.set_cons_succ]
        refine wpAnyH_take (i := 12) (v := undef) rfl (by kernel_rfl) (by kernel_rfl) (by kernel_rfl) (fun _ _ _ h => h) (Or.inr ⟨by rfl, rfl⟩) (by assumption) ?_
        try simp only [Act.put, List.getElem_toArray, List.getElem_cons_succ, List.getElem_cons_zero, List.setIfInBounds_toArray, List.set_cons_zero, List.set_cons_succ]
        refine wpAnyH_take (i := 13) (v := undef) rfl (by kernel_rfl) (by kernel_rfl) (by kernel_rfl) (fun _ _ _ h => h) (Or.inr ⟨by rfl, rfl⟩) (by assumption) ?_
        try simp only [Act.put, List.getElem_toArray, List.getElem_cons_succ, List.getElem_cons_zero, List.setIfInBounds_toArray, List.set_cons_zero, List.set_cons_succ]
        refine wpAnyH_take (i := 14) (v := undef) rfl (by kernel_rfl) (by kernel_rfl) (by kernel_rfl) (fun _ _ _ h => h) (Or.inr ⟨by rfl, rfl⟩) (by assumption) ?_
        try simp only [Act.put, List.getElem_toArray, List.getElem_cons_succ, List.getElem_cons_zero, List.setIfInBounds_toArray, List.set_cons_zero, List.set_cons_succ]
        refine wpAnyH_take (i := 15) (v := undef) rfl (by kernel_rfl) (by kernel_rfl) (by kernel_rfl) (fun _ _ _ h => h) (Or.inr ⟨by rfl, rfl⟩) (by assumption) ?_
        try simp only [Act.put, List.getElem_toArray, List.getElem_cons_succ, List.getElem_cons_zero, List.setIfInBounds_toArray, List.set_cons_zero, List.set_cons_succ]
        refine wpAnyH_take (i := 16) (v := undef) rfl (by kernel_rfl) (by kernel_rfl) (by kernel_rfl) (fun _ _ _ h => h) (Or.inr ⟨by rfl, rfl⟩) (by assumption) ?_
        try simp only [Act.put, List.getElem_toArray, List.getElem_cons_succ, List.getElem_cons_zero, List.setIfInBounds_toArray, List.set_cons_zero, List.set_cons_succ]
        refine wpAnyH_take (i := 17) (v := undef) rfl (by kernel_rfl) (by kernel_rfl) (by kernel_rfl) (fun _ _ _ h => h) (Or.inr ⟨by rfl, rfl⟩) (by assumption) ?_
        try simp only [Act.put, List.getElem_toArray, List.getElem_cons_succ, List.getElem_cons_zero, List.setIfInBounds_toArray, List.set_cons_zero, List.set_cons_succ]
        refine wpAnyH_take (i := 18) (v := undef) rfl (by kernel_rfl) (by kernel_rfl) (by kernel_rfl) (fun _ _ _ h => h) (Or.inr ⟨by rfl, rfl⟩) (by assumption) ?_
        try simp only [Act.put, List.getElem_toArray, List.getElem_cons_succ, List.getElem_cons_zero, List.setIfInBounds_toArray, List.set_cons_zero, List.set_cons_succ]
        refine wpAnyH_take (i := 19) (v := undef) rfl (by kernel_rfl) (by kernel_rfl) (by kernel_rfl) (fun _ _ _ h => h) (Or.inr ⟨by rfl, rfl⟩) (by assumption) ?_
        try simp only [Act.put, List.getElem_toArray, List.getElem_cons_succ, List.getElem_cons_zero, List.setIfInBounds_toArray, List.set_cons_zero, List.set_cons_succ]
        refine wpAnyH_take (i := 20) (v := undef) rfl (by kernel_rfl) (by kernel_rfl) (by kernel_rfl) (fun _ _ _ h => h) (Or.inr ⟨by rfl, rfl⟩) (by assumption) ?_
        try simp only [Act.put, List.getElem_toArray, List.getElem_cons_succ, List.getElem_cons_zero, List.setIfInBounds_toArray, List.set_cons_zero, List.set_cons_succ]
        refine wpAnyH_take (i := 21) (v := ?va21) rfl (by kernel_rfl) (by kernel_rfl) (by kernel_rfl) (fun _ _ _ h => h) (Or.inl ⟨by rfl, ?hya21⟩) (by assumption) ?resta21
        case hya21 => (intro w hSw; (try dsimp only at hSw); go_simp; try with_reducible rfl)
        try simp only [Act.put, List.getElem_toArray, List.getElem_cons_succ, List.getElem_cons_zero, List.setIfInBounds_toArray, List.set_cons_zero, List.set_cons_succ]
        refine wpAnyH_done (by kernel_rfl) ?_ _
        clear hcr
        go_wp2
        go_ret
        exact ⟨_, rfl, grown_trans hg hgP, false, rfl, by simpa using HN.out⟩
      · have hpq : primeB q = true := by simpa using hpq
        rcases Nat.eq_zero_or_pos i with h0 | h0
        · subst h0
          have hn := HH.out.2.1 hpq (fun h => by omega)
          have hcr : ∀ w', Ext wr w' → w'.cell? ⟨b, o, none⟩ = some (.int .i64 q) := hcr
          go_wp2
          refine wp_region_held_drew (S := (fun w' => Ext wr w')) (by kernel_rfl) (by first | exact grown_drew _ _ | assumption) (fun hHeld => ?_)
          refine wpAnyH_take (i := 0) (v := ?vb0) rfl (by kernel_rfl) (by kernel_rfl) (by kernel_rfl) (fun _ _ _ h => h) (Or.inl ⟨by rfl, ?hyb0⟩) (by assumption) ?restb0
          case hyb0 => (intro w hSw; (try dsimp only at hSw); go_simp; try with_reducible rfl)
          try simp only [Act.put, List.getElem_toArray, List.getElem_cons_succ, List.getElem_cons_zero, List.setIfInBounds_toArray, List.set_cons_zero, List.set_cons_succ]
          refine wpAnyH_take (i := 1) (v := ?vb1) rfl (by kernel_rfl) (by kernel_rfl) (by kernel_rfl) (fun _ _ _ h => h) (Or.inl ⟨by rfl, ?hyb1⟩) (by assumption) ?restb1
          case hyb1 => (intro w hSw; (try dsimp only at hSw); go_simp; try with_reducible rfl)
          try simp only [Act.put, List.getElem_toArray, List.getElem_cons_succ, List.getElem_cons_zero, List.setIfInBounds_toArray, List.set_cons_zero, List.set_cons_succ]
          refine wpAnyH_take (i := 2) (v := ?vb2) rfl (by kernel_rfl) (by kernel_rfl) (by kernel_rfl) (fun _ _ _ h => h) (Or.inl ⟨by rfl, ?hyb2⟩) (by assumption) ?restb2
          case hyb2 => (intro w hSw; (try dsimp only at hSw); go_simp; try with_reducible rfl)
          try simp only [Act.put, List.getElem_toArray, List.getElem_cons_succ, List.getElem_cons_zero, List.setIfInBounds_toArray, List.set_cons_zero, List.set_cons_succ]
          refine wpAnyH_take (i := 3) (v := ?vb3) rfl (by kernel_rfl) (by kernel_rfl) (by kernel_rfl) (fun _ _ _ h => h) (Or.inl ⟨by rfl, ?hyb3⟩) (by assumption) ?restb3
          case hyb3 => (intro w hSw; (try dsimp only at hSw); go_simp; try with_reducible rfl)
          try simp only [Act.put, List.getElem_toArray, List.getElem_cons_succ, List.getElem_cons_zero, List.setIfInBounds_toArray, List.set_cons_zero, List.set_cons_succ]
          refine wpAnyH_ready (rs := [4]) (by kernel_rfl) (by simp) ?_
          refine AllReadyH.cons rfl (fun Kc hKc => ?_) AllReadyH.nil
          go_simp
          go_at_call 110
          refine Calls.mono (Calls.rel (w0 := wr) (by first | assumption | exact grown_drew _ _) (l01PrimeR_ok q _)) ?_
          rintro eP wP ⟨vP, rfl, hgP, hsP, rfl⟩
          go_wp2_with fail
          refine hKc.out _ _ ?_ (fun hHeld => ?_)
          · first | exact grown_drew _ _ | assumption
          clear hKc Kc
          try simp only [Act.put, List.getElem_toArray, List.getElem_cons_succ, List.getElem_cons_zero, List.setIfInBounds_toArray, List.set_cons_zero, List.set_cons_succ]
          refine wpAnyH_take (i := 5) (v := ?vb5) rfl (by kernel_rfl) (by kernel_rfl) (by kernel_rfl) (fun _ _ _ h => h) (Or.inl ⟨by rfl, ?hyb5⟩) (by assumption) ?restb5
          case hyb5 => (intro w hSw; (try dsimp only at hSw); go_simp; try with_reducible rfl)
          try simp only [Act.put, List.getElem_toArray, List.getElem_cons_succ, List.getElem_cons_zero, List.setIfInBounds_toArray, List.set_cons_zero, List.set_cons_succ]
          refine wpAnyH_take (i := 6) (v := ?vb6) rfl (by kernel_rfl) (by kernel_rfl) (by kernel_rfl) (fun _ _ _ h => h) (Or.inl ⟨by rfl, ?hyb6⟩) (by assumption) ?restb6
          case hyb6 => (intro w hSw; (try dsimp only at hSw); go_simp; try with_reducible rfl)
          try simp only [Act.put, List.getElem_toArray, List.getElem_cons_succ, List.getElem_cons_zero, List.setIfInBounds_toArray, List.set_cons_zero, List.set_cons_succ]
          refine wpAnyH_take (i := 7) (v := ?vb7) rfl (by kernel_rfl) (by kernel_rfl) (by kernel_rfl) (fun _ _ _ h => h) (Or.inl ⟨by rfl, ?hyb7⟩) (by assumption) ?restb7
          case hyb7 => (intro w hSw; (try dsimp only at hSw); go_simp; try with_reducible rfl)
          try simp only [Act.put, List.getElem_toArray, List.getElem_cons_succ, List.getElem_cons_zero, List.setIfInBounds_toArray, List.set_cons_zero, List.set_cons_succ]
          refine wpAnyH_take (i := 8) (v := ?vb8) rfl (by kernel_rfl) (by kernel_rfl) (by kernel_rfl) (fun _ _ _ h => h) (Or.inl ⟨by rfl, ?hyb8⟩) (by assumption) ?restb8
          case hyb8 => (intro w hSw; (try dsimp only at hSw); go_simp; try with_reducible rfl)
          try simp only [Act.put, List.getElem_toArray, List.getElem_cons_succ, List.getElem_cons_zero, List.setIfInBounds_toArray, List.set_cons_zero, List.set_cons_succ]
          refine wpAnyH_take (i := 9) (v := ?vb9) rfl (by kernel_rfl) (by kernel_rfl) (by kernel_rfl) (fun _ _ _ h => h) (Or.inl ⟨by rfl, ?hyb9⟩) (by assumption) ?restb9
          case hyb9 => (intro w hSw; (try dsimp only at hSw); go_simp; try with_reducible rfl)
          try simp only [Act.put, List.getElem_toArray, List.getElem_cons_succ, List.getElem_cons_zero, List.setIfInBounds_toArray, List.set_cons_zero, List.set_cons_succ]
          refine wpAnyH_take (i := 10) (v := undef) rfl (by kernel_rfl) (by kernel_rfl) (by kernel_rfl) (fun _ _ _ h => h) (Or.inr ⟨by rfl, rfl⟩) (by assumption) ?_
          try simp only [Act.put, List.getElem_toArray, List.getElem_cons_succ, List.getElem_cons_zero, List.setIfInBounds_toArray, List.set_cons_zero, List.set_cons_succ]
          refine wpAnyH_take (i := 11) (v := undef) rfl (by kernel_rfl) (by kernel_rfl) (by kernel_rfl) (fun _ _ _ h => h) (Or.inr ⟨by rfl, rfl⟩) (by assumption) ?_
          try simp only [Act.put, List.getElem_toArray, List.getElem_cons_succ, List.getElem_cons_zero, List.setIfInBounds_toArray, List.set_cons_zero, List.set_cons_succ]
          refine wpAnyH_take (i := 12) (v := undef) rfl (by kernel_rfl) (by kernel_rfl) (by kernel_rfl) (fun _ _ _ h => h) (Or.inr ⟨by rfl, rfl⟩) (by assumption) ?_
          try simp only [Act.put, List.getElem_toArray, List.getElem_cons_succ, List.getElem_cons_zero, List.setIfInBounds_toArray, List.set_cons_zero, List.set_cons_succ]
          refine wpAnyH_take (i := 13) (v := undef) rfl (by kernel_rfl) (by kernel_rfl) (by kernel_rfl) (fun _ _ _ h => h) (Or.inr ⟨by rfl, rfl⟩) (by assumption) ?_
          try simp only [Act.put, List.getElem_toArray, List.getElem_cons_succ, List.getElem_cons_zero, List.setIfInBounds_toArray, List.set_cons_zero, List.set_cons_succ]
          refine wpAnyH_take (i := 14) (v := undef) rfl (by kernel_rfl) (by kernel_rfl) (by kernel_rfl) (fun _ _ _ h => h) (Or.inr ⟨by rfl, rfl⟩) (by assumption) ?_
          try simp only [Act.put, List.getElem_toArray, List.getElem_cons_succ, List.getElem_cons_zero, List.setIfInBounds_toArray, List.set_cons_zero, List.set_cons_succ]
          refine wpAnyH_take (i := 15) (v := undef) rfl (by kernel_rfl) (by kernel_rfl) (by kernel_rfl) (fun _ _ _ h => h) (Or.inr ⟨by rfl, rfl⟩) (by assumption) ?_
          try simp only [Act.put, List.getElem_toArray, List.getElem_cons_succ, List.getElem_cons_zero, List.setIfInBounds_toArray, List.set_cons_zero, List.set_cons_succ]
          refine wpAnyH_take (i := 16) (v := undef) rfl (by kernel_rfl) (by kernel_rfl) (by kernel_rfl) (fun _ _ _ h => h) (Or.inr ⟨by rfl, rfl⟩) (by assumption) ?_
          try simp only [Act.put, List.getElem_toArray, List.getElem_cons_succ, List.getElem_cons_zero, List.setIfInBounds_toArray, List.set_cons_zero, List.set_cons_succ]
          refine wpAnyH_take (i := 17) (v := undef) rfl (by kernel_rfl) (by kernel_rfl) (by kernel_rfl) (fun _ _ _ h => h) (Or.inr ⟨by rfl, rfl⟩) (by assumption) ?_
          try simp only [Act.put, List.getElem_toArray, List.getElem_cons_succ, List.getElem_cons_zero, List.setIfInBounds_toArray, List.set_cons_zero, List.set_cons_succ]
          refine wpAnyH_take (i := 18) (v := undef) rfl (by kernel_rfl) (by kernel_rfl) (by kernel_rfl) (fun _ _ _ h => h) (Or.inr ⟨by rfl, rfl⟩) (by assumption) ?_
          try simp only [Act.put, List.getElem_toArray, List.getElem_cons_succ, List.getElem_cons_zero, List.setIfInBounds_toArray, List.set_cons_zero, List.set_cons_succ]
          refine wpAnyH_take (i := 19) (v := undef) rfl (by kernel_rfl) (by kernel_rfl) (by kernel_rfl) (fun _ _ _ h => h) (Or.inr ⟨by rfl, rfl⟩) (by assumption) ?_
          try simp only [Act.put, List.getElem_toArray, List.getElem_cons_succ, List.getElem_cons_zero, List.setIfInBounds_toArray, List.set_cons_zero, List.set_cons_succ]
          refine wpAnyH_take (i := 20) (v := ?vb20) rfl (by kernel_rfl) (by kernel_rfl) (by kernel_rfl) (fun _ _ _ h => h) (Or.inl ⟨by rfl, ?hyb20⟩) (by assumption) ?restb20
          case hyb20 => (intro w hSw; (try dsimp only at hSw); go_simp; try with_reducible rfl)
          try simp only [Act.put, List.getElem_toArray, List.getElem_cons_succ, List.getElem_cons_zero, List.setIfInBounds_toArray, List.set_cons_zero, List.set_cons_succ]
          refine wpAnyH_take (i := 21) (v := ?vb21) rfl (by kernel_rfl) (by kernel_rfl) (by kernel_rfl) (fun _ _ _ h => h) (Or.inl ⟨by rfl, ?hyb21⟩) (by assumption) ?restb21
          case hyb21 => (intro w hSw; (try dsimp only at hSw); go_simp; try with_reducible rfl)
          try simp only [Act.put, List.getElem_toArray, List.getElem_cons_succ, List.getElem_cons_zero, List.setIfInBounds_toArray, List.set_cons_zero, List.set_cons_succ]
          refine wpAnyH_done (by kernel_rfl) ?_ _
          clear hcr
          go_wp2
          go_roundw
          case rel => exact ⟨1, by go_num, by omega, grown_trans hg hgP, hn⟩
          case measure => simp [intOf]; omega
        · have hprev := HH.out.2.2 h0
          obtain ⟨k, hik⟩ : ∃ k, i = k + 1 := ⟨i - 1, by omega⟩
          have hprev : ∀ w', Ext wr w' → w'.cell? ⟨b, o + k, none⟩ = some (.int .i64 q') := fun w' h => by
            have := hprev w' h
            rw [hik, Nat.add_sub_cancel] at this; exact this
          have hk1 : (i : Int) > 0 := by omega
          have hi0 : (0 : Int) ≤ (i : Int) := by omega
          have hkk : IntKind.i64.wrap ((i : Int) - 1) = (k : Int) := by rw [IntWalk.i64_in _ (by omega)]; omega
          have hk0 : (0 : Int) ≤ (k : Int) := by omega
          have hki : (k : Int) < pr.length := by omega
          have HI := Lib.hid hik; clear hik
          by_cases hq : q' < q
          · have hn := HH.out.2.1 hpq (fun _ => hq)
            have hge : ¬ q ≤ q' := by omega
            go_wp2
            go_region_held3 (fun w' => Ext wr w') (first | exact grown_drew _ _ | exact Ext.refl _ | assumption)
              (first
                | (go_at_call 110; refine Calls.mono (Calls.rel (w0 := wr) (by assumption) (l01PrimeR_ok q _)) ?_; rintro eP wP ⟨vP, rfl, hgP, hsP, rfl⟩))
            clear hcr hprev
            go_wp2
            go_roundw
            case rel => exact ⟨i + 1, by go_num, by omega, grown_trans hg hgP, hn⟩
            case measure => simp [intOf]; omega
          · have hn := HH.out.1 (fun h => hq (h.2 (by omega)))
            have hge : q ≤ q' := by omega
            have HN := Lib.hid hn; clear hn
            go_wp2
            go_region_held3 (fun w' => Ext wr w') (first | exact grown_drew _ _ | exact Ext.refl _ | assumption)
              (first
                | (go_at_call 110; refine Calls.mono (Calls.rel (w0 := wr) (by assumption) (l01PrimeR_ok q _)) ?_; rintro eP wP ⟨vP, rfl, hgP, hsP, rfl⟩))
            clear hcr hprev
            go_wp2
            go_ret
            exact ⟨_, rfl, grown_trans hg hgP, false, rfl, by simpa using HN.out⟩
    · have hyes : PrSet pr := fun j hj => hN.out j (by omega)
      have hnl : ¬ (i : Int) < pr.length := by omega
      have HY := Lib.hid hyes; clear hyes hN
      go_wp2
      go_ret
      first | exact ⟨_, rfl, hg, true, rfl, by simpa using HY.out⟩ | exact ⟨_, rfl, hg, .inr ⟨rfl, HY.out⟩⟩

set_option maxRecDepth 100000 in
set_option maxHeartbeats 1000000 in
theorem l20Code_ok (P : Pr) (pr : List Int) (w : World) (pv v : Value) (Sp S : Nat → Prop) (hpv : PresV Sp w pv P) (hv : Ints S w v pr) :
    Calls Tryz.prog 74 #[pv, v] w (Ret w fun _ r => r = .int .i64 (hcC P pr)) := by
  obtain ⟨vo, vp, vc, rfl, h3⟩ := hpv
  have hp0 := PresP.box h3 31
  have hg0 : Ext w (w.alloc (.cells #[vo, vp, vc] 31)) := World.grownBy_alloc _ _ _
  obtain ⟨vo6, vp6, vc6, _, _, hc0, hc1, hc2, h36⟩ := hp0.at
  simp only [Nat.zero_add] at hc1 hc2
  have hbx : ∀ w', Ext (w.alloc (.cells #[vo, vp, vc] 31)) w' → w'.cell? ⟨w.heap.size, 0, none⟩ = some vo6 ∧ w'.cell? ⟨w.heap.size, 1, none⟩ = some vp6 ∧ w'.cell? ⟨w.heap.size, 2, none⟩ = some vc6 := fun w' h => ⟨h.cell hc0 (by simp), h.cell hc1 (by simp), h.cell hc2 (by simp)⟩
  have HB := Lib.hid hbx; clear hbx hp0
  have hgr := l08Group_ok P _ (.agg #[vo6, vp6, vc6]) Any ⟨_, _, _, rfl, h36⟩
  obtain ⟨a, c, rfl, _, _⟩ := hv.shape
  have HV := Lib.hid (Ints.ext hv hg0); clear hv
  go_enter Tryz.func74, Tryz.ntmps74
  go_wp2_with fail
  clear hc0 hc1 hc2
  generalize hw0 : w.alloc (.cells #[vo, vp, vc] 31) = w0 at *
  clear hw0
  refine Calls.mono hgr ?_
  rintro e1 w1 ⟨v1, rfl, hg1, rfl⟩
  cases hq : rconsB P with
  | false =>
    have e : hcC P pr = 1 := by unfold hcC; rw [if_neg (by rw [hq]; decide)]
    have HE := Lib.hid e; clear e hq hgr
    go_wp2
    go_ret
    exact ⟨_, rfl, grown_trans hg0 hg1, by rw [HE.out]; rfl⟩
  | true =>
    have G := grp_of_r hq
    have hip := l20Primes_ok pr w1 _ S (Ints.ext HV.out hg1)
    have HQ := Lib.hid hq; clear hq hgr
    go_wp2_with fail
    refine Calls.mono hip ?_
    rintro e2 w2 ⟨v2, rfl, hg2, r, rfl, hr⟩
    clear hip
    have hg02 := grown_trans hg1 hg2
    cases r with
    | false =>
      have e : hcC P pr = 2 := by unfold hcC; rw [if_pos HQ.out, if_neg (fun h => by have := hr.2 h; cases this)]
      have HE := Lib.hid e; clear e hr
      go_wp2
      go_ret
      exact ⟨_, rfl, grown_trans hg0 hg02, by rw [HE.out]; rfl⟩
    | true =>
      have e : hcC P pr = if 128 < ordP P then 3 else 0 := by unfold hcC; rw [if_pos HQ.out, if_pos (hr.1 rfl)]
      have HE := Lib.hid e; clear e hr
      obtain ⟨hc0, hc1, hc2⟩ := HB.out w2 hg02
      go_wp2_with fail
      clear hc0 hc1 hc2
      refine Calls.mono (l10Order_ok w2 _ P Any G.v ⟨_, _, _, rfl, Pres3.ext h36 hg02⟩) ?_
      rintro e3 w3 ⟨v3, rfl, hg3, rfl⟩
      have hg03 := grown_trans hg02 hg3
      by_cases hbig : 128 < ordP P
      · have e := HE.out
        rw [if_pos hbig] at e
        have HE2 := Lib.hid e; clear e
        go_wp2
        go_ret
        exact ⟨_, rfl, grown_trans hg0 hg03, by rw [HE2.out]; rfl⟩
      · have e := HE.out
        rw [if_neg hbig] at e
        have HE2 := Lib.hid e; clear e
        go_wp2
        go_ret
        exact ⟨_, rfl, grown_trans hg0 hg03, by rw [HE2.out]; rfl⟩

end Go.Proofs.YtdklekdpdbjfiaaGreat

/- spec.l01Part, l20Part: the part of an order for a set of primes. -/
namespace Go.Proofs.YtdklekdpdbjfiaaGreat
open Go.RowKit

/-- the greatest power of p that divides n, with fuel -/
def prtN (p : Nat) : Nat → Nat → Nat
  | 0, _ => 1
  | f + 1, n => if n % p = 0 then p * prtN p f (n / p) else 1
theorem prtN_fuel {p : Nat} (hp : 2 ≤ p) : ∀ f g n, 1 ≤ n → n ≤ f → n ≤ g → prtN p f n = prtN p g n
  | 0, g, n, h1, h2, _ => by omega
  | f + 1, 0, n, h1, _, h3 => by omega
  | f + 1, g + 1, n, h1, h2, h3 => by
    unfold prtN
    by_cases h : n % p = 0
    · rw [if_pos h, if_pos h]
      have hd : n / p < n := Nat.div_lt_self h1 hp
      have hpos : 1 ≤ n / p := by
        rcases Nat.eq_zero_or_pos (n / p) with h4 | h4
        · have := Nat.div_add_mod n p
          rw [h4, h] at this
          omega
        · exact h4
      rw [prtN_fuel hp f g (n / p) hpos (by omega) (by omega)]
    · rw [if_neg h, if_neg h]
theorem prt_ex (p n : Nat) : ∃ k, k = prtN p n n := ⟨_, rfl⟩
/-- with fuel enough (by choice, so that nothing computes it) -/
noncomputable def prt (p n : Nat) : Nat := Classical.choose (prt_ex p n)
theorem prt_def (p n : Nat) : prt p n = prtN p n n := Classical.choose_spec (prt_ex p n)
theorem prt_mul {p n : Nat} (hp : 2 ≤ p) (hn : 1 ≤ n) : prt p (p * n) = p * prt p n := by
  have h1 : 1 ≤ p * n := Nat.mul_pos (by omega) hn
  have h2 : n < p * n := by
    have : 2 * n ≤ p * n := Nat.mul_le_mul_right n hp
    omega
  rw [prt_def, prt_def]
  obtain ⟨k, hk⟩ : ∃ k, p * n = k + 1 := ⟨p * n - 1, by omega⟩
  rw [hk]
  conv => lhs; unfold prtN
  rw [← hk, Nat.mul_mod_right, if_pos rfl, Nat.mul_div_cancel_left n (by omega)]
  rw [prtN_fuel hp k n n hn (by omega) (Nat.le_refl _)]
theorem prt_other {p : Nat} (hp : 2 ≤ p) {q : Nat} (hq : 1 ≤ q) (hc : ∀ m, p ∣ q * m → p ∣ m) : ∀ n, 1 ≤ n → prt p (q * n) = prt p n := by
  intro n
  induction n using Nat.strongRecOn with
  | ind n ih =>
    intro hn
    by_cases h : p ∣ n
    · obtain ⟨m, rfl⟩ := h
      have hm : 1 ≤ m := by
        rcases Nat.eq_zero_or_pos m with h | h
        · subst h; simp at hn
        · exact h
      have hlt : m < p * m := by
        have : 2 * m ≤ p * m := Nat.mul_le_mul_right m hp
        omega
      rw [Nat.mul_left_comm, prt_mul hp (Nat.mul_pos hq hm), prt_mul hp hm, ih m hlt hm]
    · have h1 : ¬ p ∣ q * n := fun hh => h (hc n hh)
      have e : ∀ k, 1 ≤ k → ¬ p ∣ k → prt p k = 1 := fun k hk hn => by
        rw [prt_def]
        obtain ⟨j, rfl⟩ : ∃ j, k = j + 1 := ⟨k - 1, by omega⟩
        unfold prtN
        rw [if_neg (fun hh => hn (Nat.dvd_of_mod_eq_zero hh))]
      rw [e _ (Nat.mul_pos hq hn) h1, e _ hn h]

theorem prime_cancel {p q : Nat} (hp : p = 2 ∨ p = 3 ∨ p = 5 ∨ p = 7) (hq : q = 2 ∨ q = 3 ∨ q = 5 ∨ q = 7) (hne : p ≠ q) (m : Nat) (h : p ∣ q * m) : p ∣ m :=
  Nat.Coprime.dvd_of_dvd_mul_left (cop7 hp hq hne) h

section
variable {P : Pr}
/-- the part of a product of orders -/
theorem prt_prd (G : Grp P) (Q : Nat → Prop) {p : Nat} (hp : p = 2 ∨ p = 3 ∨ p = 5 ∨ p = 7) : ∀ f d, d + f = P.orders.length → prt p (prd P Q f d) = prd P (fun k => Q k ∧ gt P.orders k = (p : Int)) f d
  | 0, d, _ => by
    show prt p 1 = 1
    rw [prt_def]
    unfold prtN
    rw [if_neg]
    rcases hp with rfl | rfl | rfl | rfl <;> decide
  | f + 1, d, h => by
    have ih := prt_prd G Q hp f (d + 1) (by omega)
    have hpos := prd_pos G Q f (d + 1) (by omega)
    have hp2 : 2 ≤ p := by omega
    obtain ⟨q, h1, h2, h3⟩ := ordN G (show d < P.orders.length by omega)
    unfold prd
    by_cases hQ : Q d
    · rw [if_pos hQ, h2]
      by_cases he : gt P.orders d = (p : Int)
      · have : q = p := by omega
        subst this
        rw [if_pos ⟨hQ, he⟩, prt_mul hp2 hpos, ih]
      · have hne : p ≠ q := fun e => he (by rw [h1, e])
        rw [if_neg (fun hh => he hh.2), Nat.one_mul, prt_other hp2 (by omega) (fun m hm => prime_cancel hp h3 hne m hm) _ hpos, ih]
    · rw [if_neg hQ, if_neg (fun hh => hQ hh.1), Nat.one_mul, Nat.one_mul, ih]
theorem prd_le (G : Grp P) (Q R : Nat → Prop) (h : ∀ k, k < P.orders.length → Q k → R k) : prd P Q P.orders.length 0 ≤ prd P R P.orders.length 0 := by
  have h1 : prd P Q P.orders.length 0 ∣ prd P R P.orders.length 0 := by
    have hm := prd_mul (P := P) (Q := Q) (R := fun k => R k ∧ ¬ Q k) P.orders.length 0 (fun k _ _ hk hh => hh.2 hk)
    have hc : prd P (fun k => Q k ∨ (R k ∧ ¬ Q k)) P.orders.length 0 = prd P R P.orders.length 0 := prd_congr _ _ (fun k _ hk => ⟨fun hh => hh.elim (h k (by omega)) (fun hh => hh.1), fun hh => by
      by_cases e : Q k
      · exact .inl e
      · exact .inr ⟨hh, e⟩⟩)
    rw [← hc, ← hm]
    exact Nat.dvd_mul_right _ _
  exact Nat.le_of_dvd (prd_pos G R _ _ (Nat.zero_add _)) h1
theorem prd_all (G : Grp P) : ((prd P (fun _ => True) P.orders.length 0 : Nat) : Int) = ordP P := by
  have key : ∀ k, k ≤ P.orders.length → ((prF P (fun _ => True) k : Nat) : Int) = prodTo P.orders k := by
    intro k
    induction k with
    | zero => intro _; rfl
    | succ k ih =>
      intro h
      obtain ⟨q, h1, h2, h3⟩ := ordN G (show k < P.orders.length by omega)
      rw [prF_succ, if_pos trivial, Int.natCast_mul, ih (by omega), h2, prodTo, h1]
  exact key _ (Nat.le_refl _)
theorem prd_729 (G : Grp P) (Q : Nat → Prop) : 1 ≤ prd P Q P.orders.length 0 ∧ prd P Q P.orders.length 0 ≤ 729 := by
  have h1 := prd_pos G Q _ _ (Nat.zero_add _)
  have h2 := prd_le G Q (fun _ => True) (fun _ _ _ => trivial)
  have h3 := prd_all G
  have h4 : ordP P ≤ 729 := G.v.le729
  omega
theorem prd_eq_iff (G : Grp P) (Q R : Nat → Prop) (hQ : ∀ d, Q d → d < P.orders.length) : prd P (fun d => Q d ∧ R d) P.orders.length 0 = prd P Q P.orders.length 0 ↔ ∀ d, Q d → R d := by
  have hm := prd_mul (P := P) (Q := fun d => Q d ∧ R d) (R := fun d => Q d ∧ ¬ R d) P.orders.length 0 (fun k _ _ hk hh => hh.2 hk.2)
  have hc : prd P (fun k => (Q k ∧ R k) ∨ (Q k ∧ ¬ R k)) P.orders.length 0 = prd P Q P.orders.length 0 := prd_congr _ _ (fun k _ _ => ⟨fun hh => hh.elim (fun hh => hh.1) (fun hh => hh.1), fun hh => by
    by_cases e : R k
    · exact .inl ⟨hh, e⟩
    · exact .inr ⟨hh, e⟩⟩)
  rw [hc] at hm
  constructor
  · intro h d hd
    refine Classical.byContradiction fun hn => ?_
    rw [h] at hm
    have h2 : prd P (fun d => Q d ∧ ¬ R d) P.orders.length 0 = 1 := Nat.eq_of_mul_eq_mul_left (prd_pos G Q _ _ (Nat.zero_add _)) (by rw [hm, Nat.mul_one])
    exact prd_one G _ _ (Nat.zero_add _) h2 d (Nat.zero_le _) (hQ d hd) ⟨hd, hn⟩
  · intro h
    exact prd_congr _ _ (fun k _ _ => ⟨fun hh => hh.1, fun hh => ⟨hh, h k hh⟩⟩)
end

theorem w64n (k : Nat) (h : k ≤ 100000) : wrap64 (k : Int) = (k : Int) := IntWalk.wrap64_in _ (by omega)
theorem i64n (k : Nat) (h : k ≤ 100000) : IntKind.i64.wrap (k : Int) = (k : Int) := IntWalk.i64_in _ (by omega)

set_option maxRecDepth 100000 in
set_option maxHeartbeats 1000000 in
theorem l01Part_ok (n p : Nat) (hn : 1 ≤ n) (hp : 2 ≤ p) (hn2 : n ≤ 100000) (hp2 : p ≤ 100000) (w : World) :
    Calls Tryz.prog 62 #[.int .i64 (n : Int), .int .i64 (p : Int)] w (Ret w fun _ r => r = .int .i64 ((prt p n : Nat) : Int)) := by
  go_enter Tryz.func62, Tryz.ntmps62
  go_wp2
  go_loopw [0, 5] (fun nv ov wr => ∃ m o : Nat, nv = .int .i64 (m : Int) ∧ ov = .int .i64 (o : Int) ∧ 1 ≤ m ∧ m ≤ n ∧ o * m ≤ n ∧ 1 ≤ o ∧ w = wr ∧ Hid (o * prt p m = prt p n)) (fun nv _ _ => (intOf nv).toNat)
  case atStart => exact ⟨n, 1, rfl, rfl, hn, Nat.le_refl _, by omega, by omega, rfl, Lib.hid (Nat.one_mul _)⟩
  case round =>
    obtain ⟨m, o, rfl, rfl, hm1, hm2, hom, ho1, rfl, hI⟩ := hrel
    have hmo : o ≤ n := Nat.le_trans (Nat.le_mul_of_pos_right o (by omega)) hom
    have hc1 : ((m : Int) % (p : Int)) = ((m % p : Nat) : Int) := (Int.natCast_emod m p).symm
    have hpos : (0 : Int) < (p : Int) := by omega
    by_cases hz : m % p = 0
    · have hz' : (m : Int) % (p : Int) = 0 := by rw [hc1, hz]; rfl
      have hd := Nat.div_add_mod m p
      rw [hz, Nat.add_zero] at hd
      obtain ⟨q, hq⟩ : ∃ q, q = m / p := ⟨_, rfl⟩
      rw [← hq] at hd
      have hq1 : 1 ≤ q := by
        rcases Nat.eq_zero_or_pos q with h | h
        · rw [h] at hd; simp at hd; omega
        · exact h
      have hqm : q < m := by
        have : 2 * q ≤ p * q := Nat.mul_le_mul_right q hp
        omega
      have hdiv : (m : Int) / (p : Int) = (q : Int) := by
        rw [hq]; exact (Int.natCast_ediv m p).symm
      have hop : o * p * q ≤ n := by rw [Nat.mul_assoc, hd]; exact hom
      have hop1 : o * p ≤ n := Nat.le_trans (Nat.le_mul_of_pos_right (o * p) hq1) hop
      have hopc : (o : Int) * (p : Int) = ((o * p : Nat) : Int) := (Int.natCast_mul o p).symm
      have hop2 : 1 ≤ o * p := Nat.mul_pos ho1 (by omega)
      have hI2 : Hid (o * p * prt p q = prt p n) := Lib.hid (by rw [← hI.out, ← hd, prt_mul hp hq1, Nat.mul_assoc])
      have hqn : q ≤ n := by omega
      have HH := Lib.hid (And.intro hop (And.intro hop2 hqm)); clear hop hop2 hd hq hc1 hz hom hI hqm
      generalize o * p = op at *
      have hw2 := w64n op (Nat.le_trans hop1 hn2)
      go_wp2
      go_roundw
      case rel => exact ⟨q, op, rfl, by first | rfl | exact congrArg (Value.int .i64) hw2, hq1, hqn, HH.out.1, HH.out.2.1, by first | trivial | rfl, hI2⟩
      case measure => have := HH.out.2.2; simp [intOf]; omega
    · have hne : ¬ (m : Int) % (p : Int) = 0 := by rw [hc1]; omega
      have he : prt p m = 1 := by
        rw [prt_def]
        obtain ⟨k, rfl⟩ : ∃ k, m = k + 1 := ⟨m - 1, by omega⟩
        unfold prtN
        rw [if_neg hz]
      have hfin : (o : Int) = ((prt p n : Nat) : Int) := by rw [← hI.out, he, Nat.mul_one]
      have HF := Lib.hid hfin; clear hfin he hI hc1 hz
      go_wp2
      go_ret
      refine ⟨_, rfl, Ext.refl _, ?_⟩
      show Value.int .i64 (o : Int) = _
      rw [HF.out]

end Go.Proofs.YtdklekdpdbjfiaaGreat

/- impl.factors at the orders of groups: the primes that divide, ascending. (Printed by gen_fac.py.) -/
namespace Go.Proofs.YtdklekdpdbjfiaaGreat
open Go.RowKit

def fdn : Nat → Nat → Nat → Nat
  | 0, n, _ => n
  | f + 1, n, p => if n % p = 0 then fdn f (n / p) p else n
theorem fdn_stop (f n p : Nat) (h : ¬ n % p = 0) : fdn f n p = n := by
  cases f with
  | zero => rfl
  | succ f => unfold fdn; rw [if_neg h]
def fjump (n p : Nat) : Nat := if n < p * p then n else p
def fac : Nat → Nat → Nat → List Int → Option (List Int)
  | 0, _, _, _ => none
  | f + 1, n, p, ps => if n ≤ 1 then some ps else fac f (fdn 10 n (fjump n p)) (fjump n p + 1) (if n % fjump n p = 0 then ps ++ [(fjump n p : Int)] else ps)
/-- the group primes that divide -/
def dvs (n : Int) : List Int := ([2, 3, 5, 7] : List Int).filter (fun q => n % q == 0)
theorem fac_all : ((List.range 730).all fun n => n == 0 || 85766121000000 % n != 0 || decide (fac 40 n 2 [] = some (dvs (n : Int)))) = true := by decide +kernel
theorem fac_dvs {n : Nat} (h1 : 1 ≤ n) (h2 : n ≤ 729) (h3 : n ∣ 210 ^ 6) : fac 40 n 2 [] = some (dvs (n : Int)) := by
  have h := (List.all_eq_true.1 fac_all) n (List.mem_range.2 (by omega))
  have e : 85766121000000 % n = 0 := Nat.mod_eq_zero_of_dvd h3
  rw [e] at h
  simp only [Bool.or_eq_true, beq_iff_eq, bne_self_eq_false, decide_eq_true_eq] at h
  rcases h with (h | h) | h
  · omega
  · cases h
  · exact h

/-- blocks of two growing lists -/
def Dis (v e : Value) : Prop := v.ownBlock = none ∨ e.ownBlock = none ∨ v.ownBlock ≠ e.ownBlock
theorem Dis.l {v e : Value} (h : Dis v e) : v.ownBlock = none ∨ v.ownBlock ≠ e.ownBlock := by
  rcases h with h | h | h
  · exact .inl h
  · rw [h]; cases hv : v.ownBlock
    · exact .inl rfl
    · exact .inr (fun hh => by cases hh)
  · exact .inr h
theorem Dis.symm {v e : Value} (h : Dis v e) : Dis e v := by
  rcases h with h | h | h
  · exact .inr (.inl h)
  · exact .inl h
  · exact .inr (.inr (fun hh => h hh.symm))
theorem Dis.app {B : Nat} {w : World} {v v' e : Value} {l : List Int} (h : Dis v e) (he : Own B w e l) (hv : v'.ownBlock = v.ownBlock ∨ v'.ownBlock = some w.heap.size) : Dis v' e := by
  rcases hv with hv | hv
  · unfold Dis; rw [hv]; exact h
  · refine .inr (.inr (fun hh => ?_))
    rw [hv] at hh
    have := (he.lt _ hh.symm).2
    omega

theorem wp_app_ints4 {ops : Array Oper} {rest : List Oper} {o : Oper} {a : Act} {Q : Exit → Act → World → Prop} {w : World} (hgd : o.guard = none) (s x : Operand)
    (ho : o.op = Op.call { callee := Callee.builtin Builtin.append, args := #[s, x], argTypes := #[22, 22] }) (base : Nat) (v : Value) (l : List Int) (hs : a.eval s = v) (hown : Own base w v l)
    (u : Value) (m : List Int) (hx : a.eval x = u) (S : Nat → Prop) (hu : Ints S w u m) (hlen : l.length + m.length ≤ 2147483648) (hbase : base ≤ w.heap.size)
    (h : ∀ v' w', Own base w' v' (l ++ m) → w.grownBy w' v.ownBlock → (v'.ownBlock = v.ownBlock ∨ v'.ownBlock = some w.heap.size) → wpList Tryz.prog ops Q rest (a.put o.dst v') w') :
    wpList Tryz.prog ops Q (o :: rest) a w := by
  obtain ⟨sa, cap, rfl, ⟨_, _, hn⟩, hc⟩ := hu
  refine wp_app 22 2 (.int .i64 0) 8 und_ints Tryz.infoInt rfl (by decide) hgd s x ho base v (l.map (Value.int .i64)) hs hown.v sa m.length cap (m.map (Value.int .i64)) hx (by simp) hn ?_ ?_ (by simpa using hlen) hbase ?_
  · intro j hj
    obtain ⟨b, off, u, h1, _, _, h2, h3⟩ := hc j hj
    exact ⟨b, off, h1, by rw [h2, h3]; simp [gt, hj]⟩
  · intro u hu
    simp at hu
    obtain ⟨x, _, rfl⟩ := hu; rfl
  · intro v' w' h1 h2 _ h4
    exact h v' w' (Own.of (by rw [List.map_append]; exact h1)) h2 h4

theorem i64n6 (k : Nat) (h : k ≤ 730 * 730) : IntKind.i64.wrap (k : Int) = (k : Int) := IntWalk.i64_in _ (by omega)
theorem w64n6 (k : Nat) (h : k ≤ 730 * 730) : wrap64 (k : Int) = (k : Int) := IntWalk.wrap64_in _ (by omega)

set_option maxRecDepth 100000 in
set_option maxHeartbeats 4000000 in
theorem factors_ok (n : Nat) (hn1 : 1 ≤ n) (hn2 : n ≤ 729) (hn3 : n ∣ 210 ^ 6) (w : World) :
    Calls Tryz.prog 67 #[.int .i64 (n : Int)] w (Ret w fun w' r => ∃ v e, r = .tuple #[v, e] ∧ Own w.heap.size w' v (dvs (n : Int))) := by
  have HA := Lib.hid (fac_dvs hn1 hn2 hn3); clear hn3
  obtain ⟨N, hN⟩ : ∃ N, N = dvs (n : Int) := ⟨_, rfl⟩
  rw [← hN] at HA ⊢
  clear hN
  go_enter Tryz.func67, Tryz.ntmps67
  go_wp2
  go_loopg [0, 4, 5, 6] 40 (fun gk nv psv esv pv wr => ∃ (m p : Nat) (ps es : List Int) (vp ve : Value), vp = psv ∧ ve = esv ∧ nv = .int .i64 (m : Int) ∧ pv = .int .i64 (p : Int) ∧ 1 ≤ m ∧ m ≤ 729 ∧ 2 ≤ p ∧ p ≤ 730 ∧ ps.length + gk ≤ 40 ∧ es.length + gk ≤ 40 ∧ Ext w wr ∧ Own w.heap.size wr vp ps ∧ Own w.heap.size wr ve es ∧ Dis vp ve ∧ Hid (fac gk m p ps = some N))
  case atStart => exact ⟨n, 2, [], [], _, _, rfl, rfl, rfl, rfl, hn1, hn2, Nat.le_refl _, by omega, by simp, by simp, Ext.refl _, World.ownsRow_nil _ _ _ _, World.ownsRow_nil _ _ _ _, .inl rfl, HA⟩
  case round =>
    obtain ⟨m, p, ps, es, vp, ve, rfl, rfl, rfl, rfl, hm1, hm2, hp1, hp2, hlp, hle, hg, hOp, hOe, hD, hF⟩ := hrel
    have hgk : ∃ g', gk = g' + 1 := by
      cases gk with
      | zero => have := hF.out; cases this
      | succ g' => exact ⟨g', rfl⟩
    obtain ⟨g', hg'⟩ := hgk
    rw [hg'] at hF
    have HG := Lib.hid hg'
    have hF2 := hF.out
    unfold fac at hF2
    by_cases hm : m ≤ 1
    · rw [if_pos hm] at hF2
      have hps : ps = N := Option.some.inj hF2
      subst hps
      have hm0 : m = 1 := by omega
      subst hm0
      clear hF2 hF
      go_wp2
      go_ret2
      exact ⟨_, rfl, hg, _, _, rfl, hOp⟩
    · rw [if_neg hm] at hF2
      by_cases hj : m < p * p
      · have hjj : fjump m p = m := by unfold fjump; rw [if_pos hj]
        rw [hjj] at hF2
        have hq2 : 2 ≤ m := by omega
        have hq7 : m ≤ 729 := hm2
        have HF := Lib.hid hF2; clear hF2 hF hjj
        have hm10 : m < 2 ^ 10 := by omega
        have HM10 := Lib.hid hm10; clear hm10
        have hppc : (p : Int) * (p : Int) = ((p * p : Nat) : Int) := (Int.natCast_mul p p).symm
        have hpp2 : p * p ≤ 730 * 730 := Nat.mul_le_mul hp2 hp2
        generalize p * p = pp at *
        have hwp := i64n6 pp hpp2
        have hwp2 := w64n6 pp hpp2
        go_wp2
        clear hppc hpp2 hwp hwp2 hj
        go_loopg [0, 7] 10 (fun gk nv ev wr2 => ∃ k e : Nat, nv = .int .i64 (k : Int) ∧ ev = .int .i64 (e : Int) ∧ e + gk = 10 ∧ 1 ≤ k ∧ k ≤ 729 ∧ wr = wr2 ∧ Hid (k < 2 ^ gk ∧ fdn gk k m = fdn 10 m m ∧ (e = 0 → k = m) ∧ (0 < e → m % m = 0)))
        case atStart => exact ⟨m, 0, rfl, rfl, rfl, hm1, hm2, rfl, Lib.hid ⟨HM10.out, rfl, fun _ => rfl, fun h => by omega⟩⟩
        case round =>
          obtain ⟨k, e, rfl, rfl, hge, hk1, hk2, rfl, hI⟩ := hrel
          have hc1 : ((k : Int) % (m : Int)) = ((k % m : Nat) : Int) := (Int.natCast_emod k m).symm
          have hpos : (0 : Int) < (m : Int) := by omega
          have hq0 : ((m : Int) == 0) = false := by simp; omega
          by_cases hz : k % m = 0
          · have hz' : (k : Int) % (m : Int) = 0 := by rw [hc1, hz]; rfl
            have hd := Nat.div_add_mod k m
            rw [hz, Nat.add_zero] at hd
            obtain ⟨ge', hge'⟩ : ∃ g2, gk = g2 + 1 := by
              cases gk with
              | zero => have := hI.out.1; simp at this; omega
              | succ g2 => exact ⟨g2, rfl⟩
            obtain ⟨c, hc⟩ : ∃ c, c = k / m := ⟨_, rfl⟩
            rw [← hc] at hd
            have hcq1 : 1 ≤ c := by
              rcases Nat.eq_zero_or_pos c with h | h
              · rw [h] at hd; simp at hd; omega
              · exact h
            have hcm : 2 * c ≤ k := by
              have : 2 * c ≤ m * c := Nat.mul_le_mul_right c hq2
              omega
            have hdiv : (k : Int) / (m : Int) = (c : Int) := by
              rw [hc]; exact (Int.natCast_ediv k m).symm
            have hI2 : Hid (c < 2 ^ ge' ∧ fdn ge' c m = fdn 10 m m ∧ (e + 1 = 0 → c = m) ∧ (0 < e + 1 → m % m = 0)) := by
              obtain ⟨i1, i2, i3, i4⟩ := hI.out
              refine Lib.hid ⟨?_, ?_, fun h => by omega, fun _ => ?_⟩
              · rw [hge', Nat.pow_succ] at i1; omega
              · rw [← i2, hge', hc]; show fdn ge' (k / m) m = if k % m = 0 then fdn ge' (k / m) m else k; rw [if_pos hz]
              · rcases Nat.eq_zero_or_pos e with h | h
                · rw [i3 h] at hz; exact hz
                · exact i4 h
            have hc729 : c ≤ 729 := by omega
            have HH := Lib.hid (And.intro hge' hd); clear hI hd hc hc1 hz hcm
            go_wp2
            go_roundg ge'
            case rel => exact ⟨c, e + 1, rfl, by go_num, by have := HH.out.1; omega, hcq1, hc729, rfl, hI2⟩
            case measure => have := HH.out.1; omega
          · have hne : ¬ (k : Int) % (m : Int) = 0 := by rw [hc1]; omega
            obtain ⟨i1, i2, i3, i4⟩ := hI.out
            rw [fdn_stop _ _ _ hz] at i2
            rw [← i2] at HF
            clear hc1 hI i1 i2
            by_cases he : 0 < e
            · have hmz := i4 he
              have HF2 := HF.out
              rw [if_pos hmz] at HF2
              have HF3 := Lib.hid HF2; clear HF HF2 i3 i4 hmz hz
              have hep : (0 : Int) < (e : Int) := by omega
              go_wp2_with (first
                | (at_builtin; refine wp_app_ints4 rfl _ _ rfl w.heap.size _ ps rfl (hOp.ext0 (World.grownBy_alloc _ _ _)) _ [(m : Int)] rfl Any (Own.ints (World.ownsRow_lit wr #[.int .i64 (m : Int)] 1 (Nat.zero_le _) (by decide) rfl) (by simp)) (by simp; omega) (by have := hg.size; simp; omega) ?_; intro v5 w5 hO5 hg5 hb5; have hgx : Ext w w5 := grown_own (grown_trans hg (World.grownBy_alloc _ _ _)) hg5 (fun j hj hlt => by have := (hOp.lt j hj).1; omega); have hOe5 : Own w.heap.size w5 ve es := (hOe.ext0 (World.grownBy_alloc _ _ _)).ext hg5 (Dis.symm hD).l; have hD5 : Dis v5 ve := hD.app (hOe.ext0 (World.grownBy_alloc _ _ _)) hb5; clear hg5 hb5 hD hOp hOe)
                | (at_builtin; refine wp_app_ints4 rfl _ _ rfl w.heap.size _ es rfl (hOe5.ext0 (World.grownBy_alloc _ _ _)) _ [(e : Int)] rfl Any (Own.ints (World.ownsRow_lit w5 #[.int .i64 (e : Int)] 1 (Nat.zero_le _) (by decide) rfl) (by simp)) (by simp; omega) (by have := hgx.size; simp; omega) ?_; intro v6 w6 hO6 hg6 hb6; have hgy : Ext w w6 := grown_own (grown_trans hgx (World.grownBy_alloc _ _ _)) hg6 (fun j hj hlt => by have := (hOe5.lt j hj).1; omega); have hOp6 : Own w.heap.size w6 v5 (ps ++ [(m : Int)]) := (hO5.ext0 (World.grownBy_alloc _ _ _)).ext hg6 hD5.l; have hD6 : Dis v6 v5 := (Dis.symm hD5).app (hO5.ext0 (World.grownBy_alloc _ _ _)) hb6))
              go_roundg g'
              case rel => exact ⟨k, m + 1, _, _, _, _, rfl, rfl, rfl, by go_num, hk1, hk2, by omega, by omega, by have := HG.out; simp; omega, by have := HG.out; simp; omega, hgy, hOp6, hO6, hD6.symm, HF3⟩
              case measure => have := HG.out; omega
            · have he0 : e = 0 := by omega
              subst he0
              have hkm := i3 rfl
              have hmz : ¬ m % m = 0 := by rw [hkm] at hz; exact hz
              have HF2 := HF.out
              rw [if_neg hmz] at HF2
              have HF3 := Lib.hid HF2; clear HF HF2 i3 i4 hmz hz hkm
              go_wp2
              go_roundg g'
              case rel => exact ⟨k, m + 1, _, _, _, _, rfl, rfl, rfl, by go_num, hk1, hk2, by omega, by omega, by have := HG.out; omega, by have := HG.out; omega, hg, hOp, hOe, hD, HF3⟩
              case measure => have := HG.out; omega
      · have hjj : fjump m p = p := by unfold fjump; rw [if_neg hj]
        rw [hjj] at hF2
        have hq2 : 2 ≤ p := by omega
        have hq7 : p ≤ 729 := by have h0 : 1 * p ≤ p * p := Nat.mul_le_mul_right p (by omega); omega
        have HF := Lib.hid hF2; clear hF2 hF hjj
        have hm10 : m < 2 ^ 10 := by omega
        have HM10 := Lib.hid hm10; clear hm10
        have hppc : (p : Int) * (p : Int) = ((p * p : Nat) : Int) := (Int.natCast_mul p p).symm
        have hpp2 : p * p ≤ 730 * 730 := Nat.mul_le_mul hp2 hp2
        generalize p * p = pp at *
        have hwp := i64n6 pp hpp2
        have hwp2 := w64n6 pp hpp2
        go_wp2
        clear hppc hpp2 hwp hwp2 hj
        go_loopg [0, 7] 10 (fun gk nv ev wr2 => ∃ k e : Nat, nv = .int .i64 (k : Int) ∧ ev = .int .i64 (e : Int) ∧ e + gk = 10 ∧ 1 ≤ k ∧ k ≤ 729 ∧ wr = wr2 ∧ Hid (k < 2 ^ gk ∧ fdn gk k p = fdn 10 m p ∧ (e = 0 → k = m) ∧ (0 < e → m % p = 0)))
        case atStart => exact ⟨m, 0, rfl, rfl, rfl, hm1, hm2, rfl, Lib.hid ⟨HM10.out, rfl, fun _ => rfl, fun h => by omega⟩⟩
        case round =>
          obtain ⟨k, e, rfl, rfl, hge, hk1, hk2, rfl, hI⟩ := hrel
          have hc1 : ((k : Int) % (p : Int)) = ((k % p : Nat) : Int) := (Int.natCast_emod k p).symm
          have hpos : (0 : Int) < (p : Int) := by omega
          have hq0 : ((p : Int) == 0) = false := by simp; omega
          by_cases hz : k % p = 0
          · have hz' : (k : Int) % (p : Int) = 0 := by rw [hc1, hz]; rfl
            have hd := Nat.div_add_mod k p
            rw [hz, Nat.add_zero] at hd
            obtain ⟨ge', hge'⟩ : ∃ g2, gk = g2 + 1 := by
              cases gk with
              | zero => have := hI.out.1; simp at this; omega
              | succ g2 => exact ⟨g2, rfl⟩
            obtain ⟨c, hc⟩ : ∃ c, c = k / p := ⟨_, rfl⟩
            rw [← hc] at hd
            have hcq1 : 1 ≤ c := by
              rcases Nat.eq_zero_or_pos c with h | h
              · rw [h] at hd; simp at hd; omega
              · exact h
            have hcm : 2 * c ≤ k := by
              have : 2 * c ≤ p * c := Nat.mul_le_mul_right c hq2
              omega
            have hdiv : (k : Int) / (p : Int) = (c : Int) := by
              rw [hc]; exact (Int.natCast_ediv k p).symm
            have hI2 : Hid (c < 2 ^ ge' ∧ fdn ge' c p = fdn 10 m p ∧ (e + 1 = 0 → c = m) ∧ (0 < e + 1 → m % p = 0)) := by
              obtain ⟨i1, i2, i3, i4⟩ := hI.out
              refine Lib.hid ⟨?_, ?_, fun h => by omega, fun _ => ?_⟩
              · rw [hge', Nat.pow_succ] at i1; omega
              · rw [← i2, hge', hc]; show fdn ge' (k / p) p = if k % p = 0 then fdn ge' (k / p) p else k; rw [if_pos hz]
              · rcases Nat.eq_zero_or_pos e with h | h
                · rw [i3 h] at hz; exact hz
                · exact i4 h
            have hc729 : c ≤ 729 := by omega
            have HH := Lib.hid (And.intro hge' hd); clear hI hd hc hc1 hz hcm
            go_wp2
            go_roundg ge'
            case rel => exact ⟨c, e + 1, rfl, by go_num, by have := HH.out.1; omega, hcq1, hc729, rfl, hI2⟩
            case measure => have := HH.out.1; omega
          · have hne : ¬ (k : Int) % (p : Int) = 0 := by rw [hc1]; omega
            obtain ⟨i1, i2, i3, i4⟩ := hI.out
            rw [fdn_stop _ _ _ hz] at i2
            rw [← i2] at HF
            clear hc1 hI i1 i2
            by_cases he : 0 < e
            · have hmz := i4 he
              have HF2 := HF.out
              rw [if_pos hmz] at HF2
              have HF3 := Lib.hid HF2; clear HF HF2 i3 i4 hmz hz
              have hep : (0 : Int) < (e : Int) := by omega
              go_wp2_with (first
                | (at_builtin; refine wp_app_ints4 rfl _ _ rfl w.heap.size _ ps rfl (hOp.ext0 (World.grownBy_alloc _ _ _)) _ [(p : Int)] rfl Any (Own.ints (World.ownsRow_lit wr #[.int .i64 (p : Int)] 1 (Nat.zero_le _) (by decide) rfl) (by simp)) (by simp; omega) (by have := hg.size; simp; omega) ?_; intro v5 w5 hO5 hg5 hb5; have hgx : Ext w w5 := grown_own (grown_trans hg (World.grownBy_alloc _ _ _)) hg5 (fun j hj hlt => by have := (hOp.lt j hj).1; omega); have hOe5 : Own w.heap.size w5 ve es := (hOe.ext0 (World.grownBy_alloc _ _ _)).ext hg5 (Dis.symm hD).l; have hD5 : Dis v5 ve := hD.app (hOe.ext0 (World.grownBy_alloc _ _ _)) hb5; clear hg5 hb5 hD hOp hOe)
                | (at_builtin; refine wp_app_ints4 rfl _ _ rfl w.heap.size _ es rfl (hOe5.ext0 (World.grownBy_alloc _ _ _)) _ [(e : Int)] rfl Any (Own.ints (World.ownsRow_lit w5 #[.int .i64 (e : Int)] 1 (Nat.zero_le _) (by decide) rfl) (by simp)) (by simp; omega) (by have := hgx.size; simp; omega) ?_; intro v6 w6 hO6 hg6 hb6; have hgy : Ext w w6 := grown_own (grown_trans hgx (World.grownBy_alloc _ _ _)) hg6 (fun j hj hlt => by have := (hOe5.lt j hj).1; omega); have hOp6 : Own w.heap.size w6 v5 (ps ++ [(p : Int)]) := (hO5.ext0 (World.grownBy_alloc _ _ _)).ext hg6 hD5.l; have hD6 : Dis v6 v5 := (Dis.symm hD5).app (hO5.ext0 (World.grownBy_alloc _ _ _)) hb6))
              go_roundg g'
              case rel => exact ⟨k, p + 1, _, _, _, _, rfl, rfl, rfl, by go_num, hk1, hk2, by omega, by omega, by have := HG.out; simp; omega, by have := HG.out; simp; omega, hgy, hOp6, hO6, hD6.symm, HF3⟩
              case measure => have := HG.out; omega
            · have he0 : e = 0 := by omega
              subst he0
              have hkm := i3 rfl
              have hmz : ¬ m % p = 0 := by rw [hkm] at hz; exact hz
              have HF2 := HF.out
              rw [if_neg hmz] at HF2
              have HF3 := Lib.hid HF2; clear HF HF2 i3 i4 hmz hz hkm
              go_wp2
              go_roundg g'
              case rel => exact ⟨k, p + 1, _, _, _, _, rfl, rfl, rfl, by go_num, hk1, hk2, by omega, by omega, by have := HG.out; omega, by have := HG.out; omega, hg, hOp, hOe, hD, HF3⟩
              case measure => have := HG.out; omega

end Go.Proofs.YtdklekdpdbjfiaaGreat

/- spec.l20Divisors: the group primes that divide the order, ascending; the order divides a power of 210. -/
namespace Go.Proofs.YtdklekdpdbjfiaaGreat
open Go.RowKit

def dvsK (n q : Int) : List Int := ([2, 3, 5, 7] : List Int).filter (fun x => decide (x < q) && n % x == 0)
theorem dvsK_step0 (n q : Int) (h2 : 2 ≤ q) (h7 : q ≤ 7) : dvsK n (q + 1) = if (primeB q && n % q == 0) = true then dvsK n q ++ [q] else dvsK n q := by
  have hq : q = 2 ∨ q = 3 ∨ q = 4 ∨ q = 5 ∨ q = 6 ∨ q = 7 := by omega
  unfold dvsK primeB
  rcases hq with rfl | rfl | rfl | rfl | rfl | rfl <;> simp only [List.filter_cons, List.filter_nil] <;> generalize (n % 2 == 0) = b2 <;> generalize (n % 3 == 0) = b3 <;> generalize (n % 4 == 0) = b4 <;> generalize (n % 5 == 0) = b5 <;> generalize (n % 6 == 0) = b6 <;> generalize (n % 7 == 0) = b7 <;> revert b2 b3 b4 b5 b6 b7 <;> decide
theorem dvsK_step (n : Int) (q : Nat) (h2 : 2 ≤ q) (h7 : q ≤ 7) : dvsK n ((q + 1 : Nat) : Int) = if primeB (q : Int) = true ∧ n % (q : Int) = 0 then dvsK n q ++ [(q : Int)] else dvsK n q := by
  have h := dvsK_step0 n (q : Int) (by omega) (by omega)
  rw [show ((q + 1 : Nat) : Int) = (q : Int) + 1 from rfl, h]
  by_cases h1 : primeB (q : Int) = true
  · by_cases h3 : n % (q : Int) = 0
    · rw [if_pos (by rw [h1, h3]; rfl), if_pos ⟨h1, h3⟩]
    · rw [if_neg (fun hh => h3 (by simpa [h1] using hh)), if_neg (fun hh => h3 hh.2)]
  · rw [if_neg (fun hh => h1 (Bool.and_eq_true_iff.1 hh).1), if_neg (fun hh => h1 hh.1)]
theorem dvsK_all (n : Int) : dvsK n 8 = dvs n := by
  unfold dvsK dvs
  refine List.filter_congr (fun x hx => ?_)
  simp only [List.mem_cons, List.not_mem_nil, or_false] at hx
  rcases hx with rfl | rfl | rfl | rfl <;> simp
theorem dvsK_two (n : Int) : dvsK n 2 = [] := by
  unfold dvsK
  simp [List.filter]
theorem dvsK_len (n q : Int) : (dvsK n q).length ≤ 4 := List.length_filter_le _ _
theorem dvs_len (n : Int) : (dvs n).length ≤ 4 := List.length_filter_le _ _
theorem dvs_mem {n q : Int} (h : q ∈ dvs n) : (q = 2 ∨ q = 3 ∨ q = 5 ∨ q = 7) ∧ n % q = 0 := by
  unfold dvs at h
  have h' := List.mem_filter.1 h
  simpa using h'
theorem dvs_sorted (n : Int) : (dvs n).Pairwise (· < ·) := List.Pairwise.filter _ (by decide)

section
variable {P : Pr}
theorem prd_210 (G : Grp P) (Q : Nat → Prop) : ∀ f d, d + f = P.orders.length → prd P Q f d ∣ 210 ^ f
  | 0, d, _ => Nat.dvd_refl _
  | f + 1, d, h => by
    have ih := prd_210 G Q f (d + 1) (by omega)
    obtain ⟨q, h1, h2, h3⟩ := ordN G (show d < P.orders.length by omega)
    unfold prd
    rw [Nat.pow_succ, Nat.mul_comm (210 ^ f)]
    refine Nat.mul_dvd_mul ?_ ih
    by_cases hQ : Q d
    · rw [if_pos hQ, h2]
      rcases h3 with rfl | rfl | rfl | rfl <;> decide
    · rw [if_neg hQ]; exact Nat.one_dvd _
/-- the order as a natural number that divides a power of 210 -/
theorem ord_210 (G : Grp P) : ∃ N : Nat, ordP P = (N : Int) ∧ 1 ≤ N ∧ N ≤ 729 ∧ N ∣ 210 ^ 6 := by
  refine ⟨prd P (fun _ => True) P.orders.length 0, (prd_all G).symm, (prd_729 G _).1, (prd_729 G _).2, ?_⟩
  exact Nat.dvd_trans (prd_210 G _ _ _ (Nat.zero_add _)) (Nat.pow_dvd_pow 210 G.v.n6)
end

/-- the program's primes of the order -/
theorem factorsP_ok (P : Pr) (G : Grp P) (w : World) : Calls Tryz.prog 67 #[.int .i64 (ordP P)] w (Ret w fun w' r => ∃ v e, r = .tuple #[v, e] ∧ Own w.heap.size w' v (dvs (ordP P))) := by
  obtain ⟨N, hN, h1, h2, h3⟩ := ord_210 G
  rw [hN]
  exact factors_ok N h1 h2 h3 w

theorem own_litI {B H : Nat} {w : World} (hB : B ≤ w.heap.size) (hH : w.heap.size = H) : Own B (w.alloc (.cells #[] 2)) (.slice (some ⟨H, 0, none⟩) 0 0) [] := by
  subst hH; exact World.ownsRow_lit w #[] 0 hB (by decide) rfl

set_option maxRecDepth 100000 in
set_option maxHeartbeats 2000000 in
theorem l20Divisors_ok (P : Pr) (hP : Valid P) (w : World) (pv : Value) (Sp : Nat → Prop) (hpv : PresV Sp w pv P) :
    Calls Tryz.prog 60 #[pv] w (Ret w fun w' v => Own w.heap.size w' v (dvs (ordP P))) := by
  have h729 : ordP P ≤ 729 := hP.le729
  have hpos := hP.ordP_pos
  obtain ⟨vo, vp, vc, rfl, h3⟩ := hpv
  have hp0 := PresP.box h3 31
  have hg0 : Ext w (w.alloc (.cells #[vo, vp, vc] 31)) := World.grownBy_alloc _ _ _
  obtain ⟨vo6, vp6, vc6, _, _, hc0, hc1, hc2, h36⟩ := hp0.at
  simp only [Nat.zero_add] at hc1 hc2
  have hbx : ∀ w', Ext (w.alloc (.cells #[vo, vp, vc] 31)) w' → w'.cell? ⟨w.heap.size, 0, none⟩ = some vo6 ∧ w'.cell? ⟨w.heap.size, 1, none⟩ = some vp6 ∧ w'.cell? ⟨w.heap.size, 2, none⟩ = some vc6 := fun w' h => ⟨h.cell hc0 (by simp), h.cell hc1 (by simp), h.cell hc2 (by simp)⟩
  have HB := Lib.hid hbx; clear hbx hp0 hc0 hc1 hc2
  have hs0 : (w.alloc (.cells #[vo, vp, vc] 31)).heap.size = w.heap.size + 1 := by simp
  obtain ⟨n, hn⟩ : ∃ n, n = ordP P := ⟨_, rfl⟩
  rw [← hn] at h729 hpos ⊢
  have HN := Lib.hid hn; clear hn
  go_enter Tryz.func60, Tryz.ntmps60
  go_wp2_with fail
  generalize hw0 : w.alloc (.cells #[vo, vp, vc] 31) = w0 at *
  clear hw0
  have hl0 := own_litI (B := w0.heap.size) (Nat.le_refl _) hs0
  have HL0 := Lib.hid hl0; clear hl0 hs0
  go_loopw [3, 4] (fun ov qv wr => ∃ (q : Nat) (ow : Value), ow = ov ∧ qv = .int .i64 (q : Int) ∧ 2 ≤ q ∧ q ≤ 8 ∧ Ext w0 wr ∧ Own w0.heap.size wr ow (dvsK n q)) (fun _ qv _ => 8 - (intOf qv).toNat)
  case atStart => exact ⟨2, _, rfl, by go_num, Nat.le_refl _, by omega, World.grownBy_alloc _ _ _, by show Own _ _ _ (dvsK n 2); rw [dvsK_two]; exact HL0.out⟩
  case round =>
    obtain ⟨q, ow, rfl, rfl, hq2, hq8, hg, hO⟩ := hrel
    by_cases hlt : q ≤ 7
    · have hlt' : (q : Int) ≤ 7 := by omega
      have hpr := l01PrimeR_ok (q : Int) wr
      have hst := dvsK_step n q hq2 hlt
      obtain ⟨b, hb⟩ : ∃ b, b = primeB (q : Int) := ⟨_, rfl⟩
      rw [← hb] at hpr hst
      have HS := Lib.hid hst; clear hst hb
      have hql := dvsK_len n q
      go_wp2_with fail
      refine Calls.mono hpr ?_
      rintro e1 w1 ⟨v1, rfl, hg1, rfl⟩
      clear hpr
      have hg01 := grown_trans hg hg1
      cases b with
      | false =>
        have hs := HS.out
        rw [if_neg (fun hh => by cases hh.1)] at hs
        have HS2 := Lib.hid hs; clear hs HS
        go_wp2
        go_roundw
        case rel => exact ⟨q + 1, _, rfl, by go_num, by omega, by omega, hg01, by rw [HS2.out]; exact hO.ext0 hg1⟩
        case measure => simp [intOf]; omega
      | true =>
        have hor := l10Order_ok w1 (.agg #[vo6, vp6, vc6]) P Any hP ⟨_, _, _, rfl, Pres3.ext h36 hg01⟩
        rw [← HN.out] at hor
        obtain ⟨hc0, hc1, hc2⟩ := HB.out w1 hg01
        go_wp2_with fail
        clear hc0 hc1 hc2
        refine Calls.mono hor ?_
        rintro e2 w2 ⟨v2, rfl, hg2, rfl⟩
        clear hor
        have hg02 := grown_trans hg01 hg2
        have hO2 := (hO.ext0 hg1).ext0 hg2
        have hqp : (0 : Int) < (q : Int) := by omega
        have hq0 : ((q : Int) == 0) = false := by simp; omega
        by_cases hz : n % (q : Int) = 0
        · have hs := HS.out
          rw [if_pos ⟨by first | rfl | trivial, hz⟩] at hs
          have HS2 := Lib.hid hs; clear hs HS
          go_wp2_with (at_builtin; go_must (refine wp_app_ints4 rfl _ _ rfl w0.heap.size _ (dvsK n q) rfl (hO2.ext0 (World.grownBy_alloc _ _ _)) _ [(q : Int)] rfl Any (Own.ints (World.ownsRow_lit w2 #[.int .i64 (q : Int)] 1 (Nat.zero_le _) (by decide) rfl) (by simp)) (by simp; omega) (by have := hg02.size; simp; omega) ?_); intro v5 w5 hO5 hg5 _)
          have hgx : Ext w0 w5 := grown_own (grown_trans hg02 (World.grownBy_alloc _ _ _)) hg5 (fun j hj hlt => by have := (hO2.lt j hj).1; omega)
          go_roundw
          case rel => exact ⟨q + 1, _, rfl, by go_num, by omega, by omega, hgx, by rw [HS2.out]; exact hO5⟩
          case measure => simp [intOf]; omega
        · have hs := HS.out
          rw [if_neg (fun hh => hz hh.2)] at hs
          have HS2 := Lib.hid hs; clear hs HS
          go_wp2
          go_roundw
          case rel => exact ⟨q + 1, _, rfl, by go_num, by omega, by omega, hg02, by rw [HS2.out]; exact hO2⟩
          case measure => simp [intOf]; omega
    · have hke : q = 8 := by omega
      subst hke
      have e8 : dvsK n ((8 : Nat) : Int) = dvs n := dvsK_all n
      rw [e8] at hO
      go_wp2
      go_ret
      exact ⟨_, rfl, grown_trans hg0 hg, hO.weak hg0.size⟩

end Go.Proofs.YtdklekdpdbjfiaaGreat

/- A vector of the call's own whose rows lie in other blocks; append of all rows of another list. -/
namespace Go.Proofs.YtdklekdpdbjfiaaGreat
open Go.RowKit

def ShR (B : Nat) (w : World) (v : Value) (xs : List (List Int)) : Prop :=
  ∃ vs, vs.length = xs.length ∧ OwnV B 22 w v vs ∧ ∀ i, i < xs.length → Ints (fun k => v.ownBlock ≠ some k) w (gt vs i) (gt xs i)

theorem ShR.ext {B : Nat} {w w' : World} {v : Value} {xs : List (List Int)} (h : ShR B w v xs) (hg : Ext w w') : ShR B w' v xs := by
  obtain ⟨vs, h1, h2, h3⟩ := h
  exact ⟨vs, h1, h2.kept hg (by cases hv : v.ownBlock <;> simp), fun i hi => Ints.mono (h3 i hi) (frame_of hg (fun k hk _ => ⟨hk, fun e => by cases e⟩))⟩
theorem ShR.lt {B : Nat} {w : World} {v : Value} {xs : List (List Int)} (h : ShR B w v xs) (k : Nat) (hk : v.ownBlock = some k) : B ≤ k ∧ k < w.heap.size := by
  obtain ⟨vs, h1, h2, h3⟩ := h
  exact h2.lt k hk
theorem ShR.shape {B : Nat} {w : World} {v : Value} {xs : List (List Int)} (h : ShR B w v xs) : ∃ a c, v = .slice a xs.length c := by
  obtain ⟨vs, h1, h2, h3⟩ := h
  rcases h2.form with ⟨e1, e2⟩ | ⟨g, cp, e1, _⟩
  · have : xs.length = 0 := by rw [← h1, e2]; rfl
    exact ⟨none, 0, by rw [e1, this]⟩
  · exact ⟨_, _, by rw [e1, h1]⟩
theorem ShR.rows {B : Nat} {w : World} {v : Value} {xs : List (List Int)} (h : ShR B w v xs) (hl : xs.length ≤ 1000000) : Rows2 Any w v xs := by
  obtain ⟨vs, h1, h2, h3⟩ := h
  rcases h2.form with ⟨rfl, e2⟩ | ⟨g, cp, rfl, hc, hB, hgs⟩
  · have : xs = [] := List.eq_nil_of_length_eq_zero (by rw [← h1, e2]; rfl)
    subst this
    exact ⟨none, 0, rfl, ⟨by simp, by simp, fun _ => rfl⟩, fun i hi => by simp at hi⟩
  · refine ⟨_, cp, by rw [h1], ⟨by omega, by omega, fun h => by cases h⟩, fun i hi => ⟨g, 0, gt vs i, rfl, trivial, hgs, ?_, Ints.sub (h3 i hi) (fun k hk _ => trivial)⟩⟩
    rw [Nat.zero_add]; exact h2.cell i (by omega)
theorem ShR.nil (B : Nat) (w : World) : ShR B w (.slice none 0 0) [] := ⟨[], rfl, World.ownsRow_nil _ _ _ _, by simp⟩
theorem ShR.lit0 {B H : Nat} {w : World} (hB : B ≤ w.heap.size) (hH : w.heap.size = H) : ShR B (w.alloc (.cells #[] 22)) (.slice (some ⟨H, 0, none⟩) 0 0) [] := by
  subst hH; exact ⟨[], rfl, World.ownsRow_lit w #[] 0 hB (by decide) rfl, by simp⟩

theorem ShR.app {B : Nat} {w w' : World} {v v' : Value} {xs ys : List (List Int)} {vs vs2 : List Value} (h1 : vs.length = xs.length) (h3 : ∀ i, i < xs.length → Ints (fun k => v.ownBlock ≠ some k) w (gt vs i) (gt xs i))
    (l2 : vs2.length = ys.length) (r2 : ∀ i, i < ys.length → Ints (fun k => v.ownBlock ≠ some k) w (gt vs2 i) (gt ys i)) (k1 : OwnV B 22 w' v' (vs ++ vs2)) (k2 : w.grownBy w' v.ownBlock)
    (k4 : v'.ownBlock = v.ownBlock ∨ v'.ownBlock = some w.heap.size) : ShR B w' v' (xs ++ ys) := by
  have hfr : ∀ k, v.ownBlock ≠ some k → k < w.heap.size → v'.ownBlock ≠ some k ∧ k < w'.heap.size ∧ w'.heap[k]? = w.heap[k]? := fun k hk hlt =>
    ⟨fun e => by
      rcases k4 with h | h
      · rw [h] at e; exact hk e
      · rw [h] at e; cases e; omega, Nat.lt_of_lt_of_le hlt k2.size, k2.block k hlt (fun e => hk e.symm)⟩
  refine ⟨vs ++ vs2, by simp [h1, l2], k1, fun i hi => ?_⟩
  by_cases hlt : i < xs.length
  · rw [gt_append_left _ _ _ (by omega), gt_append_left _ _ _ hlt]
    exact Ints.mono (h3 i hlt) hfr
  · have hi2 : i - xs.length < ys.length := by simp only [List.length_append] at hi; omega
    have e1 : gt (vs ++ vs2) i = gt vs2 (i - xs.length) := by
      rw [← h1]
      simp only [gt, List.getD_eq_getElem?_getD]
      rw [List.getElem?_append_right (by omega)]
    have e2 : gt (xs ++ ys) i = gt ys (i - xs.length) := by
      simp only [gt, List.getD_eq_getElem?_getD]
      rw [List.getElem?_append_right (by omega)]
    rw [e1, e2]
    exact Ints.mono (r2 _ hi2) hfr

/-- append of all rows of a list, in a region that does not draw -/
theorem wp_app_rowsR {ops : Array Oper} {rest : List Oper} {o : Oper} {a : Act} {Q : Exit → Act → World → Prop} {w : World} (hgd : o.guard = none) (s x : Operand)
    (ho : o.op = Op.call { callee := Callee.builtin Builtin.append, args := #[s, x], argTypes := #[23, 23] }) (B : Nat) (v : Value) (xs ys : List (List Int)) (hs : a.eval s = v) (hown : ShR B w v xs)
    (u : Value) (hv : Rows2 (fun k => v.ownBlock ≠ some k) w u ys) (hx : a.eval x = u) (hlen : xs.length + ys.length ≤ 1000000) (hbase : B ≤ w.heap.size)
    (h : ∀ v' w', ShR B w' v' (xs ++ ys) → w.grownBy w' v.ownBlock → wpList Tryz.prog ops Q rest (a.put o.dst v') w') :
    wpList Tryz.prog ops Q (o :: rest) a w := by
  obtain ⟨sa, c, rfl, _, _⟩ := Sl.shape hv
  obtain ⟨vs2, hvl2, hvs2⟩ := Sl.vals hv
  have hnil : sa = none → c = 0 := by
    obtain ⟨a', cap', he, hl', _⟩ := hv
    cases he; exact hl'.2.2
  obtain ⟨vs, h1, h2, h3⟩ := hown
  refine wp_app 23 22 (.slice none 0 0) 24 und_rows Tryz.infoRow rfl (by decide) hgd s x ho B v vs hs h2 sa ys.length c vs2 hx hvl2 hnil (fun j hj => ?_) (fun u hu => ?_) (by omega) hbase (fun v' w' k1 k2 _ k4 => ?_)
  · obtain ⟨⟨b, off, e1, e2⟩, _⟩ := hvs2 j hj
    exact ⟨b, off, e1, e2⟩
  · obtain ⟨j, hj, rfl⟩ := List.getElem_of_mem hu
    rw [← gt_eq vs2 j hj]
    exact rdInts.one (hvs2 j (by omega)).2
  · exact h v' w' (ShR.app h1 h3 hvl2 (fun i hi => (hvs2 i hi).2) k1 k2 k4) k2

end Go.Proofs.YtdklekdpdbjfiaaGreat

/- Orders of elements and residues: impl.orderOfElement, impl.residue; the reference's power: spec.l10Pow. -/
namespace Go.Proofs.YtdklekdpdbjfiaaGreat
open Go.RowKit

theorem isZero_true {l : List Int} : isZeroB l = true ↔ ∀ k, k < l.length → gt l k = 0 := by
  unfold isZeroB allB
  simp

end Go.Proofs.YtdklekdpdbjfiaaGreat

/- impl.orderOfElement: the order divides that of every Hall subgroup for the primes of the element. -/
namespace Go.Proofs.YtdklekdpdbjfiaaGreat
open Go.RowKit

/-- the powers of an element -/
def cycP (P : Pr) (X y : List Int) : Prop := ∃ k, y = pw P X k
theorem Grp.cyc_sub {P : Pr} (G : Grp P) {X : List Int} (hX : Vec P.orders X) : Sub P (cycP P X) :=
  G.sub_closed (fun _ ⟨k, e⟩ => by rw [e]; exact G.pw_vec hX k) ⟨0, rfl⟩ (fun _ _ ⟨k, e⟩ ⟨l, e2⟩ => ⟨k + l, by rw [e, e2, G.pw_add hX]⟩)
theorem cyc_min {P : Pr} {X : List Int} {K : List Int → Prop} (S : Sub P K) (hX : K X) : ∀ x, cycP P X x → K x := fun _ ⟨k, e⟩ => by rw [e]; exact S.pw hX k
theorem Grp.cyc_self {P : Pr} (G : Grp P) {X : List Int} (hX : Vec P.orders X) : cycP P X X := ⟨1, (G.pw_one hX).symm⟩
theorem hallTo_dvd1 {P : Pr} (pr : List Int) (d : Nat) : hallTo P pr d ∣ hallTo P pr (d + 1) := by
  by_cases h : gt P.orders d ∈ pr
  · rw [hallTo_yes h]; exact Int.dvd_mul_right _ _
  · rw [hallTo_no h]; exact Int.dvd_refl _
theorem hallTo_dvd {P : Pr} (pr : List Int) {d n : Nat} (h : d ≤ n) : hallTo P pr d ∣ hallTo P pr n := by
  induction n with
  | zero =>
    have : d = 0 := by omega
    subst this; exact Int.dvd_refl _
  | succ n ih =>
    rcases Nat.lt_or_ge d (n + 1) with h1 | h1
    · exact Int.dvd_trans (ih (by omega)) (hallTo_dvd1 pr n)
    · have : d = n + 1 := by omega
      subst this; exact Int.dvd_refl _

set_option maxRecDepth 100000 in
set_option maxHeartbeats 1000000 in
theorem orderOfElement2_ok (P : Pr) (G : Grp P) (w : World) (p x : Value) (X : List Int) (Sp Sx : Nat → Prop) (hp : PresP Sp w p P) (hx : Ints Sx w x X) (hX : Vec P.orders X) :
    Calls Tryz.prog 133 #[p, x] w (Ret w fun _ v => ∃ m : Int, v = .int .i64 m ∧ 1 ≤ m ∧ m ≤ 729 ∧ ∀ pr : List Int, (∀ d, pv (toE G (cycP P X)) d → gt P.orders d ∈ pr) → m ∣ hallO P pr) := by
  have hP := G.v
  have hn6 := hP.n6
  obtain ⟨pb, po, rfl⟩ := hp.shape
  obtain ⟨ao, capo, hco0, hoi⟩ := hp.ordAt
  have HCO := Lib.hid hco0; clear hco0
  have h729 := hP.le729
  have hpre : ∀ d, d ≤ P.orders.length → prodTo P.orders d ≤ 729 := fun d hd => by have := hP.pre d hd; omega
  have HPRE := Lib.hid hpre; clear hpre h729
  go_enter Tryz.func133, Tryz.ntmps133
  go_wp2
  go_loopw [5, 6, 7] (fun kv dv nv wr => ∃ (d : Nat) (m : Int), dv = .int .i64 d ∧ kv = .int .i64 m ∧ d ≤ P.orders.length ∧ 1 ≤ m ∧ m ≤ prodTo P.orders d ∧ Ext w wr ∧ Ints Any wr nv (pw P X m.toNat) ∧ T P d (pw P X m.toNat) ∧ Hid (∀ pr : List Int, (∀ d, pv (toE G (cycP P X)) d → gt P.orders d ∈ pr) → m ∣ hallTo P pr d)) (fun _ dv _ _ => P.orders.length - (intOf dv).toNat)
  case atStart =>
    have e : pw P X (1 : Int).toNat = X := G.pw_one hX
    exact ⟨0, 1, rfl, rfl, by omega, by omega, by simp [prodTo], Ext.refl _, by rw [e]; exact Ints.sub hx (fun _ _ _ => trivial), by rw [e]; exact T_zero.2 hX, Lib.hid (fun _ _ => Int.one_dvd _)⟩
  case round =>
    obtain ⟨d, m, rfl, rfl, hd, hm1, hm2, hg, hN, hT, hDV⟩ := hrel
    obtain ⟨Y, hY⟩ : ∃ Y, Y = pw P X m.toNat := ⟨_, rfl⟩
    rw [← hY] at hN hT
    have HY := Lib.hid hY; clear hY
    have hm3 : m ≤ 729 := by have := HPRE.out d hd; omega
    have hNl : Y.length ≤ P.orders.length ∧ P.orders.length ≤ Y.length := by rw [hT.1.1]; omega
    obtain ⟨an, capn, rfl, _, _⟩ := hN.shape
    have HT := Lib.hid (And.intro hT hm2); clear hT hm2
    cases hz : isZeroB Y with
    | true =>
      have h0 : ∀ pr : List Int, (∀ d, pv (toE G (cycP P X)) d → gt P.orders d ∈ pr) → m ∣ hallO P pr := fun pr h => Int.dvd_trans (hDV.out pr h) (hallTo_dvd pr hd)
      have H0 := Lib.hid h0; clear h0
      go_wp2_with (go_at_call 197; refine (isZero_ok _ _ wr Any hN).mono ?_; rintro e1 w1 ⟨rfl, rfl⟩)
      go_ret
      exact ⟨_, rfl, hg, m, rfl, hm1, hm3, H0.out⟩
    | false =>
      have hdn : d < P.orders.length := by
        rcases Nat.lt_or_ge d P.orders.length with h | h
        · exact h
        · exfalso
          have : isZeroB Y = true := isZero_true.2 (fun k hk => HT.out.1.2 k (by omega))
          rw [hz] at this; cases this
      obtain ⟨b, off, hab, _, _, hc⟩ := Ints.at hN d (by omega)
      cases hab
      have hdl : (d : Int) < Y.length := by omega
      by_cases hx0 : gt Y d = 0
      · have hb : (gt Y d != 0) = false := by simp [hx0]
        have hT2 := HT.out.1.up hx0
        have HDV : Hid (∀ pr : List Int, (∀ d, pv (toE G (cycP P X)) d → gt P.orders d ∈ pr) → m ∣ hallTo P pr (d + 1)) := Lib.hid (fun pr h => Int.dvd_trans (hDV.out pr h) (hallTo_dvd1 pr d))
        have hm4 : m ≤ prodTo P.orders (d + 1) := by
          have h1 := HT.out.2
          have h2 := hP.ord7 d hdn
          have h3 : prodTo P.orders d * 1 ≤ prodTo P.orders d * gt P.orders d := Int.mul_le_mul_of_nonneg_left (by omega) (by omega)
          simp only [prodTo]; omega
        have HT2 := Lib.hid (And.intro hT2 hm4); clear hT2 hm4
        clear hx0
        go_wp2_with (go_at_call 197; refine (isZero_ok _ _ wr Any hN).mono ?_; rintro e1 w1 ⟨rfl, rfl⟩)
        go_roundw
        case rel => exact ⟨d + 1, m, by go_num, rfl, by omega, hm1, HT2.out.2, hg, by rw [← HY.out]; exact hN, by rw [← HY.out]; exact HT2.out.1, HDV⟩
        case measure => simp [intOf]; omega
      · have hb : (gt Y d != 0) = true := by simp [hx0]
        have ho := hP.ord7 d hdn
        have HDV : Hid (∀ pr : List Int, (∀ d, pv (toE G (cycP P X)) d → gt P.orders d ∈ pr) → m * gt P.orders d ∣ hallTo P pr (d + 1)) := Lib.hid (fun pr h => by
          have hpd : pv (toE G (cycP P X)) d := ⟨hdn, ⟨Y, HT.out.1.1⟩, ⟨m.toNat, HY.out⟩, HT.out.1.2, hx0⟩
          rw [hallTo_yes (h d hpd)]
          exact Int.mul_dvd_mul (hDV.out pr h) (Int.dvd_refl _))
        obtain ⟨b2, off2, hab2, _, _, hc2⟩ := Ints.at (hoi.ext hg) d hdn
        cases hab2
        have hco := hg.cell HCO.out (by simp)
        have hdo : (d : Int) < P.orders.length := by omega
        have hpw := G.pw_order hdn HT.out.1
        have e1 : pw P Y (gt P.orders d).toNat = pw P X (m * gt P.orders d).toNat := by
          rw [HY.out, ← G.pw_mul hX]
          congr 1
          have : ((m.toNat * (gt P.orders d).toNat : Nat) : Int) = m * gt P.orders d := by
            rw [Int.natCast_mul, show ((m.toNat : Nat) : Int) = m by omega, show (((gt P.orders d).toNat : Nat) : Int) = gt P.orders d by omega]
          omega
        rw [e1] at hpw
        have e2 : iPow P Y (gt P.orders d) = pw P X (m * gt P.orders d).toNat := by rw [G.iPow_eq HT.out.1.1]; exact e1
        have hm4 : m * gt P.orders d ≤ prodTo P.orders (d + 1) := Int.mul_le_mul_of_nonneg_right HT.out.2 (by omega)
        have hm5 : prodTo P.orders (d + 1) ≤ 729 := HPRE.out (d + 1) (by omega)
        have hm6 : 1 ≤ m * gt P.orders d := by
          have : 1 * 1 ≤ m * gt P.orders d := Int.mul_le_mul hm1 (by omega) (by omega) (by omega)
          omega
        have hwm : IntKind.i64.wrap (m * gt P.orders d) = m * gt P.orders d := IntWalk.i64_in _ (by omega)
        have HE := Lib.hid (And.intro e2 (And.intro hpw hm4)); clear e1 e2 hpw hm4 hx0
        go_wp2_with (first | (go_at_call 197; refine (isZero_ok _ _ wr Any hN).mono ?_; rintro e1 w1 ⟨rfl, rfl⟩) | fail)
        refine Calls.mono (power_ok P hP wr _ _ _ (gt P.orders d) _ _ (hp.ext hg) hN HT.out.1.1 (by omega)) ?_
        rintro eA wA ⟨vA, rfl, hgA, hOA⟩
        rw [HE.out.1] at hOA
        have hcoA := hgA.cell hco (by simp)
        have hc2A := hgA.cell hc2 (by simp)
        have hNA : Ints Any wA vA (pw P X (m * gt P.orders d).toNat) := hOA.ints (by rw [HE.out.2.1.1.1]; omega)
        clear hco hc2 hc
        go_wp2
        go_roundw
        case rel => exact ⟨d + 1, m * gt P.orders d, by go_num, rfl, by omega, hm6, HE.out.2.2, grown_trans hg hgA, hNA, HE.out.2.1, HDV⟩
        case measure => simp [intOf]; omega

end Go.Proofs.YtdklekdpdbjfiaaGreat

/- Plain: the normal subgroups are those of classes of one. -/
namespace Go.Proofs.YtdklekdpdbjfiaaGreat
open Go.RowKit

theorem cnS_length (P : Pr) (u : List (List Int)) (S : List (List (List Int))) : ∀ t, (cnS P u S t).1.length = S.length + (cnS P u S t).2
  | 0 => rfl
  | t + 1 => by
    have ih := cnS_length P u S t
    by_cases h : cjU P u (elAt P (t : Int)) ∈ (cnS P u S t).1
    · rw [cnS_no h]; exact ih
    · rw [cnS_yes h]
      simp only [List.length_append, List.length_singleton]
      omega

section
variable {P : Pr} (G : Grp P)
include G

end

end Go.Proofs.YtdklekdpdbjfiaaGreat

/- The library's sort at [][]int64, laid from the shelf. -/
namespace Go.Proofs.YtdklekdpdbjfiaaGreat
open Go.Proofs Go.Shelf Go.RowKit Go.Lib Go.Sort
def Tryz.sortRows_ren : Go.Shelf.Ren := ⟨fun | 6 => 216 | 15 => 200 | 14 => 246 | 28 => 240 | 29 => 241 | 20 => 256 | 21 => 257 | 22 => 258 | 23 => 259 | 24 => 260 | 25 => 261 | 26 => 262 | 27 => 263 | 46 => 266 | 47 => 252 | 48 => 253 | 49 => 267 | 50 => 268 | 57 => 269 | n => n, fun | 22 => 23 | 24 => 22 | 25 => 171 | 3 => 3 | 39 => 168 | 0 => 0 | 53 => 198 | 55 => 95 | 4 => 4 | 46 => 191 | 45 => 190 | 50 => 195 | 5 => 5 | 9 => 9 | 66 => 204 | 70 => 208 | 76 => 216 | 77 => 217 | n => n, fun | n => n⟩
theorem Tryz.sortRows : Go.Proofs.SlLaysF.n6 Tryz.prog Tryz.sortRows_ren := {
  mixed := by kernel_rfl
  f6 := ⟨Tryz.f216.name, by decide, Tryz.func216.trans (congrArg some (by kernel_rfl))⟩
  f14 := ⟨Tryz.f246.name, by decide, Tryz.func246.trans (congrArg some (by kernel_rfl))⟩
  f15 := Tryz.func200.trans (congrArg some (by kernel_rfl))
  f20 := ⟨Tryz.f256.name, by decide, Tryz.func256.trans (congrArg some (by kernel_rfl))⟩
  f21 := ⟨Tryz.f257.name, by decide, Tryz.func257.trans (congrArg some (by kernel_rfl))⟩
  f22 := ⟨Tryz.f258.name, by decide, Tryz.func258.trans (congrArg some (by kernel_rfl))⟩
  f23 := ⟨Tryz.f259.name, by decide, Tryz.func259.trans (congrArg some (by kernel_rfl))⟩
  f24 := ⟨Tryz.f260.name, by decide, Tryz.func260.trans (congrArg some (by kernel_rfl))⟩
  f25 := ⟨Tryz.f261.name, by decide, Tryz.func261.trans (congrArg some (by kernel_rfl))⟩
  f26 := ⟨Tryz.f262.name, by decide, Tryz.func262.trans (congrArg some (by kernel_rfl))⟩
  f27 := ⟨Tryz.f263.name, by decide, Tryz.func263.trans (congrArg some (by kernel_rfl))⟩
  f28 := Tryz.func240.trans (congrArg some (by kernel_rfl))
  f29 := Tryz.func241.trans (congrArg some (by kernel_rfl))
  f46 := ⟨Tryz.f266.name, by decide, Tryz.func266.trans (congrArg some (by kernel_rfl))⟩
  f47 := Tryz.func252.trans (congrArg some (by kernel_rfl))
  f48 := Tryz.func253.trans (congrArg some (by kernel_rfl))
  f49 := ⟨Tryz.f267.name, by decide, Tryz.func267.trans (congrArg some (by kernel_rfl))⟩
  f50 := ⟨Tryz.f268.name, by decide, Tryz.func268.trans (congrArg some (by kernel_rfl))⟩
  f57 := ⟨Tryz.f269.name, by decide, Tryz.func269.trans (congrArg some (by kernel_rfl))⟩
  t0 := Tryz.underlying0
  a0 := Tryz.isAgg0
  z0 := Tryz.sizeOf0
  v0 := Tryz.zeroValue0
  t3 := Tryz.underlying3
  a3 := Tryz.isAgg3
  z3 := Tryz.sizeOf3
  v3 := Tryz.zeroValue3
  t4 := Tryz.underlying4
  a4 := Tryz.isAgg4
  z4 := Tryz.sizeOf4
  v4 := Tryz.zeroValue4
  t5 := Tryz.underlying5
  a5 := Tryz.isAgg5
  z5 := Tryz.sizeOf5
  v5 := Tryz.zeroValue5
  t9 := Tryz.underlying9
  a9 := Tryz.isAgg9
  z9 := Tryz.sizeOf9
  v9 := Tryz.zeroValue9
  t22 := Tryz.underlying23
  a22 := Tryz.isAgg23
  z22 := Tryz.sizeOf23
  v22 := Tryz.zeroValue23
  a24 := Tryz.isAgg22
  z24 := Tryz.sizeOf22
  t25 := Tryz.underlying171
  a25 := Tryz.isAgg171
  z25 := Tryz.sizeOf171
  v25 := Tryz.zeroValue171
  t39 := Tryz.underlying168
  a39 := Tryz.isAgg168
  z39 := Tryz.sizeOf168
  v39 := Tryz.zeroValue168
  t45 := Tryz.underlying190
  a45 := Tryz.isAgg190
  z45 := Tryz.sizeOf190
  v45 := Tryz.zeroValue190
  t46 := Tryz.underlying191
  a46 := Tryz.isAgg191
  z46 := Tryz.sizeOf191
  v46 := Tryz.zeroValue191
  t50 := Tryz.underlying195
  a50 := Tryz.isAgg195
  z50 := Tryz.sizeOf195
  v50 := Tryz.zeroValue195
  t53 := Tryz.underlying198
  a53 := Tryz.isAgg198
  z53 := Tryz.sizeOf198
  v53 := Tryz.zeroValue198
  t55 := Tryz.underlying95
  a55 := Tryz.isAgg95
  z55 := Tryz.sizeOf95
  v55 := Tryz.zeroValue95
  t66 := Tryz.underlying204
  a66 := Tryz.isAgg204
  z66 := Tryz.sizeOf204
  v66 := Tryz.zeroValue204
  t70 := Tryz.underlying208
  a70 := Tryz.isAgg208
  z70 := Tryz.sizeOf208
  v70 := Tryz.zeroValue208
  t76 := Tryz.underlying216
  a76 := Tryz.isAgg216
  z76 := Tryz.sizeOf216
  v76 := Tryz.zeroValue216
  t77 := Tryz.underlying217
  a77 := Tryz.isAgg217
  z77 := Tryz.sizeOf217
  v77 := Tryz.zeroValue217 }
end Go.Proofs.YtdklekdpdbjfiaaGreat

/- A row that the call has built, sorted by the library: any elements of one cell. (After the library's Sort/OwnSortedInts, at a general reading.) -/
namespace Go.Proofs.YtdklekdpdbjfiaaGreat
open Go.Proofs Go.Shelf Go.RowKit Go.Lib Go.Sort

section
variable {α : Type} [Inhabited α] {enc : α → Value}
theorem holds_of_blockV {w : World} {g : Nat} {cur : Array Value} {e : TypeId} {ss : List α} (hb : w.heap[g]? = some (.cells cur e (0, 0))) (ht : cur.toList.take ss.length = ss.map enc) : Go.Sort.Holds enc w g 0 ss.toArray := by
  intro j hj
  have hj' : j < ss.length := by simpa using hj
  refine ⟨?_, by simp [World.frozen?, hb]⟩
  have h1 : (cur.toList.take ss.length)[j]? = (ss.map enc)[j]? := by rw [ht]
  rw [List.getElem?_take_of_lt hj'] at h1
  simp only [World.cell?, hb, Nat.zero_add]
  simp only [Option.isSome_none, Bool.false_eq_true, if_false]
  rw [← Array.getElem?_toList, h1]
  simp [hj']

theorem heap_sortedV {w : World} {g n : Nat} {os : Array Obj} {cur : Array Value} {e : TypeId} {fr : Nat × Nat} (d : Array α) (hb : w.heap[g]? = some (.cells cur e fr)) :
    (sortWorld enc w g 0 n d os).heap[g]? = some (.cells (putCells enc 0 d cur) e fr) := by
  have hg : g < w.heap.size := (Array.getElem?_eq_some_iff.1 hb).1
  unfold sortWorld
  rw [heap_grow_old _ _ (by simpa using hg)]
  simp [putRow, mapBlock, Sort.ahead, Array.getElem?_modify, hb, onCells]

theorem grownBy_sortedV {w : World} {g n : Nat} {os : Array Obj} (d : Array α) : w.grownBy (sortWorld enc w g 0 n d os) (some g) := by
  unfold sortWorld
  refine ⟨rfl, rfl, rfl, by simp, fun k hk hne => ?_⟩
  rw [heap_grow_old _ _ (by simpa using hk)]
  have : g ≠ k := fun e => hne (by rw [e])
  simp [putRow, mapBlock, Sort.ahead, Array.getElem?_modify, this]

theorem take_putCellsV (cur : Array Value) (ts : List α) (h : ts.length ≤ cur.size) : (putCells enc 0 ts.toArray cur).toList.take ts.length = ts.map enc := by
  apply List.ext_getElem?
  intro j
  by_cases hj : j < ts.length
  · rw [List.getElem?_take_of_lt hj, Array.getElem?_toList]
    simp [putCells, hj, show j < cur.size by omega]
  · rw [List.getElem?_take_eq_none (by omega), List.getElem?_eq_none (by simp; omega)]

theorem ownsRow_sortedV {w : World} {base g cap n : Nat} {e : TypeId} {os : Array Obj} {cur : Array Value} {ss ts : List α} (hl : ts.length = ss.length) (hbase : base ≤ g) (hb : w.heap[g]? = some (.cells cur e (0, 0)))
    (h1 : ss.length ≤ cap) (h2 : cap ≤ maxLen) (h3 : cur.size = cap * 1) :
    (sortWorld enc w g 0 n ts.toArray os).ownsRow base e 1 (.slice (some ⟨g, 0, none⟩) ss.length cap) ss.length (ts.map enc) :=
  ⟨by simp [hl], .inr ⟨g, cap, _, rfl, hbase, heap_sortedV _ hb, h1, h2, by simp [putCells, h3], by rw [Nat.mul_one, ← hl]; exact take_putCellsV cur ts (by omega)⟩⟩
end

/-- a slice value of the row, nil beyond it -/
def encAt (vs : List Value) (k : Nat) : Value := if k < vs.length then gt vs k else .slice none 0 0
def cfAt (L : List (List Int)) (i j : Nat) : Int := cmpL (gt L i) (gt L j)

theorem ltOf_true {L : List (List Int)} {x y : Nat} : ltOf (cfAt L) x y = true ↔ cmpL (gt L x) (gt L y) < 0 := by unfold ltOf; rw [decide_eq_true_iff]; rfl
theorem ltOf_false {L : List (List Int)} {x y : Nat} : ltOf (cfAt L) x y = false ↔ 0 ≤ cmpL (gt L x) (gt L y) := by
  unfold ltOf; rw [decide_eq_false_iff_not]; show ¬ (cmpL (gt L x) (gt L y) < 0) ↔ _; omega

theorem swo_cfAt (L : List (List Int)) : SWO (ltOf (cfAt L)) where
  irrefl x := by
    have := (cmpL_zero (gt L x) (gt L x)).2 rfl
    rw [ltOf_false]; omega
  trans x y z h k := by
    rw [ltOf_true] at *
    have h1 := cmpL_le_trans (gt L x) (gt L y) (gt L z) (by omega) (by omega)
    have h2 : cmpL (gt L x) (gt L z) ≠ 0 := by
      intro e
      rw [cmpL_zero] at e
      rw [e] at h
      have := cmpL_swap (gt L z) (gt L y)
      omega
    omega
  ntrans x y z h k := by
    rw [ltOf_false] at *
    have h1 := cmpL_swap (gt L x) (gt L y)
    have h2 := cmpL_swap (gt L y) (gt L z)
    have h3 := cmpL_swap (gt L x) (gt L z)
    have h4 := cmpL_le_trans (gt L z) (gt L y) (gt L x) (by omega) (by omega)
    omega

theorem encAt_one {vs : List Value} (h : ∀ i, i < vs.length → (gt vs i).oneCell' = true) : OneCell (encAt vs) := by
  intro k
  unfold encAt
  split
  · exact h k (by assumption)
  · rfl

theorem gt_inj {α : Type} [Inhabited α] {l : List α} (h : l.Nodup) {i j : Nat} (hi : i < l.length) (hj : j < l.length) (he : gt l i = gt l j) : i = j := by
  simp only [gt, List.getD_eq_getElem?_getD, List.getElem?_eq_getElem hi, List.getElem?_eq_getElem hj, Option.getD_some] at he
  rcases Nat.lt_trichotomy i j with h1 | h1 | h1
  · exact absurd he (List.pairwise_iff_getElem.1 h i j hi hj h1)
  · exact h1
  · exact absurd he.symm (List.pairwise_iff_getElem.1 h j i hj hi h1)

/-- slices.SortFunc with slices.Compare on rows that the call has built -/
theorem sortRows_ok (w : World) (v : Value) (L : List (List Int)) (B : Nat) (hL : RowsO B w v L) (hne : 0 < L.length) (hlen : L.length ≤ 1000000) :
    Calls Tryz.prog 216 #[v, .func (.func 203) #[] #[]] w fun e w' => e = .returned (.tuple #[]) ∧ RowsO B w' v (sortL L) ∧ w.grownBy w' v.ownBlock := by
  obtain ⟨vs, G, hvl, hO, hG, hd, hE⟩ := hL
  obtain ⟨_, ⟨rfl, h0⟩ | ⟨g, cap, cur, rfl, hBg, hb, hnc, hcm, hsz, hx⟩⟩ := hO
  · omega
  have hgs : g < w.heap.size := (Array.getElem?_eq_some_iff.1 hb).1
  have hone : OneCell (encAt vs) := encAt_one fun i hi => by
    exact rdOwn.one (hE i (by omega))
  have hmap : (List.range L.length).map (encAt vs) = vs := by
    apply List.ext_getElem (by simp [hvl])
    intro j h1 h2
    simp [encAt, gt, h2]
  have hH : Go.Sort.Holds (encAt vs) w g 0 (List.range L.length).toArray := holds_of_blockV hb (by rw [hmap, List.length_range, ← hvl]; simpa using hx)
  have eg : ∀ args w, (callFunc 203 args).run Tryz.prog w = .ok (.enter 203 args) w := enters_of Tryz.func203 (by kernel_rfl) rfl
  have hcmp : CmpReads Tryz.prog 203 #[] (encAt vs) (cfAt L) g 0 (List.range L.length).toArray.size w := by
    intro m os dk _ x y
    have hgr : w.grownBy (sortWorld (encAt vs) w g 0 m dk os) (some g) := grownBy_sortedV dk
    have hread : ∀ k, Ints Any (sortWorld (encAt vs) w g 0 m dk os) (encAt vs k) (gt L k) := by
      intro k
      by_cases hk : k < vs.length
      · have he := (hE k (by omega)).ints
        unfold encAt
        rw [if_pos hk]
        exact Ints.mono he (fun b hb2 hlt => ⟨trivial, Nat.lt_of_lt_of_le hlt hgr.size, hgr.block b hlt (fun e => (hG k b (by omega) hb2).2.1 (by cases e; rfl))⟩)
      · have h1 : gt L k = [] := by simp [gt, show ¬ k < L.length by omega]; rfl
        unfold encAt
        rw [if_neg hk, h1]
        exact ⟨none, 0, rfl, ⟨by simp, by simp, fun _ => rfl⟩, fun i hi => by simp at hi⟩
    refine (sCompare_ok _ _ _ _ _ _ _ (hread x) (hread y)).mono ?_
    rintro e w' ⟨rfl, rfl⟩
    exact ⟨rfl, 0, rfl⟩
  have hcon := Any.slices_SortFunc Tryz.sortRows (encAt vs) hone (cfAt L) (swo_cfAt L) 203 #[] g 0 cap (List.range L.length).toArray w eg hcmp.lays hH hgs (by simp; omega)
  change Calls Tryz.prog 216 _ _ _ at hcon
  have hsz2 : (List.range L.length).toArray.size = vs.length := by simp [hvl]
  rw [hsz2] at hcon
  refine hcon.mono ?_
  rintro e w' ⟨he, d', n, os, ⟨hs1, _, hperm⟩, hsorted, rfl⟩
  have hts : d'.toList.length = L.length := by simpa [hvl] using hs1
  have hP : d'.toList.Perm (List.range L.length) := by
    have h1 : d'.extract 0 vs.length = d' := by
      apply Array.ext'
      rw [hvl, ← hts]; simp
    have h2 : (List.range L.length).toArray.extract 0 vs.length = (List.range L.length).toArray := by
      apply Array.ext'
      rw [hvl]; simp
    rw [h1, h2] at hperm
    simpa using hperm
  have hin : ∀ i, i < L.length → gt d'.toList i < L.length := fun i hi => by
    have := hP.subset (gt_mem (l := d'.toList) (i := i) (by omega))
    simpa using this
  have hnd : d'.toList.Nodup := hP.symm.nodup List.nodup_range
  have hmapL : (List.range L.length).map (gt L) = L := by
    apply List.ext_getElem (by simp)
    intro j h1 h2
    simp [gt, h2]
  have hsort : d'.toList.map (gt L) = sortL L := by
    refine sortL_unique ?_ ?_
    · have := hP.map (gt L)
      rwa [hmapL] at this
    · refine List.pairwise_iff_getElem.2 ?_
      intro i j hi hj hij
      have hi' : i < d'.size := by simpa using hi
      have hj' : j < d'.size := by simpa using hj
      have h1 := hsorted i j (Nat.zero_le _) hij (by rw [hs1, hsz2] at hj'; exact hj')
      rw [ltOf_false, getElem!_pos d' i hi', getElem!_pos d' j hj'] at h1
      have h2 := cmpL_swap (gt L d'[j]) (gt L d'[i])
      simp only [List.getElem_map, Array.getElem_toList]
      omega
  have hgr : w.grownBy (sortWorld (encAt vs) w g 0 n d' os) (some g) := grownBy_sortedV d'
  have hgv : ∀ i, i < L.length → gt (d'.toList.map (encAt vs)) i = gt vs (gt d'.toList i) := fun i hi => by
    have h1 : gt (d'.toList.map (encAt vs)) i = encAt vs (gt d'.toList i) := gt_map _ _ _ (by omega)
    rw [h1]; unfold encAt; rw [if_pos (by rw [hvl]; exact hin i hi)]
  have hgL : ∀ i, i < L.length → gt (sortL L) i = gt L (gt d'.toList i) := fun i hi => by
    rw [← hsort]; exact gt_map _ _ _ (by omega)
  have hsl : (sortL L).length = L.length := (sortL_perm L).length_eq
  refine ⟨he, ⟨d'.toList.map (encAt vs), fun i k => G (gt d'.toList i) k, by simp [hsl, ← hts], ?_, ?_, ?_, ?_⟩, hgr⟩
  · have := ownsRow_sortedV (enc := encAt vs) (n := n) (os := os) (ss := List.range L.length) (ts := d'.toList) (by rw [hts, List.length_range]) hBg hb (by rw [List.length_range, ← hvl]; exact hnc) hcm hsz
    rw [List.length_range, ← hvl] at this
    unfold OwnV
    rw [show (d'.toList.map (encAt vs)).length = vs.length by rw [List.length_map, hts, hvl]]
    simpa using this
  · intro i k hi hk
    obtain ⟨a1, a2, a3⟩ := hG _ k (hin i (by omega)) hk
    exact ⟨a1, a2, Nat.lt_of_lt_of_le a3 hgr.size⟩
  · intro i j k hi hj hk hk'
    exact gt_inj hnd (by omega) (by omega) (hd _ _ k (hin i (by omega)) (hin j (by omega)) hk hk')
  · intro i hi
    show OwnIn _ _ _ _
    rw [hgv i (by omega), hgL i (by omega)]
    have he := hE _ (hin i (by omega))
    exact rdOwn.mono he (fun b hb2 hlt => ⟨hb2, Nat.lt_of_lt_of_le hlt hgr.size, hgr.block b hlt (fun e => (hG _ b (hin i (by omega)) hb2).2.1 (by cases e; rfl))⟩)

end Go.Proofs.YtdklekdpdbjfiaaGreat

/- The order of subgroups as a comparison: by order, then by the entries. -/
namespace Go.Proofs.YtdklekdpdbjfiaaGreat
open Go.Proofs Go.Shelf Go.RowKit Go.Lib Go.Sort

def cmpS (P : Pr) (u v : List (List Int)) : Int := if cmpI (prodU P u u.length) (prodU P v v.length) = 0 then cmpL u.flatten v.flatten else cmpI (prodU P u u.length) (prodU P v v.length)

theorem cmpS_neg {P : Pr} {u v : List (List Int)} : cmpS P u v < 0 ↔ subLt P u v := by
  unfold cmpS subLt
  rcases cmpI_cases (prodU P u u.length) (prodU P v v.length) with ⟨h, k⟩ | ⟨h, k⟩ | ⟨h, k⟩ <;> rw [h]
  · rw [if_neg (by omega)]; exact ⟨fun _ => .inl k, fun _ => by omega⟩
  · rw [if_pos rfl]; exact ⟨fun h => .inr ⟨k, h⟩, fun h => by rcases h with h | h; · omega
                                                              · exact h.2⟩
  · rw [if_neg (by omega)]; exact ⟨fun h => by omega, fun h => by omega⟩

theorem cmpS_swap (P : Pr) (u v : List (List Int)) : cmpS P v u = - cmpS P u v := by
  unfold cmpS
  rw [cmpL_swap u.flatten v.flatten]
  rcases cmpI_cases (prodU P u u.length) (prodU P v v.length) with ⟨h, k⟩ | ⟨h, k⟩ | ⟨h, k⟩ <;> rcases cmpI_cases (prodU P v v.length) (prodU P u u.length) with ⟨h', k'⟩ | ⟨h', k'⟩ | ⟨h', k'⟩ <;> rw [h, h']
  all_goals first | omega | rfl

theorem swo_cmpS (P : Pr) : SWO (ltOf (cmpS P)) where
  irrefl x := by
    have := cmpS_swap P x x
    unfold ltOf; rw [decide_eq_false_iff_not]; omega
  trans x y z h k := by
    unfold ltOf at *
    rw [decide_eq_true_iff] at *
    exact cmpS_neg.2 (subLt_trans (cmpS_neg.1 h) (cmpS_neg.1 k))
  ntrans x y z h k := by
    unfold ltOf at *
    rw [decide_eq_false_iff_not] at *
    intro hz
    have hz' := cmpS_neg.1 hz
    unfold subLt at hz'
    rw [cmpS_neg] at h k
    unfold subLt at h k
    have h1 := cmpL_swap x.flatten y.flatten
    have h2 := cmpL_swap y.flatten z.flatten
    have h3 := cmpL_swap x.flatten z.flatten
    rcases hz' with hz' | ⟨e, hz'⟩
    · have : ¬ prodU P x x.length < prodU P y y.length := fun hh => h (.inl hh)
      have : ¬ prodU P y y.length < prodU P z z.length := fun hh => k (.inl hh)
      omega
    · have hx : ¬ prodU P x x.length < prodU P y y.length := fun hh => h (.inl hh)
      have hy : ¬ prodU P y y.length < prodU P z z.length := fun hh => k (.inl hh)
      have e1 : prodU P x x.length = prodU P y y.length := by omega
      have e2 : prodU P y y.length = prodU P z z.length := by omega
      have c1 : ¬ cmpL x.flatten y.flatten < 0 := fun hh => h (.inr ⟨e1, hh⟩)
      have c2 : ¬ cmpL y.flatten z.flatten < 0 := fun hh => k (.inr ⟨e2, hh⟩)
      have h4 := cmpL_le_trans z.flatten y.flatten x.flatten (by omega) (by omega)
      omega

end Go.Proofs.YtdklekdpdbjfiaaGreat

/- Plain: the way up to a Hall subgroup, element by element. -/
namespace Go.Proofs.YtdklekdpdbjfiaaGreat
open Go.RowKit

section
variable {P : Pr}

/-- the number t would lead further -/
def Usable (G : Grp P) (pr : List Int) (U : List (List Int)) (t : Nat) : Prop :=
  ¬ gP P U (elAt P (t : Int)) ∧ prodU P (cseq P (extP P (gP P U) (elAt P (t : Int)))) (cseq P (extP P (gP P U) (elAt P (t : Int)))).length ∣ hallO P pr ∧
    ∀ d, pv (toE G (cycP P (elAt P (t : Int)))) d → gt P.orders d ∈ pr

theorem hall_use (G : Grp P) (pr : List Int) {u : List (List Int)} (hu : SubB P u) (hd : prodU P u u.length ∣ hallO P pr) (hne : prodU P u u.length ≠ hallO P pr) : ∃ t, t < (ordP P).toNat ∧ Usable G pr u t := by
  obtain ⟨t, h1, h2, h3, h4⟩ := hall_step G pr hu hd hne
  have hV := G.elAtV h1
  exact ⟨t, h1, h2, h3, h4 _ (G.cyc_sub hV) (G.cyc_self hV) (fun K SK hK => cyc_min SK hK)⟩

/-- one pass: U at its start, U' behind the first t numbers -/
structure GrI (G : Grp P) (pr : List Int) (U U' : List (List Int)) (t : Nat) : Prop where
  sub : SubB P U'
  dv : prodU P U' U'.length ∣ hallO P pr
  up : prodU P U U.length < prodU P U' U'.length ∨ (U' = U ∧ ∀ j, j < t → ¬ Usable G pr U j)

theorem GrI.start {G : Grp P} {pr : List Int} {U : List (List Int)} (hu : SubB P U) (hd : prodU P U U.length ∣ hallO P pr) : GrI G pr U U 0 := ⟨hu, hd, .inr ⟨rfl, fun j hj => by omega⟩⟩
theorem GrI.skip {G : Grp P} {pr : List Int} {U U' : List (List Int)} {t : Nat} (h : GrI G pr U U' t) (hn : ¬ Usable G pr U' t) : GrI G pr U U' (t + 1) := by
  refine ⟨h.sub, h.dv, ?_⟩
  rcases h.up with h1 | ⟨h1, h2⟩
  · exact .inl h1
  · refine .inr ⟨h1, fun j hj => ?_⟩
    rcases Nat.lt_succ_iff_lt_or_eq.1 hj with h3 | h3
    · exact h2 j h3
    · subst h3; rw [← h1]; exact hn
theorem ext_sub (G : Grp P) {U : List (List Int)} (hu : SubB P U) {x : List Int} (hx : Vec P.orders x) : Sub P (extP P (gP P U) x) :=
  G.genP_sub (fun y hy => hy.elim (fun h => (G.subB hu).vec y h) (fun h => h ▸ hx))
theorem GrI.take {G : Grp P} {pr : List Int} {U U' : List (List Int)} {t : Nat} (h : GrI G pr U U' t) (ht : t < (ordP P).toNat) (hn : ¬ gP P U' (elAt P (t : Int)))
    (hd : prodU P (cseq P (extP P (gP P U') (elAt P (t : Int)))) (cseq P (extP P (gP P U') (elAt P (t : Int)))).length ∣ hallO P pr) : GrI G pr U (cseq P (extP P (gP P U') (elAt P (t : Int)))) (t + 1) := by
  have hV := G.elAtV ht
  have hE := ext_sub G h.sub hV
  refine ⟨G.subB_cseq hE, hd, .inl ?_⟩
  have h1 := G.order_le (G.subB h.sub) hE (fun x hx => genP_mem (.inl hx))
  have e1 : cseq P (genP P fun x => x ∈ U') = U' := h.sub.2.symm
  rw [e1] at h1
  have hlt : prodU P U' U'.length < prodU P (cseq P (extP P (gP P U') (elAt P (t : Int)))) (cseq P (extP P (gP P U') (elAt P (t : Int)))).length := by
    rcases Int.lt_or_eq_of_le h1.1 with h2 | h2
    · exact h2
    · exact absurd (h1.2 h2 _ (genP_mem (.inr rfl))) hn
  rcases h.up with h2 | ⟨h2, _⟩
  · omega
  · rw [h2] at hlt
    rw [h2]
    exact hlt
theorem GrI.fin {G : Grp P} {pr : List Int} {U U' : List (List Int)} (h : GrI G pr U U' (ordP P).toNat) (hu : SubB P U) (hd : prodU P U U.length ∣ hallO P pr) (hne : prodU P U U.length ≠ hallO P pr) : prodU P U U.length < prodU P U' U'.length := by
  rcases h.up with h1 | ⟨_, h2⟩
  · exact h1
  · obtain ⟨t, ht, hU⟩ := hall_use G pr hu hd hne
    exact absurd hU (h2 t ht)

theorem genP_snoc (P : Pr) (U : List (List Int)) (x : List Int) : genP P (fun z => z ∈ U ++ [x]) = extP P (gP P U) x := by
  unfold extP
  rw [genP_or]
  congr 1
  funext z
  rw [List.mem_append, List.mem_singleton]

theorem hall_pos (G : Grp P) (pr : List Int) : 1 ≤ hallO P pr ∧ hallO P pr ≤ 729 := hallTo_729 G.v pr _ (Nat.le_refl _)
theorem dvd_le {a b : Int} (h : a ∣ b) (hb : 1 ≤ b) : a ≤ b := Int.le_of_dvd (by omega) h
theorem emod_dvd {a b : Int} : a % b = 0 ↔ b ∣ a := ⟨Int.dvd_of_emod_eq_zero, Int.emod_eq_zero_of_dvd⟩
end

/-- the conjugates of u by the first t elements, each once -/
noncomputable def cjTo (P : Pr) (u : List (List Int)) (t : Nat) : List (List (List Int)) := (cnS P u [] t).1
theorem cjTo_len (P : Pr) (u : List (List Int)) (t : Nat) : (cjTo P u t).length ≤ t := by
  have h1 := cnS_length P u [] t
  have h2 := cnS_le P u [] t
  unfold cjTo
  simp only [List.length_nil] at h1
  omega
theorem cjTo_facts {P : Pr} (G : Grp P) {u : List (List Int)} (hu : SubB P u) (t : Nat) (ht : t ≤ (ordP P).toNat) : SeenC P (cjTo P u t) := G.cnS_seen hu ⟨fun v h => (by cases h), List.nodup_nil⟩ t ht
theorem cjTo_hall {P : Pr} (G : Grp P) {pr : List Int} {u : List (List Int)} (hu : HallP P pr u) (v : List (List Int)) : v ∈ cjTo P u (ordP P).toNat ↔ HallP P pr v := by
  unfold cjTo
  rw [cnS_mem, hall_all G hu]
  simp
/-- sorted, they are the ascending list -/
theorem hallL_of {P : Pr} (G : Grp P) {pr : List Int} {u : List (List Int)} (hu : HallP P pr u) {L' : List (List (List Int))} (hp : L'.Perm (cjTo P u (ordP P).toNat)) (hs : L'.Pairwise (fun x y => 0 ≤ cmpS P y x)) : HallL P pr L' := by
  have hS := cjTo_facts G hu.1 _ (Nat.le_refl _)
  have hn' : L'.Nodup := hp.symm.nodup hS.one
  have hmem : ∀ v ∈ L', SubB P v := fun v hv => hS.sub v (hp.mem_iff.1 hv)
  refine ⟨?_, fun v => (hp.mem_iff).trans (cjTo_hall G hu v)⟩
  refine List.pairwise_iff_getElem.2 fun i j hi hj hij => ?_
  have h1 := List.pairwise_iff_getElem.1 hs i j hi hj hij
  have h2 := List.pairwise_iff_getElem.1 hn' i j hi hj hij
  refine Classical.byContradiction fun hc => ?_
  have := subLt_total G (hmem _ (List.getElem_mem hi)) (hmem _ (List.getElem_mem hj)) h2 hc
  rw [← cmpS_neg] at this
  omega

end Go.Proofs.YtdklekdpdbjfiaaGreat

/- Plain: the entries of a list at the places with a property. -/
namespace Go.Proofs.YtdklekdpdbjfiaaGreat
open Go.RowKit

end Go.Proofs.YtdklekdpdbjfiaaGreat

/- Plain: the minimal normal subgroups, as both sides pick them. -/
namespace Go.Proofs.YtdklekdpdbjfiaaGreat
open Go.RowKit

section
variable {P : Pr} (G : Grp P)
include G
theorem Grp.subB_nil : SubB P [] := by
  have h := G.subB_cseq G.sub_one
  have hl := G.order_elems G.sub_one
  have e : cseq P (fun x => x = zeros P.orders.length) = [] := by
    have hf := G.seq_facts G.sub_one
    cases hc : cseq P (fun x => x = zeros P.orders.length) with
    | nil => rfl
    | cons z l =>
      exfalso
      have hz := hf.2.1 z (by rw [hc]; exact List.mem_cons_self ..)
      have hs := (hf.1.1 z (by rw [hc]; exact List.mem_cons_self ..)).2.2
      rw [hz] at hs
      have : gt (zeros P.orders.length) (dep (zeros P.orders.length)) = 0 := gt_replicate _ _
      omega
  rw [e] at h
  exact h
theorem Grp.ord_pos {u : List (List Int)} (hu : SubB P u) : 1 ≤ prodU P u u.length := by
  have h := (G.seq_facts (G.subB hu)).1
  rw [← hu.2] at h
  exact (prodU_729 G.v h _ (Nat.le_refl _)).1
end

end Go.Proofs.YtdklekdpdbjfiaaGreat

/- append(slices.Clone(rows), row) in a drawn region, in both orders. -/
namespace Go.Proofs.YtdklekdpdbjfiaaGreat
open Go.RowKit

theorem step_shq_app2 {ops : Array Oper} {o : Oper} {a : Act} {K : Act → World → Prop} {Q : Exit → Act → World → Prop} {Ex : Prop} {w : World} (hgd : o.guard = none) (s x : Operand)
    (ho : o.op = Op.call { callee := Callee.builtin Builtin.append, args := #[s, x], argTypes := #[23, 23] }) (bad : Nat → Prop) (B H : Nat) (v u : Value) (xs : List (List Int)) (y : List Int) (hs : a.eval s = v) (hown : ShQ bad B w v xs)
    (hu : Ints (fun k => ¬ bad k ∧ v.ownBlock ≠ some k) w u y) (hx : a.eval x = .slice (some ⟨H, 0, none⟩) 1 1) (hcell : w.cell? ⟨H, 0, none⟩ = some u) (hlen : xs.length ≤ 1000000) (hbase : B ≤ w.heap.size)
    (h : ∀ v' w', ShQ bad B w' v' (xs ++ [y]) → w.grownBy w' v.ownBlock → K (a.put o.dst v') w') :
    if Region.wanted o (yielded ops a.tmps) = true then Oper.wp Tryz.prog o a w K Q else Ex := by
  obtain ⟨vs, hl, hq, hr⟩ := hown
  have hlt := hq.lt
  have hone : u.oneCell' = true := rdInts.one hu
  refine step_q_app 23 22 (.slice none 0 0) 24 und_rows Tryz.infoRow rfl (by decide) hgd s x ho B v vs hs hq H u hx hcell hone (by omega) hbase ?_
  intro v' w' h1 hg2 h3
  have hnew : ∀ k, k < w.heap.size → v'.ownBlock = some k → v.ownBlock = some k := fun k hk e => by
    rcases h3 with h | h
    · rw [← h]; exact e
    · have := h k e; omega
  refine h v' w' ⟨vs ++ [u], by simp [hl], h1, fun i hi => ?_⟩ hg2
  simp only [List.length_append, List.length_singleton] at hi
  have hfr : ∀ k, (¬ bad k ∧ v.ownBlock ≠ some k) → k < w.heap.size → (¬ bad k ∧ v'.ownBlock ≠ some k) ∧ k < w'.heap.size ∧ w'.heap[k]? = w.heap[k]? := fun k hk hlt =>
    ⟨⟨hk.1, fun e => hk.2 (hnew k hlt e)⟩, Nat.lt_of_lt_of_le hlt hg2.size, hg2.block k hlt (fun e => hk.2 e.symm)⟩
  by_cases hlt : i < xs.length
  · rw [gt_append_left _ _ _ (by omega), gt_append_left _ _ _ hlt]
    exact Ints.mono (hr i hlt) hfr
  · have hi2 : i = xs.length := by omega
    subst hi2
    rw [gt_concat, ← hl, gt_concat]
    exact Ints.mono hu hfr

end Go.Proofs.YtdklekdpdbjfiaaGreat

/- The library's sort on a slice that the call has built: any elements of one cell in blocks of their own, any comparison that lays blocks and draws but turns nothing. -/
namespace Go.Proofs.YtdklekdpdbjfiaaGreat
open Go.Proofs Go.Shelf Go.RowKit Go.Lib Go.Sort

/-- a world that grew and drew: the sort's own form -/
theorem ext_grow {W w' : World} (h : Ext W w') (hd : W.drawn ≤ w'.drawn) : ∃ q os', w' = grow (W.drewN q) os' := by
  refine ⟨w'.drawn - W.drawn, w'.heap.extract W.heap.size w'.heap.size, ?_⟩
  obtain ⟨h1, h2, h3, h4, h5⟩ := h
  have hh : W.heap ++ w'.heap.extract W.heap.size w'.heap.size = w'.heap := by
    apply Array.ext
    · simp; omega
    · intro i hi1 hi2
      by_cases hlt : i < W.heap.size
      · rw [Array.getElem_append_left hlt]
        have := h5 i hlt (by simp)
        rw [Array.getElem?_eq_getElem hi2, Array.getElem?_eq_getElem hlt] at this
        exact (Option.some.inj this).symm
      · rw [Array.getElem_append_right (by omega)]
        simp only [Array.getElem_extract]
        congr 1; omega
  cases w' with
  | mk heap tape drawn os output =>
    cases W with
    | mk heap2 tape2 drawn2 os2 output2 =>
      simp only at h1 h2 h3 hh hd
      subst h1; subst h2; subst h3
      unfold grow World.drewN
      simp only [World.mk.injEq]
      exact ⟨hh.symm, trivial, by omega, trivial, trivial⟩

section
variable {α : Type} [Inhabited α]

theorem swo_at {cf : α → α → Int} (h : SWO (ltOf cf)) (L : List α) : SWO (ltOf (fun i j : Nat => cf (gt L i) (gt L j))) where
  irrefl x := h.irrefl (gt L x)
  trans x y z := h.trans (gt L x) (gt L y) (gt L z)
  ntrans x y z := h.ntrans (gt L x) (gt L y) (gt L z)

set_option maxHeartbeats 1000000 in
theorem sortG {P : Program} {ρ : Ren} (Lay : SlLaysF.n6 P ρ) {El : (Nat → Prop) → World → Value → α → Prop} (hEl : RdOk El) (E B : Nat) (cf : α → α → Int) (hS : SWO (ltOf cf)) (g : Nat) (cb : Array Value)
    (eg : ∀ args w, (callFunc g args).run P w = .ok (.enter g args) w) (w : World) (v : Value) (L : List α) (A : Nat → Prop) (hL : SlOA El E B A w v L) (hne : 0 < L.length) (hlen : L.length ≤ 1000000)
    (hnil : ∀ W, El (fun _ => True) W (.slice none 0 0) default)
    (hcmp : ∀ (W : World) (u1 u2 : Value) (x y : α), w.grownBy W v.ownBlock → (x ∈ L ∨ x = default) → (y ∈ L ∨ y = default) → El (fun _ => True) W u1 x → El (fun _ => True) W u2 y →
      Calls P g (#[u1, u2] ++ cb) W fun e w' => e = .returned (.int .i64 (cf x y)) ∧ Ext W w' ∧ W.drawn ≤ w'.drawn) :
    Calls P (ρ.f 6) #[v, .func (.func g) #[] cb] w fun e w' => e = .returned (.tuple #[]) ∧ ∃ L', SlOA El E B A w' v L' ∧ L'.Perm L ∧ L'.Pairwise (fun x y => 0 ≤ cf y x) ∧ w.grownBy w' v.ownBlock := by
  obtain ⟨vs, G, hvl, hO, hG, hd, hE, hav, hav2⟩ := hL
  obtain ⟨_, ⟨rfl, h0⟩ | ⟨gb, cap, cur, rfl, hBg, hb, hnc, hcm, hsz, hx⟩⟩ := hO
  · omega
  have hgs : gb < w.heap.size := (Array.getElem?_eq_some_iff.1 hb).1
  have hone : OneCell (encAt vs) := encAt_one fun i hi => hEl.one (hE i (by omega))
  have hmap : (List.range L.length).map (encAt vs) = vs := by
    apply List.ext_getElem (by simp [hvl])
    intro j h1 h2
    simp [encAt, gt, h2]
  have hH : Go.Sort.Holds (encAt vs) w gb 0 (List.range L.length).toArray := holds_of_blockV hb (by rw [hmap, List.length_range, ← hvl]; simpa using hx)
  have hlays : CmpLays1 P g cb (encAt vs) (fun i j : Nat => cf (gt L i) (gt L j)) gb 0 (List.range L.length).toArray.size w := by
    intro m os dk _ x y
    have hgr : w.grownBy (sortWorld (encAt vs) w gb 0 m dk os) (some gb) := grownBy_sortedV dk
    have hread : ∀ k, El (fun _ => True) (sortWorld (encAt vs) w gb 0 m dk os) (encAt vs k) (gt L k) ∧ (gt L k ∈ L ∨ gt L k = default) := by
      intro k
      by_cases hk : k < vs.length
      · have he := hE k (by omega)
        unfold encAt
        rw [if_pos hk]
        exact ⟨hEl.mono he (fun b hb2 hlt => ⟨trivial, Nat.lt_of_lt_of_le hlt hgr.size, hgr.block b hlt (fun e => (hG k b (by omega) hb2).2.1 (by cases e; rfl))⟩), .inl (gt_mem (by omega))⟩
      · have h1 : gt L k = default := by simp [gt, show ¬ k < L.length by omega]
        unfold encAt
        rw [if_neg hk, h1]
        exact ⟨hnil _, .inr rfl⟩
    refine (hcmp _ _ _ _ _ hgr (hread x).2 (hread y).2 (hread x).1 (hread y).1).mono ?_
    rintro e w' ⟨rfl, he, hdr⟩
    exact ⟨rfl, ext_grow he hdr⟩
  have hcon := Any.slices_SortFunc Lay (encAt vs) hone (fun i j : Nat => cf (gt L i) (gt L j)) (swo_at hS L) g cb gb 0 cap (List.range L.length).toArray w eg hlays hH hgs (by simp; omega)
  have hsz2 : (List.range L.length).toArray.size = vs.length := by simp [hvl]
  rw [hsz2] at hcon
  refine hcon.mono ?_
  rintro e w' ⟨he, d', n, os, ⟨hs1, _, hperm⟩, hsorted, rfl⟩
  have hts : d'.toList.length = L.length := by simpa [hvl] using hs1
  have hP : d'.toList.Perm (List.range L.length) := by
    have h1 : d'.extract 0 vs.length = d' := by
      apply Array.ext'
      rw [hvl, ← hts]; simp
    have h2 : (List.range L.length).toArray.extract 0 vs.length = (List.range L.length).toArray := by
      apply Array.ext'
      rw [hvl]; simp
    rw [h1, h2] at hperm
    simpa using hperm
  have hin : ∀ i, i < L.length → gt d'.toList i < L.length := fun i hi => by
    have := hP.subset (gt_mem (l := d'.toList) (i := i) (by omega))
    simpa using this
  have hnd : d'.toList.Nodup := hP.symm.nodup List.nodup_range
  have hmapL : (List.range L.length).map (gt L) = L := by
    apply List.ext_getElem (by simp)
    intro j h1 h2
    simp [gt, h2]
  have hgr : w.grownBy (sortWorld (encAt vs) w gb 0 n d' os) (some gb) := grownBy_sortedV d'
  have hgv : ∀ i, i < L.length → gt (d'.toList.map (encAt vs)) i = gt vs (gt d'.toList i) := fun i hi => by
    have h1 : gt (d'.toList.map (encAt vs)) i = encAt vs (gt d'.toList i) := gt_map _ _ _ (by omega)
    rw [h1]; unfold encAt; rw [if_pos (by rw [hvl]; exact hin i hi)]
  have hgL : ∀ i, i < L.length → gt (d'.toList.map (gt L)) i = gt L (gt d'.toList i) := fun i hi => gt_map _ _ _ (by omega)
  refine ⟨he, d'.toList.map (gt L), ⟨d'.toList.map (encAt vs), fun i k => G (gt d'.toList i) k, by simp, ?_, ?_, ?_, ?_, fun i k hi hk => hav (gt d'.toList i) k (hin i (by simp only [List.length_map] at hi; omega)) hk, hav2⟩, ?_, ?_, hgr⟩
  · have := ownsRow_sortedV (enc := encAt vs) (n := n) (os := os) (ss := List.range L.length) (ts := d'.toList) (by rw [hts, List.length_range]) hBg hb (by rw [List.length_range, ← hvl]; exact hnc) hcm hsz
    rw [List.length_range, ← hvl] at this
    unfold OwnV
    rw [show (d'.toList.map (encAt vs)).length = vs.length by rw [List.length_map, hts, hvl]]
    simpa using this
  · intro i k hi hk
    obtain ⟨a1, a2, a3⟩ := hG _ k (hin i (by simp only [List.length_map] at hi; omega)) hk
    exact ⟨a1, a2, Nat.lt_of_lt_of_le a3 hgr.size⟩
  · intro i j k hi hj hk hk'
    simp only [List.length_map] at hi hj
    exact gt_inj hnd (by omega) (by omega) (hd _ _ k (hin i (by omega)) (hin j (by omega)) hk hk')
  · intro i hi
    simp only [List.length_map] at hi
    rw [hgv i (by omega), hgL i (by omega)]
    have he := hE _ (hin i (by omega))
    exact hEl.mono he (fun b hb2 hlt => ⟨hb2, Nat.lt_of_lt_of_le hlt hgr.size, hgr.block b hlt (fun e => (hG _ b (hin i (by omega)) hb2).2.1 (by cases e; rfl))⟩)
  · have := hP.map (gt L)
    rwa [hmapL] at this
  · refine List.pairwise_iff_getElem.2 ?_
    intro i j hi hj hij
    have hi' : i < d'.size := by simpa using hi
    have hj' : j < d'.size := by simpa using hj
    have h1 := hsorted i j (Nat.zero_le _) hij (by rw [hs1, hsz2] at hj'; exact hj')
    rw [getElem!_pos d' i hi', getElem!_pos d' j hj'] at h1
    unfold ltOf at h1
    rw [decide_eq_false_iff_not] at h1
    simp only [List.getElem_map, Array.getElem_toList]
    have h2 : ¬ cf (gt L d'[j]) (gt L d'[i]) < 0 := h1
    omega
end

end Go.Proofs.YtdklekdpdbjfiaaGreat
