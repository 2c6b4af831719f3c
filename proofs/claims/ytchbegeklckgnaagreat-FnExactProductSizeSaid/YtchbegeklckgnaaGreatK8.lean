/-
  The reference's closure: spec.l12Close.
  The reference's test of a sequence: spec.l10Element, l10Elements, l01Same2, l12Is, IsSubgroup, l13Two.
  Plain: the list of products, element by element (for impl.elementsOf).
  append of a row that lay there before: the list takes it out of the set of blocks that it avoids.
  [][]int64{row} as a list of the call's own.
  The library's sort at [][]int64, laid from the shelf.
  A row that the call has built, sorted by the library: any elements of one cell. (After the library's Sort/OwnSortedInts, at a general reading.)
  impl.elementsOf.
  laws.toPresentation: a copy of a presentation, each part in blocks of its own.
  The laws' comparisons: laws.eqInt64SS, eqInt64SSS, eqPresentation.
  The laws' marks: laws.markInt64S.., heldInt64S..: each place of a value is given a number of its own, and looked at again.
  SubgroupElements on both sides.
  The laws' look at marked rows of rows: laws.heldInt64SS, heldInt64SSS.
  What a law over one presentation and one list keeps in view.
  The rows' arguments: how a presentation that came in, or a list, reads in this claim's words.
-/
import Derived.Test.YtchbegeklckgnaaGreatK7
import Derived.Test.YtchbegeklckgnaaGreatK6
import Derived.Test.YtchbegeklckgnaaGreatK5
import Derived.Test.YtchbegeklckgnaaGreatK4
import Derived.Shelf.SlSortCmp.NoneTotal
import Derived.Sort.OwnSortedInts
import Derived.Test.YtchbegeklckgnaaGreatK1
import Derived.Deep.RegionHeld3
import Derived.Carry
import Derived.Deep.Slices
import Derived.ChangeSame
import Derived.ChangeSlices
import Derived.JoinedOf
import Derived.JoinedAt
import Derived.JoinedCond
import Derived.ReadAgain
/- The reference's closure: spec.l12Close. -/
namespace Go.Proofs.YtchbegeklckgnaaGreat
open Go.RowKit

theorem tab_kept {B gb n W : Nat} {wI w2 : World} {v1 v2 : Value} {b : List (List Int)} (h : TabAt B (fun k => v1.ownBlock = some k) wI gb n b) (hv : ∀ k, v1.ownBlock = some k → W ≤ k) (hgb : gb < W)
    (hg2 : wI.grownBy w2 v1.ownBlock) (hb2 : v2.ownBlock = v1.ownBlock ∨ ∀ k, v2.ownBlock = some k → wI.heap.size ≤ k) : TabAt B (fun k => v2.ownBlock = some k) w2 gb n b := by
  refine h.kept hg2.size (fun k hk hc => hg2.block k hk (fun e => ?_)) (fun k hk e => ?_)
  · rcases hc with rfl | hc
    · have := hv _ e.symm; omega
    · exact hc e.symm
  · rcases hb2 with h | h
    · rw [← h]; exact e
    · have := h k e; omega

/-- rows in blocks of their own, as a stack -/
theorem SlO.shq {bad : Nat → Prop} {B : Nat} {w : World} {v : Value} {xs : List (List Int)} (h : RowsO B w v xs) (hbad : ∀ k, bad k → k < B) : ShQ bad B w v xs := by
  obtain ⟨vs, G, hl, hO, hG, _, hE⟩ := h
  refine ⟨vs, hl, QOwn.of hO, fun i hi => Ints.sub (hE i hi).ints (fun k hk _ => ?_)⟩
  obtain ⟨h1, h2, _⟩ := hG i k hi hk
  exact ⟨fun h => by have := hbad k h; omega, h2⟩

/-- the world has grown from w0, and block g is as it was in w1 -/
def HeldB (w0 w1 : World) (g : Nat) (w' : World) : Prop := Ext w0 w' ∧ w'.heap[g]? = w1.heap[g]?
theorem heldB_ext {w0 w1 w' : World} {g : Nat} (h0 : Ext w0 w1) (hg : g < w1.heap.size) (h : Ext w1 w') : HeldB w0 w1 g w' := ⟨grown_trans h0 h, h.block g hg (by simp)⟩
theorem HeldB.cell {w0 w1 w' : World} {g i : Nat} {v : Value} (h : HeldB w0 w1 g w') (hc : w1.cell? ⟨g, i, none⟩ = some v) : w'.cell? ⟨g, i, none⟩ = some v := (World.cell?_of_block (w := w1) h.2).trans hc

set_option maxRecDepth 100000 in
set_option maxHeartbeats 8000000 in
theorem l12Close_ok (P : Pr) (G : Grp P) (w : World) (pv lv : Value) (L : List (List Int)) (Sp Sr : Nat → Prop) (hpv : PresV Sp w pv P) (hl : Rows2 Sr w lv L) (hL : ∀ x ∈ L, Vec P.orders x) (hlen : L.length ≤ 10000) :
    Calls Tryz.prog 73 #[pv, lv] w (Ret w fun w' v => Rows2 Any w' v (cseq P (genP P (fun x => x ∈ L)))) := by
  have hP := G.v
  have hn6 := hP.n6
  obtain ⟨vo, vp, vc, rfl, h3⟩ := hpv
  have hp0 := PresP.box h3 32
  have hg0 : Ext w (w.alloc (.cells #[vo, vp, vc] 32)) := World.grownBy_alloc _ _ _
  have hs0 : (w.alloc (.cells #[vo, vp, vc] 32)).heap.size = w.heap.size + 1 := by simp
  obtain ⟨vo6, vp6, vc6, _, _, hc0, hc1, hc2, h36⟩ := hp0.at
  simp only [Nat.zero_add] at hc1 hc2
  obtain ⟨ao, capo, rfl, _, _⟩ := h36.o.shape
  clear hp0
  obtain ⟨al, capl, rfl, _, _⟩ := Sl.shape hl
  have hLl : ∀ x ∈ L, x.length ≤ 1000000 := fun x hx => by rw [(hL x hx).1]; omega
  have HL := Lib.hid (And.intro hL hLl); clear hL hLl
  go_enter Tryz.func73, Tryz.ntmps73
  go_wp2_with (first | (at_make; refine wp_make_tab rfl _ _ rfl w.heap.size P.orders.length (w.heap.size + 1) (by simp) _ rfl rfl rfl (by omega) (by omega) ?_; intro w1 hT1 hg1 hlt1) | fail)
  have HS := Lib.hid hs0; clear hs0
  generalize hw0 : w.alloc (.cells #[vo, vp, vc] 32) = w0 at *
  clear hw0
  have hl0 := Rows2.ext hl hg0
  clear hl
  have hgb1 : w.heap.size + 1 < w1.heap.size := hlt1
  refine Calls.mono (l01Own2_ok w1 _ L Sr (Rows2.ext hl0 hg1) HL.out.2 (by omega)) ?_
  rintro e2 w2 ⟨qv0, rfl, hg2, hQ2⟩
  have hq2 : ShQ (fun k => k = w.heap.size + 1) w1.heap.size w2 qv0 L := hQ2.shq (fun k hk => by omega)
  have hg02 := grown_trans hg1 hg2
  have hown2 : ∀ k, qv0.ownBlock = some k → w1.heap.size ≤ k := fun k hk => (hq2.lt k hk).1
  have hT2 : TabAt w.heap.size (fun k => qv0.ownBlock = some k) w2 (w.heap.size + 1) P.orders.length (List.replicate P.orders.length []) := (hT1 _).ext hg2
  clear hT1 hQ2 hl0
  -- facts of the box and the orders
  have hbx : ∀ w', Ext w0 w' → w'.cell? ⟨w.heap.size, 0, none⟩ = some (.slice ao P.orders.length capo) ∧ w'.cell? ⟨w.heap.size, 1, none⟩ = some vp6 ∧ w'.cell? ⟨w.heap.size, 2, none⟩ = some vc6 := fun w' h => ⟨h.cell hc0 (by simp), h.cell hc1 (by simp), h.cell hc2 (by simp)⟩
  have HB := Lib.hid hbx; clear hbx hc0 hc1 hc2
  obtain ⟨Q, hQ⟩ : ∃ Q : List Int → Prop, Q = fun x => x = zeros P.orders.length ∨ x ∈ L.reverse := ⟨_, rfl⟩
  have hst : ∃ R, AddInv P Q (gt (List.replicate P.orders.length [])) L.reverse R := by
    rw [hQ]; exact ⟨_, G.addInv_start G.ind_one (fun x hx => HL.out.1 x (List.mem_reverse.1 hx))⟩
  have hQL : genP P Q = genP P (fun x => x ∈ L) := by
    rw [hQ, genP_one]
    congr 1
    funext x
    simp
  have HST := Lib.hid (And.intro hst hQL); clear hst hQL hQ
  go_wp2
  go_loopg [7] (miss (List.replicate P.orders.length ([] : List Int)) P.orders.length * (P.orders.length + 3) + L.length) (fun gk qv wr => ∃ (b q : List (List Int)), gk ≤ 20000 ∧ gk = miss b P.orders.length * (P.orders.length + 3) + q.length ∧ Ext w0 wr ∧
    TabAt w.heap.size (fun k => qv.ownBlock = some k) wr (w.heap.size + 1) P.orders.length b ∧ ShQ (fun k => k = w.heap.size + 1) w1.heap.size wr qv q ∧ Hid (∃ R, AddInv P Q (gt b) q.reverse R))
  case atStart =>
    have hk0 : miss (List.replicate P.orders.length ([] : List Int)) P.orders.length * (P.orders.length + 3) + L.length ≤ 20000 := by
      have h3 : miss (List.replicate P.orders.length ([] : List Int)) P.orders.length * (P.orders.length + 3) ≤ 6 * 9 := Nat.mul_le_mul (by have := miss_le (List.replicate P.orders.length ([] : List Int)) P.orders.length; omega) (by omega)
      omega
    exact ⟨_, L, hk0, rfl, hg02, hT2, hq2, Lib.hid HST.out.1⟩
  case round =>
    clear hT2 hq2 hown2 hg02
    obtain ⟨b, q, hgkb, hgk, hg, hT, hq, hA⟩ := hrel
    have hlb := hT.len
    obtain ⟨hb1, hb2, hb3⟩ := HB.out wr hg
    have hqc : q = [] ∨ ∃ q1 y, q = q1 ++ [y] := by
      rcases List.eq_nil_or_concat q with h | ⟨q1, y, h⟩
      · exact .inl h
      · exact .inr ⟨q1, y, by rw [h, List.concat_eq_append]⟩
    rcases hqc with rfl | ⟨q1, y, rfl⟩
    · obtain ⟨aq, capq, rfl, _⟩ := hq.shape
      have hI : Ind P (genP P Q) (gt b) := by obtain ⟨R, hA⟩ := hA.out; exact G.addInv_end hA
      have HI := Lib.hid hI; clear hI hA
      go_wp2_with fail
      refine Calls.mono (l12Full_ok P G wr _ _ b (genP P Q) Any _ ⟨_, _, _, rfl, Pres3.ext h36 hg⟩ (hT.rows (by omega)) hlb HI.out) ?_
      rintro eF wF ⟨vF, rfl, hgF, hRF⟩
      rw [HST.out.2] at hRF
      go_wp2
      go_ret
      exact ⟨_, rfl, grown_trans hg0 (grown_trans hg hgF), hRF⟩
    · obtain ⟨aq, capq, rfl, _⟩ := hq.shape
      obtain ⟨k1, hk1⟩ : ∃ k1, k1 = q1.length := ⟨_, rfl⟩
      obtain ⟨gq, off, u, rfl, hgB, hglt, hcell, hyI⟩ := ShQ.head hq q1.length (by simp)
      rw [gt_concat] at hyI
      have hcap : k1 ≤ capq := by
        obtain ⟨vs, hvl, hqo, _⟩ := hq
        rcases hqo with ⟨h, _⟩ | ⟨g, o, cp, cur, hv, _, _, h1, _⟩
        · simp at h
        · simp only [Value.slice.injEq] at hv
          obtain ⟨_, _, rfl⟩ := hv
          simp at hvl; omega
      have hq1 := hq.init
      rw [← hk1] at hcell hq1
      have hml : (q1 ++ [y]).length = k1 + 1 := by simp [hk1]
      obtain ⟨m, hm⟩ : ∃ m, m = (q1 ++ [y]).length := ⟨_, rfl⟩
      rw [← hm] at hml hgk ⊢
      have hyV : Vec P.orders y := by obtain ⟨R, hA⟩ := hA.out; exact hA.vec _ (hA.que _ (by simp))
      have htab : ∀ d, d < P.orders.length → gt b d ≠ [] → T P d (gt b d) ∧ gt (gt b d) d = 1 := by obtain ⟨R, hA⟩ := hA.out; exact fun d hd h => (hA.tab d hd h).2
      have hA1 : ∃ R, AddInv P Q (gt b) (y :: q1.reverse) R := by
        obtain ⟨R, hA⟩ := hA.out
        rw [List.reverse_append] at hA
        exact ⟨R, hA⟩
      obtain ⟨ay, capy, hvy, _, _⟩ := hyI.shape
      rw [hyV.1] at hvy
      subst hvy
      have HY := Lib.hid (And.intro hyV (And.intro htab (And.intro hA1 (And.intro hk1 hgk)))); clear hyV htab hA1 hA hk1 hgk
      have hmb : m ≤ 20000 := by have := HY.out.2.2.2.2; omega
      have hmi : (0 : Int) < m := by omega
      have hwm : IntKind.i64.wrap ((m : Int) - 1) = (k1 : Int) := by rw [show (m : Int) - 1 = (k1 : Int) by omega]; exact IntWalk.i64_in _ (by omega)
      have hkm : (k1 : Int) < m := by omega
      have hk0 : (0 : Int) ≤ k1 := by omega
      have hrt := run_head_rows wr (some ⟨gq, off, none⟩) m capq (k1 : Int) hk0 (by omega)
      rw [show ((k1 : Int)).toNat = k1 by omega] at hrt
      have HM := Lib.hid (And.intro hml hm); clear hml hm
      have hTr := hT.rows (by omega)
      go_wp2_with fail
      refine Calls.mono (l12Strip_ok P G wr _ _ _ b y Any _ _ ⟨_, _, _, rfl, Pres3.ext h36 hg⟩ hTr hyI HY.out.1 hlb HY.out.2.1) ?_
      rintro eS wS ⟨vS, rfl, hgS, d, rv, Y, rfl, hOY, hSY, hdn, hdY⟩
      have hYV := hSY.vec.1
      have hYi := hOY.ints (by rw [hYV.1]; omega)
      have hA2 : ∃ R, AddInv P Q (gt b) (Y :: q1.reverse) R := by
        obtain ⟨R, hA⟩ := HY.out.2.2.1
        exact hSY.inv _ _ _ hA
      obtain ⟨ar, capr, hvr, _, _⟩ := hYi.shape
      rw [hYV.1] at hvr
      subst hvr
      have hgT := grown_trans hg hgS
      have hqS := hq1.ext hgS
      have hTS : TabAt w.heap.size (fun k => (Value.slice (some ⟨gq, off, none⟩) k1 capq).ownBlock = some k) wS (w.heap.size + 1) P.orders.length b := hT.ext hgS
      have HLB := Lib.hid hlb
      clear hT hq hq1 hTr hyI hcell hrt hwm hb1 hb2 hb3 hlb
      have hT0 := hSY.vec
      have HA2 := Lib.hid (And.intro hA2 (And.intro hT0 hYV)); clear hA2 hT0 hYV hSY
      by_cases hd : d = P.orders.length
      · have hY0 : Y = zeros P.orders.length := T.top hP (by rw [← hd]; exact HA2.out.2.1)
        have hA3 : Hid (∃ R, AddInv P Q (gt b) q1.reverse R) := by
          obtain ⟨R, hA⟩ := HA2.out.1
          exact Lib.hid ⟨R, addInv_drop hA hY0⟩
        clear hdY hY0
        subst hd
        go_wp2
        go_roundg (gk - 1)
        case measure => have := HY.out.2.2.2.2; omega
        case rel => exact ⟨b, q1, by omega, by have := HY.out.2.2.2.2; have := HY.out.2.2.2.1; have := HM.out.1; omega, hgT, hTS, hqS, hA3⟩
      · have hdl : d < P.orders.length := by omega
        obtain ⟨hy0, hbd⟩ := hdY hdl
        clear hdY
        have hdi : ((d : Int) == (P.orders.length : Int)) = false := by simp; omega
        have hYV := HA2.out.2.2
        have ho := hP.ord7 d hdl
        have hpr := hP.ord d hdl
        have hyd := hYV.2 d hdl
        obtain ⟨br, or_, rfl, _, _, hcr⟩ := Ints.at hYi d (by rw [hYV.1]; exact hdl)
        obtain ⟨bo, oo, rfl, _, _, hco⟩ := Ints.at (Ints.ext h36.o hgT) d hdl
        have hyd1 : 1 ≤ gt Y d := by omega
        have HD := Lib.hid (And.intro hbd (And.intro hpr (And.intro hy0 hd))); clear hbd hpr hy0 hd
        have hd0 : (0 : Int) ≤ d := by omega
        have hdn' : (d : Int) < P.orders.length := by omega
        have e1 : ∀ w', Ext wS w' → w'.cell? ⟨w.heap.size, 0, none⟩ = some (.slice (some ⟨bo, oo, none⟩) P.orders.length capo) := fun w' h => (HB.out w' (grown_trans hgT h)).1
        have e2 : ∀ w', Ext wS w' → w'.cell? ⟨w.heap.size, 1, none⟩ = some vp6 := fun w' h => (HB.out w' (grown_trans hgT h)).2.1
        have e3 : ∀ w', Ext wS w' → w'.cell? ⟨w.heap.size, 2, none⟩ = some vc6 := fun w' h => (HB.out w' (grown_trans hgT h)).2.2
        have e4 : ∀ w', Ext wS w' → w'.cell? ⟨br, or_ + d, none⟩ = some (.int .i64 (gt Y d)) := fun w' h => h.cell hcr (by simp)
        have e5 : ∀ w', Ext wS w' → w'.cell? ⟨bo, oo + d, none⟩ = some (.int .i64 (gt P.orders d)) := fun w' h => h.cell hco (by simp)
        clear hcr hco
        go_wp2
        go_region_held3 (fun w' => Ext wS w') (first | exact grown_drew _ _ | assumption)
          (first
            | (go_at_call 120; refine Calls.mono (Calls.rel (w0 := wS) (by first | exact grown_drew _ _ | assumption) (l01Inv_ok (gt Y d) (gt P.orders d) _ HD.out.2.1 hyd1 hyd.2)) ?_; rintro eI wI ⟨vI, rfl, hgI, hsI, kk, rfl, hk1', hk2', hkk⟩; have HK := Lib.hid hkk; clear hkk)
            | (go_at_call 119; refine Calls.mono (Calls.rel (w0 := wS) (by assumption) (l10Pow_ok P G _ _ _ Y _ Any Any ⟨_, _, _, rfl, Pres3.ext (Pres3.ext h36 hgT) (by assumption)⟩ (Ints.sub (Ints.ext hYi (by assumption)) (fun _ _ _ => trivial)) hYV (by omega))) ?_; rintro eZ wZ ⟨zv, rfl, hgZ, hsZ, hOZ⟩))
        clear e1 e2 e3 e4 e5
        rw [pwZ_nat _ _ _ hk1'] at hOZ
        obtain ⟨Z, hZ⟩ : ∃ Z, Z = pw P Y kk.toNat := ⟨_, rfl⟩
        rw [← hZ] at hOZ
        have hZV : Vec P.orders Z := by rw [hZ]; exact G.pw_vec hYV _
        have hZl : Z.length = P.orders.length := hZV.1
        have hZne : Z ≠ [] := fun h => by rw [h] at hZl; simp at hZl; omega
        have hgwZ := grown_trans hgT hgZ
        have hszS := hgS.size
        have hZI : Ints (fun k => k ≠ w.heap.size + 1 ∧ ¬ ((Value.slice (some ⟨gq, off, none⟩) k1 capq).ownBlock = some k)) wZ zv Z := ints_of_own hOZ (by omega) (fun k hk => by
          have h1 := (hOZ.lt k hk).1
          exact ⟨by omega, fun e => by have := own_blk e; omega⟩)
        obtain ⟨az, capz, hvz, _, _⟩ := hZI.shape
        rw [hZl] at hvz
        subst hvz
        obtain ⟨hT5, hg5⟩ := (hTS.ext hgZ).put d hZI hZne
        obtain ⟨hfr, hcc⟩ := (hTS.ext hgZ).at d hdl
        have hcd : wZ.cell? ⟨w.heap.size + 1, d, none⟩ = some (.slice none 0 0) := hcc.elim (fun h => h.2) (fun h => absurd HD.out.1 h.1)
        have hfar : ∀ (S : Nat → Prop) k, (k ≠ w.heap.size + 1 ∧ S k) → k < wZ.heap.size → (k ≠ w.heap.size + 1 ∧ S k) ∧ k < (wZ.setCell ⟨w.heap.size + 1, d, none⟩ (.slice az P.orders.length capz)).heap.size ∧ (wZ.setCell ⟨w.heap.size + 1, d, none⟩ (.slice az P.orders.length capz)).heap[k]? = wZ.heap[k]? := fun S k hk hlt => ⟨hk, Nat.lt_of_lt_of_le hlt hg5.size, hg5.block k hlt (fun e => hk.1 (by cases e; rfl))⟩
        have hZ5 := Ints.mono hZI (hfar _)
        have hr5 : Ints (fun k => k ≠ w.heap.size + 1 ∧ ¬ ((Value.slice (some ⟨gq, off, none⟩) k1 capq).ownBlock = some k)) (wZ.setCell ⟨w.heap.size + 1, d, none⟩ (.slice az P.orders.length capz)) (.slice (some ⟨br, or_, none⟩) P.orders.length capr) Y := Ints.mono (ints_of_own (hOY.ext0 hgZ) (by rw [hYV.1]; omega) (fun k hk => by
          have h1 := ((hOY.ext0 hgZ).lt k hk).1
          exact ⟨by omega, fun e => by have := own_blk e; omega⟩)) (hfar _)
        have hq5 : ShQ (fun k => k = w.heap.size + 1) w1.heap.size (wZ.setCell ⟨w.heap.size + 1, d, none⟩ (.slice az P.orders.length capz)) (.slice (some ⟨gq, off, none⟩) k1 capq) q1 := (hqS.ext hgZ).kept hg5.size (fun j hj hc => hg5.block j hj (fun e => by
          have e := Option.some.inj e
          subst e
          rcases hc with hc | hc
          · have := own_blk hc; omega
          · exact hc rfl)) (fun _ _ h => h)
        have hgw5 : Ext w0 (wZ.setCell ⟨w.heap.size + 1, d, none⟩ (.slice az P.orders.length capz)) := grown_own hgwZ hg5 (fun j hj hlt => by cases hj; have := HS.out; omega)
        have hqown : ∀ k, (Value.slice (some ⟨gq, off, none⟩) k1 capq).ownBlock = some k → w1.heap.size ≤ k := fun k hk => by have := own_blk hk; omega
        have HZ := Lib.hid (And.intro hZ (And.intro hZV (And.intro hZl hZne))); clear hZ hZV hZl hZne hcc hTS hqS hOZ hOY hZI
        have hq1l : q1.length ≤ 20000 := by have := HY.out.2.2.2.1; omega
        generalize hw5 : wZ.setCell ⟨w.heap.size + 1, d, none⟩ (.slice az P.orders.length capz) = w5 at *
        have hs5 : w1.heap.size ≤ w5.heap.size := by have := hgw5.size; have := hg5.size; have := hgZ.size; omega
        go_wp2_with (first | (at_builtin; refine wp_shq_app rfl _ _ rfl (fun k => k = w.heap.size + 1) w1.heap.size _ _ q1 Y rfl w5 hq5 rfl hr5 rfl (by omega) hs5 ?_; intro v6 w6 hq6 hg6 hb6; have hgw6 := grown_own hgw5 hg6 (fun j hj hlt => by have := hqown j hj; have := HS.out; omega)) | fail)
        have hT6 := tab_kept hT5 hqown hgb1 hg6 hb6
        have hZ6 : Ints (fun k => ¬ (k = w.heap.size + 1) ∧ v6.ownBlock ≠ some k) w6 (.slice az P.orders.length capz) Z := Ints.mono hZ5 (q_kept (bad := fun k => k = w.heap.size + 1) hg6 hb6)
        have hs6 : w1.heap.size ≤ w6.heap.size := by have := hg6.size; omega
        have hqlt6 : ∀ k, v6.ownBlock = some k → w1.heap.size ≤ k := fun k hk => (hq6.lt k hk).1
        clear hw5 hfar hT5 hg5 hZ5 hr5 hq5 hg6 hb6 hfr hcd hqown
        have hTV : Vec P.orders (pw P Z (gt P.orders d).toNat) := G.pw_vec HZ.out.2.1 _
        have hTl : (pw P Z (gt P.orders d).toNat).length ≤ 6 := by rw [hTV.1]; omega
        have hTe : pwZ P Z (gt P.orders d) = pw P Z (gt P.orders d).toNat := pwZ_nat _ _ _ (by omega)
        have HTV := Lib.hid (And.intro hTl hTe); clear hTl hTe hTV
        have e1 : ∀ w', Ext w0 w' → w'.cell? ⟨w.heap.size, 0, none⟩ = some (.slice (some ⟨bo, oo, none⟩) P.orders.length capo) := fun w' h => (HB.out w' h).1
        have e2 : ∀ w', Ext w0 w' → w'.cell? ⟨w.heap.size, 1, none⟩ = some vp6 := fun w' h => (HB.out w' h).2.1
        have e3 : ∀ w', Ext w0 w' → w'.cell? ⟨w.heap.size, 2, none⟩ = some vc6 := fun w' h => (HB.out w' h).2.2
        obtain ⟨_, _, hbb, _, _, hco⟩ := Ints.at h36.o d hdl
        have e5 : ∀ w', Ext w0 w' → w'.cell? ⟨bo, oo + d, none⟩ = some (.int .i64 (gt P.orders d)) := fun w' h => h.cell (by cases hbb; exact hco) (by simp)
        clear hco hbb
        go_region_held3 (fun w' => Ext w0 w') (first | exact grown_trans hgw6 (grown_drew _ _) | assumption | exact grown_trans hgwT (World.grownBy_alloc _ _ _))
          (first
            | (go_at_call 119; refine Calls.mono (Calls.rel2 (w0 := w6) (grown_drew _ _) (l10Pow_ok P G _ _ _ Z (gt P.orders d) Any _ ⟨_, _, _, rfl, Pres3.ext h36 (grown_trans hgw6 (grown_drew _ _))⟩ (hZ6.ext (grown_drew _ _)) HZ.out.2.1 (by omega))) ?_; rintro eT wT ⟨vT, rfl, hgT6, hgT7, hsT, hOT⟩; have hgwT := grown_trans hgw6 hgT6; rw [HTV.out.2] at hOT; have hTI : Ints (fun k => ¬ (k = w.heap.size + 1) ∧ v6.ownBlock ≠ some k) wT vT (pw P Z (gt P.orders d).toNat) := ints_of_own hOT (by have := HTV.out.1; omega) (fun k hk => by
                have h1 := (hOT.lt k hk).1
                have h3 := hgw6.size
                exact ⟨by omega, fun e => by have := (hq6.lt k e).2; omega⟩); obtain ⟨aT, capT, hvT, _, _⟩ := hTI.shape; subst hvT)
            | (refine step_shq_app rfl _ _ rfl (fun k => k = w.heap.size + 1) w1.heap.size v6 _ (q1 ++ [Y]) _ rfl wT (hq6.ext hgT6) rfl hTI rfl (by simp; omega) (by have := hgT6.size; omega) ?_; intro v7 w7 hq7 hg7 hb7; have hgw7 := grown_own hgwT hg7 (fun j hj hlt => by have := hqlt6 j hj; have := HS.out; omega)))
        clear e1 e2 e3 e5
        have hs7 : w1.heap.size ≤ w7.heap.size := by have := hg7.size; have := hgT6.size; omega
        have hT7 := tab_kept (hT6.ext hgT6) hqlt6 hgb1 hg7 hb7
        have hZ7 : Ints (fun k => ¬ (k = w.heap.size + 1) ∧ v7.ownBlock ≠ some k) w7 (.slice az P.orders.length capz) Z := Ints.mono (hZ6.ext hgT6) (q_kept (bad := fun k => k = w.heap.size + 1) hg7 hb7)
        obtain ⟨T1, hT1e⟩ : ∃ T1, T1 = pw P Z (gt P.orders d).toNat := ⟨_, rfl⟩
        rw [← hT1e] at hq7
        have HT1 := Lib.hid hT1e; clear hT1e hq6 hT6 hZ6 hqlt6 hTI hOT hg7 hb7
        go_wp2
        go_loopw [7, 12] (fun qv ev wr2 => ∃ (e : Nat) (v8 : Value), v8 = qv ∧ ev = .int .i64 e ∧ e ≤ P.orders.length ∧ w1.heap.size ≤ wr2.heap.size ∧ Ext w0 wr2 ∧ TabAt w.heap.size (fun j => v8.ownBlock = some j) wr2 (w.heap.size + 1) P.orders.length (b.set d Z) ∧
          ShQ (fun k => k = w.heap.size + 1) w1.heap.size wr2 v8 (q1 ++ [Y] ++ [T1] ++ comsR P b Z e) ∧ Ints (fun j => ¬ (j = w.heap.size + 1) ∧ v8.ownBlock ≠ some j) wr2 (.slice az P.orders.length capz) Z) (fun _ ev _ => P.orders.length - (intOf ev).toNat)
        case atStart => exact ⟨0, v7, rfl, rfl, by omega, hs7, hgw7, hT7, by simpa [comsR] using hq7, hZ7⟩
        case round =>
          obtain ⟨e, v8, rfl, rfl, he, hs8, hg8, hT8, hq8, hZ8⟩ := hrel
          clear hT7 hq7 hZ7
          have hqlt8 : ∀ j, v8.ownBlock = some j → w1.heap.size ≤ j := fun j hj => (hq8.lt j hj).1
          by_cases he2 : e < P.orders.length
          · have he' : (e : Int) < P.orders.length := by omega
            have he0 : (0 : Int) ≤ e := by omega
            by_cases hed : e = d
            · have hcs : comsR P b Z (e + 1) = comsR P b Z e := by simp only [comsR]; rw [if_pos (by rw [hed]; exact HD.out.1), List.append_nil]
              have hne : ((e : Int) != (d : Int)) = false := by simp [hed]
              have HC := Lib.hid hcs; clear hcs hed
              go_wp2
              go_roundw
              case rel => exact ⟨e + 1, v8, rfl, by go_num, by omega, hs8, hg8, hT8, by rw [HC.out]; exact hq8, hZ8⟩
              case measure => simp [intOf]; omega
            · have hne : ((e : Int) != (d : Int)) = true := by simp; omega
              have hbe : gt (b.set d Z) e = gt b e := gt_set_ne _ _ _ _ (fun h => hed h.symm)
              obtain ⟨_, hcc⟩ := hT8.at e he2
              rw [hbe] at hcc
              clear hbe hed
              rcases hcc with ⟨h0, hcell⟩ | ⟨hnn, ab, capb, hcell, hbI⟩
              · have hcs : comsR P b Z (e + 1) = comsR P b Z e := by simp only [comsR]; rw [if_pos h0, List.append_nil]
                have HC := Lib.hid hcs; clear hcs h0
                go_wp2
                go_roundw
                case rel => exact ⟨e + 1, v8, rfl, by go_num, by omega, hs8, hg8, hT8, by rw [HC.out]; exact hq8, hZ8⟩
                case measure => simp [intOf]; omega
              · have hcs : comsR P b Z (e + 1) = comsR P b Z e ++ [comR P Z (gt b e)] := by simp only [comsR]; rw [if_neg hnn]
                have hbV := (HY.out.2.1 e he2 hnn).1.1
                have hcV : Vec P.orders (comR P Z (gt b e)) := G.mulV (G.invV (G.mulV hbV HZ.out.2.1)) (G.mulV HZ.out.2.1 hbV)
                have hbl : (0 : Int) < (gt b e).length := by
                  have : 0 < (gt b e).length := List.length_pos_iff.2 hnn
                  omega
                have hcl := comsR_len P b Z e
                have HC := Lib.hid (And.intro hcs (And.intro hbV (And.intro hcV hcl))); clear hcs hbV hcV hcl hnn
                have hgbl : w.heap.size + 1 < wr.heap.size := by have := hT8.lt; omega
                go_wp2
                have e1 : ∀ w', HeldB w0 wr (w.heap.size + 1) w' → w'.cell? ⟨w.heap.size, 0, none⟩ = some (.slice (some ⟨bo, oo, none⟩) P.orders.length capo) := fun w' h => (HB.out w' h.1).1
                have e2 : ∀ w', HeldB w0 wr (w.heap.size + 1) w' → w'.cell? ⟨w.heap.size, 1, none⟩ = some vp6 := fun w' h => (HB.out w' h.1).2.1
                have e3 : ∀ w', HeldB w0 wr (w.heap.size + 1) w' → w'.cell? ⟨w.heap.size, 2, none⟩ = some vc6 := fun w' h => (HB.out w' h.1).2.2
                have e4 : ∀ w', HeldB w0 wr (w.heap.size + 1) w' → w'.cell? ⟨w.heap.size + 1, e, none⟩ = some (.slice (some ab) (gt b e).length capb) := fun w' h => h.cell hcell
                clear hcell
                go_region_held3 (fun w' => HeldB w0 wr (w.heap.size + 1) w') (first | exact heldB_ext hg8 hgbl (grown_drew _ _) | assumption | exact heldB_ext hg8 hgbl hgC | exact heldB_ext hg8 hgbl (grown_trans hgC (World.grownBy_alloc _ _ _)))
                  (first
                    | (go_at_call 121; refine Calls.mono (Calls.rel2 (w0 := wr) (grown_drew _ _) (l10Comm_ok P G _ _ _ _ Z (gt b e) Any _ _ ⟨_, _, _, rfl, Pres3.ext h36 (grown_trans hg8 (grown_drew _ _))⟩ (hZ8.ext (grown_drew _ _)) (Ints.ext hbI (grown_drew _ _)) HZ.out.2.1 HC.out.2.1)) ?_; rintro eC wC ⟨vC, rfl, hgC, hgC2, hsC, hOC⟩; have hCI : Ints (fun k => ¬ (k = w.heap.size + 1) ∧ v8.ownBlock ≠ some k) wC vC (comR P Z (gt b e)) := ints_of_own hOC (by rw [HC.out.2.2.1.1]; omega) (fun k hk => by
                        have h1 := (hOC.lt k hk).1
                        exact ⟨by omega, fun e => by have := (hq8.lt k e).2; omega⟩); obtain ⟨aC, capC, hvC, _, _⟩ := hCI.shape; subst hvC)
                    | (refine step_shq_app rfl _ _ rfl (fun k => k = w.heap.size + 1) w1.heap.size v8 _ (q1 ++ [Y] ++ [T1] ++ comsR P b Z e) _ rfl wC (hq8.ext hgC) rfl hCI rfl (by have := HC.out.2.2.2; simp; omega) (by have := hgC.size; omega) ?_; intro v9 w9 hq9 hg9 hb9; have hH9 : HeldB w0 wr (w.heap.size + 1) w9 := ⟨grown_own (grown_trans hg8 hgC) hg9 (fun j hj hlt => by have := hqlt8 j hj; have := HS.out; omega), (hg9.block _ (by have := hgC.size; omega) (fun e => by have := hqlt8 _ e.symm; omega)).trans (hgC.block _ hgbl (by simp))⟩))
                clear e1 e2 e3 e4
                have hs9 : w1.heap.size ≤ w9.heap.size := by have := hg9.size; have := hgC.size; omega
                have hT9 := tab_kept (hT8.ext hgC) hqlt8 hgb1 hg9 hb9
                have hZ9 : Ints (fun k => ¬ (k = w.heap.size + 1) ∧ v9.ownBlock ≠ some k) w9 (.slice az P.orders.length capz) Z := Ints.mono (hZ8.ext hgC) (q_kept (bad := fun k => k = w.heap.size + 1) hg9 hb9)
                clear hq8 hT8 hZ8 hg9 hb9 hCI hOC
                go_wp2
                go_roundw
                case rel => exact ⟨e + 1, v9, rfl, by go_num, by omega, hs9, hH9.1, hT9, by rw [HC.out.1, ← List.append_assoc]; exact hq9, hZ9⟩
                case measure => simp [intOf]; omega
          · have hee : e = P.orders.length := by omega
            subst hee
            have hms := miss_set (b := b) (z := Z) HD.out.1 HZ.out.2.2.2 P.orders.length (by rw [HLB.out]; exact Nat.le_refl _)
            rw [if_pos hdl] at hms
            have hcl := comsR_len P b Z P.orders.length
            have hll : (q1 ++ [Y] ++ [T1] ++ comsR P b Z P.orders.length).length ≤ q1.length + 2 + P.orders.length := by simp; omega
            have hmul : miss b P.orders.length * (P.orders.length + 3) = miss (b.set d Z) P.orders.length * (P.orders.length + 3) + (P.orders.length + 3) := by rw [← hms, Nat.add_mul, Nat.one_mul]
            have hA5 : Hid (∃ R, AddInv P Q (gt (b.set d Z)) (q1 ++ [Y] ++ [T1] ++ comsR P b Z P.orders.length).reverse R) := by
              obtain ⟨R, hA⟩ := HA2.out.1
              have hst := G.close_step (q' := (q1 ++ [Y] ++ [T1] ++ comsR P b Z P.orders.length).reverse) hA hdl HA2.out.2.1 HD.out.1 HLB.out kk hk1' HK.out (fun x => by
                rw [← HZ.out.1, ← HT1.out]
                simp only [List.mem_reverse, List.mem_append, List.mem_singleton, or_assoc])
              rw [← HZ.out.1] at hst
              exact Lib.hid hst
            have hlt5 : miss (b.set d Z) P.orders.length * (P.orders.length + 3) + (q1 ++ [Y] ++ [T1] ++ comsR P b Z P.orders.length).length < gk := by
              have := HY.out.2.2.2.2; have := HY.out.2.2.2.1; have := HM.out.1; omega
            have HX := Lib.hid (And.intro hll (And.intro hlt5 (And.intro hmul hms))); clear hll hmul hms hlt5 hcl hZ8
            go_wp2
            go_roundg (miss (b.set d Z) P.orders.length * (P.orders.length + 3) + (q1 ++ [Y] ++ [T1] ++ comsR P b Z P.orders.length).length)
            case measure => exact HX.out.2.1
            case rel => exact ⟨b.set d Z, _, by have := HX.out.2.1; omega, rfl, hg8, hT8, hq8, hA5⟩

end Go.Proofs.YtchbegeklckgnaaGreat

/- The reference's test of a sequence: spec.l10Element, l10Elements, l01Same2, l12Is, IsSubgroup, l13Two. -/
namespace Go.Proofs.YtchbegeklckgnaaGreat
open Go.RowKit

theorem expZ_neg (o e : List Int) : expZB o e (-1) = expB o e := by
  unfold expZB expB
  congr 1
  congr 1
  funext i
  have : decide ((i : Int) ≤ -1) = false := by simp; omega
  rw [this]; simp

theorem l10Element_ok (P : Pr) (hP : Valid P) (w : World) (pv xv : Value) (X : List Int) (Sp Sx : Nat → Prop) (hpv : PresV Sp w pv P) (hx : Ints Sx w xv X) :
    Calls Tryz.prog 69 #[pv, xv] w (Ret w fun _ v => v = .bool (expB P.orders X)) := by
  obtain ⟨vo, vp, vc, rfl, h3⟩ := hpv
  have hp0 := PresP.box h3 32
  have hg0 : Ext w (w.alloc (.cells #[vo, vp, vc] 32)) := World.grownBy_alloc _ _ _
  have hx0 := hx.ext hg0
  obtain ⟨ao, capo, hco, hoi⟩ := hp0.ordAt
  obtain ⟨ax, capx, rfl, _, _⟩ := hx.shape
  have hcon := l07Exponents_ok _ _ _ P.orders X (-1) Any Sx hoi hx0 (fun i hi => by have := hP.ord7 i hi; omega)
  rw [expZ_neg] at hcon
  go_enter Tryz.func69, Tryz.ntmps69
  go_wp2_with fail
  refine Calls.mono hcon ?_
  rintro e1 w1 ⟨rfl, hd⟩
  clear hcon
  go_wp2
  go_ret
  exact ⟨_, rfl, grown_trans hg0 hd.ext, rfl⟩

set_option maxHeartbeats 1000000 in
theorem l10Elements_ok (P : Pr) (hP : Valid P) (w : World) (pv lv : Value) (L : List (List Int)) (Sp Sr : Nat → Prop) (hpv : PresV Sp w pv P) (hl : Rows2 Sr w lv L) :
    Calls Tryz.prog 93 #[pv, lv] w (Ret w fun _ v => ∃ r : Bool, v = .bool r ∧ (r = true ↔ ∀ x ∈ L, Vec P.orders x)) := by
  obtain ⟨vo, vp, vc, rfl, h3⟩ := hpv
  have hp0 := PresP.box h3 32
  have hg0 : Ext w (w.alloc (.cells #[vo, vp, vc] 32)) := World.grownBy_alloc _ _ _
  have hl0 := Rows2.ext hl hg0
  obtain ⟨al, capl, rfl, _, _⟩ := Sl.shape hl
  obtain ⟨vo6, vp6, vc6, _, _, hc0, hc1, hc2, h36⟩ := hp0.at
  simp only [Nat.zero_add] at hc1 hc2
  clear hp0 hl
  go_enter Tryz.func93, Tryz.ntmps93
  go_wp2
  generalize hw0 : w.alloc (.cells #[vo, vp, vc] 32) = w0 at *
  clear hw0
  go_loopw [5] (fun iv wr => ∃ i : Nat, iv = .int .i64 i ∧ i ≤ L.length ∧ Ext w0 wr ∧ Hid (∀ j, j < i → Vec P.orders (gt L j))) (fun iv _ => L.length - (intOf iv).toNat)
  case atStart => exact ⟨0, rfl, by omega, Ext.refl _, Lib.hid (fun j h => by omega)⟩
  case round =>
    obtain ⟨i, rfl, hi, hg, hV⟩ := hrel
    by_cases hlt : i < L.length
    · have hlt' : (i : Int) < L.length := by omega
      obtain ⟨b, off, a2, cap2, rfl, _, _, hc, hr⟩ := Rows2.at (Rows2.ext hl0 hg) i hlt
      have e1 : ∀ w', Ext wr w' → w'.cell? ⟨w.heap.size, 0, none⟩ = some vo6 := fun w' h => (grown_trans hg h).cell hc0 (by simp)
      have e2 : ∀ w', Ext wr w' → w'.cell? ⟨w.heap.size, 1, none⟩ = some vp6 := fun w' h => (grown_trans hg h).cell hc1 (by simp)
      have e3 : ∀ w', Ext wr w' → w'.cell? ⟨w.heap.size, 2, none⟩ = some vc6 := fun w' h => (grown_trans hg h).cell hc2 (by simp)
      have e4 : ∀ w', Ext wr w' → w'.cell? ⟨b, off + i, none⟩ = some (.slice a2 (gt L i).length cap2) := fun w' h => h.cell hc (by simp)
      clear hc
      cases hx : expB P.orders (gt L i) with
      | true =>
        have HX := Lib.hid (expB_vec.1 hx)
        have HX2 := Lib.hid hx; clear hx
        go_wp2
        go_region_held3 (fun w' => Ext wr w') (first | exact grown_drew _ _ | assumption)
          (first
            | (go_at_call 69; refine Calls.mono (Calls.rel (w0 := wr) (by assumption) (l10Element_ok P hP _ _ _ (gt L i) Any Any ⟨_, _, _, rfl, Pres3.ext (Pres3.ext h36 hg) (by assumption)⟩ (Ints.sub (Ints.ext hr (by assumption)) (fun _ _ _ => trivial)))) ?_; rintro eA wA ⟨vA, rfl, hgA, hsA, hvA⟩; rw [HX2.out] at hvA; subst hvA))
        clear e1 e2 e3 e4
        go_wp2
        go_roundw
        case rel => exact ⟨i + 1, by go_num, by omega, grown_trans hg hgA, Lib.hid (fun j hj => by
          rcases Nat.lt_succ_iff_lt_or_eq.1 hj with h | h
          · exact hV.out j h
          · rw [h]; exact HX.out)⟩
        case measure => simp [intOf]; omega
      | false =>
        have hno : ¬ ∀ x ∈ L, Vec P.orders x := fun h => by
          have := expB_vec.2 (h _ (gtMem hlt))
          rw [hx] at this; cases this
        have HX := Lib.hid hno
        have HX2 := Lib.hid hx; clear hx hno
        go_wp2
        go_region_held3 (fun w' => Ext wr w') (first | exact grown_drew _ _ | assumption)
          (first
            | (go_at_call 69; refine Calls.mono (Calls.rel (w0 := wr) (by assumption) (l10Element_ok P hP _ _ _ (gt L i) Any Any ⟨_, _, _, rfl, Pres3.ext (Pres3.ext h36 hg) (by assumption)⟩ (Ints.sub (Ints.ext hr (by assumption)) (fun _ _ _ => trivial)))) ?_; rintro eA wA ⟨vA, rfl, hgA, hsA, hvA⟩; rw [HX2.out] at hvA; subst hvA))
        clear e1 e2 e3 e4
        go_wp2
        go_ret
        exact ⟨_, rfl, grown_trans hg0 (grown_trans hg hgA), false, rfl, by simp only [Bool.false_eq_true, false_iff]; exact HX.out⟩
    · have hie : i = L.length := by omega
      subst hie
      go_wp2
      go_ret
      exact ⟨_, rfl, grown_trans hg0 hg, true, rfl, by
        simp only [true_iff]
        intro x hx
        obtain ⟨l, hl, rfl⟩ := List.getElem_of_mem hx
        rw [← gt_eq L l hl]; exact hV.out l hl⟩

set_option maxRecDepth 100000 in
set_option maxHeartbeats 2000000 in
theorem l01Same2_ok (v1 v2 : Value) (l1 l2 : List (List Int)) (w : World) (S1 S2 : Nat → Prop) (h1 : Rows2 S1 w v1 l1) (h2 : Rows2 S2 w v2 l2) :
    Calls Tryz.prog 105 #[v1, v2] w (Ret w fun _ v => v = .bool (eqB l1 l2)) := by
  obtain ⟨a, cap, rfl, _, _⟩ := Sl.shape h1
  obtain ⟨a2, cap2, rfl, _, _⟩ := Sl.shape h2
  by_cases hl : l1.length = l2.length
  · have hd : ((l1.length : Int) != (l2.length : Int)) = false := by simp [hl]
    have hl1 : l1.length ≤ l2.length ∧ l2.length ≤ l1.length := by omega
    have HL := Lib.hid hl; clear hl
    go_enter Tryz.func105, Tryz.ntmps105
    go_wp2
    go_loopw [5] (fun i wr => ∃ k : Nat, i = .int .i64 k ∧ k ≤ l1.length ∧ Ext w wr ∧ ∀ i, i < k → gt l1 i = gt l2 i) (fun i _ => l1.length - (intOf i).toNat)
    case atStart => exact ⟨0, rfl, by omega, Ext.refl _, fun i hi => by omega⟩
    case round =>
      obtain ⟨k, rfl, hk, hg, hz⟩ := hrel
      have HZ := Lib.hid hz; clear hz
      by_cases hlt : k < l1.length
      · obtain ⟨b, off, x1, c1, rfl, _, _, hc, hi1⟩ := Rows2.at (Rows2.ext h1 hg) k hlt
        obtain ⟨b2, off2, x2, c2, rfl, _, _, hc2, hi2⟩ := Rows2.at (Rows2.ext h2 hg) k (by omega)
        have e1 : ∀ w', Ext wr w' → w'.cell? ⟨b, off + k, none⟩ = some (.slice x1 (gt l1 k).length c1) := fun w' h => h.cell hc (by simp)
        have e2 : ∀ w', Ext wr w' → w'.cell? ⟨b2, off2 + k, none⟩ = some (.slice x2 (gt l2 k).length c2) := fun w' h => h.cell hc2 (by simp)
        clear hc hc2
        have hlt2 : k < l2.length := by omega
        go_wp2
        cases hx : eqB (gt l1 k) (gt l2 k) with
        | true =>
          have hx2 := Lib.hid hx
          go_region_held3 (fun w' => Ext wr w') (first | exact grown_drew _ _ | assumption)
            (first
              | (go_at_call 152; refine Calls.mono (Calls.rel (w0 := wr) (by assumption) (l01Same_ok _ _ _ _ _ Any Any (Ints.sub (Ints.ext hi1 (by assumption)) (fun _ _ _ => trivial)) (Ints.sub (Ints.ext hi2 (by assumption)) (fun _ _ _ => trivial)))) ?_; rintro eA wA ⟨vA, rfl, hgA, hsA, rfl⟩))
          clear e1 e2
          go_wp2
          go_roundw
          case rel => exact ⟨k + 1, by go_num, by omega, grown_trans hg hgA, fun i hi => by
            rcases Nat.lt_or_ge i k with h1 | h1
            · exact HZ.out i h1
            · have : i = k := by omega
              rw [this]; exact eqB_true.1 hx2.out⟩
          case measure => simp [intOf]; omega
        | false =>
          have hx2 := Lib.hid hx
          go_region_held3 (fun w' => Ext wr w') (first | exact grown_drew _ _ | assumption)
            (first
              | (go_at_call 152; refine Calls.mono (Calls.rel (w0 := wr) (by assumption) (l01Same_ok _ _ _ _ _ Any Any (Ints.sub (Ints.ext hi1 (by assumption)) (fun _ _ _ => trivial)) (Ints.sub (Ints.ext hi2 (by assumption)) (fun _ _ _ => trivial)))) ?_; rintro eA wA ⟨vA, rfl, hgA, hsA, rfl⟩))
          clear e1 e2
          go_wp2
          go_ret
          exact ⟨_, rfl, grown_trans hg hgA, by rw [eqB_false_at (hx := eqB_false.1 hx2.out)]; rfl⟩
      · go_wp2
        go_ret
        exact ⟨_, rfl, hg, by rw [eqB_true.2 (ext_gt HL.out (fun i hi => HZ.out i (by omega)))]; rfl⟩
  · have hd : ((l1.length : Int) != (l2.length : Int)) = true := by simp; omega
    have HL := Lib.hid hl; clear hl
    go_enter Tryz.func105, Tryz.ntmps105
    go_wp2
    go_ret
    exact ⟨_, rfl, Ext.refl _, by rw [eqB_false.2 (fun e => HL.out (by rw [e]))]; rfl⟩

theorem subB_iff {P : Pr} (G : Grp P) (u : List (List Int)) : SubB P u ↔ u.length ≤ P.orders.length ∧ (∀ x ∈ u, Vec P.orders x) ∧ cseq P (genP P (fun x => x ∈ u)) = u :=
  ⟨fun h => ⟨G.sub_len h, h.1, h.2.symm⟩, fun h => ⟨h.2.1, h.2.2.symm⟩⟩

set_option maxRecDepth 100000 in
set_option maxHeartbeats 4000000 in
theorem l12Is_ok (P : Pr) (G : Grp P) (w : World) (pv uv : Value) (U : List (List Int)) (Sp Su : Nat → Prop) (hpv : PresV Sp w pv P) (hu : Rows2 Su w uv U) :
    Calls Tryz.prog 55 #[pv, uv] w (Ret w fun _ v => ∃ r : Bool, v = .bool r ∧ (r = true ↔ SubB P U)) := by
  have hP := G.v
  have hn6 := hP.n6
  obtain ⟨vo, vp, vc, rfl, h3⟩ := hpv
  have hp0 := PresP.box h3 32
  have hg0 : Ext w (w.alloc (.cells #[vo, vp, vc] 32)) := World.grownBy_alloc _ _ _
  obtain ⟨vo6, vp6, vc6, _, _, hc0, hc1, hc2, h36⟩ := hp0.at
  simp only [Nat.zero_add] at hc1 hc2
  obtain ⟨ao, capo, rfl, _, _⟩ := h36.o.shape
  have hu0 := Rows2.ext hu hg0
  obtain ⟨au, capu, rfl, _, _⟩ := Sl.shape hu
  clear hp0 hu
  have hiff := subB_iff G U
  go_enter Tryz.func55, Tryz.ntmps55
  by_cases hl : U.length ≤ P.orders.length
  · have hle : (U.length : Int) ≤ P.orders.length := by omega
    have hE := l10Elements_ok P hP (w.alloc (.cells #[vo, vp, vc] 32)) _ _ U Any Su ⟨_, _, _, rfl, h36⟩ hu0
    go_wp2_with fail
    generalize hw0 : w.alloc (.cells #[vo, vp, vc] 32) = w0 at *
    clear hw0
    refine Calls.mono hE ?_
    rintro e1 w1 ⟨v1, rfl, hg1, r1, rfl, hr1⟩
    clear hE
    have hb0 := hg1.cell hc0 (by simp)
    have hb1 := hg1.cell hc1 (by simp)
    have hb2 := hg1.cell hc2 (by simp)
    cases r1 with
    | false =>
      have hno : ¬ SubB P U := fun h => by have := hr1.2 (hiff.1 h).2.1; cases this
      have HN := Lib.hid hno; clear hno hiff hr1 hc0 hc1 hc2
      go_wp2
      go_ret
      exact ⟨_, rfl, grown_trans hg0 hg1, false, rfl, by simp only [Bool.false_eq_true, false_iff]; exact HN.out⟩
    | true =>
      have hV := hr1.1 rfl
      have HI := Lib.hid (And.intro hiff hV); clear hiff hV hr1 hc0 hc1 hc2
      go_wp2_with fail
      clear hb0 hb1 hb2
      refine Calls.mono (l12Close_ok P G w1 _ _ U Any Su ⟨_, _, _, rfl, Pres3.ext h36 hg1⟩ (Rows2.ext hu0 hg1) HI.out.2 (by omega)) ?_
      rintro e2 w2 ⟨v2, rfl, hg2, hR2⟩
      obtain ⟨a2, cap2, rfl, _, _⟩ := Sl.shape hR2
      go_wp2_with fail
      refine Calls.mono (l01Same2_ok _ _ _ U w2 _ _ hR2 (Rows2.ext (Rows2.ext hu0 hg1) hg2)) ?_
      rintro e3 w3 ⟨v3, rfl, hg3, rfl⟩
      go_wp2
      go_ret
      exact ⟨_, rfl, grown_trans hg0 (grown_trans hg1 (grown_trans hg2 hg3)), _, rfl, by
        rw [eqB_true, HI.out.1]
        exact ⟨fun h => ⟨hl, HI.out.2, h⟩, fun h => h.2.2⟩⟩
  · have hle : ¬ (U.length : Int) ≤ P.orders.length := by omega
    have hno : ¬ SubB P U := fun h => hl (hiff.1 h).1
    have HN := Lib.hid hno; clear hno hiff hl
    go_wp2
    go_ret
    exact ⟨_, rfl, hg0, .inl ⟨rfl, HN.out⟩⟩

set_option maxRecDepth 100000 in
set_option maxHeartbeats 2000000 in
theorem sIsSubgroup_ok (P : Pr) (w : World) (pv uv : Value) (U : List (List Int)) (Sp Su : Nat → Prop) (hpv : PresV Sp w pv P) (hu : Rows2 Su w uv U) :
    Calls Tryz.prog 58 #[pv, uv] w (Ret w fun _ v => ∃ r : Bool, v = .bool r ∧ (r = true ↔ rconsB P = true ∧ SubB P U)) := by
  obtain ⟨vo, vp, vc, rfl, h3⟩ := hpv
  have hp0 := PresP.box h3 32
  have hg0 : Ext w (w.alloc (.cells #[vo, vp, vc] 32)) := World.grownBy_alloc _ _ _
  obtain ⟨vo6, vp6, vc6, _, _, hc0, hc1, hc2, h36⟩ := hp0.at
  simp only [Nat.zero_add] at hc1 hc2
  have hu0 := Rows2.ext hu hg0
  obtain ⟨au, capu, rfl, _, _⟩ := Sl.shape hu
  clear hp0 hu
  have hE := l08Group_ok P (w.alloc (.cells #[vo, vp, vc] 32)) _ Any ⟨_, _, _, rfl, h36⟩
  go_enter Tryz.func58, Tryz.ntmps58
  go_wp2_with fail
  generalize hw0 : w.alloc (.cells #[vo, vp, vc] 32) = w0 at *
  clear hw0
  refine Calls.mono hE ?_
  rintro e1 w1 ⟨v1, rfl, hg1, rfl⟩
  clear hE
  have hb0 := hg1.cell hc0 (by simp)
  have hb1 := hg1.cell hc1 (by simp)
  have hb2 := hg1.cell hc2 (by simp)
  clear hc0 hc1 hc2
  cases hr : rconsB P with
  | false =>
    have HR := Lib.hid hr; clear hr
    go_wp2
    go_ret
    exact ⟨_, rfl, grown_trans hg0 hg1, false, rfl, by simp only [Bool.false_eq_true, false_iff]; rintro ⟨h, _⟩; rw [HR.out] at h; exact Bool.noConfusion h⟩
  | true =>
    have G := grp_of_r hr
    have HR := Lib.hid hr; clear hr
    go_wp2_with fail
    clear hb0 hb1 hb2
    refine Calls.mono (l12Is_ok P G w1 _ _ U Any Su ⟨_, _, _, rfl, Pres3.ext h36 hg1⟩ (Rows2.ext hu0 hg1)) ?_
    rintro e2 w2 ⟨v2, rfl, hg2, r2, rfl, hr2⟩
    have HR2 := Lib.hid hr2; clear hr2
    go_wp2
    go_ret
    exact ⟨_, rfl, grown_trans hg0 (grown_trans hg1 hg2), r2, rfl, ⟨fun h => ⟨HR.out, HR2.out.1 h⟩, fun h => HR2.out.2 h.2⟩⟩

set_option maxRecDepth 100000 in
set_option maxHeartbeats 2000000 in
theorem l13Two_ok (P : Pr) (w : World) (pv uv vv : Value) (U V : List (List Int)) (Sp Su Sv : Nat → Prop) (hpv : PresV Sp w pv P) (hu : Rows2 Su w uv U) (hv : Rows2 Sv w vv V) :
    Calls Tryz.prog 66 #[pv, uv, vv] w (Ret w fun _ v => ∃ r : Bool, v = .bool r ∧ (r = true ↔ rconsB P = true ∧ SubB P U ∧ SubB P V)) := by
  obtain ⟨vo, vp, vc, rfl, h3⟩ := hpv
  have hp0 := PresP.box h3 32
  have hg0 : Ext w (w.alloc (.cells #[vo, vp, vc] 32)) := World.grownBy_alloc _ _ _
  obtain ⟨vo6, vp6, vc6, _, _, hc0, hc1, hc2, h36⟩ := hp0.at
  simp only [Nat.zero_add] at hc1 hc2
  have hu0 := Rows2.ext hu hg0
  have hv0 := Rows2.ext hv hg0
  obtain ⟨au, capu, rfl, _, _⟩ := Sl.shape hu
  obtain ⟨av, capv, rfl, _, _⟩ := Sl.shape hv
  clear hp0 hu hv
  have hE := sIsSubgroup_ok P (w.alloc (.cells #[vo, vp, vc] 32)) _ _ U Any Su ⟨_, _, _, rfl, h36⟩ hu0
  go_enter Tryz.func66, Tryz.ntmps66
  go_wp2_with fail
  generalize hw0 : w.alloc (.cells #[vo, vp, vc] 32) = w0 at *
  clear hw0
  refine Calls.mono hE ?_
  rintro e1 w1 ⟨v1, rfl, hg1, r1, rfl, hr1⟩
  clear hE
  have hb0 := hg1.cell hc0 (by simp)
  have hb1 := hg1.cell hc1 (by simp)
  have hb2 := hg1.cell hc2 (by simp)
  clear hc0 hc1 hc2
  cases r1 with
  | false =>
    have HR := Lib.hid hr1; clear hr1
    go_wp2
    go_ret
    exact ⟨_, rfl, grown_trans hg0 hg1, false, rfl, by
      simp only [Bool.false_eq_true, false_iff]
      rintro ⟨h, h2, _⟩
      have := HR.out.2 ⟨h, h2⟩; cases this⟩
  | true =>
    obtain ⟨hr, hS⟩ := hr1.1 rfl
    have G := grp_of_r hr
    have HR := Lib.hid (And.intro hr hS); clear hr hS hr1
    go_wp2_with fail
    clear hb0 hb1 hb2
    refine Calls.mono (l12Is_ok P G w1 _ _ V Any Sv ⟨_, _, _, rfl, Pres3.ext h36 hg1⟩ (Rows2.ext hv0 hg1)) ?_
    rintro e2 w2 ⟨v2, rfl, hg2, r2, rfl, hr2⟩
    have HR2 := Lib.hid hr2; clear hr2
    go_wp2
    go_ret
    exact ⟨_, rfl, grown_trans hg0 (grown_trans hg1 hg2), r2, rfl, by rw [HR2.out]; exact ⟨fun h => ⟨HR.out.1, HR.out.2, h⟩, fun h => h.2.2⟩⟩

end Go.Proofs.YtchbegeklckgnaaGreat

/- Plain: the list of products, element by element (for impl.elementsOf). -/
namespace Go.Proofs.YtchbegeklckgnaaGreat

theorem stepE_succ (P : Pr) (u : List Int) (o : Nat) (x : List Int) : stepE P u (o + 1) x = stepE P u o x ++ [rMul P x (pw P u o)] := by
  unfold stepE
  rw [List.range_succ, List.map_append]; rfl

theorem flatMap_take_succ {α β : Type} [Inhabited α] (l : List α) (f : α → List β) (i : Nat) (hi : i < l.length) : (l.take (i + 1)).flatMap f = (l.take i).flatMap f ++ f (gt l i) := by
  rw [take_succ_gt l i hi, List.flatMap_append]; simp

theorem stepE_len (P : Pr) (u : List Int) (o : Nat) (x : List Int) : (stepE P u o x).length = o := by unfold stepE; simp

theorem flatMap_len (P : Pr) (u : List Int) (o : Nat) (l : List (List Int)) : (l.flatMap (stepE P u o)).length = l.length * o := by
  induction l with
  | nil => simp
  | cons x l ih => rw [List.flatMap_cons, List.length_append, ih, stepE_len, List.length_cons, Nat.add_mul]; omega

/-- as many products as the order says -/
theorem elsP_len {P : Pr} (hP : Valid P) {U : List (List Int)} (hU : SeqOk P U) (k : Nat) (hk : k ≤ U.length) : ((elsP P U k).length : Int) = prodU P U k := by
  induction k with
  | zero => simp [elsP, prodU]
  | succ k ih =>
    have ih := ih (by omega)
    have ho := hP.ord7 (dep (gt U k)) (hU.1 _ (gtMem (by omega))).2.1
    simp only [elsP, prodU]
    rw [flatMap_len, Int.natCast_mul, ih, show (((gt P.orders (dep (gt U k))).toNat : Nat) : Int) = gt P.orders (dep (gt U k)) by omega]

theorem Grp.step_mul {P : Pr} (G : Grp P) {x u : List Int} (hx : Vec P.orders x) (hu : Vec P.orders u) (t : Nat) : rMul P (rMul P x (pw P u t)) u = rMul P x (pw P u (t + 1)) := by
  rw [pw_succ, G.ass hx (G.pw_vec hu t) hu]

end Go.Proofs.YtchbegeklckgnaaGreat

/- append of a row that lay there before: the list takes it out of the set of blocks that it avoids. -/
namespace Go.Proofs.YtchbegeklckgnaaGreat
open Go.RowKit

theorem wp_app_take {ops : Array Oper} {rest : List Oper} {o : Oper} {a : Act} {Q : Exit → Act → World → Prop} {w : World} (hgd : o.guard = none) (s x : Operand)
    (ho : o.op = Op.call { callee := Callee.builtin Builtin.append, args := #[s, x], argTypes := #[23, 23] }) (B : Nat) (A A' F : Nat → Prop) (w0 : World) (v u : Value) (xs : List (List Int)) (y : List Int) (hs : a.eval s = v)
    (hown : SlOA OwnIn 22 B A w0 v xs) (hu : OwnIn F w0 u y) (hF : ∀ k, F k → k < w0.heap.size → A k ∧ B ≤ k) (hA' : ∀ k, A' k → A k ∧ ¬ F k) (hAl : ∀ k, A k → k < w0.heap.size) (hw : w = w0.alloc (.cells #[u] 22))
    (hx : a.eval x = .slice (some ⟨w0.heap.size, 0, none⟩) 1 1) (hlen : xs.length ≤ 1000000) (hbase : B ≤ w0.heap.size)
    (h : ∀ v' w', SlOA OwnIn 22 B A' w' v' (xs ++ [y]) → w0.grownBy w' v.ownBlock → (v'.ownBlock = v.ownBlock ∨ ∀ k, v'.ownBlock = some k → w0.heap.size ≤ k) → wpList Tryz.prog ops Q rest (a.put o.dst v') w') :
    wpList Tryz.prog ops Q (o :: rest) a w := by
  subst hw
  obtain ⟨vs, G, hvl, hO, hG, hd, hE, hr, hr2⟩ := hown
  have hga : Ext w0 (w0.alloc (.cells #[u] 22)) := World.grownBy_alloc _ _ _
  refine wp_app 23 22 (.slice none 0 0) 24 und_rows Tryz.infoRow rfl (by decide) hgd s x ho B v vs hs (hO.kept hga (by cases hv : v.ownBlock <;> simp)) (some ⟨w0.heap.size, 0, none⟩) 1 1 [u] hx rfl (by simp) ?_ ?_ (by simp; omega) (by have := hga.size; omega) ?_
  · intro j hj
    have : j = 0 := by omega
    subst this
    exact ⟨_, _, rfl, by rw [World.cell?_alloc_at _ _ _ _ rfl]; rfl⟩
  · intro u' hu'
    simp at hu'; subst hu'; exact rdOwn.one hu
  · intro v' w' k1 k2 _ k4
    have hg : w0.grownBy w' v.ownBlock := grown_trans (grown_of_ext _ hga) k2
    have hown2 : v'.ownBlock = v.ownBlock ∨ ∀ k, v'.ownBlock = some k → w0.heap.size ≤ k := by
      rcases k4 with h | h
      · exact .inl h
      · refine .inr (fun k hk => ?_)
        rw [h] at hk
        have : (w0.alloc (.cells #[u] 22)).heap.size = k := by simpa using hk
        simp at this
        omega
    have hown : ∀ k, v'.ownBlock = some k → v.ownBlock = some k ∨ w0.heap.size ≤ k := fun k hk => by
      rcases k4 with h | h
      · exact .inl (by rw [← h]; exact hk)
      · rw [h] at hk
        have : (w0.alloc (.cells #[u] 22)).heap.size = k := by simpa using hk
        simp at this
        exact .inr (by omega)
    refine h v' w' ⟨vs ++ [u], fun i k => if i < xs.length then G i k else F k ∧ k < w0.heap.size, by simp [hvl], k1, ?_, ?_, ?_, ?_, ?_⟩ hg hown2
    · intro i k hi hk
      split at hk
      · rename_i hlt
        obtain ⟨a1, a2, a3⟩ := hG i k hlt hk
        exact ⟨a1, fun e => (hown k e).elim a2 (fun h => by omega), Nat.lt_of_lt_of_le a3 hg.size⟩
      · obtain ⟨b1, b2⟩ := hF k hk.1 hk.2
        exact ⟨b2, fun e => (hown k e).elim (fun h => hr2 k h b1) (fun h => by have := hk.2; omega), Nat.lt_of_lt_of_le hk.2 hg.size⟩
    · intro i j k hi hj hk hk'
      simp only [List.length_append, List.length_singleton] at hi hj
      split at hk <;> split at hk'
      · exact hd i j k (by assumption) (by assumption) hk hk'
      · exact absurd (hF k hk'.1 hk'.2).1 (hr i k (by assumption) hk)
      · exact absurd (hF k hk.1 hk.2).1 (hr j k (by assumption) hk')
      · omega
    · intro i hi
      simp only [List.length_append, List.length_singleton] at hi
      by_cases hlt : i < xs.length
      · rw [gt_append_left _ _ _ (by omega), gt_append_left _ _ _ hlt]
        simp only [if_pos hlt]
        exact rdOwn.mono (hE i hlt) (fun k hk hkl => ⟨hk, Nat.lt_of_lt_of_le hkl hg.size, hg.block k hkl (fun e => (hG i k hlt hk).2.1 e.symm)⟩)
      · have hi2 : i = xs.length := by omega
        subst hi2
        rw [gt_concat, ← hvl, gt_concat]
        simp only [hvl, Nat.lt_irrefl, if_false]
        exact rdOwn.mono hu (fun k hk hkl => ⟨⟨hk, hkl⟩, Nat.lt_of_lt_of_le hkl hg.size, hg.block k hkl (fun e => hr2 k e.symm (hF k hk hkl).1)⟩)
    · intro i k hi hk ha
      obtain ⟨c1, c2⟩ := hA' k ha
      split at hk
      · rename_i hlt; exact hr i k hlt hk c1
      · exact c2 hk.1
    · intro k hk ha
      obtain ⟨c1, _⟩ := hA' k ha
      rcases hown k hk with h | h
      · exact hr2 k h c1
      · have := hAl k c1; omega

end Go.Proofs.YtchbegeklckgnaaGreat

/- [][]int64{row} as a list of the call's own. -/
namespace Go.Proofs.YtchbegeklckgnaaGreat
open Go.RowKit

theorem rowsOne {B : Nat} {w2 : World} {u : Value} {y : List Int} (hu : OwnIn (From B) w2 u y) (hB : B ≤ w2.heap.size) : RowsO B (w2.alloc (.cells #[u] 22)) (.slice (some ⟨w2.heap.size, 0, none⟩) 1 1) [y] := by
  have hga : Ext w2 (w2.alloc (.cells #[u] 22)) := World.grownBy_alloc _ _ _
  refine ⟨[u], fun _ k => B ≤ k ∧ k < w2.heap.size, rfl, World.ownsRow_lit w2 #[u] 1 hB (by decide) rfl, fun i k hi hk => ?_, fun i j k hi hj _ _ => ?_, fun i hi => ?_⟩
  · exact ⟨hk.1, fun e => by have := own_blk e; omega, Nat.lt_of_lt_of_le hk.2 hga.size⟩
  · simp at hi hj; omega
  · have : i = 0 := by simpa using hi
    subst this
    exact rdOwn.mono hu (fun k hk hkl => ⟨⟨hk, hkl⟩, Nat.lt_of_lt_of_le hkl hga.size, hga.block k hkl (by simp)⟩)

end Go.Proofs.YtchbegeklckgnaaGreat

/- The library's sort at [][]int64, laid from the shelf. -/
namespace Go.Proofs.YtchbegeklckgnaaGreat
open Go.Proofs Go.Shelf Go.RowKit Go.Lib Go.Sort
def Tryz.sortRows_ren : Go.Shelf.Ren := ⟨fun | 6 => 112 | 15 => 159 | 14 => 158 | 28 => 197 | 29 => 198 | 20 => 189 | 21 => 190 | 22 => 191 | 23 => 192 | 24 => 193 | 25 => 194 | 26 => 195 | 27 => 196 | 46 => 207 | 47 => 208 | 48 => 209 | 49 => 210 | 50 => 211 | 57 => 213 | n => n, fun | 22 => 23 | 24 => 22 | 25 => 114 | 3 => 3 | 39 => 141 | 0 => 0 | 53 => 174 | 55 => 176 | 4 => 4 | 46 => 167 | 45 => 166 | 50 => 171 | 5 => 5 | 9 => 9 | 66 => 184 | 70 => 188 | 76 => 190 | 77 => 191 | n => n, fun | n => n⟩
theorem Tryz.sortRows : Go.Proofs.SlLaysF.n6 Tryz.prog Tryz.sortRows_ren := {
  mixed := by kernel_rfl
  f6 := ⟨Tryz.f112.name, by decide, Tryz.func112.trans (congrArg some (by kernel_rfl))⟩
  f14 := ⟨Tryz.f158.name, by decide, Tryz.func158.trans (congrArg some (by kernel_rfl))⟩
  f15 := Tryz.func159.trans (congrArg some (by kernel_rfl))
  f20 := ⟨Tryz.f189.name, by decide, Tryz.func189.trans (congrArg some (by kernel_rfl))⟩
  f21 := ⟨Tryz.f190.name, by decide, Tryz.func190.trans (congrArg some (by kernel_rfl))⟩
  f22 := ⟨Tryz.f191.name, by decide, Tryz.func191.trans (congrArg some (by kernel_rfl))⟩
  f23 := ⟨Tryz.f192.name, by decide, Tryz.func192.trans (congrArg some (by kernel_rfl))⟩
  f24 := ⟨Tryz.f193.name, by decide, Tryz.func193.trans (congrArg some (by kernel_rfl))⟩
  f25 := ⟨Tryz.f194.name, by decide, Tryz.func194.trans (congrArg some (by kernel_rfl))⟩
  f26 := ⟨Tryz.f195.name, by decide, Tryz.func195.trans (congrArg some (by kernel_rfl))⟩
  f27 := ⟨Tryz.f196.name, by decide, Tryz.func196.trans (congrArg some (by kernel_rfl))⟩
  f28 := Tryz.func197.trans (congrArg some (by kernel_rfl))
  f29 := Tryz.func198.trans (congrArg some (by kernel_rfl))
  f46 := ⟨Tryz.f207.name, by decide, Tryz.func207.trans (congrArg some (by kernel_rfl))⟩
  f47 := Tryz.func208.trans (congrArg some (by kernel_rfl))
  f48 := Tryz.func209.trans (congrArg some (by kernel_rfl))
  f49 := ⟨Tryz.f210.name, by decide, Tryz.func210.trans (congrArg some (by kernel_rfl))⟩
  f50 := ⟨Tryz.f211.name, by decide, Tryz.func211.trans (congrArg some (by kernel_rfl))⟩
  f57 := ⟨Tryz.f213.name, by decide, Tryz.func213.trans (congrArg some (by kernel_rfl))⟩
  t0 := Tryz.underlying0
  a0 := Tryz.isAgg0
  z0 := Tryz.sizeOf0
  v0 := Tryz.zeroValue0
  t3 := Tryz.underlying3
  a3 := Tryz.isAgg3
  z3 := Tryz.sizeOf3
  v3 := Tryz.zeroValue3
  t4 := Tryz.underlying4
  a4 := Tryz.isAgg4
  z4 := Tryz.sizeOf4
  v4 := Tryz.zeroValue4
  t5 := Tryz.underlying5
  a5 := Tryz.isAgg5
  z5 := Tryz.sizeOf5
  v5 := Tryz.zeroValue5
  t9 := Tryz.underlying9
  a9 := Tryz.isAgg9
  z9 := Tryz.sizeOf9
  v9 := Tryz.zeroValue9
  t22 := Tryz.underlying23
  a22 := Tryz.isAgg23
  z22 := Tryz.sizeOf23
  v22 := Tryz.zeroValue23
  a24 := Tryz.isAgg22
  z24 := Tryz.sizeOf22
  t25 := Tryz.underlying114
  a25 := Tryz.isAgg114
  z25 := Tryz.sizeOf114
  v25 := Tryz.zeroValue114
  t39 := Tryz.underlying141
  a39 := Tryz.isAgg141
  z39 := Tryz.sizeOf141
  v39 := Tryz.zeroValue141
  t45 := Tryz.underlying166
  a45 := Tryz.isAgg166
  z45 := Tryz.sizeOf166
  v45 := Tryz.zeroValue166
  t46 := Tryz.underlying167
  a46 := Tryz.isAgg167
  z46 := Tryz.sizeOf167
  v46 := Tryz.zeroValue167
  t50 := Tryz.underlying171
  a50 := Tryz.isAgg171
  z50 := Tryz.sizeOf171
  v50 := Tryz.zeroValue171
  t53 := Tryz.underlying174
  a53 := Tryz.isAgg174
  z53 := Tryz.sizeOf174
  v53 := Tryz.zeroValue174
  t55 := Tryz.underlying176
  a55 := Tryz.isAgg176
  z55 := Tryz.sizeOf176
  v55 := Tryz.zeroValue176
  t66 := Tryz.underlying184
  a66 := Tryz.isAgg184
  z66 := Tryz.sizeOf184
  v66 := Tryz.zeroValue184
  t70 := Tryz.underlying188
  a70 := Tryz.isAgg188
  z70 := Tryz.sizeOf188
  v70 := Tryz.zeroValue188
  t76 := Tryz.underlying190
  a76 := Tryz.isAgg190
  z76 := Tryz.sizeOf190
  v76 := Tryz.zeroValue190
  t77 := Tryz.underlying191
  a77 := Tryz.isAgg191
  z77 := Tryz.sizeOf191
  v77 := Tryz.zeroValue191 }
end Go.Proofs.YtchbegeklckgnaaGreat

/- A row that the call has built, sorted by the library: any elements of one cell. (After the library's Sort/OwnSortedInts, at a general reading.) -/
namespace Go.Proofs.YtchbegeklckgnaaGreat
open Go.Proofs Go.Shelf Go.RowKit Go.Lib Go.Sort

section
variable {α : Type} [Inhabited α] {enc : α → Value}
theorem holds_of_blockV {w : World} {g : Nat} {cur : Array Value} {e : TypeId} {ss : List α} (hb : w.heap[g]? = some (.cells cur e (0, 0))) (ht : cur.toList.take ss.length = ss.map enc) : Go.Sort.Holds enc w g 0 ss.toArray := by
  intro j hj
  have hj' : j < ss.length := by simpa using hj
  refine ⟨?_, by simp [World.frozen?, hb]⟩
  have h1 : (cur.toList.take ss.length)[j]? = (ss.map enc)[j]? := by rw [ht]
  rw [List.getElem?_take_of_lt hj'] at h1
  simp only [World.cell?, hb, Nat.zero_add]
  simp only [Option.isSome_none, Bool.false_eq_true, if_false]
  rw [← Array.getElem?_toList, h1]
  simp [hj']

theorem heap_sortedV {w : World} {g n : Nat} {os : Array Obj} {cur : Array Value} {e : TypeId} {fr : Nat × Nat} (d : Array α) (hb : w.heap[g]? = some (.cells cur e fr)) :
    (sortWorld enc w g 0 n d os).heap[g]? = some (.cells (putCells enc 0 d cur) e fr) := by
  have hg : g < w.heap.size := (Array.getElem?_eq_some_iff.1 hb).1
  unfold sortWorld
  rw [heap_grow_old _ _ (by simpa using hg)]
  simp [putRow, mapBlock, Sort.ahead, Array.getElem?_modify, hb, onCells]

theorem grownBy_sortedV {w : World} {g n : Nat} {os : Array Obj} (d : Array α) : w.grownBy (sortWorld enc w g 0 n d os) (some g) := by
  unfold sortWorld
  refine ⟨rfl, rfl, rfl, by simp, fun k hk hne => ?_⟩
  rw [heap_grow_old _ _ (by simpa using hk)]
  have : g ≠ k := fun e => hne (by rw [e])
  simp [putRow, mapBlock, Sort.ahead, Array.getElem?_modify, this]

theorem take_putCellsV (cur : Array Value) (ts : List α) (h : ts.length ≤ cur.size) : (putCells enc 0 ts.toArray cur).toList.take ts.length = ts.map enc := by
  apply List.ext_getElem?
  intro j
  by_cases hj : j < ts.length
  · rw [List.getElem?_take_of_lt hj, Array.getElem?_toList]
    simp [putCells, hj, show j < cur.size by omega]
  · rw [List.getElem?_take_eq_none (by omega), List.getElem?_eq_none (by simp; omega)]

theorem ownsRow_sortedV {w : World} {base g cap n : Nat} {e : TypeId} {os : Array Obj} {cur : Array Value} {ss ts : List α} (hl : ts.length = ss.length) (hbase : base ≤ g) (hb : w.heap[g]? = some (.cells cur e (0, 0)))
    (h1 : ss.length ≤ cap) (h2 : cap ≤ maxLen) (h3 : cur.size = cap * 1) :
    (sortWorld enc w g 0 n ts.toArray os).ownsRow base e 1 (.slice (some ⟨g, 0, none⟩) ss.length cap) ss.length (ts.map enc) :=
  ⟨by simp [hl], .inr ⟨g, cap, _, rfl, hbase, heap_sortedV _ hb, h1, h2, by simp [putCells, h3], by rw [Nat.mul_one, ← hl]; exact take_putCellsV cur ts (by omega)⟩⟩
end

/-- a slice value of the row, nil beyond it -/
def encAt (vs : List Value) (k : Nat) : Value := if k < vs.length then gt vs k else .slice none 0 0
def cfAt (L : List (List Int)) (i j : Nat) : Int := cmpL (gt L i) (gt L j)

theorem ltOf_true {L : List (List Int)} {x y : Nat} : ltOf (cfAt L) x y = true ↔ cmpL (gt L x) (gt L y) < 0 := by unfold ltOf; rw [decide_eq_true_iff]; rfl
theorem ltOf_false {L : List (List Int)} {x y : Nat} : ltOf (cfAt L) x y = false ↔ 0 ≤ cmpL (gt L x) (gt L y) := by
  unfold ltOf; rw [decide_eq_false_iff_not]; show ¬ (cmpL (gt L x) (gt L y) < 0) ↔ _; omega

theorem swo_cfAt (L : List (List Int)) : SWO (ltOf (cfAt L)) where
  irrefl x := by
    have := (cmpL_zero (gt L x) (gt L x)).2 rfl
    rw [ltOf_false]; omega
  trans x y z h k := by
    rw [ltOf_true] at *
    have h1 := cmpL_le_trans (gt L x) (gt L y) (gt L z) (by omega) (by omega)
    have h2 : cmpL (gt L x) (gt L z) ≠ 0 := by
      intro e
      rw [cmpL_zero] at e
      rw [e] at h
      have := cmpL_swap (gt L z) (gt L y)
      omega
    omega
  ntrans x y z h k := by
    rw [ltOf_false] at *
    have h1 := cmpL_swap (gt L x) (gt L y)
    have h2 := cmpL_swap (gt L y) (gt L z)
    have h3 := cmpL_swap (gt L x) (gt L z)
    have h4 := cmpL_le_trans (gt L z) (gt L y) (gt L x) (by omega) (by omega)
    omega

theorem encAt_one {vs : List Value} (h : ∀ i, i < vs.length → (gt vs i).oneCell' = true) : OneCell (encAt vs) := by
  intro k
  unfold encAt
  split
  · exact h k (by assumption)
  · rfl

theorem gt_inj {α : Type} [Inhabited α] {l : List α} (h : l.Nodup) {i j : Nat} (hi : i < l.length) (hj : j < l.length) (he : gt l i = gt l j) : i = j := by
  simp only [gt, List.getD_eq_getElem?_getD, List.getElem?_eq_getElem hi, List.getElem?_eq_getElem hj, Option.getD_some] at he
  rcases Nat.lt_trichotomy i j with h1 | h1 | h1
  · exact absurd he (List.pairwise_iff_getElem.1 h i j hi hj h1)
  · exact h1
  · exact absurd he.symm (List.pairwise_iff_getElem.1 h j i hj hi h1)

/-- slices.SortFunc with slices.Compare on rows that the call has built -/
theorem sortRows_ok (w : World) (v : Value) (L : List (List Int)) (B : Nat) (hL : RowsO B w v L) (hne : 0 < L.length) (hlen : L.length ≤ 1000000) :
    Calls Tryz.prog 112 #[v, .func (.func 113) #[] #[]] w fun e w' => e = .returned (.tuple #[]) ∧ RowsO B w' v (sortL L) ∧ w.grownBy w' v.ownBlock := by
  obtain ⟨vs, G, hvl, hO, hG, hd, hE⟩ := hL
  obtain ⟨_, ⟨rfl, h0⟩ | ⟨g, cap, cur, rfl, hBg, hb, hnc, hcm, hsz, hx⟩⟩ := hO
  · omega
  have hgs : g < w.heap.size := (Array.getElem?_eq_some_iff.1 hb).1
  have hone : OneCell (encAt vs) := encAt_one fun i hi => by
    exact rdOwn.one (hE i (by omega))
  have hmap : (List.range L.length).map (encAt vs) = vs := by
    apply List.ext_getElem (by simp [hvl])
    intro j h1 h2
    simp [encAt, gt, h2]
  have hH : Go.Sort.Holds (encAt vs) w g 0 (List.range L.length).toArray := holds_of_blockV hb (by rw [hmap, List.length_range, ← hvl]; simpa using hx)
  have eg : ∀ args w, (callFunc 113 args).run Tryz.prog w = .ok (.enter 113 args) w := enters_of Tryz.func113 (by kernel_rfl) rfl
  have hcmp : CmpReads Tryz.prog 113 #[] (encAt vs) (cfAt L) g 0 (List.range L.length).toArray.size w := by
    intro m os dk _ x y
    have hgr : w.grownBy (sortWorld (encAt vs) w g 0 m dk os) (some g) := grownBy_sortedV dk
    have hread : ∀ k, Ints Any (sortWorld (encAt vs) w g 0 m dk os) (encAt vs k) (gt L k) := by
      intro k
      by_cases hk : k < vs.length
      · have he := (hE k (by omega)).ints
        unfold encAt
        rw [if_pos hk]
        exact Ints.mono he (fun b hb2 hlt => ⟨trivial, Nat.lt_of_lt_of_le hlt hgr.size, hgr.block b hlt (fun e => (hG k b (by omega) hb2).2.1 (by cases e; rfl))⟩)
      · have h1 : gt L k = [] := by simp [gt, show ¬ k < L.length by omega]; rfl
        unfold encAt
        rw [if_neg hk, h1]
        exact ⟨none, 0, rfl, ⟨by simp, by simp, fun _ => rfl⟩, fun i hi => by simp at hi⟩
    refine (sCompare_ok _ _ _ _ _ _ _ (hread x) (hread y)).mono ?_
    rintro e w' ⟨rfl, rfl⟩
    exact ⟨rfl, 0, rfl⟩
  have hcon := Any.slices_SortFunc Tryz.sortRows (encAt vs) hone (cfAt L) (swo_cfAt L) 113 #[] g 0 cap (List.range L.length).toArray w eg hcmp.lays hH hgs (by simp; omega)
  change Calls Tryz.prog 112 _ _ _ at hcon
  have hsz2 : (List.range L.length).toArray.size = vs.length := by simp [hvl]
  rw [hsz2] at hcon
  refine hcon.mono ?_
  rintro e w' ⟨he, d', n, os, ⟨hs1, _, hperm⟩, hsorted, rfl⟩
  have hts : d'.toList.length = L.length := by simpa [hvl] using hs1
  have hP : d'.toList.Perm (List.range L.length) := by
    have h1 : d'.extract 0 vs.length = d' := by
      apply Array.ext'
      rw [hvl, ← hts]; simp
    have h2 : (List.range L.length).toArray.extract 0 vs.length = (List.range L.length).toArray := by
      apply Array.ext'
      rw [hvl]; simp
    rw [h1, h2] at hperm
    simpa using hperm
  have hin : ∀ i, i < L.length → gt d'.toList i < L.length := fun i hi => by
    have := hP.subset (gt_mem (l := d'.toList) (i := i) (by omega))
    simpa using this
  have hnd : d'.toList.Nodup := hP.symm.nodup List.nodup_range
  have hmapL : (List.range L.length).map (gt L) = L := by
    apply List.ext_getElem (by simp)
    intro j h1 h2
    simp [gt, h2]
  have hsort : d'.toList.map (gt L) = sortL L := by
    refine sortL_unique ?_ ?_
    · have := hP.map (gt L)
      rwa [hmapL] at this
    · refine List.pairwise_iff_getElem.2 ?_
      intro i j hi hj hij
      have hi' : i < d'.size := by simpa using hi
      have hj' : j < d'.size := by simpa using hj
      have h1 := hsorted i j (Nat.zero_le _) hij (by rw [hs1, hsz2] at hj'; exact hj')
      rw [ltOf_false, getElem!_pos d' i hi', getElem!_pos d' j hj'] at h1
      have h2 := cmpL_swap (gt L d'[j]) (gt L d'[i])
      simp only [List.getElem_map, Array.getElem_toList]
      omega
  have hgr : w.grownBy (sortWorld (encAt vs) w g 0 n d' os) (some g) := grownBy_sortedV d'
  have hgv : ∀ i, i < L.length → gt (d'.toList.map (encAt vs)) i = gt vs (gt d'.toList i) := fun i hi => by
    have h1 : gt (d'.toList.map (encAt vs)) i = encAt vs (gt d'.toList i) := gt_map _ _ _ (by omega)
    rw [h1]; unfold encAt; rw [if_pos (by rw [hvl]; exact hin i hi)]
  have hgL : ∀ i, i < L.length → gt (sortL L) i = gt L (gt d'.toList i) := fun i hi => by
    rw [← hsort]; exact gt_map _ _ _ (by omega)
  have hsl : (sortL L).length = L.length := (sortL_perm L).length_eq
  refine ⟨he, ⟨d'.toList.map (encAt vs), fun i k => G (gt d'.toList i) k, by simp [hsl, ← hts], ?_, ?_, ?_, ?_⟩, hgr⟩
  · have := ownsRow_sortedV (enc := encAt vs) (n := n) (os := os) (ss := List.range L.length) (ts := d'.toList) (by rw [hts, List.length_range]) hBg hb (by rw [List.length_range, ← hvl]; exact hnc) hcm hsz
    rw [List.length_range, ← hvl] at this
    unfold OwnV
    rw [show (d'.toList.map (encAt vs)).length = vs.length by rw [List.length_map, hts, hvl]]
    simpa using this
  · intro i k hi hk
    obtain ⟨a1, a2, a3⟩ := hG _ k (hin i (by omega)) hk
    exact ⟨a1, a2, Nat.lt_of_lt_of_le a3 hgr.size⟩
  · intro i j k hi hj hk hk'
    exact gt_inj hnd (by omega) (by omega) (hd _ _ k (hin i (by omega)) (hin j (by omega)) hk hk')
  · intro i hi
    show OwnIn _ _ _ _
    rw [hgv i (by omega), hgL i (by omega)]
    have he := hE _ (hin i (by omega))
    exact rdOwn.mono he (fun b hb2 hlt => ⟨hb2, Nat.lt_of_lt_of_le hlt hgr.size, hgr.block b hlt (fun e => (hG _ b (hin i (by omega)) hb2).2.1 (by cases e; rfl))⟩)

end Go.Proofs.YtchbegeklckgnaaGreat

/- impl.elementsOf. -/
namespace Go.Proofs.YtchbegeklckgnaaGreat
open Go.RowKit

/-- the blocks below m that lie in a set of an index from i on -/
def Rest (m : Nat) (F : Nat → Nat → Prop) (i n : Nat) : Nat → Prop := fun k => k < m ∧ ∃ j, i ≤ j ∧ j < n ∧ F j k

theorem SlOA.nil {α : Type} [Inhabited α] (El : (Nat → Prop) → World → Value → α → Prop) (E B : Nat) (A : Nat → Prop) (w : World) : SlOA El E B A w (.slice none 0 0) ([] : List α) :=
  ⟨[], fun _ _ => False, rfl, World.ownsRow_nil _ _ _ _, by simp, by simp, by simp, by simp, by simp [Value.ownBlock]⟩

set_option maxRecDepth 100000 in
set_option maxHeartbeats 4000000 in
theorem elementsOf_ok (P : Pr) (G : Grp P) (w : World) (p uv : Value) (U : List (List Int)) (Sp Su : Nat → Prop) (hp : PresP Sp w p P) (hu : Rows2 Su w uv U) (hU : SeqOk P U) (hl : U.length ≤ 6) :
    Calls Tryz.prog 63 #[p, uv] w (Ret w fun w' v => RowsO w.heap.size w' v (sortL (elsP P U U.length))) := by
  have hP := G.v
  have hn6 := hP.n6
  obtain ⟨pb, po, rfl⟩ := hp.shape
  obtain ⟨ao, capo, hco0, hoi⟩ := hp.ordAt
  obtain ⟨au, capu, rfl, _, _⟩ := Sl.shape hu
  have hUz : ∀ z ∈ U, dep z < z.length := fun z hz => by have := hU.1 z hz; rw [this.1.1]; exact this.2.1
  have HU := Lib.hid hU; clear hU
  go_enter Tryz.func63, Tryz.ntmps63
  go_wp2_with (first | (at_make; refine wp_make_ints rfl _ _ rfl w.heap.size P.orders.length w.heap.size rfl _ rfl rfl rfl (by omega) (Nat.le_refl _) ?_; intro w1 ho1 hg1 hlt1) | fail)
  have hz1 : OwnIn (From w.heap.size) w1 (.slice (some ⟨w.heap.size, 0, none⟩) P.orders.length P.orders.length) (zeros P.orders.length) := OwnIn.of ho1 (by simp [zeros]; omega) (fun j h1 _ => h1)
  have hO1 := rowsOne hz1 hg1.size
  have hga : Ext w1 (w1.alloc (.cells #[.slice (some ⟨w.heap.size, 0, none⟩) P.orders.length P.orders.length] 22)) := World.grownBy_alloc _ _ _
  have hg2 := grown_trans hg1 hga
  clear ho1 hz1 hga hg1 hlt1
  generalize hw2 : w1.alloc (.cells #[.slice (some ⟨w.heap.size, 0, none⟩) P.orders.length P.orders.length] 22) = w2 at *
  clear hw2
  refine Calls.mono (pivots_ok _ U w2 Su (Rows2.ext hu hg2) hUz (by omega)) ?_
  rintro e3 w3 ⟨pv, rfl, hg3, hV3⟩
  have hg03 := grown_trans hg2 hg3
  have hO3 := SlO.ext rdOwn hO1 hg3
  clear hO1 hg2 hg3 hUz
  have hpvs : ∃ az capz, pv = .slice az U.length capz := by
    rcases hV3.form with ⟨h1, h2⟩ | ⟨g, cp, h1, _⟩
    · have h3 : U.length = 0 := by unfold depV at h2; rw [List.map_eq_nil_iff] at h2; rw [h2]; rfl
      exact ⟨none, 0, by rw [h1, h3]⟩
    · exact ⟨_, _, by rw [h1]; unfold depV; rw [List.length_map]⟩
  obtain ⟨ap, capp, rfl⟩ := hpvs
  go_wp2
  go_loopw [5, 21] (fun ov iv wr => ∃ (k : Nat) (v4 : Value), v4 = ov ∧ iv = .int .i64 k ∧ k ≤ U.length ∧ Ext w3 wr ∧ RowsO w.heap.size wr v4 (elsP P U k)) (fun _ iv _ => U.length - (intOf iv).toNat)
  case atStart => exact ⟨0, _, rfl, rfl, by omega, Ext.refl _, hO3⟩
  case round =>
    clear hO3
    obtain ⟨k, v4, rfl, rfl, hk, hg, hO⟩ := hrel
    have hXl0 := elsP_len hP HU.out k hk
    have hX729 := prodU_729 hP HU.out k hk
    by_cases hlt : k < U.length
    · have hlt' : (k : Int) < U.length := by omega
      have hdi : gt (depV U) k = .int .i64 (dep (gt U k)) := by unfold depV; rw [gt_map _ _ _ hlt]
      have hpf : ∃ g, ap = some ⟨g, 0, none⟩ := by
        rcases hV3.form with ⟨h1, h2⟩ | ⟨g, cp, h1, _⟩
        · unfold depV at h2; rw [List.map_eq_nil_iff] at h2; rw [h2] at hlt; simp at hlt
        · simp only [Value.slice.injEq] at h1; exact ⟨g, h1.1⟩
      obtain ⟨gp, rfl⟩ := hpf
      have hcp3 := hV3.cell k (by unfold depV; rw [List.length_map]; exact hlt)
      rw [hdi] at hcp3
      clear hdi
      have hcp := hg.cell hcp3 (by simp)
      clear hcp3
      obtain ⟨d, hd⟩ : ∃ d, d = dep (gt U k) := ⟨_, rfl⟩
      obtain ⟨z, hz⟩ : ∃ z, z = gt U k := ⟨_, rfl⟩
      have hdn : d < P.orders.length := by rw [hd]; exact (HU.out.1 _ (gtMem hlt)).2.1
      have hzV : Vec P.orders z := by rw [hz]; exact (HU.out.1 _ (gtMem hlt)).1
      obtain ⟨o, ho⟩ : ∃ o, o = (gt P.orders d).toNat := ⟨_, rfl⟩
      have ho7 := hP.ord7 d hdn
      have hoo : gt P.orders d = (o : Int) := by omega
      obtain ⟨X, hX⟩ : ∃ X, X = elsP P U k := ⟨_, rfl⟩
      have hXn : elsP P U (k + 1) = X.flatMap (stepE P z o) := by rw [hX, ho, hd, hz]; rfl
      have hXV : ∀ x ∈ X, Vec P.orders x := by rw [hX]; exact elsP_sub G.sub_all (fun z hz => (HU.out.1 z hz).1) k hk
      rw [← hd] at hcp
      rw [← hX] at hO hXl0
      have hXl : X.length ≤ 729 := by omega
      have hX1 : 1 ≤ X.length := by omega
      clear hXl0 hX729
      obtain ⟨vs, F, hvl, hOv, hF, hFd, hFE⟩ := hO
      obtain ⟨gx, capx, hv4⟩ : ∃ gx capx, v4 = .slice (some ⟨gx, 0, none⟩) X.length capx := by
        rcases hOv.form with ⟨h1, h2⟩ | ⟨g, cp, h1, _⟩
        · rw [h2] at hvl; simp at hvl; omega
        · exact ⟨g, cp, by rw [h1, hvl]⟩
      subst hv4
      have HX := Lib.hid (And.intro hXn (And.intro hXV (And.intro hX (And.intro hd (And.intro hz ho))))); clear hXn hXV hX hd ho
      obtain ⟨wo, rfl⟩ : ∃ wo : World, wo = wr := ⟨_, rfl⟩
      have hgw := grown_trans hg03 hg
      obtain ⟨bo, oo, rfl, _, _, hcod⟩ := Ints.at (hoi.ext hgw) d hdn
      have hc0 := hgw.cell hco0 (by simp)
      obtain ⟨bu, ou, a2, cap2, hau, _, _, hcu, hui⟩ := Rows2.at hu k hlt
      subst hau
      rw [← hz] at hcu hui
      have hcu := hgw.cell hcu (by simp)
      clear hz
      have hdn' : (d : Int) < P.orders.length := by omega
      have HC := Lib.hid (And.intro hc0 (And.intro hcod hcu)); clear hc0 hcod hcu
      go_wp2
      clear hcp
      go_loopw [8, 28] (fun nv jv wr => ∃ (j : Nat) (v5 : Value), v5 = nv ∧ jv = .int .i64 j ∧ j ≤ X.length ∧ Ext wo wr ∧ SlOA OwnIn 22 w.heap.size (Rest wo.heap.size F j X.length) wr v5 ((X.take j).flatMap (stepE P z o)) ∧ Hid (∀ b, v5.ownBlock = some b → wo.heap.size ≤ b)) (fun _ jv _ => X.length - (intOf jv).toNat)
      case atStart => exact ⟨0, _, rfl, rfl, by omega, Ext.refl _, SlOA.nil _ _ _ _ _, Lib.hid (fun b hb => by simp [Value.ownBlock] at hb)⟩
      case round =>
        obtain ⟨j, v5, rfl, rfl, hj, hgm, hA, hob⟩ := hrel
        by_cases hjl : j < X.length
        · have hjl' : (j : Int) < X.length := by omega
          have hxE := hFE j hjl
          obtain ⟨ax, cx, hvx, _, _⟩ := hxE.ints.shape
          have hcx := hgm.cell (hOv.cell j (by omega)) (by simp)
          rw [hvx] at hcx hxE
          have hc0 := hgm.cell HC.out.1 (by simp)
          have hcod := hgm.cell HC.out.2.1 (by simp)
          rw [hoo] at hcod
          have hxV := HX.out.2.1 _ (gtMem hjl)
          have hxe : rMul P (gt X j) (pw P z 0) = gt X j := G.grp.er _ hxV
          have hpl : ((X.take j).flatMap (stepE P z o)).length ≤ 729 * 7 := by
            rw [flatMap_len, List.length_take]
            exact Nat.mul_le_mul (by omega) (by omega)
          have HPL := Lib.hid (And.intro hxV (And.intro hxe hpl)); clear hxV hxe hpl hvx
          obtain ⟨x, hx⟩ : ∃ x, x = gt X j := ⟨_, rfl⟩
          rw [← hx] at hcx hxE HPL
          have HXJ := Lib.hid hx; clear hx
          have hxE2 := rdOwn.mono (F' := F j) hxE (fun b hb hlt => ⟨hb, Nat.lt_of_lt_of_le hlt hgm.size, hgm.block b hlt (by simp)⟩)
          go_wp2
          clear hc0 hcod hcx
          go_loopw [8, 10, 39] (fun nv xv tv wr => ∃ (t : Nat) (v6 : Value) (Y : List Int) (A Fx : Nat → Prop), v6 = nv ∧ tv = .int .i64 t ∧ t ≤ o ∧ Ext wo wr ∧ OwnIn Fx wr xv Y ∧ SlOA OwnIn 22 w.heap.size A wr v6 ((X.take j).flatMap (stepE P z o) ++ stepE P z t x) ∧
              Hid (Y = rMul P x (pw P z t) ∧ (∀ b, Fx b → b < wr.heap.size → A b ∧ w.heap.size ≤ b) ∧ (∀ b, Rest wo.heap.size F (j + 1) X.length b → A b ∧ ¬ Fx b) ∧ (∀ b, A b → b < wr.heap.size) ∧ ∀ b, v6.ownBlock = some b → wo.heap.size ≤ b)) (fun _ _ tv _ => o - (intOf tv).toNat)
          case atStart =>
            refine ⟨0, v5, x, Rest wo.heap.size F j X.length, F j, rfl, rfl, by omega, hgm, hxE2, ?_, Lib.hid ⟨HPL.out.2.1.symm, fun b hb _ => ?_, fun b hb => ?_, fun b hb => Nat.lt_of_lt_of_le hb.1 hgm.size, hob.out⟩⟩
            · unfold stepE; rw [List.range_zero, List.map_nil, List.append_nil]; exact hA
            · obtain ⟨f1, _, f3⟩ := hF j b hjl hb
              exact ⟨⟨f3, j, Nat.le_refl _, hjl, hb⟩, f1⟩
            · obtain ⟨h1, i, h2, h3, h4⟩ := hb
              exact ⟨⟨h1, i, by omega, h3, h4⟩, fun h => by have := hFd i j b h3 hjl h4 h; omega⟩
          case round =>
            clear hxE2 hA hob hxE
            obtain ⟨t, v6, Y, A, Fx, rfl, rfl, ht, hgi, hxv, hA, hH⟩ := hrel
            by_cases htl : t < o
            · have htl' : (t : Int) < o := by omega
              obtain ⟨ay, cy, hvy, _, _⟩ := hxv.ints.shape
              subst hvy
              have hgwr := grown_trans hgw hgi
              have hYV : Vec P.orders Y := by rw [hH.out.1]; exact G.mulV HPL.out.1 (G.pw_vec hzV t)
              have hYn : tv P Y z = rMul P x (pw P z (t + 1)) := by rw [G.tv_eq hYV hzV, hH.out.1, G.step_mul HPL.out.1 hzV]
              have hsl : ((X.take j).flatMap (stepE P z o) ++ stepE P z t x).length ≤ 1000000 := by
                rw [List.length_append, stepE_len]; have := HPL.out.2.2; omega
              have hYV2 := G.mulV HPL.out.1 (G.pw_vec hzV (t + 1))
              have HY := Lib.hid (And.intro hYV (And.intro hYn (And.intro hsl hYV2))); clear hYV hYn hsl hYV2
              have hcur := hgi.cell HC.out.2.2 (by simp)
              go_wp2_with (first | (at_builtin; refine wp_app_take rfl _ _ rfl w.heap.size A (Rest wo.heap.size F (j + 1) X.length) Fx wr v6 _ _ Y rfl hA hxv hH.out.2.1 hH.out.2.2.1 hH.out.2.2.2.1 rfl rfl HY.out.2.2.1 hgwr.size ?_; intro v7 w7 hA7 hg7 hob7; have hcur7 := grown_own hgi hg7 (fun b hb hlt => by have := hH.out.2.2.2.2 b hb; omega); have hcu7 := hcur7.cell HC.out.2.2 (by simp)) | fail)
              have hxv7 : Ints Any w7 (.slice ay Y.length cy) Y := Ints.mono hxv.ints (fun b hb hlt => ⟨trivial, Nat.lt_of_lt_of_le hlt hg7.size, hg7.block b hlt (fun e => by
                obtain ⟨a1, _⟩ := hH.out.2.1 b hb hlt
                exact (hA.avoids b e.symm).1 a1)⟩)
              have hgw7 := grown_trans hgw hcur7
              refine Calls.mono (multiply_ok P hP w7 _ _ _ Y z Sp Any Su (hp.ext hgw7) hxv7 (Ints.ext hui hgw7) HY.out.1 hzV) ?_
              rintro eC wC ⟨vC, rfl, hgC, hOC⟩
              rw [HY.out.2.1] at hOC
              have hOC2 : OwnIn (fun b => w7.heap.size ≤ b ∧ b < wC.heap.size) wC vC (rMul P x (pw P z (t + 1))) := OwnIn.of hOC (by rw [HY.out.2.2.2.1]; omega) (fun j h1 h2 => ⟨h1, h2⟩)
              have hA8 : SlOA OwnIn 22 w.heap.size (fun b => Rest wo.heap.size F (j + 1) X.length b ∨ (w7.heap.size ≤ b ∧ b < wC.heap.size)) wC v7 ((X.take j).flatMap (stepE P z o) ++ stepE P z (t + 1) x) := by
                rw [stepE_succ, ← List.append_assoc, ← hH.out.1]
                exact (hA7.more (fun b hb => hb.elim .inl (fun h => .inr h.1))).ext rdOwn hgC
              have hH2 : Hid ((∀ b, (w7.heap.size ≤ b ∧ b < wC.heap.size) → b < wC.heap.size → (Rest wo.heap.size F (j + 1) X.length b ∨ (w7.heap.size ≤ b ∧ b < wC.heap.size)) ∧ w.heap.size ≤ b) ∧ (∀ b, Rest wo.heap.size F (j + 1) X.length b → (Rest wo.heap.size F (j + 1) X.length b ∨ (w7.heap.size ≤ b ∧ b < wC.heap.size)) ∧ ¬ (w7.heap.size ≤ b ∧ b < wC.heap.size)) ∧
                  (∀ b, Rest wo.heap.size F (j + 1) X.length b ∨ (w7.heap.size ≤ b ∧ b < wC.heap.size) → b < wC.heap.size) ∧ ∀ b, v7.ownBlock = some b → wo.heap.size ≤ b) := by
                refine Lib.hid ⟨fun b hb _ => ⟨.inr hb, by have := hgw7.size; omega⟩, fun b hb => ⟨.inl hb, fun h => by have := hb.1; have := hcur7.size; omega⟩, fun b hb => ?_, fun b hb => ?_⟩
                · rcases hb with h | h
                  · have := h.1; have := hcur7.size; have := hgC.size; omega
                  · exact h.2
                · rcases hob7 with h | h
                  · exact hH.out.2.2.2.2 b (by rw [← h]; exact hb)
                  · have := h b hb; have := hgi.size; omega
              clear hA hH hxv hA7 hob7 hOC hxv7 hcu7 hcur
              go_wp2
              go_roundw
              case rel => exact ⟨t + 1, v7, _, _, _, rfl, by go_num, by omega, grown_trans hcur7 hgC, hOC2, hA8, Lib.hid ⟨rfl, hH2.out⟩⟩
              case measure => simp [intOf]; omega
            · have hte : t = o := by omega
              subst hte
              have hst := flatMap_take_succ X (stepE P z t) j hjl
              rw [← HXJ.out] at hst
              have hA9 : SlOA OwnIn 22 w.heap.size (Rest wo.heap.size F (j + 1) X.length) wr v6 ((X.take (j + 1)).flatMap (stepE P z t)) := by
                rw [hst]; exact hA.less (fun b hb => (hH.out.2.2.1 b hb).1)
              have hob9 := Lib.hid hH.out.2.2.2.2
              clear hst hA hH hxv
              go_wp2
              go_roundw
              case rel => exact ⟨j + 1, v6, rfl, by go_num, by omega, hgi, hA9, hob9⟩
              case measure => simp [intOf]; omega
        · have hje : j = X.length := by omega
          subst hje
          have hO9 : RowsO w.heap.size wr v5 (elsP P U (k + 1)) := by
            rw [HX.out.1]
            have := hA.o
            rw [List.take_length] at this
            exact this
          clear hA hob
          go_wp2
          go_roundw
          case rel => exact ⟨k + 1, v5, rfl, by go_num, by omega, grown_trans hg hgm, hO9⟩
          case measure => simp [intOf]; omega
    · have hke : k = U.length := by omega
      subst hke
      have hne : 0 < (elsP P U U.length).length := by omega
      have hl9 : (elsP P U U.length).length ≤ 1000000 := by omega
      obtain ⟨az, capz, hvz, _, _⟩ := SlD.shape (hO.toD (by omega))
      have HN := Lib.hid (And.intro hne hl9); clear hXl0 hX729 hne hl9
      subst hvz
      go_wp2_with fail
      refine Calls.mono (sortRows_ok wr _ (elsP P U U.length) w.heap.size hO HN.out.1 HN.out.2) ?_
      rintro eS wS ⟨rfl, hOS, hgS⟩
      have hgwS : Ext w wS := grown_own (grown_trans hg03 hg) hgS (fun b hb hlt => by have := (hO.lt b hb).1; omega)
      clear hO
      go_wp2
      go_ret
      exact ⟨_, rfl, hgwS, hOS⟩

end Go.Proofs.YtchbegeklckgnaaGreat

/- laws.toPresentation: a copy of a presentation, each part in blocks of its own. -/
namespace Go.Proofs.YtchbegeklckgnaaGreat
open Go.RowKit

/-- a presentation by value whose parts lie in blocks of their own, all in F -/
def PresW (F : Nat → Prop) (w : World) (v : Value) (P : Pr) : Prop :=
  ∃ vo vp vc Fo Fp Fc, v = .agg #[vo, vp, vc] ∧ OwnIn Fo w vo P.orders ∧ RowsW Fp w vp P.powers ∧ Rows3W Fc w vc P.conj ∧
    (∀ k, Fo k → F k ∧ ¬ Fp k ∧ ¬ Fc k) ∧ (∀ k, Fp k → F k ∧ ¬ Fc k) ∧ (∀ k, Fc k → F k)

theorem PresW.mono {F F' : Nat → Prop} {w w' : World} {v : Value} {P : Pr} (h : PresW F w v P) (hb : ∀ k, F k → k < w.heap.size → F' k ∧ k < w'.heap.size ∧ w'.heap[k]? = w.heap[k]?) : PresW F' w' v P := by
  obtain ⟨vo, vp, vc, Fo, Fp, Fc, rfl, h1, h2, h3, h4, h5, h6⟩ := h
  refine ⟨vo, vp, vc, fun k => Fo k ∧ k < w.heap.size, fun k => Fp k ∧ k < w.heap.size, fun k => Fc k ∧ k < w.heap.size, rfl, rdOwn.mono h1 (fun k hk hlt => ⟨⟨hk, hlt⟩, (hb k (h4 k hk).1 hlt).2⟩),
    rdRowsW.mono h2 (fun k hk hlt => ⟨⟨hk, hlt⟩, (hb k (h5 k hk).1 hlt).2⟩), SlD.mono rdRowsW h3 (fun k hk hlt => ⟨⟨hk, hlt⟩, (hb k (h6 k hk) hlt).2⟩), fun k hk => ?_, fun k hk => ?_, fun k hk => ?_⟩
  · exact ⟨(hb k (h4 k hk.1).1 hk.2).1, fun h => (h4 k hk.1).2.1 h.1, fun h => (h4 k hk.1).2.2 h.1⟩
  · exact ⟨(hb k (h5 k hk.1).1 hk.2).1, fun h => (h5 k hk.1).2 h.1⟩
  · exact (hb k (h6 k hk.1) hk.2).1

theorem PresW.ext {F : Nat → Prop} {w w' : World} {v : Value} {P : Pr} (h : PresW F w v P) (hg : Ext w w') : PresW F w' v P := h.mono (frame_ext hg)

theorem PresW.v {F : Nat → Prop} {w : World} {v : Value} {P : Pr} (h : PresW F w v P) : PresV F w v P := by
  obtain ⟨vo, vp, vc, Fo, Fp, Fc, rfl, h1, h2, h3, h4, h5, h6⟩ := h
  exact ⟨vo, vp, vc, rfl, ⟨Ints.sub h1.ints (fun k hk _ => (h4 k hk).1), Rows2.sub (RowsD.rows (RowsW.d h2)) (fun k hk _ => (h5 k hk).1), Rows3.sub (Rows3D.rows (Rows3W.d h3)) (fun k hk _ => h6 k hk)⟩⟩

theorem PresW.shape {F : Nat → Prop} {w : World} {v : Value} {P : Pr} (h : PresW F w v P) : ∃ a c a2 c2 a3 c3, v = .agg #[.slice a P.orders.length c, .slice a2 P.powers.length c2, .slice a3 P.conj.length c3] := by
  obtain ⟨vo, vp, vc, Fo, Fp, Fc, rfl, h1, h2, h3, _⟩ := h
  obtain ⟨a, c, rfl, _⟩ := h1.ints.shape
  obtain ⟨a2, c2, rfl, _⟩ := SlD.shape h2
  obtain ⟨a3, c3, rfl, _⟩ := SlD.shape h3
  exact ⟨_, _, _, _, _, _, rfl⟩

theorem ext_store {w wB : World} {rc : Nat} (hg : Ext w wB) (hrc : w.heap.size ≤ rc) (k : Nat) (v : Value) : Ext w (wB.setCell ⟨rc, k, none⟩ v) :=
  grown_own hg ⟨rfl, rfl, rfl, by simp [World.setCell], fun j _ hj => Below.heap_setCell _ _ _ _ (by intro e; exact hj (by rw [e]))⟩ (q := some rc) (fun j hj hlt => by cases hj; omega)

/-- a struct of three cells that may be written -/
def Box3 (W : World) (b : Nat) (x0 x1 x2 : Value) : Prop :=
  b < W.heap.size ∧ W.cell? ⟨b, 0, none⟩ = some x0 ∧ W.cell? ⟨b, 1, none⟩ = some x1 ∧ W.cell? ⟨b, 2, none⟩ = some x2 ∧ ∀ k, W.frozen? ⟨b, k, none⟩ = false
theorem Box3.ext {W W' : World} {b : Nat} {x0 x1 x2 : Value} (h : Box3 W b x0 x1 x2) (hg : Ext W W') : Box3 W' b x0 x1 x2 := by
  obtain ⟨h0, h1, h2, h3, h4⟩ := h
  exact ⟨Nat.lt_of_lt_of_le h0 hg.size, hg.cell h1 (by simp), hg.cell h2 (by simp), hg.cell h3 (by simp), fun k => (World.frozen?_of_block (w := W) (hg.block b h0 (by simp))).trans (h4 k)⟩
theorem Box3.far {W : World} {b c j : Nat} {x0 x1 x2 v : Value} (h : Box3 W b x0 x1 x2) (hne : b ≠ c) : Box3 (W.setCell ⟨c, j, none⟩ v) b x0 x1 x2 := by
  obtain ⟨h0, h1, h2, h3, h4⟩ := h
  have e : (W.setCell ⟨c, j, none⟩ v).heap[b]? = W.heap[b]? := Below.heap_setCell _ _ _ _ (by simpa using hne)
  exact ⟨by simpa [World.setCell] using h0, (World.cell?_of_block (w := W) e).trans h1, (World.cell?_of_block (w := W) e).trans h2, (World.cell?_of_block (w := W) e).trans h3, fun k => (World.frozen?_of_block (w := W) e).trans (h4 k)⟩
theorem Box3.put {W : World} {b : Nat} {x0 x1 x2 : Value} (h : Box3 W b x0 x1 x2) (v : Value) :
    Box3 (W.setCell ⟨b, 0, none⟩ v) b v x1 x2 ∧ Box3 (W.setCell ⟨b, 1, none⟩ v) b x0 v x2 ∧ Box3 (W.setCell ⟨b, 2, none⟩ v) b x0 x1 v := by
  obtain ⟨h0, h1, h2, h3, h4⟩ := h
  have hs : ∀ k, b < (W.setCell ⟨b, k, none⟩ v).heap.size := fun k => by simpa [World.setCell] using h0
  refine ⟨⟨hs 0, World.cell?_setCell_same _ _ _ h1, ?_, ?_, fun k => by simp [h4]⟩, ⟨hs 1, ?_, World.cell?_setCell_same _ _ _ h2, ?_, fun k => by simp [h4]⟩, ⟨hs 2, ?_, ?_, World.cell?_setCell_same _ _ _ h3, fun k => by simp [h4]⟩⟩
  all_goals first
    | exact (World.cell?_setCell_other _ _ _ _ (by simp)).trans h1
    | exact (World.cell?_setCell_other _ _ _ _ (by simp)).trans h2
    | exact (World.cell?_setCell_other _ _ _ _ (by simp)).trans h3
theorem Box3.made (w : World) (T : Nat) (x0 x1 x2 : Value) : Box3 (w.alloc (.cells #[x0, x1, x2] T)) w.heap.size x0 x1 x2 := by
  refine ⟨by simp, ?_, ?_, ?_, fun k => World.frozen?_alloc_at _ _ _ _ rfl⟩ <;> (rw [World.cell?_alloc_at _ _ _ _ rfl]; rfl)

set_option maxRecDepth 100000 in
set_option maxHeartbeats 4000000 in
theorem toPresentation_ok (v : Value) (P : Pr) (w : World) (S : Nat → Prop) (h : PresV S w v P) (hl : sizeP P ≤ 1048576) :
    Calls Tryz.prog 28 #[v] w (Ret w fun w' r => PresW (From w.heap.size) w' r P) := by
  obtain ⟨vo, vp, vc, rfl, h3⟩ := h
  have hso : P.orders.length ≤ 1048576 := by unfold sizeP at hl; omega
  have hsp : size2 P.powers ≤ 1048576 := by unfold sizeP at hl; omega
  have hsc : size3 P.conj ≤ 1048576 := by unfold sizeP at hl; omega
  have HS := Lib.hid (And.intro hso (And.intro hsp hsc)); clear hso hsp hsc hl
  go_enter Tryz.func28, Tryz.ntmps28
  have hg0 : Ext w (((w.alloc (.cells #[vo, vp, vc] 26)).alloc (.cells #[.slice none 0 0, .slice none 0 0, .slice none 0 0] 32)).alloc (.cells #[.slice none 0 0, .slice none 0 0, .slice none 0 0] 32)) :=
    grown_trans (World.grownBy_alloc _ _ _) (grown_trans (World.grownBy_alloc _ _ _) (World.grownBy_alloc _ _ _))
  have hA0 : Box3 (((w.alloc (.cells #[vo, vp, vc] 26)).alloc (.cells #[.slice none 0 0, .slice none 0 0, .slice none 0 0] 32)).alloc (.cells #[.slice none 0 0, .slice none 0 0, .slice none 0 0] 32)) w.heap.size vo vp vc :=
    ((Box3.made w _ vo vp vc).ext (World.grownBy_alloc _ _ _)).ext (World.grownBy_alloc _ _ _)
  have hR0 := (Box3.made (w.alloc (.cells #[vo, vp, vc] 26)) 32 (.slice none 0 0) (.slice none 0 0) (.slice none 0 0)).ext (World.grownBy_alloc _ (.cells #[.slice none 0 0, .slice none 0 0, .slice none 0 0] 32) _)
  have hO0 := Box3.made ((w.alloc (.cells #[vo, vp, vc] 26)).alloc (.cells #[.slice none 0 0, .slice none 0 0, .slice none 0 0] 32)) 32 (.slice none 0 0) (.slice none 0 0) (.slice none 0 0)
  have hs1 : (w.alloc (.cells #[vo, vp, vc] 26)).heap.size = w.heap.size + 1 := by simp
  have hs2 : ((w.alloc (.cells #[vo, vp, vc] 26)).alloc (.cells #[.slice none 0 0, .slice none 0 0, .slice none 0 0] 32)).heap.size = w.heap.size + 1 + 1 := by simp
  rw [hs1] at hR0
  rw [hs2] at hO0
  have HB := Lib.hid (And.intro hA0 (And.intro hR0 hO0)); clear hA0 hR0 hO0 hs1 hs2
  go_wp2_with fail
  generalize hw0 : ((w.alloc (.cells #[vo, vp, vc] 26)).alloc (.cells #[.slice none 0 0, .slice none 0 0, .slice none 0 0] 32)).alloc (.cells #[.slice none 0 0, .slice none 0 0, .slice none 0 0] 32) = w0 at *
  clear hw0
  have hsz0 : w.heap.size + 1 + 1 < w0.heap.size := HB.out.2.2.1
  refine Calls.mono (toInt64S_ok _ _ _ _ (h3.o.ext hg0) HS.out.1) ?_
  rintro eA wA ⟨vA, rfl, hgA, hA⟩
  have hAi := hA.ints (by have := HS.out.1; omega)
  obtain ⟨aA, capA, rfl, _, _⟩ := hAi.shape
  clear hAi
  have a1 := (HB.out.1.ext hgA)
  have r1 := (HB.out.2.1.ext hgA)
  have o1 := (HB.out.2.2.ext hgA)
  have hgwA := grown_trans hg0 hgA
  have hgw1 := ext_store hgwA (show w.heap.size ≤ w.heap.size + 1 + 1 by omega) 0 (.slice aA P.orders.length capA)
  have hlA := hgA.size
  have o2 := (o1.put (.slice aA P.orders.length capA)).1
  have a2 := a1.far (c := w.heap.size + 1 + 1) (j := 0) (v := .slice aA P.orders.length capA) (by omega)
  have r2 := r1.far (c := w.heap.size + 1 + 1) (j := 0) (v := .slice aA P.orders.length capA) (by omega)
  have hA2 : OwnIn (fun k => w0.heap.size ≤ k ∧ k < wA.heap.size) (wA.setCell ⟨w.heap.size + 1 + 1, 0, none⟩ (.slice aA P.orders.length capA)) (.slice aA P.orders.length capA) P.orders :=
    rdOwn.mono (OwnIn.of (F := fun k => w0.heap.size ≤ k ∧ k < wA.heap.size) hA (by have := HS.out.1; omega) (fun k h1 h2 => ⟨h1, h2⟩)) (fun k hk hlt => ⟨hk, by simpa [World.setCell] using hlt, Below.heap_setCell _ _ _ _ (by have := hk.1; simp; omega)⟩)
  have HW := Lib.hid (And.intro a2 (And.intro r2 (And.intro o2 hA2))); clear a2 r2 o2 hA2 hA
  obtain ⟨_, ca0, ca1, ca2, _⟩ := a1
  obtain ⟨_, co0, co1, co2, cof⟩ := o1
  clear r1
  go_wp2_with fail
  clear ca0 ca1 ca2 co0 co1 co2 cof
  have hszs : (wA.setCell ⟨w.heap.size + 1 + 1, 0, none⟩ (.slice aA P.orders.length capA)).heap.size = wA.heap.size := by simp [World.setCell]
  generalize wA.setCell ⟨w.heap.size + 1 + 1, 0, none⟩ (.slice aA P.orders.length capA) = w1 at *
  have HSZ := Lib.hid hszs; clear hszs
  refine Calls.mono (toInt64SS_ok _ _ _ _ (Rows2.ext h3.p hgw1) HS.out.2.1) ?_
  rintro eB wB ⟨vB, rfl, hgB, hB⟩
  have hlpp : P.powers.length ≤ 1048576 := by have := HS.out.2.1; unfold size2 at this; omega
  have hBd := SlO.toD hB (by omega)
  obtain ⟨aB, capB, rfl, _, _⟩ := SlD.shape hBd
  have a1 := (HW.out.1.ext hgB)
  have r1 := (HW.out.2.1.ext hgB)
  have o1 := (HW.out.2.2.1.ext hgB)
  have hgwB := grown_trans hgw1 hgB
  have hgw2 := ext_store hgwB (show w.heap.size ≤ w.heap.size + 1 + 1 by omega) 1 (.slice aB P.powers.length capB)
  have hlB := hgB.size
  have hsA := HSZ.out
  have o2 := (o1.put (.slice aB P.powers.length capB)).2.1
  have a2 := a1.far (c := w.heap.size + 1 + 1) (j := 1) (v := .slice aB P.powers.length capB) (by omega)
  have r2 := r1.far (c := w.heap.size + 1 + 1) (j := 1) (v := .slice aB P.powers.length capB) (by omega)
  have hA2 : OwnIn (fun k => w0.heap.size ≤ k ∧ k < wA.heap.size) (wB.setCell ⟨w.heap.size + 1 + 1, 1, none⟩ (.slice aB P.powers.length capB)) (.slice aA P.orders.length capA) P.orders :=
    rdOwn.mono HW.out.2.2.2 (fun k hk hlt => ⟨hk, by simp [World.setCell]; omega, (Below.heap_setCell _ _ _ _ (by have := hk.1; simp; omega)).trans (hgB.block k hlt (by simp))⟩)
  have hB2 : RowsW (fun k => w1.heap.size ≤ k ∧ k < wB.heap.size) (wB.setCell ⟨w.heap.size + 1 + 1, 1, none⟩ (.slice aB P.powers.length capB)) (.slice aB P.powers.length capB) P.powers :=
    rdRowsW.mono hBd (fun k hk hlt => ⟨⟨hk, hlt⟩, by simpa [World.setCell] using hlt, Below.heap_setCell _ _ _ _ (by have hk : w1.heap.size ≤ k := hk; simp; omega)⟩)
  have HW2 := Lib.hid (And.intro a2 (And.intro r2 (And.intro o2 (And.intro hA2 hB2)))); clear a2 r2 o2 hA2 hB2 hB hBd HW
  obtain ⟨_, ca0, ca1, ca2, _⟩ := a1
  obtain ⟨_, co0, co1, co2, cof⟩ := o1
  clear r1
  go_wp2_with fail
  clear ca0 ca1 ca2 co0 co1 co2 cof
  have hszs : (wB.setCell ⟨w.heap.size + 1 + 1, 1, none⟩ (.slice aB P.powers.length capB)).heap.size = wB.heap.size := by simp [World.setCell]
  generalize wB.setCell ⟨w.heap.size + 1 + 1, 1, none⟩ (.slice aB P.powers.length capB) = w2 at *
  have HSZ2 := Lib.hid hszs; clear hszs
  refine Calls.mono (toInt64SSS_ok _ _ _ _ (Rows3.ext h3.c hgw2) HS.out.2.2) ?_
  rintro eC wC ⟨vC, rfl, hgC, hC⟩
  have hlcc : P.conj.length ≤ 1048576 := by have := HS.out.2.2; unfold size3 at this; omega
  have hCd := SlO.toD hC (by omega)
  obtain ⟨aC, capC, rfl, _, _⟩ := SlD.shape hCd
  have a1 := (HW2.out.1.ext hgC)
  have r1 := (HW2.out.2.1.ext hgC)
  have o1 := (HW2.out.2.2.1.ext hgC)
  have hgwC := grown_trans hgw2 hgC
  have hlC := hgC.size
  have hsB := HSZ2.out
  have hg3 := ext_store hgwC (show w.heap.size ≤ w.heap.size + 1 + 1 by omega) 2 (.slice aC P.conj.length capC)
  have hA2 := HW2.out.2.2.2.1
  have hB2 := HW2.out.2.2.2.2
  clear hC HW2
  obtain ⟨_, ca0, ca1, ca2, _⟩ := a1
  obtain ⟨_, co0, co1, co2, cof⟩ := o1
  obtain ⟨_, cr0, cr1, cr2, crf⟩ := r1
  have HX := Lib.hid (And.intro hA2 (And.intro hB2 hCd)); clear hA2 hB2 hCd
  go_wp2
  refine bodyPost_ret (v := .agg #[.slice aA P.orders.length capA, .slice aB P.powers.length capB, .slice aC P.conj.length capC]) (by simp [results, Tryz.results28, go_sem, cr0, cr1, cr2]) rfl ⟨_, rfl, ext_store (ext_store (ext_store hg3 (by omega) _ _) (by omega) _ _) (by omega) _ _, ?_⟩
  have hblk : ∀ k, w.heap.size + 1 + 1 < k → ((((wC.setCell ⟨w.heap.size + 1 + 1, 2, none⟩ (.slice aC P.conj.length capC)).setCell ⟨w.heap.size + 1, 0, none⟩ (.slice aA P.orders.length capA)).setCell ⟨w.heap.size + 1, 1, none⟩ (.slice aB P.powers.length capB)).setCell ⟨w.heap.size + 1, 2, none⟩ (.slice aC P.conj.length capC)).heap[k]? = wC.heap[k]? := fun k hk => by
    rw [Below.heap_setCell _ _ _ _ (by simp; omega), Below.heap_setCell _ _ _ _ (by simp; omega), Below.heap_setCell _ _ _ _ (by simp; omega), Below.heap_setCell _ _ _ _ (by simp; omega)]
  have hsz : ((((wC.setCell ⟨w.heap.size + 1 + 1, 2, none⟩ (.slice aC P.conj.length capC)).setCell ⟨w.heap.size + 1, 0, none⟩ (.slice aA P.orders.length capA)).setCell ⟨w.heap.size + 1, 1, none⟩ (.slice aB P.powers.length capB)).setCell ⟨w.heap.size + 1, 2, none⟩ (.slice aC P.conj.length capC)).heap.size = wC.heap.size := by simp [World.setCell]
  have hsz3 := HSZ.out
  have hsz4 := HSZ2.out
  refine ⟨_, _, _, fun k => w0.heap.size ≤ k ∧ k < wA.heap.size, fun k => w1.heap.size ≤ k ∧ k < wB.heap.size, fun k => w2.heap.size ≤ k, rfl, rdOwn.mono HX.out.1 (fun k hk hlt => ⟨hk, by rw [hsz]; omega, (hblk k (by omega)).trans (hgC.block k hlt (by simp))⟩),
    rdRowsW.mono HX.out.2.1 (fun k hk hlt => ⟨hk, by rw [hsz]; omega, (hblk k (by omega)).trans (hgC.block k hlt (by simp))⟩), SlD.mono rdRowsW HX.out.2.2 (fun k hk hlt => ⟨hk, by rw [hsz]; exact hlt, hblk k (by have hk : w2.heap.size ≤ k := hk; omega)⟩), fun k hk => ?_, fun k hk => ?_, fun k hk => ?_⟩
  · exact ⟨by show w.heap.size ≤ k; omega, by omega, by omega⟩
  · exact ⟨by show w.heap.size ≤ k; omega, by omega⟩
  · show w.heap.size ≤ k; omega

end Go.Proofs.YtchbegeklckgnaaGreat

/- The laws' comparisons: laws.eqInt64SS, eqInt64SSS, eqPresentation. -/
namespace Go.Proofs.YtchbegeklckgnaaGreat
open Go.RowKit

theorem Ints.extA {S : Nat → Prop} {w w' : World} {v : Value} {xs : List Int} (h : Ints S w v xs) (hg : Ext w w') : Ints Any w' v xs := Ints.sub (Ints.ext h hg) (fun _ _ _ => trivial)
theorem Rows2.extA {S : Nat → Prop} {w w' : World} {v : Value} {xs : List (List Int)} (h : Rows2 S w v xs) (hg : Ext w w') : Rows2 Any w' v xs := Rows2.sub (Rows2.ext h hg) (fun _ _ _ => trivial)

set_option maxRecDepth 100000 in
set_option maxHeartbeats 2000000 in
theorem eqInt64SS_ok (v1 v2 : Value) (l1 l2 : List (List Int)) (w : World) (S1 S2 : Nat → Prop) (h1 : Rows2 S1 w v1 l1) (h2 : Rows2 S2 w v2 l2) :
    Calls Tryz.prog 17 #[v1, v2] w (Ret w fun _ v => v = .bool (eqB l1 l2)) := by
  obtain ⟨a, cap, rfl, _, _⟩ := Sl.shape h1
  obtain ⟨a2, cap2, rfl, _, _⟩ := Sl.shape h2
  by_cases hl : l1.length = l2.length
  · have hd : ((l1.length : Int) != (l2.length : Int)) = false := by simp [hl]
    have hl1 : l1.length ≤ l2.length ∧ l2.length ≤ l1.length := by omega
    have HL := Lib.hid hl; clear hl
    go_enter Tryz.func17, Tryz.ntmps17
    go_wp2
    go_loopw [5] (fun i wr => ∃ k : Nat, i = .int .i64 k ∧ k ≤ l1.length ∧ Ext w wr ∧ ∀ i, i < k → gt l1 i = gt l2 i) (fun i _ => l1.length - (intOf i).toNat)
    case atStart => exact ⟨0, rfl, by omega, Ext.refl _, fun i hi => by omega⟩
    case round =>
      obtain ⟨k, rfl, hk, hg, hz⟩ := hrel
      have HZ := Lib.hid hz; clear hz
      by_cases hlt : k < l1.length
      · obtain ⟨b, off, x1, c1, rfl, _, _, hc, hi1⟩ := Rows2.at (Rows2.ext h1 hg) k hlt
        obtain ⟨b2, off2, x2, c2, rfl, _, _, hc2, hi2⟩ := Rows2.at (Rows2.ext h2 hg) k (by omega)
        have e1 : ∀ w', Ext wr w' → w'.cell? ⟨b, off + k, none⟩ = some (.slice x1 (gt l1 k).length c1) := fun w' h => h.cell hc (by simp)
        have e2 : ∀ w', Ext wr w' → w'.cell? ⟨b2, off2 + k, none⟩ = some (.slice x2 (gt l2 k).length c2) := fun w' h => h.cell hc2 (by simp)
        clear hc hc2
        have hlt2 : k < l2.length := by omega
        go_wp2
        cases hx : eqB (gt l1 k) (gt l2 k) with
        | true =>
          have hx2 := Lib.hid hx
          go_region_held3 (fun w' => Ext wr w') (first | exact grown_drew _ _ | assumption)
            (first
              | (go_at_call 37; refine Calls.mono (Calls.rel (w0 := wr) (by assumption) (eqInt64S_ok _ _ _ _ _ Any Any ((Ints.extA hi1 (by assumption))) (Ints.extA hi2 (by assumption)))) ?_; rintro eA wA ⟨vA, rfl, hgA, hsA, rfl⟩))
          clear e1 e2
          go_wp2
          go_roundw
          case rel => exact ⟨k + 1, by go_num, by omega, grown_trans hg hgA, fun i hi => by
            rcases Nat.lt_or_ge i k with h1 | h1
            · exact HZ.out i h1
            · have : i = k := by omega
              rw [this]; exact eqB_true.1 hx2.out⟩
          case measure => simp [intOf]; omega
        | false =>
          have hx2 := Lib.hid hx
          go_region_held3 (fun w' => Ext wr w') (first | exact grown_drew _ _ | assumption)
            (first
              | (go_at_call 37; refine Calls.mono (Calls.rel (w0 := wr) (by assumption) (eqInt64S_ok _ _ _ _ _ Any Any (Ints.extA hi1 (by assumption)) (Ints.extA hi2 (by assumption)))) ?_; rintro eA wA ⟨vA, rfl, hgA, hsA, rfl⟩))
          clear e1 e2
          go_wp2
          go_ret
          exact ret_bool (grown_trans hg hgA) (by rw [eqB_false_at (hx := eqB_false.1 hx2.out)])
      · go_wp2
        go_ret
        exact ret_bool hg (by rw [eqB_true.2 (ext_gt HL.out (fun i hi => HZ.out i (by omega)))])
  · have hd : ((l1.length : Int) != (l2.length : Int)) = true := by simp; omega
    have HL := Lib.hid hl; clear hl
    go_enter Tryz.func17, Tryz.ntmps17
    go_wp2
    go_ret
    exact ret_bool (Ext.refl _) (by rw [eqB_false.2 (fun e => HL.out (by rw [e]))])

set_option maxRecDepth 100000 in
set_option maxHeartbeats 2000000 in
theorem eqInt64SSS_ok (v1 v2 : Value) (l1 l2 : List (List (List Int))) (w : World) (S1 S2 : Nat → Prop) (h1 : Rows3 S1 w v1 l1) (h2 : Rows3 S2 w v2 l2) :
    Calls Tryz.prog 64 #[v1, v2] w (Ret w fun _ v => v = .bool (eqB l1 l2)) := by
  obtain ⟨a, cap, rfl, _, _⟩ := Sl.shape h1
  obtain ⟨a2, cap2, rfl, _, _⟩ := Sl.shape h2
  by_cases hl : l1.length = l2.length
  · have hd : ((l1.length : Int) != (l2.length : Int)) = false := by simp [hl]
    have hl1 : l1.length ≤ l2.length ∧ l2.length ≤ l1.length := by omega
    have HL := Lib.hid hl; clear hl
    go_enter Tryz.func64, Tryz.ntmps64
    go_wp2
    go_loopw [5] (fun i wr => ∃ k : Nat, i = .int .i64 k ∧ k ≤ l1.length ∧ Ext w wr ∧ ∀ i, i < k → gt l1 i = gt l2 i) (fun i _ => l1.length - (intOf i).toNat)
    case atStart => exact ⟨0, rfl, by omega, Ext.refl _, fun i hi => by omega⟩
    case round =>
      obtain ⟨k, rfl, hk, hg, hz⟩ := hrel
      have HZ := Lib.hid hz; clear hz
      by_cases hlt : k < l1.length
      · obtain ⟨b, off, x1, c1, rfl, _, _, hc, hi1⟩ := Rows3.at (Rows3.ext h1 hg) k hlt
        obtain ⟨b2, off2, x2, c2, rfl, _, _, hc2, hi2⟩ := Rows3.at (Rows3.ext h2 hg) k (by omega)
        have e1 : ∀ w', Ext wr w' → w'.cell? ⟨b, off + k, none⟩ = some (.slice x1 (gt l1 k).length c1) := fun w' h => h.cell hc (by simp)
        have e2 : ∀ w', Ext wr w' → w'.cell? ⟨b2, off2 + k, none⟩ = some (.slice x2 (gt l2 k).length c2) := fun w' h => h.cell hc2 (by simp)
        clear hc hc2
        have hlt2 : k < l2.length := by omega
        go_wp2
        cases hx : eqB (gt l1 k) (gt l2 k) with
        | true =>
          have hx2 := Lib.hid hx
          go_region_held3 (fun w' => Ext wr w') (first | exact grown_drew _ _ | assumption)
            (first
              | (go_at_call 17; refine Calls.mono (Calls.rel (w0 := wr) (by assumption) (eqInt64SS_ok _ _ _ _ _ Any Any ((Rows2.extA hi1 (by assumption))) (Rows2.extA hi2 (by assumption)))) ?_; rintro eA wA ⟨vA, rfl, hgA, hsA, rfl⟩))
          clear e1 e2
          go_wp2
          go_roundw
          case rel => exact ⟨k + 1, by go_num, by omega, grown_trans hg hgA, fun i hi => by
            rcases Nat.lt_or_ge i k with h1 | h1
            · exact HZ.out i h1
            · have : i = k := by omega
              rw [this]; exact eqB_true.1 hx2.out⟩
          case measure => simp [intOf]; omega
        | false =>
          have hx2 := Lib.hid hx
          go_region_held3 (fun w' => Ext wr w') (first | exact grown_drew _ _ | assumption)
            (first
              | (go_at_call 17; refine Calls.mono (Calls.rel (w0 := wr) (by assumption) (eqInt64SS_ok _ _ _ _ _ Any Any (Rows2.extA hi1 (by assumption)) (Rows2.extA hi2 (by assumption)))) ?_; rintro eA wA ⟨vA, rfl, hgA, hsA, rfl⟩))
          clear e1 e2
          go_wp2
          go_ret
          exact ret_bool (grown_trans hg hgA) (by rw [eqB_false_at (hx := eqB_false.1 hx2.out)])
      · go_wp2
        go_ret
        exact ret_bool hg (by rw [eqB_true.2 (ext_gt HL.out (fun i hi => HZ.out i (by omega)))])
  · have hd : ((l1.length : Int) != (l2.length : Int)) = true := by simp; omega
    have HL := Lib.hid hl; clear hl
    go_enter Tryz.func64, Tryz.ntmps64
    go_wp2
    go_ret
    exact ret_bool (Ext.refl _) (by rw [eqB_false.2 (fun e => HL.out (by rw [e]))])

set_option maxRecDepth 100000 in
set_option maxHeartbeats 2000000 in
theorem eqPresentation_ok (v1 v2 : Value) (P : Pr) (w : World) (S1 S2 : Nat → Prop) (h1 : PresV S1 w v1 P) (h2 : PresV S2 w v2 P) :
    Calls Tryz.prog 30 #[v1, v2] w (Ret w fun _ v => v = .bool true) := by
  obtain ⟨vo, vp, vc, rfl, h3⟩ := h1
  obtain ⟨uo, up, uc, rfl, k3⟩ := h2
  have hg0 : Ext w ((w.alloc (.cells #[vo, vp, vc] 32)).alloc (.cells #[uo, up, uc] 32)) := grown_trans (World.grownBy_alloc _ _ _) (World.grownBy_alloc _ _ _)
  have hs1 : (w.alloc (.cells #[vo, vp, vc] 32)).heap.size = w.heap.size + 1 := by simp
  have b1 := (Box3.made w 32 vo vp vc).ext (World.grownBy_alloc _ (.cells #[uo, up, uc] 32) none)
  have b2 := Box3.made (w.alloc (.cells #[vo, vp, vc] 32)) 32 uo up uc
  rw [hs1] at b2
  have HB := Lib.hid (And.intro b1 b2); clear b1 b2 hs1
  go_enter Tryz.func30, Tryz.ntmps30
  go_wp2_with fail
  generalize (w.alloc (.cells #[vo, vp, vc] 32)).alloc (.cells #[uo, up, uc] 32) = w0 at *
  refine Calls.mono (eqInt64S_ok _ _ _ _ _ S1 S2 (h3.o.ext hg0) (k3.o.ext hg0)) ?_
  rintro eA wA ⟨vA, rfl, hgA, rfl⟩
  have hgwA := grown_trans hg0 hgA
  obtain ⟨_, a0, a1, a2, _⟩ := HB.out.1.ext hgA
  obtain ⟨_, c0, c1, c2, _⟩ := HB.out.2.ext hgA
  have e1 : eqB P.orders P.orders = true := eqB_true.2 rfl
  go_wp2_with fail
  clear a0 a1 a2 c0 c1 c2 e1
  refine Calls.mono (eqInt64SS_ok _ _ _ _ _ S1 S2 (Rows2.ext h3.p hgwA) (Rows2.ext k3.p hgwA)) ?_
  rintro eB wB ⟨vB, rfl, hgB, rfl⟩
  have hgwB := grown_trans hgwA hgB
  obtain ⟨_, a0, a1, a2, _⟩ := HB.out.1.ext (grown_trans hgA hgB)
  obtain ⟨_, c0, c1, c2, _⟩ := HB.out.2.ext (grown_trans hgA hgB)
  have e1 : eqB P.powers P.powers = true := eqB_true.2 rfl
  go_wp2_with fail
  clear a0 a1 a2 c0 c1 c2 e1
  refine Calls.mono (eqInt64SSS_ok _ _ _ _ _ S1 S2 (Rows3.ext h3.c hgwB) (Rows3.ext k3.c hgwB)) ?_
  rintro eC wC ⟨vC, rfl, hgC, rfl⟩
  have e1 : eqB P.conj P.conj = true := eqB_true.2 rfl
  go_wp2
  go_ret
  exact ⟨_, rfl, grown_trans hgwB hgC, rfl⟩

end Go.Proofs.YtchbegeklckgnaaGreat

/- The laws' marks: laws.markInt64S.., heldInt64S..: each place of a value is given a number of its own, and looked at again. -/
namespace Go.Proofs.YtchbegeklckgnaaGreat
open Go.RowKit

/-- k, k + 1, .., n of them -/
def upFrom (k : Int) (n : Nat) : List Int := (List.range n).map (fun i : Nat => k + i)
theorem upFrom_len (k : Int) (n : Nat) : (upFrom k n).length = n := by simp [upFrom]
theorem gt_upFrom (k : Int) (n i : Nat) (h : i < n) : gt (upFrom k n) i = k + i := by simp [upFrom, gt, h]

/-- only blocks in F have turned -/
structure Touch (F : Nat → Prop) (w w' : World) : Prop where
  os : w'.os = w.os
  tape : w'.tape = w.tape
  output : w'.output = w.output
  size : w.heap.size ≤ w'.heap.size
  block : ∀ k, k < w.heap.size → ¬ F k → w'.heap[k]? = w.heap[k]?
theorem Touch.refl (F : Nat → Prop) (w : World) : Touch F w w := ⟨rfl, rfl, rfl, Nat.le_refl _, fun _ _ _ => rfl⟩
theorem Touch.of {F : Nat → Prop} {w w' : World} {r : Option Nat} (h : w.grownBy w' r) (hr : ∀ k, r = some k → F k) : Touch F w w' :=
  ⟨h.os, h.tape, h.output, h.size, fun k hk hF => h.block k hk (fun e => hF (hr k e.symm))⟩
theorem Touch.trans {F F1 F2 : Nat → Prop} {a b c : World} (h : Touch F1 a b) (k : Touch F2 b c) (h1 : ∀ i, F1 i → F i) (h2 : ∀ i, F2 i → F i) : Touch F a c :=
  ⟨k.os.trans h.os, k.tape.trans h.tape, k.output.trans h.output, Nat.le_trans h.size k.size,
   fun i hi hF => (k.block i (Nat.lt_of_lt_of_le hi h.size) (fun e => hF (h2 i e))).trans (h.block i hi (fun e => hF (h1 i e)))⟩
/-- blocks behind a world may turn -/
theorem Touch.ext {F : Nat → Prop} {w w1 w2 : World} (h : Ext w w1) (k : Touch F w1 w2) (hF : ∀ i, F i → w.heap.size ≤ i) : Ext w w2 :=
  ⟨k.os.trans h.os, k.tape.trans h.tape, k.output.trans h.output, Nat.le_trans h.size k.size,
   fun i hi _ => (k.block i (Nat.lt_of_lt_of_le hi h.size) (fun e => by have := hF i e; omega)).trans (h.block i hi (by simp))⟩
theorem Touch.frame {F S : Nat → Prop} {w w' : World} (h : Touch F w w') (hS : ∀ k, S k → ¬ F k) : ∀ k, S k → k < w.heap.size → S k ∧ k < w'.heap.size ∧ w'.heap[k]? = w.heap[k]? :=
  fun k hk hlt => ⟨hk, Nat.lt_of_lt_of_le hlt h.size, h.block k hlt (hS k hk)⟩
theorem Touch.cell {F : Nat → Prop} {w w' : World} (h : Touch F w w') {a : Addr} {v : Value} (hc : w.cell? a = some v) (hF : ¬ F a.block) : w'.cell? a = some v :=
  (World.cell?_of_block (h.block a.block (World.block_lt_of_cell? w a hc) hF)).trans hc

set_option maxHeartbeats 1000000 in
theorem markInt64S_ok (v : Value) (l : List Int) (q : Int) (w : World) (F : Nat → Prop) (h : OwnIn F w v l) (hq : 0 ≤ q ∧ q + l.length ≤ 1000000000) :
    Calls Tryz.prog 52 #[v, .int .i64 q] w fun e w' => e = .returned (.int .i64 (q + l.length)) ∧ Touch F w w' ∧ OwnIn F w' v (upFrom q l.length) := by
  obtain ⟨hO, hF, hl⟩ := h
  rcases (Own.v hO).form with ⟨rfl, hnil⟩ | ⟨g, cap, rfl, hcap, _, hgs⟩
  · have hl0 : l = [] := by cases l <;> simp_all
    subst hl0
    clear hnil hO
    go_enter Tryz.func52, Tryz.ntmps52
    go_wp2
    go_loopw [1, 5] (fun qv iv wr => qv = .int .i64 q ∧ iv = .int .i64 0 ∧ wr = w) (fun _ _ _ => 0)
    case atStart => exact ⟨rfl, rfl, rfl⟩
    case round =>
      obtain ⟨rfl, rfl, rfl⟩ := hrel
      go_wp2
      go_ret
      exact ⟨by simp, Touch.refl _ _, OwnIn.nil _ _⟩
  · rw [List.length_map] at hcap
    rw [List.length_map] at hO ⊢
    clear hcap
    go_enter Tryz.func52, Tryz.ntmps52
    go_wp2
    go_loopw [1, 5] (fun qv iv wr => ∃ k : Nat, iv = .int .i64 k ∧ qv = .int .i64 (q + k) ∧ k ≤ l.length ∧ w.grownBy wr (some g) ∧ ∃ l', l'.length = l.length ∧ Own 0 wr (.slice (some ⟨g, 0, none⟩) l.length cap) l' ∧ ∀ i, i < k → gt l' i = q + i) (fun _ iv _ => l.length - (intOf iv).toNat)
    case atStart => exact ⟨0, rfl, by simp, by omega, grown_refl _ _, l, rfl, hO, fun i hi => by omega⟩
    case round =>
      obtain ⟨k, rfl, rfl, hk, hg, l', hl', hO', hm⟩ := hrel
      have HM := Lib.hid (And.intro hl' hm); clear hm hl'
      by_cases hlt : k < l.length
      · have hc := hO'.cell k (by rw [HM.out.1]; exact hlt)
        have hf := hO'.frozen k
        obtain ⟨hs1, hs2⟩ := hO'.store k (q + k)
        have hgn := grown_trans hg hs2
        have hwr : IntKind.i64.wrap (q + (k : Int) + 1) = q + k + 1 := IntWalk.i64_in _ (by omega)
        clear hs2
        go_wp2
        go_roundw
        case rel => exact ⟨k + 1, by go_num, by simp; omega, by omega, hgn, l'.set k (q + k), by rw [List.length_set, HM.out.1], hs1, fun i hi => by
          by_cases e : k = i
          · subst e; exact gt_set_eq _ _ _ (by rw [HM.out.1]; exact hlt)
          · rw [gt_set_ne _ _ _ _ e]; exact HM.out.2 i (by omega)⟩
        case measure => simp [intOf]; omega
      · have hke : k = l.length := by omega
        subst hke
        go_wp2
        go_ret
        have e : l' = upFrom q l.length := ext_gt (by rw [HM.out.1, upFrom_len]) (fun i hi => by
          rw [HM.out.1] at hi
          rw [HM.out.2 i hi, gt_upFrom _ _ _ hi])
        exact ⟨rfl, Touch.of hg (fun j hj => by cases hj; exact hF g rfl), by rw [← e]; exact hO', hF, by rw [upFrom_len]; exact hl⟩

set_option maxHeartbeats 1000000 in
theorem heldInt64S_ok (v : Value) (n : Nat) (q : Int) (w : World) (S : Nat → Prop) (h : Ints S w v (upFrom q n)) (hq : 0 ≤ q ∧ q + n ≤ 1000000000) :
    Calls Tryz.prog 53 #[v, .int .i64 q] w (Ret w fun _ r => r = .int .i64 (q + n)) := by
  obtain ⟨a, cap, rfl, hcap, _⟩ := h.shape
  rw [upFrom_len] at h ⊢
  go_enter Tryz.func53, Tryz.ntmps53
  go_wp2
  go_loopw [1, 5] (fun qv iv wr => ∃ k : Nat, iv = .int .i64 k ∧ qv = .int .i64 (q + k) ∧ k ≤ n ∧ Ext w wr) (fun _ iv _ => n - (intOf iv).toNat)
  case atStart => exact ⟨0, rfl, by simp, by omega, Ext.refl _⟩
  case round =>
    obtain ⟨k, rfl, rfl, hk, hg⟩ := hrel
    by_cases hlt : k < n
    · obtain ⟨b, off, rfl, _, _, hc⟩ := Ints.at (h.ext hg) k (by rw [upFrom_len]; exact hlt)
      rw [gt_upFrom _ _ _ hlt] at hc
      have hwr : IntKind.i64.wrap (q + (k : Int) + 1) = q + k + 1 := IntWalk.i64_in _ (by omega)
      go_wp2
      go_roundw
      case rel => exact ⟨k + 1, by go_num, by simp; omega, by omega, hg⟩
      case measure => simp [intOf]; omega
    · have hke : k = n := by omega
      subst hke
      go_wp2
      go_ret
      exact ⟨_, rfl, hg, rfl⟩

/-- a slice whose elements lie in blocks that are named -/
def SlG {α : Type} [Inhabited α] (El : (Nat → Prop) → World → Value → α → Prop) (G : Nat → Nat → Prop) (H : Nat → Prop) (w : World) (v : Value) (xs : List α) : Prop :=
  ∃ a cap, v = .slice a xs.length cap ∧ (xs.length ≤ cap ∧ xs.length ≤ 9223372036854775807 ∧ (a = none → cap = 0)) ∧
      ∀ i, i < xs.length → ∃ b off u, a = some ⟨b, off, none⟩ ∧ H b ∧ b < w.heap.size ∧ w.cell? ⟨b, off + i, none⟩ = some u ∧ El (G i) w u (gt xs i)
def Apart (F : Nat → Prop) (G : Nat → Nat → Prop) (H : Nat → Prop) (n : Nat) : Prop :=
  (∀ k, H k → F k) ∧ (∀ i k, i < n → G i k → F k ∧ ¬ H k) ∧ (∀ i j k, i < n → j < n → G i k → G j k → i = j)
theorem SlD.g {α : Type} [Inhabited α] {El : (Nat → Prop) → World → Value → α → Prop} {F : Nat → Prop} {w : World} {v : Value} {xs : List α} (h : SlD El F w v xs) : ∃ G H, Apart F G H xs.length ∧ SlG El G H w v xs := by
  obtain ⟨G, H, h1, h2, h3, r⟩ := h
  exact ⟨G, H, ⟨h1, h2, h3⟩, r⟩
theorem SlG.d {α : Type} [Inhabited α] {El : (Nat → Prop) → World → Value → α → Prop} {F : Nat → Prop} {G : Nat → Nat → Prop} {H : Nat → Prop} {w : World} {v : Value} {xs : List α} (h : SlG El G H w v xs) (hA : Apart F G H xs.length) : SlD El F w v xs :=
  ⟨G, H, hA.1, hA.2.1, hA.2.2, h⟩

/-- one element is turned -/
theorem SlG.turn {α : Type} [Inhabited α] {El : (Nat → Prop) → World → Value → α → Prop} (hEl : RdOk El) {F : Nat → Prop} {G : Nat → Nat → Prop} {H : Nat → Prop} {w w' : World} {b off n cap j : Nat} {u : Value} {y : α} {xs : List α}
    (hA : Apart F G H n) (hn : xs.length = n) (h : SlG El G H w (.slice (some ⟨b, off, none⟩) n cap) xs) (hj : j < n) (hc : w.cell? ⟨b, off + j, none⟩ = some u) (ht : Touch (G j) w w') (hy : El (G j) w' u y) :
    SlG El G H w' (.slice (some ⟨b, off, none⟩) n cap) (xs.set j y) := by
  obtain ⟨a', cap', hv, hl, hcell⟩ := h
  cases hv
  refine ⟨_, cap, by rw [List.length_set], by rw [List.length_set]; exact hl, fun i hi => ?_⟩
  rw [List.length_set] at hi
  obtain ⟨b2, off2, u2, e1, e2, e3, e4, e5⟩ := hcell i hi
  cases e1
  have hnb : ¬ G j b := fun h => (hA.2.1 j b hj h).2 e2
  by_cases e : j = i
  · subst e
    rw [gt_set_eq _ _ _ hi]
    exact ⟨b, off, u, rfl, e2, Nat.lt_of_lt_of_le e3 ht.size, ht.cell hc hnb, hy⟩
  · rw [gt_set_ne _ _ _ _ e]
    exact ⟨b, off, u2, rfl, e2, Nat.lt_of_lt_of_le e3 ht.size, ht.cell e4 hnb, hEl.mono e5 (ht.frame (fun k hk hk' => e (hA.2.2 i j k (by omega) hj hk hk').symm))⟩

/-- the first j elements turned by up -/
def mixTo {α : Type} [Inhabited α] (up : Int → α → α) (sz : α → Nat) (q : Int) (xs : List α) : Nat → List α
  | 0 => xs
  | j + 1 => (mixTo up sz q xs j).set j (up (q + szTo sz xs j) (gt xs j))
theorem mixTo_len {α : Type} [Inhabited α] (up : Int → α → α) (sz : α → Nat) (q : Int) (xs : List α) (j : Nat) : (mixTo up sz q xs j).length = xs.length := by
  induction j with
  | zero => rfl
  | succ j ih => simp only [mixTo]; rw [List.length_set, ih]
theorem gt_mixTo {α : Type} [Inhabited α] (up : Int → α → α) (sz : α → Nat) (q : Int) (xs : List α) (j : Nat) : ∀ i, i < xs.length → gt (mixTo up sz q xs j) i = if i < j then up (q + szTo sz xs i) (gt xs i) else gt xs i := by
  induction j with
  | zero => intro i _; rw [if_neg (by omega)]; rfl
  | succ j ih =>
    intro i hi
    simp only [mixTo]
    by_cases e : j = i
    · subst e; rw [gt_set_eq _ _ _ (by rw [mixTo_len]; exact hi), if_pos (by omega)]
    · rw [gt_set_ne _ _ _ _ e, ih i hi]
      by_cases h : i < j
      · rw [if_pos h, if_pos (by omega)]
      · rw [if_neg h, if_neg (by omega)]
def up1 (q : Int) (l : List Int) : List Int := upFrom q l.length
def up2 (q : Int) (xs : List (List Int)) : List (List Int) := mixTo up1 List.length q xs xs.length
def tot2 (xs : List (List Int)) : Nat := szTo List.length xs xs.length
def tot3 (xs : List (List (List Int))) : Nat := szTo tot2 xs xs.length
def up3 (q : Int) (xs : List (List (List Int))) : List (List (List Int)) := mixTo up2 tot2 q xs xs.length

set_option maxHeartbeats 1000000 in
theorem markInt64SS_ok (v : Value) (xs : List (List Int)) (q : Int) (w : World) (F : Nat → Prop) (h : RowsW F w v xs) (hq0 : 0 ≤ q ∧ q + tot2 xs ≤ 1000000000) :
    Calls Tryz.prog 20 #[v, .int .i64 q] w fun e w' => e = .returned (.int .i64 (q + tot2 xs)) ∧ Touch F w w' ∧ RowsW F w' v (up2 q xs) := by
  have hq : 0 ≤ q ∧ q + szTo List.length xs xs.length ≤ 1000000000 := hq0
  clear hq0
  obtain ⟨G, H, hA, hG⟩ := SlD.g h
  obtain ⟨a, cap, rfl, hlen⟩ := (show ∃ a cap, v = .slice a xs.length cap ∧ xs.length ≤ 9223372036854775807 by obtain ⟨a, cap, hv, hl, _⟩ := hG; exact ⟨a, cap, hv, hl.2.1⟩)
  clear h
  go_enter Tryz.func20, Tryz.ntmps20
  go_wp2
  go_loopw [1, 5] (fun qv iv wr => ∃ k : Nat, iv = .int .i64 k ∧ qv = .int .i64 (q + szTo List.length xs k) ∧ k ≤ xs.length ∧ Touch F w wr ∧ SlG OwnIn G H wr (.slice a xs.length cap) (mixTo up1 List.length q xs k)) (fun _ iv _ => xs.length - (intOf iv).toNat)
  case atStart => exact ⟨0, rfl, by simp [szTo], by omega, Touch.refl _ _, hG⟩
  case round =>
    clear hG
    obtain ⟨k, rfl, rfl, hk, ht, hM⟩ := hrel
    have hM2 := hM
    obtain ⟨a', cap', hv, _, hcell⟩ := hM2
    rw [mixTo_len] at hv hcell
    cases hv
    by_cases hlt : k < xs.length
    · obtain ⟨b, off, u, rfl, hHb, hbs, hc, hE⟩ := hcell k hlt
      rw [gt_mixTo _ _ _ _ _ _ hlt, if_neg (by omega)] at hE
      have hm := szTo_mono List.length xs (show k + 1 ≤ xs.length by omega)
      have hst : szTo List.length xs (k + 1) = szTo List.length xs k + List.length (gt xs k) := rfl
      have hqk : 0 ≤ q + (szTo List.length xs k : Nat) ∧ q + (szTo List.length xs k : Nat) + (List.length (gt xs k) : Nat) ≤ 1000000000 := by omega
      have HQ := Lib.hid (And.intro hqk (And.intro hm hst)); clear hqk hm hst hcell
      obtain ⟨au, nu, cu, rfl⟩ : ∃ au nu cu, u = .slice au nu cu := by obtain ⟨au, cu, hu, _⟩ := hE.ints.shape; exact ⟨_, _, _, hu⟩
      go_wp2_with fail
      refine Calls.mono (markInt64S_ok _ _ (q + (szTo List.length xs k : Nat)) wr (G k) hE HQ.out.1) ?_
      rintro eA wA ⟨rfl, htA, hEA⟩
      have hM3 := SlG.turn rdOwn hA (mixTo_len _ _ _ _ _) hM hlt hc htA hEA
      have ht3 : Touch F w wA := ht.trans htA (fun _ h => h) (fun i hi => (hA.2.1 k i hlt hi).1)
      clear hc hE hEA hM
      go_wp2
      go_roundw
      case rel => exact ⟨k + 1, by go_num, by simp [szTo]; omega, by omega, ht3, hM3⟩
      case measure => simp [intOf]; omega
    · have hke : k = xs.length := by omega
      subst hke
      clear hcell
      go_wp2
      go_ret
      exact ⟨rfl, ht, SlG.d hM (by have := mixTo_len up1 List.length q xs xs.length; unfold up2; rw [this]; exact hA)⟩

set_option maxHeartbeats 1000000 in
theorem markInt64SSS_ok (v : Value) (xs : List (List (List Int))) (q : Int) (w : World) (F : Nat → Prop) (h : Rows3W F w v xs) (hq0 : 0 ≤ q ∧ q + tot3 xs ≤ 1000000000) :
    Calls Tryz.prog 65 #[v, .int .i64 q] w fun e w' => e = .returned (.int .i64 (q + tot3 xs)) ∧ Touch F w w' ∧ Rows3W F w' v (up3 q xs) := by
  have hq : 0 ≤ q ∧ q + szTo tot2 xs xs.length ≤ 1000000000 := hq0
  clear hq0
  obtain ⟨G, H, hA, hG⟩ := SlD.g h
  obtain ⟨a, cap, rfl, hlen⟩ := (show ∃ a cap, v = .slice a xs.length cap ∧ xs.length ≤ 9223372036854775807 by obtain ⟨a, cap, hv, hl, _⟩ := hG; exact ⟨a, cap, hv, hl.2.1⟩)
  clear h
  go_enter Tryz.func65, Tryz.ntmps65
  go_wp2
  go_loopw [1, 5] (fun qv iv wr => ∃ k : Nat, iv = .int .i64 k ∧ qv = .int .i64 (q + szTo tot2 xs k) ∧ k ≤ xs.length ∧ Touch F w wr ∧ SlG (fun F w u (x : List (List Int)) => RowsW F w u x) G H wr (.slice a xs.length cap) (mixTo up2 tot2 q xs k)) (fun _ iv _ => xs.length - (intOf iv).toNat)
  case atStart => exact ⟨0, rfl, by simp [szTo], by omega, Touch.refl _ _, hG⟩
  case round =>
    clear hG
    obtain ⟨k, rfl, rfl, hk, ht, hM⟩ := hrel
    have hM2 := hM
    obtain ⟨a', cap', hv, _, hcell⟩ := hM2
    rw [mixTo_len] at hv hcell
    cases hv
    by_cases hlt : k < xs.length
    · obtain ⟨b, off, u, rfl, hHb, hbs, hc, hE⟩ := hcell k hlt
      rw [gt_mixTo _ _ _ _ _ _ hlt, if_neg (by omega)] at hE
      have hm := szTo_mono tot2 xs (show k + 1 ≤ xs.length by omega)
      have hst : szTo tot2 xs (k + 1) = szTo tot2 xs k + tot2 (gt xs k) := rfl
      have hqk : 0 ≤ q + (szTo tot2 xs k : Nat) ∧ q + (szTo tot2 xs k : Nat) + (tot2 (gt xs k) : Nat) ≤ 1000000000 := by omega
      have HQ := Lib.hid (And.intro hqk (And.intro hm hst)); clear hqk hm hst hcell
      obtain ⟨au, nu, cu, rfl⟩ : ∃ au nu cu, u = .slice au nu cu := by obtain ⟨au, cu, hu, _⟩ := SlD.shape hE; exact ⟨_, _, _, hu⟩
      go_wp2_with fail
      refine Calls.mono (markInt64SS_ok _ _ (q + (szTo tot2 xs k : Nat)) wr (G k) hE HQ.out.1) ?_
      rintro eA wA ⟨rfl, htA, hEA⟩
      have hM3 := SlG.turn rdRowsW hA (mixTo_len _ _ _ _ _) hM hlt hc htA hEA
      have ht3 : Touch F w wA := ht.trans htA (fun _ h => h) (fun i hi => (hA.2.1 k i hlt hi).1)
      clear hc hE hEA hM
      go_wp2
      go_roundw
      case rel => exact ⟨k + 1, by go_num, by simp [szTo]; omega, by omega, ht3, hM3⟩
      case measure => simp [intOf]; omega
    · have hke : k = xs.length := by omega
      subst hke
      clear hcell
      go_wp2
      go_ret
      exact ⟨rfl, ht, SlG.d hM (by have := mixTo_len up2 tot2 q xs xs.length; unfold up3; rw [this]; exact hA)⟩

theorem szTo_le (xs : List (List Int)) : tot2 xs ≤ size2 xs := by unfold tot2 size2; omega
theorem szTo_le_of {α : Type} [Inhabited α] (f g : α → Nat) (h : ∀ x, f x ≤ g x) (xs : List α) (k : Nat) : szTo f xs k ≤ szTo g xs k := by
  induction k with
  | zero => exact Nat.le_refl _
  | succ k ih => simp only [szTo]; have := h (gt xs k); omega
theorem tot3_le (xs : List (List (List Int))) : tot3 xs ≤ size3 xs := by
  unfold tot3 size3
  have := szTo_le_of tot2 size2 szTo_le xs xs.length
  omega

set_option maxHeartbeats 2000000 in
theorem markPresentationB_ok (v : Value) (P : Pr) (w : World) (F : Nat → Prop) (h : PresW F w v P) (hl : sizeP P ≤ 1048576) :
    Calls Tryz.prog 31 #[v, .int .i64 1] w fun e w' => ∃ q : Int, (0 ≤ q ∧ q ≤ 4000000) ∧ e = .returned (.int .i64 q) ∧ Touch (fun k => F k ∨ w.heap.size ≤ k) w w' := by
  obtain ⟨vo, vp, vc, Fo, Fp, Fc, rfl, h1, h2, h3, h4, h5, h6⟩ := h
  have ho : P.orders.length ≤ 1048576 := by unfold sizeP at hl; omega
  have hp : tot2 P.powers ≤ 1048576 := by have := szTo_le P.powers; unfold sizeP at hl; omega
  have hc : tot3 P.conj ≤ 1048576 := by have := tot3_le P.conj; unfold sizeP at hl; omega
  have HS := Lib.hid (And.intro ho (And.intro hp hc)); clear ho hp hc hl
  have hg0 : Ext w (w.alloc (.cells #[vo, vp, vc] 32)) := World.grownBy_alloc _ _ _
  have b1 := Box3.made w 32 vo vp vc
  have hfr : ∀ (G : Nat → Prop) k, G k → k < w.heap.size → (G k ∧ k < w.heap.size) ∧ k < (w.alloc (.cells #[vo, vp, vc] 32)).heap.size ∧ (w.alloc (.cells #[vo, vp, vc] 32)).heap[k]? = w.heap[k]? := fun G k hk hlt => ⟨⟨hk, hlt⟩, Nat.lt_of_lt_of_le hlt hg0.size, hg0.block k hlt (by simp)⟩
  have g1 := rdOwn.mono h1 (hfr Fo)
  have g2 := rdRowsW.mono h2 (hfr Fp)
  have g3 := SlD.mono rdRowsW h3 (hfr Fc)
  have HF := Lib.hid (And.intro g1 (And.intro g2 (And.intro g3 (And.intro h4 (And.intro h5 h6))))); clear g1 g2 g3 h1 h2 h3 h4 h5 h6 hfr
  have HB := Lib.hid b1; clear b1
  have hsz : (w.alloc (.cells #[vo, vp, vc] 32)).heap.size = w.heap.size + 1 := by simp
  have HZ := Lib.hid hsz; clear hsz
  have hvo : ∃ a n c, vo = .slice a n c := by obtain ⟨a, c, hv, _⟩ := HF.out.1.ints.shape; exact ⟨_, _, _, hv⟩
  have hvp : ∃ a n c, vp = .slice a n c := by obtain ⟨a, c, hv, _⟩ := SlD.shape HF.out.2.1; exact ⟨_, _, _, hv⟩
  have hvc : ∃ a n c, vc = .slice a n c := by obtain ⟨a, c, hv, _⟩ := SlD.shape HF.out.2.2.1; exact ⟨_, _, _, hv⟩
  obtain ⟨oa, on, oc, rfl⟩ := hvo
  obtain ⟨pa, pn, pc, rfl⟩ := hvp
  obtain ⟨ca, cn, cc, rfl⟩ := hvc
  go_enter Tryz.func31, Tryz.ntmps31
  go_wp2_with fail
  generalize w.alloc (.cells #[.slice oa on oc, .slice pa pn pc, .slice ca cn cc] 32) = w0 at *
  have hbox : ∀ (G : Nat → Prop) (u1 u2 : World), Touch (fun k => G k ∧ k < w.heap.size) u1 u2 → Box3 u1 w.heap.size (.slice oa on oc) (.slice pa pn pc) (.slice ca cn cc) → Box3 u2 w.heap.size (.slice oa on oc) (.slice pa pn pc) (.slice ca cn cc) := fun G u1 u2 ht hb => by
    obtain ⟨c0, c1, c2, c3, c4⟩ := hb
    have e := ht.block w.heap.size c0 (fun h => by have := h.2; omega)
    exact ⟨Nat.lt_of_lt_of_le c0 ht.size, (World.cell?_of_block (w := u1) e).trans c1, (World.cell?_of_block (w := u1) e).trans c2, (World.cell?_of_block (w := u1) e).trans c3, fun k => (World.frozen?_of_block (w := u1) e).trans (c4 k)⟩
  have HX := Lib.hid hbox; clear hbox
  refine Calls.mono (markInt64S_ok _ _ 1 _ _ HF.out.1 ⟨by omega, by have := HS.out.1; omega⟩) ?_
  rintro eA wA ⟨rfl, hTA, _⟩
  have BA := HX.out _ _ _ hTA HB.out
  obtain ⟨_, a0, a1, a2, _⟩ := id BA
  have hpA := rdRowsW.mono HF.out.2.1 (hTA.frame (S := fun k => Fp k ∧ k < w.heap.size) (fun k hk hk' => (HF.out.2.2.2.1 k hk'.1).2.1 hk.1))
  have hcA := SlD.mono rdRowsW HF.out.2.2.1 (hTA.frame (S := fun k => Fc k ∧ k < w.heap.size) (fun k hk hk' => (HF.out.2.2.2.1 k hk'.1).2.2 hk.1))
  go_wp2_with fail
  clear a0 a1 a2
  refine Calls.mono (markInt64SS_ok _ _ (1 + (P.orders.length : Int)) _ _ hpA ⟨by omega, by have := HS.out; omega⟩) ?_
  rintro eB wB ⟨rfl, hTB, _⟩
  have BB := HX.out _ _ _ hTB BA
  obtain ⟨_, a0, a1, a2, _⟩ := id BB
  have hcB := SlD.mono rdRowsW hcA (hTB.frame (S := fun k => Fc k ∧ k < w.heap.size) (fun k hk hk' => (HF.out.2.2.2.2.1 k hk'.1).2 hk.1))
  go_wp2_with fail
  clear a0 a1 a2
  refine Calls.mono (markInt64SSS_ok _ _ (1 + (P.orders.length : Int) + (tot2 P.powers : Nat)) _ _ hcB ⟨by omega, by have := HS.out; omega⟩) ?_
  rintro eC wC ⟨rfl, hTC, _⟩
  go_wp2
  go_ret
  have t0 : Touch (fun k => F k ∨ w.heap.size ≤ k) w w0 := Touch.of hg0 (fun k hk => by cases hk)
  have t1 : Touch (fun k => F k ∨ w.heap.size ≤ k) w wA := t0.trans hTA (fun _ h => h) (fun k hk => .inl (HF.out.2.2.2.1 k hk.1).1)
  have t2 : Touch (fun k => F k ∨ w.heap.size ≤ k) w wB := t1.trans hTB (fun _ h => h) (fun k hk => .inl (HF.out.2.2.2.2.1 k hk.1).1)
  have t3 : Touch (fun k => F k ∨ w.heap.size ≤ k) w wC := t2.trans hTC (fun _ h => h) (fun k hk => .inl (HF.out.2.2.2.2.2 k hk.1))
  exact ⟨_, ⟨by omega, by have := HS.out; omega⟩, rfl, t3⟩

theorem markPresentation_ok (v : Value) (P : Pr) (w : World) (F : Nat → Prop) (h : PresW F w v P) (hl : sizeP P ≤ 1048576) :
    Calls Tryz.prog 31 #[v, .int .i64 1] w fun e w' => ∃ q : Int, 0 ≤ q ∧ e = .returned (.int .i64 q) ∧ Touch (fun k => F k ∨ w.heap.size ≤ k) w w' :=
  (markPresentationB_ok v P w F h hl).mono fun _ _ ⟨q, hq, he, ht⟩ => ⟨q, hq.1, he, ht⟩

end Go.Proofs.YtchbegeklckgnaaGreat

/- SubgroupElements on both sides. -/
namespace Go.Proofs.YtchbegeklckgnaaGreat
open Go.RowKit

theorem rows3One {S : Nat → Prop} {w : World} {u : Value} {U : List (List Int)} (h : Rows2 S w u U) : Rows3 Any (w.alloc (.cells #[u] 23)) (.slice (some ⟨w.heap.size, 0, none⟩) 1 1) [U] := by
  refine ⟨_, 1, rfl, ⟨by simp, by simp, fun h => by cases h⟩, fun i hi => ?_⟩
  have : i = 0 := by simpa using hi
  subst this
  refine ⟨w.heap.size, 0, u, rfl, trivial, by simp, by rw [World.cell?_alloc_at _ _ _ _ rfl]; rfl, ?_⟩
  exact Rows2.sub (Rows2.ext h (World.grownBy_alloc _ _ _)) (fun _ _ _ => trivial)

theorem rows3Two {S S' : Nat → Prop} {w : World} {u v : Value} {U V : List (List Int)} (h : Rows2 S w u U) (k : Rows2 S' w v V) : Rows3 Any (w.alloc (.cells #[u, v] 23)) (.slice (some ⟨w.heap.size, 0, none⟩) 2 2) [U, V] := by
  refine ⟨_, 2, rfl, ⟨by simp, by simp, fun h => by cases h⟩, fun i hi => ?_⟩
  rcases (show i = 0 ∨ i = 1 by simp at hi; omega) with rfl | rfl
  · refine ⟨w.heap.size, 0, u, rfl, trivial, by simp, by rw [World.cell?_alloc_at _ _ _ _ rfl]; rfl, ?_⟩
    exact Rows2.sub (Rows2.ext h (World.grownBy_alloc _ _ _)) (fun _ _ _ => trivial)
  · refine ⟨w.heap.size, 0, v, rfl, trivial, by simp, by rw [World.cell?_alloc_at _ _ _ _ rfl]; rfl, ?_⟩
    exact Rows2.sub (Rows2.ext k (World.grownBy_alloc _ _ _)) (fun _ _ _ => trivial)

open Classical in
/-- the code and the list of SubgroupElements -/
noncomputable def selC (P : Pr) (U : List (List Int)) : Int := if rconsB P = true ∧ SubB P U then (if 128 < prodU P U U.length then 3 else 0) else 1
open Classical in
noncomputable def selL (P : Pr) (U : List (List Int)) : List (List Int) := if selC P U = 0 then elemsIn P (genP P (fun x => x ∈ U)) else []

theorem elemsIn_len {P : Pr} (hP : Valid P) (H : List Int → Prop) : (elemsIn P H).length ≤ 729 := by
  have h1 := elemsTo_len P H (ordP P).toNat
  rw [elemsTo_all] at h1
  have h2 : ordP P ≤ 729 := hP.le729
  omega

theorem selL_bad {P : Pr} {U : List (List Int)} (h : ¬ (rconsB P = true ∧ SubB P U)) : selC P U = 1 ∧ selL P U = [] := by
  have h1 : selC P U = 1 := by unfold selC; rw [if_neg h]
  exact ⟨h1, by unfold selL; rw [h1, if_neg (by decide)]⟩
theorem selL_big {P : Pr} {U : List (List Int)} (h : rconsB P = true ∧ SubB P U) (h2 : 128 < prodU P U U.length) : selC P U = 3 ∧ selL P U = [] := by
  have h1 : selC P U = 3 := by unfold selC; rw [if_pos h, if_pos h2]
  exact ⟨h1, by unfold selL; rw [h1, if_neg (by decide)]⟩
theorem selL_ok {P : Pr} {U : List (List Int)} (h : rconsB P = true ∧ SubB P U) (h2 : ¬ 128 < prodU P U U.length) : selC P U = 0 ∧ selL P U = elemsIn P (genP P (fun x => x ∈ U)) := by
  have h1 : selC P U = 0 := by unfold selC; rw [if_pos h, if_neg h2]
  exact ⟨h1, by unfold selL; rw [h1, if_pos rfl]⟩

set_option maxRecDepth 100000 in
set_option maxHeartbeats 4000000 in
theorem iSubEl_ok (P : Pr) (w : World) (pv uv : Value) (U : List (List Int)) (Sp Su : Nat → Prop) (hpv : PresV Sp w pv P) (hu : Rows2 Su w uv U) :
    Calls Tryz.prog 29 #[pv, uv] w (Ret w fun w' v => ∃ a n c, v = .tuple #[.slice a n c, .int .i64 (selC P U)] ∧ RowsO w.heap.size w' (.slice a n c) (selL P U)) := by
  obtain ⟨vo, vp, vc, rfl, h3⟩ := hpv
  have hp0 := PresP.box h3 32
  have hg0 : Ext w (w.alloc (.cells #[vo, vp, vc] 32)) := World.grownBy_alloc _ _ _
  have hs0 : (w.alloc (.cells #[vo, vp, vc] 32)).heap.size = w.heap.size + 1 := by simp
  have hu0 := Rows2.ext hu hg0
  obtain ⟨au, capu, rfl, _, _⟩ := Sl.shape hu
  have hg1 : Ext (w.alloc (.cells #[vo, vp, vc] 32)) ((w.alloc (.cells #[vo, vp, vc] 32)).alloc (.cells #[.slice au U.length capu] 23)) := World.grownBy_alloc _ _ _
  have hl := rows3One hu0
  have hcon := areSubgroups_ok P _ _ _ [U] Any Any (hp0.ext hg1) hl
  rw [hs0] at hcon
  clear hl hu
  go_enter Tryz.func29, Tryz.ntmps29
  go_wp2_with fail
  refine Calls.mono hcon ?_
  rintro e1 w1 ⟨v1, rfl, hgA, r1, rfl, hr1⟩
  clear hcon
  have hr1 : r1 = true ↔ rconsB P = true ∧ SubB P U := by rw [hr1]; simp
  have hg01 := grown_trans hg1 hgA
  have HS := Lib.hid hs0; clear hs0
  generalize hw0 : w.alloc (.cells #[vo, vp, vc] 32) = w0 at *
  clear hw0 hg1 hgA
  have hp1 := hp0.ext hg01
  have hu1 := Rows2.ext hu0 hg01
  have hs1 : w.heap.size ≤ w1.heap.size := by have := hg01.size; have := HS.out; omega
  cases r1 with
  | false =>
    obtain ⟨hc, hL⟩ := selL_bad (P := P) (U := U) (fun h => by have := hr1.2 h; cases this)
    have HC := Lib.hid (And.intro hc hL); clear hc hL hr1
    go_wp2
    go_ret2
    exact ⟨_, rfl, grown_trans hg0 hg01, none, 0, 0, by rw [HC.out.1]; rfl, by rw [HC.out.2]; exact SlO.nil _ _ _ _⟩
  | true =>
    obtain ⟨hr, hS⟩ := hr1.1 rfl
    have G := grp_of_r hr
    have hSub := G.subB hS
    have hfac := G.seq_facts hSub
    rw [← hS.2] at hfac
    have hn6 := G.v.n6
    have hul := G.sub_len hS
    have hels := G.els_sorted hSub
    rw [← hS.2] at hels
    have HR := Lib.hid (And.intro hr (And.intro hS (And.intro hfac hels))); clear hr hS hfac hels hr1
    go_wp2_with fail
    refine Calls.mono (sizeOf_ok P G.v w1 _ _ U Any Su hp1 hu1 HR.out.2.2.1.1 (by omega)) ?_
    rintro e2 w2 ⟨v2, rfl, hg2, rfl⟩
    have hg02 := grown_trans hg01 hg2
    by_cases hb : 128 < prodU P U U.length
    · obtain ⟨hc, hL⟩ := selL_big (P := P) (U := U) ⟨HR.out.1, HR.out.2.1⟩ hb
      have HC := Lib.hid (And.intro hc hL); clear hc hL
      go_wp2
      go_ret2
      exact ⟨_, rfl, grown_trans hg0 hg02, none, 0, 0, by rw [HC.out.1]; rfl, by rw [HC.out.2]; exact SlO.nil _ _ _ _⟩
    · obtain ⟨hc, hL⟩ := selL_ok (P := P) (U := U) ⟨HR.out.1, HR.out.2.1⟩ hb
      have HC := Lib.hid (And.intro hc hL); clear hc hL
      go_wp2_with fail
      refine Calls.mono (elementsOf_ok P G w2 _ _ U Any Su (hp0.ext hg02) (Rows2.ext hu0 hg02) HR.out.2.2.1.1 (by omega)) ?_
      rintro e3 w3 ⟨v3, rfl, hg3, hO⟩
      rw [HR.out.2.2.2] at hO
      have hlen := elemsIn_len G.v (genP P (fun x => x ∈ U))
      obtain ⟨az, capz, hvz, _, _⟩ := SlD.shape (hO.toD (by omega))
      subst hvz
      go_wp2
      go_ret2
      exact ⟨_, rfl, grown_trans hg0 (grown_trans hg02 hg3), _, _, _, by rw [HC.out.1]; rfl, by rw [HC.out.2]; exact hO.weak (by have := hg02.size; have := HS.out; omega)⟩

set_option maxRecDepth 100000 in
set_option maxHeartbeats 4000000 in
theorem sSubEl_ok (P : Pr) (w : World) (pv uv : Value) (U : List (List Int)) (Sp Su : Nat → Prop) (hpv : PresV Sp w pv P) (hu : Rows2 Su w uv U) :
    Calls Tryz.prog 27 #[pv, uv] w (Ret w fun w' v => ∃ a n c, v = .tuple #[.slice a n c, .int .i64 (selC P U)] ∧ Rows2 Any w' (.slice a n c) (selL P U)) := by
  obtain ⟨vo, vp, vc, rfl, h3⟩ := hpv
  have hp0 := PresP.box h3 32
  have hg0 : Ext w (w.alloc (.cells #[vo, vp, vc] 32)) := World.grownBy_alloc _ _ _
  have hu0 := Rows2.ext hu hg0
  obtain ⟨au, capu, rfl, _, _⟩ := Sl.shape hu
  obtain ⟨vo6, vp6, vc6, _, _, hc0, hc1, hc2, h36⟩ := hp0.at
  simp only [Nat.zero_add] at hc1 hc2
  have hbx : ∀ w', Ext (w.alloc (.cells #[vo, vp, vc] 32)) w' → w'.cell? ⟨w.heap.size, 0, none⟩ = some vo6 ∧ w'.cell? ⟨w.heap.size, 1, none⟩ = some vp6 ∧ w'.cell? ⟨w.heap.size, 2, none⟩ = some vc6 := fun w' h => ⟨h.cell hc0 (by simp), h.cell hc1 (by simp), h.cell hc2 (by simp)⟩
  have HB := Lib.hid hbx; clear hbx
  have hE := sIsSubgroup_ok P (w.alloc (.cells #[vo, vp, vc] 32)) _ _ U Any Su ⟨_, _, _, rfl, h36⟩ hu0
  clear hp0 hu
  go_enter Tryz.func27, Tryz.ntmps27
  go_wp2_with fail
  clear hc0 hc1 hc2
  generalize hw0 : w.alloc (.cells #[vo, vp, vc] 32) = w0 at *
  clear hw0
  refine Calls.mono hE ?_
  rintro e1 w1 ⟨v1, rfl, hg1, r1, rfl, hr1⟩
  clear hE
  obtain ⟨hb0, hb1, hb2⟩ := HB.out w1 hg1
  cases r1 with
  | false =>
    obtain ⟨hc, hL⟩ := selL_bad (P := P) (U := U) (fun h => by have := hr1.2 h; cases this)
    have HC := Lib.hid (And.intro hc hL); clear hc hL hr1
    go_wp2
    go_ret2
    exact ⟨_, rfl, grown_trans hg0 hg1, none, 0, 0, by rw [HC.out.1]; rfl, by rw [HC.out.2]; exact ⟨none, 0, rfl, ⟨by simp, by simp, fun _ => rfl⟩, fun i hi => by simp at hi⟩⟩
  | true =>
    obtain ⟨hr, hS⟩ := hr1.1 rfl
    have G := grp_of_r hr
    have hSub := G.subB hS
    have hfac := G.seq_facts hSub
    rw [← hS.2] at hfac
    have hn6 := G.v.n6
    have hul := G.sub_len hS
    have HR := Lib.hid (And.intro hr (And.intro hS hfac)); clear hr hS hfac hr1
    go_wp2_with fail
    clear hb0 hb1 hb2
    refine Calls.mono (l12Order_ok P G.v w1 _ _ U Any Su ⟨_, _, _, rfl, Pres3.ext h36 hg1⟩ (Rows2.ext hu0 hg1) HR.out.2.2.1 (by omega)) ?_
    rintro e2 w2 ⟨v2, rfl, hg2, rfl⟩
    have hg02 := grown_trans hg1 hg2
    obtain ⟨hb0, hb1, hb2⟩ := HB.out w2 hg02
    by_cases hb : 128 < prodU P U U.length
    · obtain ⟨hc, hL⟩ := selL_big (P := P) (U := U) ⟨HR.out.1, HR.out.2.1⟩ hb
      have HC := Lib.hid (And.intro hc hL); clear hc hL
      go_wp2
      go_ret2
      exact ⟨_, rfl, grown_trans hg0 hg02, none, 0, 0, by rw [HC.out.1]; rfl, by rw [HC.out.2]; exact ⟨none, 0, rfl, ⟨by simp, by simp, fun _ => rfl⟩, fun i hi => by simp at hi⟩⟩
    · obtain ⟨hc, hL⟩ := selL_ok (P := P) (U := U) ⟨HR.out.1, HR.out.2.1⟩ hb
      have HC := Lib.hid (And.intro hc hL); clear hc hL
      have hu2 : Rows2 Su w2 (.slice au U.length capu) (cseq P (genP P (fun x => x ∈ U))) := by rw [← HR.out.2.1.2]; exact Rows2.ext hu0 hg02
      go_wp2_with fail
      clear hb0 hb1 hb2
      refine Calls.mono (l12Elements_ok P G w2 _ _ (genP P (fun x => x ∈ U)) Any Su hSub ⟨_, _, _, rfl, Pres3.ext h36 hg02⟩ hu2) ?_
      rintro e3 w3 ⟨v3, rfl, hg3, hO⟩
      have hlen := elemsIn_len G.v (genP P (fun x => x ∈ U))
      have hOD := hO.toD (by omega)
      obtain ⟨az, capz, hvz, _, _⟩ := SlD.shape hOD
      subst hvz
      go_wp2
      go_ret2
      exact ⟨_, rfl, grown_trans hg0 (grown_trans hg02 hg3), _, _, _, by rw [HC.out.1]; rfl, by rw [HC.out.2]; exact Rows2.sub (RowsD.rows hOD) (fun _ _ _ => trivial)⟩

theorem sz_bound {α : Type} [Inhabited α] (sz : α → Nat) (xs : List α) (b : Nat) (h : ∀ x ∈ xs, sz x ≤ b) (k : Nat) (hk : k ≤ xs.length) : szTo sz xs k ≤ b * k := by
  induction k with
  | zero => simp [szTo]
  | succ k ih =>
    have h1 := ih (by omega)
    have h2 := h _ (gt_mem (l := xs) (i := k) (by omega))
    simp only [szTo, Nat.mul_succ]; omega

theorem selL_len (P : Pr) (U : List (List Int)) : (selL P U).length ≤ 729 := by
  by_cases h : rconsB P = true ∧ SubB P U
  · by_cases h2 : 128 < prodU P U U.length
    · rw [(selL_big h h2).2]; simp
    · rw [(selL_ok h h2).2]; exact elemsIn_len (grp_of_r h.1).v _
  · rw [(selL_bad h).2]; simp

theorem selL_tot (P : Pr) (U : List (List Int)) : tot2 (selL P U) ≤ 1000000 := by
  have hl := selL_len P U
  have hb : ∀ x ∈ selL P U, x.length ≤ 6 := by
    intro x hx
    by_cases h : rconsB P = true ∧ SubB P U
    · by_cases h2 : 128 < prodU P U U.length
      · rw [(selL_big h h2).2] at hx; cases hx
      · rw [(selL_ok h h2).2] at hx
        have G := grp_of_r h.1
        have hS := G.subB h.2
        have := hS.vec x ((elemsIn_mem G.v hS.vec x).1 hx)
        rw [this.1]; exact G.v.n6
    · rw [(selL_bad h).2] at hx; cases hx
  have := sz_bound List.length (selL P U) 6 hb _ (Nat.le_refl _)
  unfold tot2; omega

end Go.Proofs.YtchbegeklckgnaaGreat

/- The laws' look at marked rows of rows: laws.heldInt64SS, heldInt64SSS. -/
namespace Go.Proofs.YtchbegeklckgnaaGreat
open Go.RowKit

set_option maxHeartbeats 1000000 in
theorem heldInt64SS_ok (v : Value) (xs : List (List Int)) (q : Int) (w : World) (S : Nat → Prop) (h : Rows2 S w v (up2 q xs)) (hq0 : 0 ≤ q ∧ q + tot2 xs ≤ 1000000000) :
    Calls Tryz.prog 21 #[v, .int .i64 q] w (Ret w fun _ r => r = .int .i64 (q + tot2 xs)) := by
  have hq : 0 ≤ q ∧ q + szTo List.length xs xs.length ≤ 1000000000 := hq0
  clear hq0
  obtain ⟨a, cap, rfl, hcap, hmax⟩ := Sl.shape h
  have hul : (up2 q xs).length = xs.length := mixTo_len _ _ _ _ _
  rw [hul] at h hmax ⊢
  have HU := Lib.hid hul; clear hul
  go_enter Tryz.func21, Tryz.ntmps21
  go_wp2
  go_loopw [1, 5] (fun qv iv wr => ∃ k : Nat, iv = .int .i64 k ∧ qv = .int .i64 (q + szTo List.length xs k) ∧ k ≤ xs.length ∧ Ext w wr) (fun _ iv _ => xs.length - (intOf iv).toNat)
  case atStart => exact ⟨0, rfl, by simp [szTo], by omega, Ext.refl _⟩
  case round =>
    obtain ⟨k, rfl, rfl, hk, hg⟩ := hrel
    by_cases hlt : k < xs.length
    · obtain ⟨b, off, a2, cap2, rfl, _, _, hc2, hi2⟩ := Rows2.at (Rows2.ext h hg) k (by rw [HU.out]; exact hlt)
      have hgu : gt (up2 q xs) k = up1 (q + szTo List.length xs k) (gt xs k) := by
        unfold up2; rw [gt_mixTo _ _ _ _ _ _ hlt, if_pos hlt]
      have hm := szTo_mono List.length xs (show k + 1 ≤ xs.length by omega)
      have hst : szTo List.length xs (k + 1) = szTo List.length xs k + List.length (gt xs k) := rfl
      have hqk : 0 ≤ q + (szTo List.length xs k : Nat) ∧ q + (szTo List.length xs k : Nat) + (List.length (gt xs k) : Nat) ≤ 1000000000 := by omega
      have h0 : 0 ≤ q + (szTo List.length xs k : Nat) + (List.length (gt xs k) : Nat) := by omega
      have h1 : ¬ (q + (szTo List.length xs k : Nat) + (List.length (gt xs k) : Nat) < 0) := by omega
      have hi3 : Ints S wr (.slice a2 (gt (up2 q xs) k).length cap2) (up1 (q + szTo List.length xs k) (gt xs k)) := by rw [← hgu]; exact hi2
      have HQ := Lib.hid (And.intro hqk (And.intro hm hst)); clear hqk hm hst hi2 hgu
      generalize (gt (up2 q xs) k).length = m2 at *
      go_wp2_with fail
      refine Calls.mono (heldInt64S_ok _ ((gt xs k).length) (q + (szTo List.length xs k : Nat)) wr S hi3 HQ.out.1) ?_
      rintro eA wA ⟨vA, rfl, hgA, rfl⟩
      clear hc2 hi3
      go_wp2
      go_roundw
      case rel => exact ⟨k + 1, by go_num, by simp [szTo]; omega, by omega, grown_trans hg hgA⟩
      case measure => simp [intOf]; omega
    · have hke : k = xs.length := by omega
      subst hke
      go_wp2
      go_ret
      exact ⟨_, rfl, hg, rfl⟩

end Go.Proofs.YtchbegeklckgnaaGreat

/- What a law over one presentation and one list keeps in view. -/
namespace Go.Proofs.YtchbegeklckgnaaGreat
open Go.RowKit

/-- what a law over one presentation and one list keeps in view -/
structure St (P : Pr) (w W : World) (vo vp vc uo up uc r g : Value) (bx : Nat) (FX FR FG : Nat → Prop) (l l' : List Int) : Prop where
  a : Ext w W
  b : Box3 W w.heap.size vo vp vc
  x : Box3 W bx uo up uc
  p : PresW FX W (.agg #[uo, up, uc]) P
  r : OwnIn FR W r l
  g : OwnIn FG W g l'

theorem St.ext {P : Pr} {w W W' : World} {vo vp vc uo up uc r g : Value} {bx : Nat} {FX FR FG : Nat → Prop} {l l' : List Int} (h : St P w W vo vp vc uo up uc r g bx FX FR FG l l') (hg : Ext W W') : St P w W' vo vp vc uo up uc r g bx FX FR FG l l' :=
  ⟨grown_trans h.a hg, h.b.ext hg, h.x.ext hg, h.p.ext hg, rdOwn.mono h.r (frame_ext hg), rdOwn.mono h.g (frame_ext hg)⟩

theorem Box3.keep {W W' : World} {b : Nat} {x0 x1 x2 : Value} (h : Box3 W b x0 x1 x2) (hs : W.heap.size ≤ W'.heap.size) (e : W'.heap[b]? = W.heap[b]?) : Box3 W' b x0 x1 x2 := by
  obtain ⟨c0, c1, c2, c3, c4⟩ := h
  exact ⟨Nat.lt_of_lt_of_le c0 hs, (World.cell?_of_block (w := W) e).trans c1, (World.cell?_of_block (w := W) e).trans c2, (World.cell?_of_block (w := W) e).trans c3, fun k => (World.frozen?_of_block (w := W) e).trans (c4 k)⟩


end Go.Proofs.YtchbegeklckgnaaGreat

/- The rows' arguments: how a presentation that came in, or a list, reads in this claim's words. -/
namespace Go.Proofs.YtchbegeklckgnaaGreat
open Go.RowKit Go.ChangeShapes Go.WideShapes Go.Deep

theorem cells_int64 : Tryz.prog.cellsOf 2 = 1 := by kernel_rfl
theorem cells_ints : Tryz.prog.cellsOf 22 = 1 := by kernel_rfl
theorem cells_rows : Tryz.prog.cellsOf 23 = 1 := by kernel_rfl
theorem und_int64r : Tryz.prog.underlying 2 = some (.int .i64) := by kernel_rfl

section
variable {H : Type} {enc : TypeId × Value → H} {W : World} {sp : Nat → Bool}

/-- a slice that was read is one of this claim's slices -/
theorem open_sl {α : Type} [Inhabited α] {El : World → Value → α → Prop} {t e : TypeId} (ht : Tryz.prog.underlying t = some (.slice e)) (hc : Tryz.prog.cellsOf e = 1)
    (hEl : ∀ n c x, DataW.trod enc Tryz.prog W 0 sp true n e [c] = some x → ∃ y, El W c y) {fuel : Nat} {c : Value} {x : DataW H × List MemPlace} (h : DataW.trod enc Tryz.prog W 0 sp true fuel t [c] = some x) :
    ∃ xs : List α, Sl El Any W c xs := by
  rcases open_slice1 ht hc h with ⟨hcs, _⟩ | ⟨a, len, cap, m, n, V, D, Pl, hcs, _, hl, hm, hmm, _, hx⟩
  · cases hcs
    exact ⟨[], none, 0, rfl, ⟨by simp, by simp, fun _ => rfl⟩, fun i hi => by simp at hi⟩
  · cases hcs
    have hlm : len ≤ m := by rw [hmm]; split <;> omega
    obtain ⟨Z, hZ⟩ := choose_lt (α := α) (n := len) (p := fun i y => El W (V i) y) (fun i hi => hEl n (V i) _ (hx i (by omega)).2)
    refine ⟨(List.range len).map Z, some a, cap, by simp, ⟨by simpa using hl, by simp; unfold maxLen at hm; omega, fun h => by cases h⟩, fun i hi => ?_⟩
    simp only [List.length_map, List.length_range] at hi
    obtain ⟨h1, h2⟩ := hx i (by omega)
    obtain ⟨b, off, spot⟩ := a
    have hs : spot = none := by
      have h0 := (hx 0 (by omega)).1
      exact World.cell?_spot (by simpa [Addr.add] using h0)
    subst hs
    have hcell : W.cell? ⟨b, off + i, none⟩ = some (V i) := by
      have e : (⟨b, off, none⟩ : Addr).add i = ⟨b, off + i, none⟩ := by
        unfold Addr.add; split
        · rename_i h; subst h; rfl
        · rfl
      rw [← e]; exact h1
    refine ⟨b, off, V i, rfl, trivial, World.block_lt_of_cell? W _ hcell, hcell, ?_⟩
    have : gt ((List.range len).map Z) i = Z i := by simp [gt, hi]
    rw [this]; exact hZ i hi

theorem open_i64 {n : Nat} {c : Value} {x : DataW H × List MemPlace} (h : DataW.trod enc Tryz.prog W 0 sp true n 2 [c] = some x) : ∃ y, IntEl W c y := by
  cases n with
  | zero => simp [DataW.trod] at h
  | succ n =>
    unfold DataW.trod at h
    rw [und_int64r] at h
    cases c <;> simp at h
    rename_i k z
    obtain ⟨⟨rfl, _⟩, _⟩ := h
    exact ⟨z, rfl⟩
theorem open_i64s {n : Nat} {c : Value} {x : DataW H × List MemPlace} (h : DataW.trod enc Tryz.prog W 0 sp true n 22 [c] = some x) : ∃ l, Ints Any W c l :=
  open_sl und_ints cells_int64 (fun _ _ _ h => open_i64 h) h
theorem open_rows2 {n : Nat} {c : Value} {x : DataW H × List MemPlace} (h : DataW.trod enc Tryz.prog W 0 sp true n 23 [c] = some x) : ∃ l, Rows2 Any W c l :=
  open_sl (El := fun w u x => Ints Any w u x) und_rows cells_ints (fun _ _ _ h => open_i64s h) h
theorem open_rows3 {n : Nat} {c : Value} {x : DataW H × List MemPlace} (h : DataW.trod enc Tryz.prog W 0 sp true n 24 [c] = some x) : ∃ l, Rows3 Any W c l :=
  open_sl (El := fun w u x => Rows2 Any w u x) und_rows3 cells_rows (fun _ _ _ h => open_rows2 h) h

theorem cells_pres : Tryz.prog.cellsOf 26 = 3 := by kernel_rfl

set_option maxRecDepth 100000 in
/-- a presentation that came in -/
theorem open_pres {base : Nat} {v : Value} {d : DataW H} {p : List MemPlace} (hv : Value.okWide Tryz.prog W .any base 26 v) (h : DataW.Trod enc Tryz.prog W 0 sp true 26 v d p) : ∃ P, PresV Any W v P := by
  obtain ⟨fs, hfs, h3⟩ : ∃ fs, Tryz.prog.underlying 26 = some (.struct fs) ∧ fs.map (fun f => (f.offset, f.type)) = #[(0, 22), (1, 23), (2, 24)] := ⟨_, Tryz.underlying26, by simp⟩
  obtain ⟨cs, rfl, hsz⟩ := okWide_struct hfs hv
  rw [cells_pres] at hsz
  obtain ⟨n, hn⟩ := h
  obtain ⟨xs, m, _, _, hl, hlen, hf⟩ := DataW.trod_struct hfs hn
  obtain ⟨c0, c1, c2, rfl⟩ : ∃ c0 c1 c2, cs = #[c0, c1, c2] := by
    match cs, hsz with
    | ⟨[c0, c1, c2]⟩, _ => exact ⟨c0, c1, c2, rfl⟩
  have hfsz : fs.size = 3 := by have := congrArg Array.size h3; simpa using this
  have hget : ∀ i (hi : i < 3), ∃ f, fs[i]? = some f ∧ (f.offset, f.type) = (#[(0, 22), (1, 23), (2, 24)] : Array (Nat × TypeId))[i]'(by simpa using hi) := fun i hi => by
    have h1 : (fs.map (fun f => (f.offset, f.type)))[i]? = (#[(0, 22), (1, 23), (2, 24)] : Array (Nat × TypeId))[i]? := by rw [h3]
    rw [Array.getElem?_map, Array.getElem?_eq_getElem (by omega), Array.getElem?_eq_getElem (by simpa using hi)] at h1
    exact ⟨_, Array.getElem?_eq_getElem (by omega), by simpa using h1⟩
  obtain ⟨f0, g0, e0⟩ := hget 0 (by omega)
  obtain ⟨f1, g1, e1⟩ := hget 1 (by omega)
  obtain ⟨f2, g2, e2⟩ := hget 2 (by omega)
  simp only [Prod.mk.injEq, List.getElem_toArray, List.getElem_cons_zero, List.getElem_cons_succ] at e0 e1 e2
  have k0 := hf 0 f0 g0
  have k1 := hf 1 f1 g1
  have k2 := hf 2 f2 g2
  rw [e0.1, e0.2, cells_ints, List.getElem?_eq_getElem (by omega)] at k0
  rw [e1.1, e1.2, cells_rows, List.getElem?_eq_getElem (by omega)] at k1
  rw [e2.1, e2.2, show Tryz.prog.cellsOf 24 = 1 by kernel_rfl, List.getElem?_eq_getElem (by omega)] at k2
  obtain ⟨o, ho⟩ := open_i64s k0
  obtain ⟨q, hq⟩ := open_rows2 k1
  obtain ⟨r, hr⟩ := open_rows3 k2
  exact ⟨⟨o, q, r⟩, c0, c1, c2, rfl, ⟨ho, hq, hr⟩⟩
end

end Go.Proofs.YtchbegeklckgnaaGreat
