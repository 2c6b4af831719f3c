/-
  Drawing: spec.l07Table.
  Drawing: spec.l07Meta.
  Drawing: spec.l07Heisenberg.
  Drawing: spec.l07Affine (printed by gen_aff.py).
-/
import Derived.Test.YtmjkoejegfjbbaaGreatC1
import Derived.Test.YtmjkoejegfjbbaaGreatC11
import Derived.Test.YtmjkoejegfjbbaaGreatC12
import Derived.Test.YtmjkoejegfjbbaaGreatC3
import Derived.Test.YtmjkoejegfjbbaaGreatC4
import Derived.Deep.RegionHeld3
namespace Go.Proofs.YtmjkoejegfjbbaaGreat
open Go.RowKit
attribute [local go_sem ↓] Go.wp_at_zero Go.wp_at_succ
def PresQ (N B : Nat) (w' : World) (v : Value) : Prop := ∃ (vo vp vc : Value), v = .agg #[vo, vp, vc] ∧ PresN3 N B w' vo vp vc
theorem PresN.q {N B : Nat} {w' : World} {v : Value} (h : PresN N B w' v) : PresQ N B w' v := by
 obtain ⟨P, h1, vo, vp, vc, rfl, h2⟩ := h
 exact ⟨_, _, _, rfl, P, h1, h2.p3⟩
theorem PresQ.mono {N M B B' : Nat} {w' : World} {v : Value} (h : PresQ N B w' v) (hN : N ≤ M) (hB : B' ≤ B) : PresQ M B' w' v := by
 obtain ⟨vo, vp, vc, rfl, P, h1, h2⟩ := h
 exact ⟨_, _, _, rfl, P, h1.mono hN, h2.mono (fun k hk hlt => ⟨Nat.le_trans hB hk, hlt, rfl⟩)⟩
theorem PresN3.shape {N B : Nat} {w' : World} {vo vp vc : Value} (h : PresN3 N B w' vo vp vc) : ∃ a n c a2 n2 c2 a3 n3 c3, vo = .slice a n c ∧ vp = .slice a2 n2 c2 ∧ vc = .slice a3 n3 c3 := by
 obtain ⟨Q, _, h2⟩ := h
 obtain ⟨a5, c5, hqo, _, _⟩ := h2.o.shape
 obtain ⟨a6, c6, hqp, _, _⟩ := Sl.shape h2.p
 obtain ⟨a7, c7, hqc, _, _⟩ := Sl.shape h2.c
 exact ⟨_, _, _, _, _, _, _, _, _, hqo, hqp, hqc⟩
theorem hQ3 {B r : Nat} {w w' : World} {vo vp vc : Value} {Q : Pr} (hT : w.grownBy w' (some r)) (h : Pres3 (fun k => B ≤ k ∧ k ≠ r) w vo vp vc Q) : Pres3 (From B) w' vo vp vc Q :=
 h.mono (fun k hk hlt => ⟨hk.1, Nat.lt_of_lt_of_le hlt hT.size, hT.block k hlt (fun e => hk.2 (by cases e; rfl))⟩)
set_option maxRecDepth 100000 in
set_option maxHeartbeats 8000000 in
theorem l07Table_ok (w : World) (k : Int) (h0 : 0 ≤ k) (h9 : k < 10) :
  Calls Tryz.prog 414 #[.int .i64 k] w (Ret w (PresQ 6 w.heap.size)) := by
 have hbB := Box3.made w 39 (.slice none 0 0) (.slice none 0 0) (.slice none 0 0)
 have hg0 : Ext w (w.alloc (.cells #[.slice none 0 0, .slice none 0 0, .slice none 0 0] 39)) := World.grownBy_alloc _ _ _
 have hs0 : (w.alloc (.cells #[.slice none 0 0, .slice none 0 0, .slice none 0 0] 39)).heap.size = w.heap.size + 1 := by simp
 rcases (show k = 0 ∨ k = 1 ∨ k = 2 ∨ k = 3 ∨ k = 4 ∨ k = 5 ∨ k = 6 ∨ k = 7 ∨ k = 8 ∨ k = 9 by omega) with rfl | rfl | rfl | rfl | rfl | rfl | rfl | rfl | rfl | rfl
 all_goals
  clear h0 h9
  go_enter Tryz.func414, Tryz.ntmps414
  go_wp2_with fail
  refine Calls.mono (ParsePresentation_ok _ _ (by decide)) ?_
  rintro e1 w1 ⟨v1, rfl, hg1, vo, vp, vc, c, rfl, hP⟩
  obtain ⟨a1, n1, c1, a2, n2, c2, a3, n3, c3, rfl, rfl, rfl⟩ := hP.shape
  have hg1 := grown_trans (World.grownBy_alloc _ _ _) hg1
  have hb1 := hbB.ext hg1
  have hgw1 := grown_trans hg0 hg1
  have hs1 := hg1.size
  clear hbB hg0 hg1
  generalize w.alloc (.cells #[.slice none 0 0, .slice none 0 0, .slice none 0 0] 39) = w0 at *
  have hP3 : ∃ Q, Shp 6 Q ∧ Pres3 (fun k => w.heap.size ≤ k ∧ k ≠ w.heap.size) w1 (.slice a1 n1 c1) (.slice a2 n2 c2) (.slice a3 n3 c3) Q := by
   obtain ⟨Q, q1, q2⟩ := hP
   exact ⟨Q, q1, q2.mono (fun k hk hlt => ⟨by have hk : _ ≤ k := hk; simp at hk; omega, hlt, rfl⟩)⟩
  have hs1w : w.heap.size + 1 ≤ w1.heap.size := by omega
  have hs0' := Lib.hid hs0
  clear hs0 hP hg1
  obtain ⟨q0, q1, q2, q3, q4⟩ := id hb1
  by_cases hc : c = 0
  ·subst hc
   have hgA := World.grownBy_alloc (((w1.setCell ⟨w.heap.size, 0, none⟩ (.slice a1 n1 c1)).setCell ⟨w.heap.size, 1, none⟩ (.slice a2 n2 c2)).setCell ⟨w.heap.size, 2, none⟩ (.slice a3 n3 c3)) (.cells #[.slice a1 n1 c1, .slice a2 n2 c2, .slice a3 n3 c3] 39) none
   have hZn := (hb1.all (.slice a1 n1 c1) (.slice a2 n2 c2) (.slice a3 n3 c3)).ext hgA
   obtain ⟨-, z0, z1, z2, -⟩ := id hZn
   have hTn := grown_set3 w1 w.heap.size (.slice a1 n1 c1) (.slice a2 n2 c2) (.slice a3 n3 c3)
   have HTn := Lib.hid (And.intro hTn (And.intro hP3 hgA)); clear hZn hTn hP3 hgA
   go_wp2_with fail
   refine bodyPost_ret (v := .agg #[.slice a1 n1 c1, .slice a2 n2 c2, .slice a3 n3 c3]) (by simp [results, Tryz.results414, go_sem, z0, z1, z2]) rfl ?_
   obtain ⟨hTn, ⟨Q, k1, k2⟩, hgA⟩ := HTn.out
   exact ⟨_, rfl, grown_trans (grown_own hgw1 hTn (fun j hj hlt => by cases hj; omega)) hgA, _, _, _, rfl, Q, k1, (hQ3 hTn k2).ext hgA⟩
  ·have hc' : (c != 0) = true := by simp [hc]
   clear hc
   have hgA : Ext w1 (w1.alloc (.cells #[.slice a1 n1 c1, .slice a2 n2 c2, .slice a3 n3 c3] 39)) := World.grownBy_alloc _ _ _
   have hbA := Box3.made w1 39 (.slice a1 n1 c1) (.slice a2 n2 c2) (.slice a3 n3 c3)
   have hsA : (w1.alloc (.cells #[.slice a1 n1 c1, .slice a2 n2 c2, .slice a3 n3 c3] 39)).heap.size = w1.heap.size + 1 := by simp
   go_wp2_with fail
   generalize w1.alloc (.cells #[.slice a1 n1 c1, .slice a2 n2 c2, .slice a3 n3 c3] 39) = w2 at *
   have hgL : Ext w2 (w2.alloc (.cells #[.int .i64 2] 2)) := World.grownBy_alloc _ _ _
   have hL : Ints Any (w2.alloc (.cells #[.int .i64 2] 2)) (.slice (some ⟨w2.heap.size, 0, none⟩) 1 1) [2] :=
    ints_of_own (show Own 0 _ _ [2] from World.ownsRow_lit w2 #[.int .i64 2] 1 (Nat.zero_le _) (by decide) rfl) (by simp) (fun _ _ => trivial)
   rw [hsA] at hL
   refine Calls.mono (l07Trivial_ok _ _ [2] _ hL (by simp)) ?_
   rintro e3 w3 ⟨v3, rfl, hg3, vo, vp, vc, rfl, hX3⟩
   obtain ⟨a4, c4, a5, c5, a6, c6, rfl, rfl, rfl⟩ := trivX_shape hX3
   have hg13 := grown_trans hgA (grown_trans hgL hg3)
   have hb3 := hb1.ext hg13
   have hbA3 := hbA.ext (grown_trans hgL hg3)
   have hgw3 := grown_trans hgw1 hg13
   have hX4 : Pres3 (fun k => w.heap.size ≤ k ∧ k ≠ w.heap.size) w3 (.slice a4 1 c4) (.slice a5 1 c5) (.slice a6 1 c6) (trivP [2]) := hX3.p3.mono (fun k hk hlt => ⟨by have hk : _ ≤ k := hk; simp at hk; omega, hlt, rfl⟩)
   have hX5 : Pres3 (fun k => w1.heap.size < k) w3 (.slice a4 1 c4) (.slice a5 1 c5) (.slice a6 1 c6) (trivP [2]) := hX3.p3.mono (fun k hk hlt => ⟨by have hk : _ ≤ k := hk; simp at hk; omega, hlt, rfl⟩)
   clear hX3 hX4 hL hbA hP3 q0 q1 q2 q3 q4 hg3 hgL
   obtain ⟨p0, p1, p2, p3, p4⟩ := id hbA3
   obtain ⟨q0, q1, q2, q3, q4⟩ := id hb3
   have hT1 := grown_set3 w3 w1.heap.size (.slice a4 1 c4) (.slice a5 1 c5) (.slice a6 1 c6)
   have hbA4 := hbA3.all (.slice a4 1 c4) (.slice a5 1 c5) (.slice a6 1 c6)
   have hb4 := Box3.keep hb3 hT1.size (hT1.block _ hb3.1 (fun e => by have := Option.some.inj e; omega))
   obtain ⟨r0, r1, r2, r3, r4⟩ := id hbA4
   obtain ⟨s0, s1, s2, s3, s4⟩ := id hb4
   have hZn := hb4.all (.slice a4 1 c4) (.slice a5 1 c5) (.slice a6 1 c6)
   obtain ⟨-, z0, z1, z2, -⟩ := id hZn
   have hTn := grown_set3 (((w3.setCell ⟨w1.heap.size, 0, none⟩ (.slice a4 1 c4)).setCell ⟨w1.heap.size, 1, none⟩ (.slice a5 1 c5)).setCell ⟨w1.heap.size, 2, none⟩ (.slice a6 1 c6)) w.heap.size (.slice a4 1 c4) (.slice a5 1 c5) (.slice a6 1 c6)
   have HTn := Lib.hid (And.intro hT1 (And.intro hTn hX5)); clear hZn hTn hT1 hX5 hb3 hbA3 hbA4 hb4
   go_wp2_with fail
   refine bodyPost_ret (v := .agg #[.slice a4 1 c4, .slice a5 1 c5, .slice a6 1 c6]) (by simp [results, Tryz.results414, go_sem, z0, z1, z2]) rfl ?_
   obtain ⟨hT1, hTn, hX5⟩ := HTn.out
   refine ⟨_, rfl, grown_own (grown_own hgw3 hT1 (fun j hj hlt => by have := Option.some.inj hj; omega)) hTn (fun j hj hlt => by have := Option.some.inj hj; omega), _, _, _, rfl, trivP [2], trivP_shp _ (by simp), hX5.mono (fun k hk hlt => ⟨(show w.heap.size ≤ k by omega), ?_, ?_⟩)⟩
   ·exact Nat.lt_of_lt_of_le hlt (Nat.le_trans hT1.size hTn.size)
   ·exact (hTn.block k (Nat.lt_of_lt_of_le hlt hT1.size) (fun e => by have := Option.some.inj e; omega)).trans (hT1.block k hlt (fun e => by have := Option.some.inj e; omega))
end Go.Proofs.YtmjkoejegfjbbaaGreat
namespace Go.Proofs.YtmjkoejegfjbbaaGreat
open Go.RowKit
attribute [local go_sem ↓] Go.wp_at_zero Go.wp_at_succ
theorem i64_succ (i : Nat) (h : i < 100000) : IntKind.i64.wrap ((i : Int) + 1) = (i : Int) + 1 := IntWalk.i64_in _ (by omega)
theorem w64_succ (i : Nat) (h : i < 100000) : wrap64 ((i : Int) + 1) = (i : Int) + 1 := IntWalk.wrap64_in _ (by omega)
theorem i64_sp (k : Nat) (h : k < 100000) : IntKind.i64.wrap (((k + 1 : Nat) : Int) - 1) = (k : Int) := by
 rw [show ((k + 1 : Nat) : Int) - 1 = (k : Int) by omega]; exact IntWalk.i64_in _ (by omega)
theorem w64_sp (k : Nat) (h : k < 100000) : wrap64 (((k + 1 : Nat) : Int) - 1) = (k : Int) := by
 rw [show ((k + 1 : Nat) : Int) - 1 = (k : Int) by omega]; exact IntWalk.wrap64_in _ (by omega)
set_option maxRecDepth 100000 in
set_option maxHeartbeats 4000000 in
theorem l07Meta_ok (w : World) (n m r s : Int) (hn : 1 ≤ n ∧ n ≤ 729) (hm : 1 ≤ m ∧ m ≤ 729) (hr : 0 ≤ r ∧ r < 30000) (hs : 0 ≤ s ∧ s ≤ 1000000000) :
  Calls Tryz.prog 411 #[.int .i64 n, .int .i64 m, .int .i64 r, .int .i64 s] w (Ret w (PresN 18 w.heap.size)) := by
 obtain ⟨n, rfl⟩ := Int.eq_ofNat_of_zero_le (show 0 ≤ n by omega)
 obtain ⟨m, rfl⟩ := Int.eq_ofNat_of_zero_le (show 0 ≤ m by omega)
 have hz0 : ∀ w', Ext (w.alloc (.cells #[.slice none 0 0, .slice none 0 0, .slice none 0 0] 39)) w' → Box3 w' w.heap.size (.slice none 0 0) (.slice none 0 0) (.slice none 0 0) := fun w' h => (Box3.made w 39 _ _ _).ext h
 have hg0 : Ext w (w.alloc (.cells #[.slice none 0 0, .slice none 0 0, .slice none 0 0] 39)) := World.grownBy_alloc _ _ _
 have hs0 : (w.alloc (.cells #[.slice none 0 0, .slice none 0 0, .slice none 0 0] 39)).heap.size = w.heap.size + 1 := by simp
 have hp0 : 0 ≤ r % (m : Int) := Int.emod_nonneg _ (by omega)
 have hp1 : r % (m : Int) < m := Int.emod_lt_of_pos _ (by omega)
 obtain ⟨pw, hpw⟩ : ∃ pw, pw = r % (m : Int) := ⟨_, rfl⟩
 rw [← hpw] at hp0 hp1
 have hm0 : (m : Int) ≠ 0 := by omega
 have HN := Lib.hid (And.intro hn (And.intro hm (And.intro hs (And.intro hz0 (And.intro hs0 (And.intro hp0 hp1)))))); clear hn hz0 hs0 hp0 hp1 hs hm
 go_enter Tryz.func411, Tryz.ntmps411
 go_wp2_with fail
 generalize w.alloc (.cells #[.slice none 0 0, .slice none 0 0, .slice none 0 0] 39) = w0 at *
 refine Calls.mono (l07Factors_ok w0 n (by have := HN.out.1; omega)) ?_
 rintro e1 w1 ⟨v1, rfl, hg1, a1, c1, t, r1, rfl, hO1, ht9, htx⟩
 go_wp2_with fail
 refine Calls.mono (l07Factors_ok w1 m (by have := HN.out.2.1; omega)) ?_
 rintro e2 w2 ⟨v2, rfl, hg2, a2, c2, b, r2, rfl, hO2, hb9, hbx⟩
 go_wp2_with fail
 refine Calls.mono (l01Own_ok w2 _ t _ (Ints.ext (hO1.ints (by omega)) hg2) (by omega)) ?_
 rintro e3 w3 ⟨v3, rfl, hg3, hO3⟩
 go_wp2_with (at_builtin; refine wp_app_ints rfl _ _ rfl w2.heap.size v3 t rfl hO3 _ b rfl _ (Ints.ext (hO2.ints (by omega)) hg3) (by omega) hg3.size ?_; intro v4 w4 hO4 hg4 _)
 have hg24 : Ext w2 w4 := grown_own hg3 hg4 (fun j hj hlt => by have := (hO3.lt j hj).1; omega)
 obtain ⟨o, ho⟩ : ∃ o, o = t ++ b := ⟨_, rfl⟩
 rw [← ho] at hO4
 have hol : o.length = t.length + b.length := by rw [ho]; simp
 have hox : ∀ i, i < o.length → 1 ≤ gt o i ∧ gt o i ≤ 7 := fun i hi => by
  have hmem : gt o i ∈ t ++ b := by rw [← ho, gt_eq o i hi]; exact List.getElem_mem hi
  rcases List.mem_append.1 hmem with h | h
  ·have := htx _ h; omega
  ·have := hbx _ h; omega
 clear ho
 have HT := Lib.hid (And.intro hol (And.intro hox (And.intro htx (And.intro ht9 hb9)))); clear hol hox htx hbx hb9 ht9
 have ho18 : o.length ≤ 18 := by have := HT.out; omega
 have htk : t.length ≤ o.length := by have := HT.out; omega
 obtain ⟨a4, c4, hv4, _⟩ := (hO4.ints (by omega)).shape
 subst hv4
 have hs4 := hg24.size
 have hOi : Ints Any w4 (.slice a4 o.length c4) o := (hO4.ints (by omega)).sub (fun _ _ _ => trivial)
 refine Calls.mono (l07Trivial_ok w4 _ o _ hOi (by omega)) ?_
 rintro e5 w5 ⟨v5, rfl, hg5, vo, vp, vc, rfl, hX5⟩
 obtain ⟨ao, co, ap, cp, ac, cc, rfl, rfl, rfl⟩ := trivX_shape hX5
 go_wp2_with fail
 have hgA : Ext w5 (w5.alloc (.cells #[.slice ao o.length co, .slice ap o.length cp, .slice ac o.length cc] 39)) := World.grownBy_alloc _ _ _
 have hX := BX.start (N := 18) (B := w4.heap.size) (by omega) hX5 hgA (Box3.made w5 39 (.slice ao o.length co) (.slice ap o.length cp) (.slice ac o.length cc)) hg5.size
 have hs5 := hg5.size
 generalize w5.alloc (.cells #[.slice ao o.length co, .slice ap o.length cp, .slice ac o.length cc] 39) = w6 at *
 have hg6 : Ext w4 w6 := grown_trans hg5 hgA
 have hg04 : Ext w0 w4 := grown_trans hg1 (grown_trans hg2 hg24)
 have ht6 : Ints Any w1 (.slice a1 t.length c1) t := (hO1.ints (by omega)).sub (fun _ _ _ => trivial)
 have hgt : Ext w1 w4 := grown_trans hg2 hg24
 clear hX5 hg5 hO1 hO2 hO3 hO4 hg3 hg4
 go_loopw [16] (fun iv wr => ∃ i : Nat, iv = .int .i64 i ∧ i ≤ o.length ∧ Ext w4 wr ∧ BX 18 o w4.heap.size w5.heap.size wr (.slice ao o.length co) (.slice ap o.length cp) (.slice ac o.length cc)) (fun iv _ => o.length - (intOf iv).toNat)
 case atStart => exact ⟨0, rfl, by omega, hg6, hX⟩
 case round =>
  clear hX hg6
  obtain ⟨i, rfl, hi, hg, hX⟩ := hrel
  by_cases hlt : i + 1 < o.length
  ·have hlt' : (i : Int) + 1 < o.length := by omega
   have hi5 : i < 100000 := by omega
   have ht5 : t.length < 100000 := by omega
   by_cases hk : (i : Int) = (t.length : Int) - 1
   ·skip
    go_wp2
    go_roundw
    case rel => exact ⟨i + 1, by go_num, by omega, hg, hX⟩
    case measure => simp [intOf]; omega
   ·obtain ⟨g, cap, z, hvg, hgB, hgp, hgl, hcc, hst⟩ := hX.storeP i (by omega)
    obtain ⟨rfl, rfl⟩ : ap = some ⟨g, 0, none⟩ ∧ cp = cap := by cases hvg; exact ⟨rfl, rfl⟩
    clear hvg
    have e1 : ∀ w', Near wr g w' → w'.cell? ⟨w5.heap.size, 1, none⟩ = some (.slice (some ⟨g, 0, none⟩) o.length cp) := fun w' h => h.cell hX.box.2.2.1 (by simp; omega)
    have hcon : ∀ w, Calls Tryz.prog 224 #[.int .i64 o.length, .int .i64 ((i : Int) + 1)] w (Ret w fun w' v => Own w.heap.size w' v (unitV o.length (i + 1))) := fun w => by
     have h := l07Unit_ok o.length (i + 1) w (by omega) (by omega)
     rwa [show ((i + 1 : Nat) : Int) = (i : Int) + 1 by omega] at h
    have hul : (unitV o.length (i + 1)).length ≤ 9223372036854775807 := by rw [unitV_len]; omega
    have HX := Lib.hid (And.intro hX (And.intro hst (And.intro hcc hul))); clear hX hst hcc hul
    have hl2 : (i : Int) < o.length := by omega
    go_wp2
    clear hk
    have hwi : IntKind.i64.wrap ((i : Int) + 1) = (i : Int) + 1 := i64_succ _ hi5
    have hwj : wrap64 ((i : Int) + 1) = (i : Int) + 1 := w64_succ _ hi5
    go_region_held3 (fun w' => Near wr g w') (first | exact Near.of (grown_drew _ _) | exact Near.of (by assumption) | exact Near.store (by assumption) | assumption)
     (first
      | (go_at_call 224; refine Calls.mono (Calls.rel (w0 := wr) (by first | exact grown_drew _ _ | assumption) (hcon _)) ?_; rintro eE wE ⟨vE, rfl, hgE, hsE, hOE⟩; obtain ⟨aE, cE, hvE, _⟩ := (hOE.ints HX.out.2.2.2).shape; subst hvE; have hcl := (HX.out.2.2.1 wE hgE).1; have hfr := (HX.out.2.2.1 wE hgE).2))
    clear hwi hwj
    have hsz := hgE.size
    have hX5 := HX.out.2.1 wE _ (unitV o.length (i + 1)) hgE (OwnIn.of hOE (by rw [unitV_len]; omega) (fun k hk _ => Nat.le_trans (by assumption) hk)) (by rw [unitV_len]; omega)
    have hgn : Ext w4 (wE.setCell ⟨g, i, none⟩ (.slice aE (unitV o.length (i + 1)).length cE)) := grown_own (grown_trans hg hgE) (grown_set1 _ _ _ _) (fun j hj hlt => by cases hj; omega)
    clear hcl hfr e1
    go_wp2
    go_roundw
    case rel => exact ⟨i + 1, by go_num, by omega, hgn, hX5⟩
    case measure => simp [intOf]; omega
  ·have hlt' : ¬ ((i : Int) + 1 < o.length) := by omega
   have htl18 : t.length ≤ 18 := by omega
   have hmI : (1 : Int) ≤ m ∧ (m : Int) ≤ 729 := HN.out.2.1
   by_cases ht0 : t.length = 0
   ·have ht0' : ¬ (0 : Int) < t.length := by omega
    go_wp2
    clear hpw
    generalize hr' : r % (m : Int) = pw'
    clear hr'
    go_loopw [18] (fun iv wx => iv = .int .i64 0 ∧ wx = wr) (fun _ _ => 0)
    case atStart => exact ⟨rfl, rfl⟩
    case round =>
     obtain ⟨rfl, rfl⟩ := hrel
     have hz := HN.out.2.2.2.1 _ (grown_trans hg04 hg)
     obtain ⟨h0, h1, h2, h3', h4⟩ := id hX.box
     obtain ⟨k0, k1, k2, k3, k4⟩ := id hz
     have hZ := hz.all (.slice ao o.length co) (.slice ap o.length cp) (.slice ac o.length cc)
     have hT := grown_set3 wr w.heap.size (.slice ao o.length co) (.slice ap o.length cp) (.slice ac o.length cc)
     obtain ⟨_, z0, z1, z2, _⟩ := id hZ
     have HQ := Lib.hid (And.intro hT hX); clear hT hZ hX
     go_wp2
     refine bodyPost_ret (v := .agg #[.slice ao o.length co, .slice ap o.length cp, .slice ac o.length cc]) (by simp [results, Tryz.results411, go_sem, z0, z1, z2]) rfl ?_
     have hq1 := HN.out.2.2.2.2.1
     have hq2 := hg04.size
     exact ⟨_, rfl, grown_own (grown_trans hg0 (grown_trans hg04 hg)) HQ.out.1 (fun j hj hlt => by cases hj; omega), (HQ.out.2.ret HQ.out.1 (by omega)).weak (by omega)⟩
   ·have ht0' : (0 : Int) < t.length := by omega
    obtain ⟨kt, hkt⟩ : ∃ kt, t.length = kt + 1 := ⟨t.length - 1, by omega⟩
    obtain ⟨g, cap, z, hvg, hgB, hgp, hgl, hcc, hst⟩ := hX.storeP kt (by omega)
    obtain ⟨rfl, rfl⟩ : ap = some ⟨g, 0, none⟩ ∧ cp = cap := by cases hvg; exact ⟨rfl, rfl⟩
    clear hvg
    have e1 : ∀ w', Near wr g w' → w'.cell? ⟨w5.heap.size, 1, none⟩ = some (.slice (some ⟨g, 0, none⟩) o.length cp) := fun w' h => h.cell hX.box.2.2.1 (by simp; omega)
    have hox := HT.out.2.1
    have hdig : ∀ w' (k : Nat) (x : Int), Ext w4 w' → 0 ≤ x → x ≤ 1000000000 → Calls Tryz.prog 438 #[.slice a4 o.length c4, .int .i64 k, .int .i64 x] w' (Ret w' fun w'' r => ∃ l, l.length = o.length ∧ Own w'.heap.size w'' r l) := fun w' k x he h1 h2 =>
     l07Digits_ok w' _ o k x Any (hOi.ext he) (by omega) hox ⟨h1, h2⟩
    have hbig : o.length ≤ 9223372036854775807 := by omega
    have hkl : (kt : Int) < o.length := by omega
    have HX := Lib.hid (And.intro hX (And.intro hst (And.intro hcc (And.intro hdig (And.intro hbig hkt))))); clear hX hst hcc hdig hox hbig hkt
    have hpl := HN.out.2.2.2.2.2
    have hsI := HN.out.2.2.1
    go_wp2
    have hkt2 : kt < 100000 := by omega
    have hkt := HX.out.2.2.2.2.2
    have hwi : IntKind.i64.wrap ((t.length : Int) - 1) = (kt : Int) := by rw [hkt]; exact i64_sp kt hkt2
    have hwj : wrap64 ((t.length : Int) - 1) = (kt : Int) := by rw [hkt]; exact w64_sp kt hkt2
    clear hkt
    go_region_held3 (fun w' => Near wr g w') (first | exact Near.of (grown_drew _ _) | exact Near.of (by assumption) | exact Near.store (by assumption) | assumption)
     (first
      | (go_at_call 438; refine Calls.mono (Calls.rel (w0 := wr) (by first | exact grown_drew _ _ | assumption) (HX.out.2.2.2.1 _ t.length s (grown_trans hg (by first | exact grown_drew _ _ | assumption)) hsI.1 hsI.2)) ?_; rintro eE wE ⟨vE, rfl, hgE, hsE, lE, hlE, hOE⟩; obtain ⟨aE, cE, hvE, _⟩ := (hOE.ints (by rw [hlE]; exact HX.out.2.2.2.2.1)).shape; subst hvE; have hcl := (HX.out.2.2.1 wE hgE).1; have hfr := (HX.out.2.2.1 wE hgE).2))
    clear hwi hwj
    have hsz := hgE.size
    have hX5 := HX.out.2.1 wE _ lE hgE (OwnIn.of hOE (by rw [hlE]; exact HX.out.2.2.2.2.1) (fun k hk _ => Nat.le_trans (by assumption) hk)) (by rw [hlE]; exact ho18)
    have hgn : Ext w4 (wE.setCell ⟨g, kt, none⟩ (.slice aE lE.length cE)) := grown_own (grown_trans hg hgE) (grown_set1 _ _ _ _) (fun j hj hlt => by cases hj; omega)
    rw [hlE] at hX5 hgn
    have hdig := HX.out.2.2.2.1
    have hbig := HX.out.2.2.2.2.1
    have HD := Lib.hid (And.intro hdig hbig); clear hdig hlE hbig HX
    clear hcl hfr e1 hlt hlt' hkl hgB hgp hgl hsI hOE hgE hsz hsE
    go_wp2
    rw [← hpw]
    clear hpw
    clear hi hg
    generalize wE.setCell ⟨g, kt, none⟩ (.slice aE o.length cE) = w7 at *
    go_loopw [17, 18] (fun pv iv wr => ∃ (i : Nat) (p : Int), iv = .int .i64 i ∧ pv = .int .i64 p ∧ i ≤ t.length ∧ 0 ≤ p ∧ p < 30000 ∧ Ext w4 wr ∧ BX 18 o w4.heap.size w5.heap.size wr (.slice ao o.length co) (.slice (some ⟨g, 0, none⟩) o.length cp) (.slice ac o.length cc)) (fun _ iv _ => t.length - (intOf iv).toNat)
    case atStart => exact ⟨0, pw, rfl, rfl, by omega, hpl.1, by have := hpl.2; omega, hgn, hX5⟩
    case round =>
     clear hX5 hgn hpl
     obtain ⟨i, p, rfl, rfl, hi, hp0, hp1, hg, hX⟩ := hrel
     by_cases hlt : i < t.length
     ·have hlt' : (i : Int) < t.length := by omega
      obtain ⟨wo, hwo⟩ : ∃ wo : World, wo = wr := ⟨_, rfl⟩
      go_wp2
      go_loopw [19] (fun jv wx => ∃ (J : Nat) (y : Int), jv = .int .i64 y ∧ y = ((i + 1 + J : Nat) : Int) ∧ i + 1 + J ≤ o.length ∧ Ext w4 wx ∧ BX 18 o w4.heap.size w5.heap.size wx (.slice ao o.length co) (.slice (some ⟨g, 0, none⟩) o.length cp) (.slice ac o.length cc)) (fun jv _ => o.length - (intOf jv).toNat)
      case atStart => exact ⟨t.length - i - 1, _, rfl, by omega, by omega, hg, hX⟩
      case round =>
       clear hX hg hwo
       obtain ⟨J, y, rfl, hy, hJ, hg, hX⟩ := hrel
       by_cases hltj : i + 1 + J < o.length
       ·have hyl : y < o.length := by omega
        have hy0 : 0 ≤ y := by omega
        obtain ⟨gc, capc, b, capb, z2, hvc, hcB, hcp, hcl, hcell, hbB, hbp, hbg, hbl, hcc2, hst2⟩ := hX.storeC i J (by omega) (by omega)
        obtain ⟨rfl, rfl⟩ : ac = some ⟨gc, 0, none⟩ ∧ cc = capc := by cases hvc; exact ⟨rfl, rfl⟩
        clear hvc
        have e1 : ∀ w', Near wr b w' → w'.cell? ⟨w5.heap.size, 2, none⟩ = some (.slice (some ⟨gc, 0, none⟩) o.length cc) := fun w' h => h.cell hX.box.2.2.2.1 (by simp; omega)
        have e2 : ∀ w', Near wr b w' → w'.cell? ⟨gc, i, none⟩ = some (.slice (some ⟨b, 0, none⟩) (o.length - 1 - i) capb) := fun w' h => h.cell hcell (by simp; omega)
        have hd2 := HD.out.1
        have hcon : ∀ w', Ext w4 w' → Calls Tryz.prog 438 #[.slice a4 o.length c4, .int .i64 y, .int .i64 p] w' (Ret w' fun w'' r => ∃ l, l.length = o.length ∧ Own w'.heap.size w'' r l) := fun w' he => by
         rw [hy]; exact hd2 w' _ p he hp0 (by omega)
        have HY := Lib.hid (And.intro hX (And.intro hst2 (And.intro hcc2 (And.intro hcon hy)))); clear hX hst2 hcc2 hcon hd2 hcell
        have hJl : (J : Int) < ((o.length - 1 - i : Nat) : Int) := by omega
        have hio : (i : Int) < o.length := by omega
        go_wp2
        obtain ⟨d, hd⟩ : ∃ d, d = y - (i : Int) := ⟨_, rfl⟩
        have hw1 : IntKind.i64.wrap (y - (i : Int)) = d := by rw [hd]; exact IntWalk.i64_in _ (by omega)
        have hw3 : IntKind.i64.wrap (d - 1) = (J : Int) := by rw [show d - 1 = (J : Int) by omega]; exact IntWalk.i64_in _ (by omega)
        have hw2 : wrap64 (y - (i : Int)) = d := by rw [hd]; exact IntWalk.wrap64_in _ (by clear hw1 hw3; omega)
        have hw4 : wrap64 (d - 1) = (J : Int) := by rw [show d - 1 = (J : Int) by clear hw1 hw2 hw3; omega]; exact IntWalk.wrap64_in _ (by clear hw1 hw2 hw3; omega)
        clear hd hy
        go_region_held3 (fun w' => Near wr b w') (first | exact Near.of (grown_drew _ _) | exact Near.of (by assumption) | exact Near.store (by assumption) | assumption)
         (first
          | (go_at_call 438; refine Calls.mono (Calls.rel (w0 := wr) (by first | exact grown_drew _ _ | assumption) (HY.out.2.2.2.1 _ (grown_trans hg (by first | exact grown_drew _ _ | assumption)))) ?_; rintro eE wE ⟨vE, rfl, hgE, hsE, lE, hlE, hOE⟩; obtain ⟨aE, cE, hvE, _⟩ := (hOE.ints (by rw [hlE]; exact HD.out.2)).shape; subst hvE; have hcl := (HY.out.2.2.1 wE hgE).1; have hfr := (HY.out.2.2.1 wE hgE).2))
        clear hw1 hw2 hw3 hw4
        have hX5 := HY.out.2.1 wE _ lE hgE (OwnIn.of hOE (by rw [hlE]; exact HD.out.2) (fun k hk _ => Nat.le_trans (by assumption) hk)) (by rw [hlE]; exact ho18)
        have hgn : Ext w4 (wE.setCell ⟨b, J, none⟩ (.slice aE lE.length cE)) := grown_own (grown_trans hg hgE) (grown_set1 _ _ _ _) (fun j hj hlt => by cases hj; omega)
        rw [hlE] at hX5 hgn
        have hyJ := HY.out.2.2.2.2
        clear hcl hfr e1 e2 hlE
        have HZ := Lib.hid hyJ; clear hyJ
        go_wp2
        go_roundw
        case rel => exact ⟨J + 1, y + 1, rfl, by have := HZ.out; omega, by omega, hgn, hX5⟩
        case measure => have := HZ.out; simp [intOf]; omega
       ·have hyl : ¬ (y < o.length) := by omega
        obtain ⟨bt, ot, rfl, _, _, hct⟩ := Ints.at (Ints.ext ht6 (grown_trans hgt hg)) i hlt
        have hte : 2 ≤ gt t i ∧ gt t i ≤ 7 := HT.out.2.2.1 _ (by rw [gt_eq t i hlt]; exact List.getElem_mem hlt)
        have hpow := l01Power_ok wr p (gt t i) m ⟨hp0, hp1⟩ (by omega) (by omega)
        have HP := Lib.hid (And.intro hte hy); clear hte hy
        go_wp2_with fail
        refine Calls.mono hpow ?_
        rintro eP wP ⟨vP, rfl, hgP, pn, rfl, hpn0, hpn1⟩
        have hgn := grown_trans hg hgP
        have hXn := hX.ext hgP
        clear hX hg hpow
        go_wp2
        go_roundw
        case rel => exact ⟨i + 1, pn, by go_num, rfl, by omega, hpn0, hpn1, hgn, hXn⟩
        case measure => simp [intOf]; omega
     ·have hlt' : ¬ ((i : Int) < t.length) := by omega
      have hz := HN.out.2.2.2.1 _ (grown_trans hg04 hg)
      obtain ⟨h0, h1, h2, h3', h4⟩ := id hX.box
      obtain ⟨k0, k1, k2, k3, k4⟩ := id hz
      have hZ := hz.all (.slice ao o.length co) (.slice (some ⟨g, 0, none⟩) o.length cp) (.slice ac o.length cc)
      have hT := grown_set3 wr w.heap.size (.slice ao o.length co) (.slice (some ⟨g, 0, none⟩) o.length cp) (.slice ac o.length cc)
      obtain ⟨_, z0, z1, z2, _⟩ := id hZ
      have HQ := Lib.hid (And.intro hT hX); clear hT hZ hX
      go_wp2
      refine bodyPost_ret (v := .agg #[.slice ao o.length co, (.slice (some ⟨g, 0, none⟩) o.length cp), (.slice ac o.length cc)]) (by simp [results, Tryz.results411, go_sem, z0, z1, z2]) rfl ?_
      have hq1 := HN.out.2.2.2.2.1
      have hq2 := hg04.size
      exact ⟨_, rfl, grown_own (grown_trans hg0 (grown_trans hg04 hg)) HQ.out.1 (fun j hj hlt => by cases hj; omega), (HQ.out.2.ret HQ.out.1 (by omega)).weak (by omega)⟩
end Go.Proofs.YtmjkoejegfjbbaaGreat
namespace Go.Proofs.YtmjkoejegfjbbaaGreat
open Go.RowKit
attribute [local go_sem ↓] Go.wp_at_zero Go.wp_at_succ
theorem BX.by {N : Nat} {o : List Int} {B pb : Nat} {w w' : World} {vo vp vc : Value} (h : BX N o B pb w vo vp vc) {r : Option Nat} (hT : w.grownBy w' r) (hr : ∀ k, r = some k → k < B) : BX N o B pb w' vo vp vc := by
 obtain ⟨P, h1, h2, h3⟩ := h.px
 have hB := h.hB
 refine ⟨hB, Box3.keep h.box hT.size (hT.block _ h.box.1 (fun e => by have := hr _ e.symm; omega)), P, h1, h2, h3.mono (fun k hk hlt => ⟨hk, Nat.lt_of_lt_of_le hlt hT.size, hT.block k hlt (fun e => by have := hr _ e.symm; have : B ≤ k := hk.1; omega)⟩)⟩
def NearS (w : World) (s g : Nat) (w' : World) : Prop := ∀ k, k < w.heap.size → k ≠ s → k ≠ g → w'.heap[k]? = w.heap[k]?
theorem NearS.of {w w' : World} {s g : Nat} (h : w.grownBy w' (some s)) : NearS w s g w' := fun k hk hs _ => h.block k hk (fun e => hs (by cases e; rfl))
theorem NearS.ext {w w' : World} {s g : Nat} (h : Ext w w') : NearS w s g w' := NearS.of (grown_of_ext _ h)
theorem NearS.two {w w1 w' : World} {s g : Nat} (h : w.grownBy w1 (some s)) (h2 : w1.grownBy w' (some g)) : NearS w s g w' := fun k hk hs hg =>
 (h2.block k (Nat.lt_of_lt_of_le hk h.size) (fun e => hg (by cases e; rfl))).trans (h.block k hk (fun e => hs (by cases e; rfl)))
theorem NearS.cell {w w' : World} {s g : Nat} (h : NearS w s g w') {a : Addr} {v : Value} (hc : w.cell? a = some v) (hne : a.block ≠ g) (hns : a.block ≠ s) : w'.cell? a = some v :=
 (World.cell?_of_block (h a.block (World.block_lt_of_cell? w a hc) hns hne)).trans hc
theorem own_lit3 (w : World) (x y z : Int) {B : Nat} (hB : B ≤ w.heap.size) : OwnIn (From B) (w.alloc (.cells #[.int .i64 x, .int .i64 y, .int .i64 z] 2)) (.slice (some ⟨w.heap.size, 0, none⟩) 3 3) [x, y, z] :=
 OwnIn.of (Own.of (World.ownsRow_lit w #[.int .i64 x, .int .i64 y, .int .i64 z] 3 hB (by decide) rfl)) (by simp) (fun k hk _ => hk)
def DrawR (B0 sb : Nat) (Φ : World → Value → Prop) (w' : World) (v : Value) : Prop := Φ w' v ∧ Src B0 w' sb
set_option maxRecDepth 100000 in
set_option maxHeartbeats 4000000 in
theorem l07Heisenberg_ok (B0 : Nat) (w : World) (sb : Nat) (p : Int) (hB0 : B0 ≤ w.heap.size) (hs : Src B0 w sb) :
  Calls Tryz.prog 412 #[.pointer (some ⟨sb, 0, none⟩), .int .i64 p] w (Mut w (some sb) (DrawR B0 sb (PresN 3 w.heap.size))) := by
 have hz0 : ∀ w' r, (w.alloc (.cells #[.slice none 0 0, .slice none 0 0, .slice none 0 0] 39)).grownBy w' r → (∀ k, r = some k → k ≠ w.heap.size) → Box3 w' w.heap.size (.slice none 0 0) (.slice none 0 0) (.slice none 0 0) := fun w' r h hr =>
  Box3.keep (Box3.made w 39 _ _ _) h.size (h.block _ (by simp) (fun e => hr _ e.symm rfl))
 have hg0 : Ext w (w.alloc (.cells #[.slice none 0 0, .slice none 0 0, .slice none 0 0] 39)) := World.grownBy_alloc _ _ _
 have hs0 : (w.alloc (.cells #[.slice none 0 0, .slice none 0 0, .slice none 0 0] 39)).heap.size = w.heap.size + 1 := by simp
 have hsl := hs.lt
 have HN := Lib.hid (And.intro hz0 (And.intro hs0 (And.intro hs hsl))); clear hz0 hs0 hs hsl
 go_enter Tryz.func412, Tryz.ntmps412
 go_wp2_with fail
 generalize w.alloc (.cells #[.slice none 0 0, .slice none 0 0, .slice none 0 0] 39) = w0 at *
 have hO1 := own_lit3 w0 p p p (Nat.le_refl _)
 have hgA : Ext w0 (w0.alloc (.cells #[.int .i64 p, .int .i64 p, .int .i64 p] 2)) := World.grownBy_alloc _ _ _
 rw [HN.out.2.1] at hO1
 obtain ⟨o, ho⟩ : ∃ o, o = [p, p, p] := ⟨_, rfl⟩
 have hol : o.length = 3 := by rw [ho]; rfl
 rw [← ho] at hO1
 clear ho
 have hsA : (w0.alloc (.cells #[.int .i64 p, .int .i64 p, .int .i64 p] 2)).heap.size = w.heap.size + 2 := by simp [HN.out.2.1]
 generalize w0.alloc (.cells #[.int .i64 p, .int .i64 p, .int .i64 p] 2) = w1 at *
 refine Calls.mono (l07Trivial_ok w1 _ o _ hO1.ints (by omega)) ?_
 rintro e5 w5 ⟨v5, rfl, hg5, vo, vp, vc, rfl, hX5⟩
 obtain ⟨ao, co, ap, cp, ac, cc, h1, h2, h3⟩ := trivX_shape hX5
 subst h1 h2 h3
 have HO := Lib.hid hol; clear hol
 go_wp2_with fail
 have hgA2 : Ext w5 (w5.alloc (.cells #[.slice ao o.length co, .slice ap o.length cp, .slice ac o.length cc] 39)) := World.grownBy_alloc _ _ _
 have hX := BX.start (N := 3) (B := w1.heap.size) (by have := HO.out; omega) hX5 hgA2 (Box3.made w5 39 (.slice ao o.length co) (.slice ap o.length cp) (.slice ac o.length cc)) hg5.size
 have hs5 := hg5.size
 generalize w5.alloc (.cells #[.slice ao o.length co, .slice ap o.length cp, .slice ac o.length cc] 39) = w6 at *
 have hg6 : Ext w w6 := grown_trans hg0 (grown_trans hgA (grown_trans hg5 hgA2))
 have hg06 : Ext w0 w6 := grown_trans hgA (grown_trans hg5 hgA2)
 clear hX5 hO1 hg5
 obtain ⟨gc, capc, b, capb, z2, hvc, hcB, hcp, hcl, hcell, hbB, hbp, hbg, hbl, hcc2, hst2⟩ := hX.storeC 0 0 (by have := HO.out; omega) (by have := HO.out; omega)
 obtain ⟨rfl, rfl⟩ : ac = some ⟨gc, 0, none⟩ ∧ cc = capc := by cases hvc; exact ⟨rfl, rfl⟩
 clear hvc
 have hgL : Ext w6 (w6.alloc (.cells #[.int .i64 0, .int .i64 1, .int .i64 1] 2)) := World.grownBy_alloc _ _ _
 have hOL := own_lit3 w6 0 1 1 (Nat.le_refl _)
 have c1 := (hX.ext hgL).box.2.2.2.1
 have c2 := hgL.cell hcell (by simp)
 obtain ⟨c3, c4⟩ := hcc2 _ hgL
 have k1 := hX.box.2.2.2.1
 have hX7 := hst2 _ _ _ hgL hOL (by simp)
 have hs7 := hgL.size
 have hgn : Ext w ((w6.alloc (.cells #[.int .i64 0, .int .i64 1, .int .i64 1] 2)).setCell ⟨b, 0, none⟩ (.slice (some ⟨w6.heap.size, 0, none⟩) 3 3)) := grown_own (grown_trans hg6 hgL) (grown_set1 _ _ _ _) (fun j hj hlt => by cases hj; omega)
 have hgn0 : Ext w0 ((w6.alloc (.cells #[.int .i64 0, .int .i64 1, .int .i64 1] 2)).setCell ⟨b, 0, none⟩ (.slice (some ⟨w6.heap.size, 0, none⟩) 3 3)) := grown_own (grown_trans hg06 hgL) (grown_set1 _ _ _ _) (fun j hj hlt => by cases hj; have := HN.out.2.1; omega)
 clear hst2 hX
 obtain ⟨m, hm⟩ : ∃ m, m = o.length - 1 - 0 := ⟨_, rfl⟩
 have hm0 : (0 : Int) < m := by have := HO.out; omega
 have hn0 : 0 < o.length := by have := HO.out; omega
 have hn1 : 1 < o.length := by have := HO.out; omega
 have hnm : 0 < m := by have := HO.out; omega
 have hl0 : (0 : Int) < o.length := by have := HO.out; omega
 have hl1 : (1 : Int) < o.length := by have := HO.out; omega
 rw [← hm] at hcell c2
 clear hm
 have heq : (w6.alloc (.cells #[.int .i64 0, .int .i64 1, .int .i64 1] 2)).setCell ⟨b, 0, none⟩ (.slice (some ⟨w6.heap.size, 0, none⟩) 3 3) = (w6.setCell ⟨b, 0, none⟩ (.slice (some ⟨w6.heap.size, 0, none⟩) 3 3)).alloc (.cells #[.int .i64 0, .int .i64 1, .int .i64 1] 2) := by
  simp [go_sem, hbl]
 rw [heq] at hX7 hgn hgn0
 have i1 : ∀ w', (Instr.indexAt 37 (.slice (some ⟨gc, 0, none⟩) o.length cc) (.int .i64 0)).run Tryz.prog w' = .ok (.pointer (some ⟨gc, 0, none⟩)) w' := fun w' => by
  rw [run_indexAt_slice (h := by rfl), if_pos ⟨by decide, hl0⟩]; kernel_rfl
 go_wp2
 rw [i1]
 clear i1
 go_wp2_with fail
 generalize (w6.setCell ⟨b, 0, none⟩ (.slice (some ⟨w6.heap.size, 0, none⟩) 3 3)).alloc (.cells #[.int .i64 0, .int .i64 1, .int .i64 1] 2) = w7 at *
 have hsb := HN.out.2.2.2
 refine Calls.mono (l01Next_ok B0 w7 sb 2 (HN.out.2.2.1.ext hgn)) ?_
 rintro e8 w8 ⟨v8, rfl, hg8, x, rfl, hx0, hx1, hs8⟩
 have hX8 := hX7.by hg8 (fun k e => by cases e; omega)
 have hgw8 := grown_trans (grown_of_ext (some sb) hgn) hg8
 have hgw08 := grown_trans (grown_of_ext (some sb) hgn0) hg8
 clear hX7 hg8 hgn hgn0 c1 c2 c3 c4 k1 hx0 hx1 hcell hcc2 heq
 by_cases hx : x = 0
 ·subst hx
  go_wp2
  obtain ⟨g, capg, z, hvg, hgB, hgp, hgl, hcc, hst⟩ := hX8.storeP 0 (by omega)
  obtain ⟨rfl, rfl⟩ : ap = some ⟨g, 0, none⟩ ∧ cp = capg := by cases hvg; exact ⟨rfl, rfl⟩
  clear hvg
  have e1 : ∀ w', NearS w8 sb g w' → w'.cell? ⟨w5.heap.size, 1, none⟩ = some (.slice (some ⟨g, 0, none⟩) o.length cp) := fun w' h => h.cell hX8.box.2.2.1 (by simp; omega) (by simp; omega)
  have HXa := Lib.hid (And.intro hX8 (And.intro hs8 (And.intro hgw8 hgw08))); clear hX8 hs8 hgw8 hgw08 hcc hst
  go_region_held3 (fun w' => NearS w8 sb g w') (first | exact NearS.ext (grown_drew _ _) | exact NearS.of (by assumption) | exact NearS.of hgL | exact NearS.two hg9 (grown_trans (grown_set1 _ _ _ _) (grown_of_ext _ (World.grownBy_alloc _ _ _))) | assumption)
   (first
    | (go_at_call 144; refine Calls.mono (l01Next_ok B0 w8.drew sb p (HXa.out.2.1.ext (grown_drew _ _))) ?_; rintro e9 w9a ⟨v9, rfl, hg9, xa, rfl, hx0, hx1, hs9⟩; have hg9 : w8.grownBy w9a (some sb) := grown_trans (grown_of_ext (some sb) (grown_drew _ _)) hg9; have hgL : w8.grownBy (w9a.alloc (.cells #[.int .i64 0, .int .i64 0, .int .i64 xa] 2)) (some sb) := grown_trans hg9 (grown_of_ext _ (World.grownBy_alloc _ _ _)); have hX9 := HXa.out.1.by hg9 (fun k e => by cases e; omega); obtain ⟨g', capg', z', hvg', _, _, _, hcc9, hst9⟩ := hX9.storeP 0 (by omega); cases hvg'; have hcl := (hcc9 (w9a.alloc (.cells #[.int .i64 0, .int .i64 0, .int .i64 xa] 2)) (World.grownBy_alloc _ _ _)).1; have hfr := (hcc9 (w9a.alloc (.cells #[.int .i64 0, .int .i64 0, .int .i64 xa] 2)) (World.grownBy_alloc _ _ _)).2))
  have hXa := hst9 _ _ _ (World.grownBy_alloc _ _ _) (own_lit3 w9a 0 0 xa (Nat.le_refl _)) (by simp)
  have hq : (w9a.alloc (.cells #[.int .i64 0, .int .i64 0, .int .i64 xa] 2)).setCell ⟨g, 0, none⟩ (.slice (some ⟨w9a.heap.size, 0, none⟩) 3 3) = (w9a.setCell ⟨g, 0, none⟩ (.slice (some ⟨w9a.heap.size, 0, none⟩) 3 3)).alloc (.cells #[.int .i64 0, .int .i64 0, .int .i64 xa] 2) := by
   simp [go_sem, Nat.lt_of_lt_of_le hgl hg9.size]
  rw [hq] at hXa
  have hT : w9a.grownBy ((w9a.setCell ⟨g, 0, none⟩ (.slice (some ⟨w9a.heap.size, 0, none⟩) 3 3)).alloc (.cells #[.int .i64 0, .int .i64 0, .int .i64 xa] 2)) (some g) := grown_trans (grown_set1 _ _ _ _) (grown_of_ext _ (World.grownBy_alloc _ _ _))
  have hsA2 := hs9.own hT (fun k e => by cases e; omega)
  have hgwA := grown_own (grown_trans HXa.out.2.2.1 hg9) hT (fun j hj hlt => by cases hj; omega)
  have hgw0A := grown_own (grown_trans HXa.out.2.2.2 hg9) hT (fun j hj hlt => by cases hj; have := HN.out.2.1; omega)
  have hXA := hXa
  clear hXa hq hT hcl hfr hcc9 hst9 hX9 hgL hg9 hs9 hx0 hx1 e1
  go_wp2
  generalize (w9a.setCell ⟨g, 0, none⟩ (.slice (some ⟨w9a.heap.size, 0, none⟩) 3 3)).alloc (.cells #[.int .i64 0, .int .i64 0, .int .i64 xa] 2) = wA at *
  have hsw0 := HN.out.2.1
  obtain ⟨g2, capg, z, hvg, hgB, hgp, hgl, hcc, hst⟩ := hXA.storeP 1 (by omega)
  cases hvg
  have e1 : ∀ w', NearS wA sb g w' → w'.cell? ⟨w5.heap.size, 1, none⟩ = some (.slice (some ⟨g, 0, none⟩) o.length cp) := fun w' h => h.cell hXA.box.2.2.1 (by simp; omega) (by simp; omega)
  have HXb := Lib.hid (And.intro hXA (And.intro hsA2 (And.intro hgwA hgw0A))); clear hXA hsA2 hgwA hgw0A hcc hst
  go_region_held3 (fun w' => NearS wA sb g w') (first | exact NearS.ext (grown_drew _ _) | exact NearS.of (by assumption) | exact NearS.of hgL | exact NearS.two hg9 (grown_trans (grown_set1 _ _ _ _) (grown_of_ext _ (World.grownBy_alloc _ _ _))) | assumption)
   (first
    | (go_at_call 144; refine Calls.mono (l01Next_ok B0 wA.drew sb p (HXb.out.2.1.ext (grown_drew _ _))) ?_; rintro e9 w9b ⟨v9, rfl, hg9, xb, rfl, hx0, hx1, hs9⟩; have hg9 : wA.grownBy w9b (some sb) := grown_trans (grown_of_ext (some sb) (grown_drew _ _)) hg9; have hgL : wA.grownBy (w9b.alloc (.cells #[.int .i64 0, .int .i64 0, .int .i64 xb] 2)) (some sb) := grown_trans hg9 (grown_of_ext _ (World.grownBy_alloc _ _ _)); have hX9 := HXb.out.1.by hg9 (fun k e => by cases e; omega); obtain ⟨g', capg', z', hvg', _, _, _, hcc9, hst9⟩ := hX9.storeP 1 (by omega); cases hvg'; have hcl := (hcc9 (w9b.alloc (.cells #[.int .i64 0, .int .i64 0, .int .i64 xb] 2)) (World.grownBy_alloc _ _ _)).1; have hfr := (hcc9 (w9b.alloc (.cells #[.int .i64 0, .int .i64 0, .int .i64 xb] 2)) (World.grownBy_alloc _ _ _)).2))
  have hXa := hst9 _ _ _ (World.grownBy_alloc _ _ _) (own_lit3 w9b 0 0 xb (Nat.le_refl _)) (by simp)
  have hq : (w9b.alloc (.cells #[.int .i64 0, .int .i64 0, .int .i64 xb] 2)).setCell ⟨g, 1, none⟩ (.slice (some ⟨w9b.heap.size, 0, none⟩) 3 3) = (w9b.setCell ⟨g, 1, none⟩ (.slice (some ⟨w9b.heap.size, 0, none⟩) 3 3)).alloc (.cells #[.int .i64 0, .int .i64 0, .int .i64 xb] 2) := by
   simp [go_sem, Nat.lt_of_lt_of_le hgl hg9.size]
  rw [hq] at hXa
  have hT : w9b.grownBy ((w9b.setCell ⟨g, 1, none⟩ (.slice (some ⟨w9b.heap.size, 0, none⟩) 3 3)).alloc (.cells #[.int .i64 0, .int .i64 0, .int .i64 xb] 2)) (some g) := grown_trans (grown_set1 _ _ _ _) (grown_of_ext _ (World.grownBy_alloc _ _ _))
  have hsB := hs9.own hT (fun k e => by cases e; omega)
  have hgwB := grown_own (grown_trans HXb.out.2.2.1 hg9) hT (fun j hj hlt => by cases hj; omega)
  have hgw0B := grown_own (grown_trans HXb.out.2.2.2 hg9) hT (fun j hj hlt => by cases hj; have := HN.out.2.1; omega)
  have hXB := hXa
  clear hXa hq hT hcl hfr hcc9 hst9 hX9 hgL hg9 hs9 hx0 hx1 e1
  generalize (w9b.setCell ⟨g, 1, none⟩ (.slice (some ⟨w9b.heap.size, 0, none⟩) 3 3)).alloc (.cells #[.int .i64 0, .int .i64 0, .int .i64 xb] 2) = wB at *
  have hz := HN.out.1 wB (some sb) hgw0B (fun k e => by cases e; have := HN.out.2.2.2.2; omega)
  obtain ⟨h0, h1, h2, h3', h4⟩ := id hXB.box
  obtain ⟨k0, k1, k2, k3, k4⟩ := id hz
  have hZ := hz.all (.slice ao o.length co) (.slice (some ⟨g, 0, none⟩) o.length cp) (.slice (some ⟨gc, 0, none⟩) o.length cc)
  have hT := grown_set3 wB w.heap.size (.slice ao o.length co) (.slice (some ⟨g, 0, none⟩) o.length cp) (.slice (some ⟨gc, 0, none⟩) o.length cc)
  obtain ⟨_, z0, z1, z2, _⟩ := id hZ
  have HQ := Lib.hid (And.intro hT (And.intro hXB hsB)); clear hT hZ
  go_wp2
  refine bodyPost_ret (v := .agg #[.slice ao o.length co, (.slice (some ⟨g, 0, none⟩) o.length cp), .slice (some ⟨gc, 0, none⟩) o.length cc]) (by simp [results, Tryz.results412, go_sem, z0, z1, z2]) rfl ?_
  exact ⟨_, rfl, grown_own hgwB HQ.out.1 (fun j hj hlt => by cases hj; omega), (HQ.out.2.1.ret HQ.out.1 (by omega)).weak (by omega), HQ.out.2.2.own HQ.out.1 (fun k e => by cases e; exact hB0)⟩
 ·skip
  have hz := HN.out.1 w8 (some sb) hgw08 (fun k e => by cases e; have := HN.out.2.2.2.2; omega)
  obtain ⟨h0, h1, h2, h3', h4⟩ := id hX8.box
  obtain ⟨k0, k1, k2, k3, k4⟩ := id hz
  have hZ := hz.all (.slice ao o.length co) (.slice ap o.length cp) (.slice (some ⟨gc, 0, none⟩) o.length cc)
  have hT := grown_set3 w8 w.heap.size (.slice ao o.length co) (.slice ap o.length cp) (.slice (some ⟨gc, 0, none⟩) o.length cc)
  obtain ⟨_, z0, z1, z2, _⟩ := id hZ
  have HQ := Lib.hid (And.intro hT (And.intro hX8 hs8)); clear hT hZ
  go_wp2
  refine bodyPost_ret (v := .agg #[.slice ao o.length co, (.slice ap o.length cp), .slice (some ⟨gc, 0, none⟩) o.length cc]) (by simp [results, Tryz.results412, go_sem, z0, z1, z2]) rfl ?_
  exact ⟨_, rfl, grown_own hgw8 HQ.out.1 (fun j hj hlt => by cases hj; omega), (HQ.out.2.1.ret HQ.out.1 (by omega)).weak (by omega), HQ.out.2.2.own HQ.out.1 (fun k e => by cases e; exact hB0)⟩
end Go.Proofs.YtmjkoejegfjbbaaGreat
namespace Go.Proofs.YtmjkoejegfjbbaaGreat
open Go.RowKit
attribute [local go_sem ↓] Go.wp_at_zero Go.wp_at_succ
theorem w64_sm2 (x y : Int) (h : x = y) (h0 : 0 ≤ x ∧ x ≤ 1000) : wrap64 x = y ∧ IntKind.i64.wrap x = y := ⟨by rw [← h]; exact w64_small x h0, by rw [← h]; exact i64_small x h0⟩
set_option maxRecDepth 100000 in
set_option maxHeartbeats 2000000 in
theorem l07Affine_ok (w : World) (p n : Int) (rv : Value) (R : List (List Int)) (S : Nat → Prop) (hr : Rows2 S w rv R) (hR : SmR R.length R) (hp : 1 ≤ p ∧ p ≤ 7) (hn : 1 ≤ n ∧ n ≤ 729) (hRl : R.length ≤ 9) :
  Calls Tryz.prog 413 #[.int .i64 p, rv, .int .i64 n] w (Ret w (PresN 18 w.heap.size)) := by
 obtain ⟨ar, capr, rfl, _, _⟩ := Sl.shape hr
 obtain ⟨n, rfl⟩ := Int.eq_ofNat_of_zero_le (show 0 ≤ n by omega)
 have hz0 : ∀ w', Ext (w.alloc (.cells #[.slice none 0 0, .slice none 0 0, .slice none 0 0] 39)) w' → Box3 w' w.heap.size (.slice none 0 0) (.slice none 0 0) (.slice none 0 0) := fun w' h => (Box3.made w 39 _ _ _).ext h
 have hg0 : Ext w (w.alloc (.cells #[.slice none 0 0, .slice none 0 0, .slice none 0 0] 39)) := World.grownBy_alloc _ _ _
 have hs0 : (w.alloc (.cells #[.slice none 0 0, .slice none 0 0, .slice none 0 0] 39)).heap.size = w.heap.size + 1 := by simp
 have HN := Lib.hid (And.intro hn (And.intro hp (And.intro hR (And.intro hz0 hs0)))); clear hn hz0 hs0 hp hR
 go_enter Tryz.func413, Tryz.ntmps413
 go_wp2_with fail
 generalize w.alloc (.cells #[.slice none 0 0, .slice none 0 0, .slice none 0 0] 39) = w0 at *
 refine Calls.mono (l07Factors_ok w0 n (by have := HN.out.1; omega)) ?_
 rintro e1 w1 ⟨v1, rfl, hg1, a1, c1, t, r1, rfl, hO1, ht9, htx⟩
 go_wp2_with fail
 refine Calls.mono (l01Own_ok w1 _ t _ (hO1.ints (by omega)) (by omega)) ?_
 rintro e2 w2 ⟨v2, rfl, hg2, hO2⟩
 have ht6 : Ints Any w1 (.slice a1 t.length c1) t := (hO1.ints (by omega)).sub (fun _ _ _ => trivial)
 have HT := Lib.hid (And.intro htx hO1); clear htx hO1
 go_wp2_with fail
 go_loopw [9, 10] (fun ov iv wr => ∃ (i : Nat) (l : List Int) (v4 : Value), v4 = ov ∧ iv = .int .i64 i ∧ i ≤ R.length ∧ l.length = t.length + i ∧ Ext w1 wr ∧ Own w1.heap.size wr v4 l) (fun _ iv _ => R.length - (intOf iv).toNat)
 case atStart => exact ⟨0, t, _, rfl, rfl, by omega, rfl, hg2, hO2⟩
 case round =>
  clear hO2 hg2
  obtain ⟨i, l, v4, rfl, rfl, hi, hll, hg, hO⟩ := hrel
  by_cases hlt : i < R.length
  ·have hlt' : (i : Int) < R.length := by omega
   have hl1 : l.length ≤ 1000000 := by omega
   have HL := Lib.hid (And.intro hl1 hll); clear hl1 hll
   go_wp2_with (first | (at_builtin; refine wp_app_int rfl _ _ rfl w1.heap.size v4 l p rfl wr hO rfl rfl HL.out.1 hg.size ?_; intro v5 w5 hO5 hg5; have hgw5 := grown_own hg hg5 (fun j hj hlt => by have := (hO.lt j hj).1; omega)) | fail)
   go_roundw
   case rel => exact ⟨i + 1, _, v5, rfl, by go_num, by omega, by rw [List.length_append, HL.out.2]; rfl, hgw5, hO5⟩
   case measure => simp [intOf]; omega
  ·have hlt' : ¬ ((i : Int) < R.length) := by omega
   have hie : i = R.length := by omega
   subst hie
   obtain ⟨o, ho⟩ : ∃ o, o = l := ⟨_, rfl⟩
   rw [← ho] at hO hll
   clear ho
   have ho18 : o.length ≤ 18 := by omega
   have htk : t.length ≤ o.length := by omega
   obtain ⟨a4, c4, hv4, _⟩ := (hO.ints (by omega)).shape
   subst hv4
   have hOi : Ints Any wr (.slice a4 o.length c4) o := (hO.ints (by omega)).sub (fun _ _ _ => trivial)
   have hs4 := hg.size
   clear hO
   obtain ⟨w4, hw4⟩ : ∃ w4 : World, w4 = wr := ⟨_, rfl⟩
   subst hw4
   have HO := Lib.hid hll; clear hll
   go_wp2_with fail
   refine Calls.mono (l07Trivial_ok w4 _ o _ hOi (by omega)) ?_
   rintro e5 w5 ⟨v5, rfl, hg5, vo, vp, vc, rfl, hX5⟩
   obtain ⟨ao, co, ap, cp, ac, cc, rfl, rfl, rfl⟩ := trivX_shape hX5
   go_wp2_with fail
   have hgA : Ext w5 (w5.alloc (.cells #[.slice ao o.length co, .slice ap o.length cp, .slice ac o.length cc] 39)) := World.grownBy_alloc _ _ _
   have hX := BX.start (N := 18) (B := w4.heap.size) (by omega) hX5 hgA (Box3.made w5 39 (.slice ao o.length co) (.slice ap o.length cp) (.slice ac o.length cc)) hg5.size
   have hs5 := hg5.size
   generalize w5.alloc (.cells #[.slice ao o.length co, .slice ap o.length cp, .slice ac o.length cc] 39) = w6 at *
   have hg6 : Ext w4 w6 := grown_trans hg5 hgA
   have hg04 : Ext w0 w4 := grown_trans hg1 hg
   clear hX5 hg5
   go_loopw [13] (fun iv wr => ∃ i : Nat, iv = .int .i64 i ∧ i ≤ t.length ∧ Ext w4 wr ∧ BX 18 o w4.heap.size w5.heap.size wr (.slice ao o.length co) (.slice ap o.length cp) (.slice ac o.length cc)) (fun iv _ => t.length - (intOf iv).toNat)
   case atStart => exact ⟨0, rfl, by omega, hg6, hX⟩
   case round =>
    clear hX hg6
    have hg14 := hg
    clear hg hi hlt hlt'
    obtain ⟨i, rfl, hi, hg, hX⟩ := hrel
    by_cases hlt : i + 1 < t.length
    ·have hlt' : (i : Int) + 1 < t.length := by omega
     obtain ⟨g, cap, z, hvg, hgB, hgp, hgl, hcc, hst⟩ := hX.storeP i (by omega)
     obtain ⟨rfl, rfl⟩ : ap = some ⟨g, 0, none⟩ ∧ cp = cap := by cases hvg; exact ⟨rfl, rfl⟩
     clear hvg
     have e1 : ∀ w', Near wr g w' → w'.cell? ⟨w5.heap.size, 1, none⟩ = some (.slice (some ⟨g, 0, none⟩) o.length cp) := fun w' h => h.cell hX.box.2.2.1 (by simp; omega)
     have hcon : ∀ w, Calls Tryz.prog 224 #[.int .i64 o.length, .int .i64 ((i : Int) + 1)] w (Ret w fun w' v => Own w.heap.size w' v (unitV o.length (i + 1))) := fun w => by
      have h := l07Unit_ok o.length (i + 1) w (by omega) (by omega)
      rwa [show ((i + 1 : Nat) : Int) = (i : Int) + 1 by omega] at h
     have hul : (unitV o.length (i + 1)).length ≤ 9223372036854775807 := by rw [unitV_len]; omega
     have HX := Lib.hid (And.intro hX (And.intro hst (And.intro hcc hul))); clear hX hst hcc hul
     have hl2 : (i : Int) < o.length := by omega
     have hi5 : i < 100000 := by omega
     go_wp2
     have hwi : IntKind.i64.wrap ((i : Int) + 1) = (i : Int) + 1 := i64_succ _ hi5
     have hwj : wrap64 ((i : Int) + 1) = (i : Int) + 1 := w64_succ _ hi5
     go_region_held3 (fun w' => Near wr g w') (first | exact Near.of (grown_drew _ _) | exact Near.of (by assumption) | exact Near.store (by assumption) | assumption)
      (first
       | (go_at_call 224; refine Calls.mono (Calls.rel (w0 := wr) (by first | exact grown_drew _ _ | assumption) (hcon _)) ?_; rintro eE wE ⟨vE, rfl, hgE, hsE, hOE⟩; obtain ⟨aE, cE, hvE, _⟩ := (hOE.ints HX.out.2.2.2).shape; subst hvE; have hcl := (HX.out.2.2.1 wE hgE).1; have hfr := (HX.out.2.2.1 wE hgE).2))
     clear hwi hwj
     have hsz := hgE.size
     have hX5 := HX.out.2.1 wE _ (unitV o.length (i + 1)) hgE (OwnIn.of hOE (by rw [unitV_len]; omega) (fun k hk _ => Nat.le_trans (by assumption) hk)) (by rw [unitV_len]; omega)
     have hgn : Ext w4 (wE.setCell ⟨g, i, none⟩ (.slice aE (unitV o.length (i + 1)).length cE)) := grown_own (grown_trans hg hgE) (grown_set1 _ _ _ _) (fun j hj hlt => by cases hj; omega)
     clear hcl hfr e1
     go_wp2
     go_roundw
     case rel => exact ⟨i + 1, by go_num, by omega, hgn, hX5⟩
     case measure => simp [intOf]; omega
    ·have hlt' : ¬ ((i : Int) + 1 < t.length) := by omega
     have hgw : Ext w wr := grown_trans hg0 (grown_trans hg04 hg)
     have hRb : ∀ x ∈ R, x.length ≤ 1000000 := fun x hx => by have := (HN.out.2.2.1 x hx).1; omega
     have hcon := l01Own2_ok wr _ R _ (Rows2.ext hr hgw) hRb (by omega)
     clear hRb
     go_wp2_with fail
     refine Calls.mono hcon ?_
     rintro e8 w8 ⟨v8, rfl, hg8, hO8⟩
     clear hcon
     obtain ⟨a8, c8, hv8, _, _⟩ := SlD.shape (hO8.toD (by omega))
     subst hv8
     have hA8 : Rows2 (fun k => wr.heap.size ≤ k ∧ k < w8.heap.size) w8 (.slice a8 R.length c8) R := (RowsD.rows (hO8.toD (by omega))).sub (fun k hk hlt => ⟨hk, hlt⟩)
     have hX8 : BXF 18 o (fun k => w4.heap.size ≤ k ∧ k ≠ w5.heap.size ∧ ¬ (wr.heap.size ≤ k ∧ k < w8.heap.size)) w5.heap.size w8 (.slice ao o.length co) (.slice ap o.length cp) (.slice ac o.length cc) :=
      (hX.f.turn (F' := fun k => w4.heap.size ≤ k ∧ k ≠ w5.heap.size ∧ ¬ (wr.heap.size ≤ k ∧ k < w8.heap.size)) (fun k hk hlt => ⟨hk.1, hk.2, by omega⟩) (fun h => h.2.1 rfl)).ext hg8
     have hgn8 : Ext w4 w8 := grown_trans hg hg8
     have hsz8 := hg8.size
     clear hX hO8 hlt hlt' hi
     go_wp2
     go_loopw [14, 15] (fun av iv wx => ∃ (i lo hi : Nat) (aA : Option Addr) (cA : Nat) (A : List (List Int)), av = .slice aA R.length cA ∧ iv = .int .i64 i ∧ i ≤ t.length ∧ A.length = R.length ∧ SmR R.length A ∧ hi ≤ wx.heap.size ∧ Rows2 (fun k => lo ≤ k ∧ k < hi) wx (.slice aA R.length cA) A ∧ Ext w4 wx ∧
      BXF 18 o (fun k => w4.heap.size ≤ k ∧ k ≠ w5.heap.size ∧ ¬ (lo ≤ k ∧ k < hi)) w5.heap.size wx (.slice ao o.length co) (.slice ap o.length cp) (.slice ac o.length cc)) (fun _ iv _ => t.length - (intOf iv).toNat)
     case atStart => exact ⟨0, wr.heap.size, w8.heap.size, a8, c8, R, rfl, rfl, by omega, rfl, HN.out.2.2.1, Nat.le_refl _, hA8, hgn8, hX8⟩
     case round =>
      clear hA8 hgn8 hX8 hg8 hgw hg
      obtain ⟨i, lo, hi', aA, cA, A, rfl, rfl, hi, hAl, hAs, hhi, hA, hg, hX⟩ := hrel
      by_cases hlt : i < t.length
      ·have hlt' : (i : Int) < t.length := by omega
       have HA := Lib.hid (And.intro hAl hAs); clear hAl hAs
       go_wp2
       go_loopw [16] (fun jv wx => ∃ j : Nat, jv = .int .i64 j ∧ j ≤ R.length ∧ hi' ≤ wx.heap.size ∧ Rows2 (fun k => lo ≤ k ∧ k < hi') wx (.slice aA R.length cA) A ∧ Ext w4 wx ∧
        BXF 18 o (fun k => w4.heap.size ≤ k ∧ k ≠ w5.heap.size ∧ ¬ (lo ≤ k ∧ k < hi')) w5.heap.size wx (.slice ao o.length co) (.slice ap o.length cp) (.slice ac o.length cc)) (fun jv _ => R.length - (intOf jv).toNat)
       case atStart => exact ⟨0, rfl, by omega, hhi, hA, hg, hX⟩
       case round =>
        clear hX hg hA hhi
        obtain ⟨j, rfl, hj, hhi, hA, hg, hX⟩ := hrel
        by_cases hltj : j < R.length
        ·have hltj' : (j : Int) < R.length := by omega
         have hoe := HO.out
         obtain ⟨J, hJ⟩ : ∃ J, J = t.length + j - i - 1 := ⟨_, rfl⟩
         have hJo : J < o.length - 1 - i := by omega
         obtain ⟨gc, capc, b, capb, z2, hvc, hcB, hcp, hcl, hcell, hbB, hbp, hbg, hbl, hcc2, hst2⟩ := hX.storeC i J (by omega) hJo (fun k hk => ⟨by have := hg.size; omega, by have := hX.box.1; omega, by omega⟩)
         obtain ⟨rfl, rfl⟩ : ac = some ⟨gc, 0, none⟩ ∧ cc = capc := by cases hvc; exact ⟨rfl, rfl⟩
         clear hvc
         have hAj : j < A.length := by have := HA.out.1; omega
         obtain ⟨ba, oa, az, capz, rfl, hbaS, _, hca, hra⟩ := Rows2.at hA j hAj
         have hAz := HA.out.2 _ (gtMem hAj)
         obtain ⟨zr, hzr⟩ : ∃ zr, zr = gt A j := ⟨_, rfl⟩
         rw [← hzr] at hca hra hAz
         clear hzr
         have hbab : ba ≠ b := fun e => hbB.2.2 (e ▸ hbaS)
         have e1 : ∀ w', Near wr b w' → w'.cell? ⟨w5.heap.size, 2, none⟩ = some (.slice (some ⟨gc, 0, none⟩) o.length cc) := fun w' h => h.cell hX.box.2.2.2.1 (by simp; omega)
         have e2 : ∀ w', Near wr b w' → w'.cell? ⟨gc, i, none⟩ = some (.slice (some ⟨b, 0, none⟩) (o.length - 1 - i) capb) := fun w' h => h.cell hcell (by simp; omega)
         have e3 : ∀ w', Near wr b w' → w'.cell? ⟨ba, oa + j, none⟩ = some (.slice az zr.length capz) := fun w' h => h.cell hca (by simp; omega)
         have hcon : ∀ w', Ext wr w' → Calls Tryz.prog 335 #[.int .i64 t.length, .slice az zr.length capz, .int .i64 0] w' (Ret w' fun w'' r => ∃ l, l.length ≤ 18 ∧ Own w'.heap.size w'' r l) := fun w' he =>
          Calls.mono (l07Shift_ok w' t.length _ zr 0 _ (Ints.ext hra he) (by have := hAz.1; omega)) (fun e w2 ⟨v, h1, h2, h3⟩ => ⟨v, h1, h2, _, by simp [shiftL]; have := hAz.1; omega, h3⟩)
         have hA2 : ∀ wE u, Ext wr wE → Rows2 (fun k => lo ≤ k ∧ k < hi') (wE.setCell ⟨b, J, none⟩ u) (.slice (some ⟨ba, oa, none⟩) R.length cA) A := fun wE u he => Rows2.mono hA (fun k hk hlt => by
          have hT : wr.grownBy (wE.setCell ⟨b, J, none⟩ u) (some b) := grown_trans (grown_of_ext _ he) (grown_set1 _ _ _ _)
          exact ⟨hk, Nat.lt_of_lt_of_le hlt hT.size, hT.block k hlt (fun e => hbB.2.2 (by cases e; exact hk))⟩)
         have HY := Lib.hid (And.intro hst2 (And.intro hcc2 (And.intro hcon hA2))); clear hst2 hcc2 hcon hcell hca hra hA2 hAz
         have hJl : (J : Int) < ((o.length - 1 - i : Nat) : Int) := by omega
         have hio : (i : Int) < o.length := by omega
         have hw1 := w64_sm2 ((t.length : Int) + j) ((t.length + j : Nat) : Int) (by omega) (by omega)
         have hw2 := w64_sm2 (((t.length + j : Nat) : Int) - i) ((t.length + j - i : Nat) : Int) (by clear hw1; omega) (by clear hw1; omega)
         have hw3 := w64_sm2 (((t.length + j - i : Nat) : Int) - 1) (J : Int) (by clear hw1 hw2; omega) (by clear hw1 hw2; omega)
         generalize ((t.length + j : Nat) : Int) = d1 at hw1 hw2
         generalize ((t.length + j - i : Nat) : Int) = d2 at hw2 hw3
         have HW := Lib.hid (And.intro hw1 (And.intro hw2 hw3)); clear hw1 hw2 hw3
         have hbg2 := hX.box.1
         have HJ := Lib.hid (And.intro hoe hJ); clear hoe hJ hX hA
         go_wp2
         obtain ⟨⟨q1, q2⟩, ⟨q3, q4⟩, q5, q6⟩ := HW.out
         go_region_held3 (fun w' => Near wr b w') (first | exact Near.of (grown_drew _ _) | exact Near.of (by assumption) | exact Near.store (by assumption) | assumption)
          (first
           | (go_at_call 335; refine Calls.mono (Calls.rel (w0 := wr) (by first | exact grown_drew _ _ | assumption) (HY.out.2.2.1 _ (by first | exact grown_drew _ _ | assumption))) ?_; rintro eE wE ⟨vE, rfl, hgE, hsE, lE, hlE, hOE⟩; obtain ⟨aE, cE, hvE, _⟩ := (hOE.ints (Nat.le_trans hlE (by decide))).shape; subst hvE; have hcl := (HY.out.2.1 wE hgE).1; have hfr := (HY.out.2.1 wE hgE).2))
         clear q1 q2 q3 q4 q5 q6
         have hX5 := HY.out.1 wE _ lE hgE (OwnIn.of hOE (Nat.le_trans hlE (by decide)) (fun k hk _ => Nat.le_trans (by assumption) hk)) hlE
         have hA5 := HY.out.2.2.2 wE (.slice aE lE.length cE) hgE
         have hgn : Ext w4 (wE.setCell ⟨b, J, none⟩ (.slice aE lE.length cE)) := grown_own (grown_trans hg hgE) (grown_set1 _ _ _ _) (fun j hj hlt => by cases hj; omega)
         have hhi5 : hi' ≤ (wE.setCell ⟨b, J, none⟩ (.slice aE lE.length cE)).heap.size := by have := hgE.size; simp; omega
         clear hcl hfr e1 e2 e3
         have HZ := Lib.hid hhi5; clear hhi5
         go_wp2
         go_roundw
         case rel => exact ⟨j + 1, by go_num, by omega, HZ.out, hA5, hgn, hX5⟩
         case measure => simp [intOf]; omega
        ·have hltj' : ¬ ((j : Int) < R.length) := by omega
         obtain ⟨bt, ot, rfl, _, _, hct⟩ := Ints.at (Ints.ext ht6 (grown_trans hg14 hg)) i hlt
         have hte : 2 ≤ gt t i ∧ gt t i ≤ 7 := HT.out.1 _ (gtMem hlt)
         obtain ⟨te, hte2⟩ : ∃ te, te = gt t i := ⟨_, rfl⟩
         rw [← hte2] at hct hte
         clear hte2
         have hA0 := Rows2.sub hA (S' := Any) (fun _ _ _ => trivial)
         obtain ⟨wo, hwo⟩ : ∃ wo : World, wo = wr := ⟨_, rfl⟩
         rw [← hwo] at hct hA0
         have hgo : Ext wo wr := by rw [hwo]; exact Ext.refl _
         go_wp2
         go_loopw [14, 18] (fun av tv wx => ∃ (q lo2 hi2 : Nat) (aB : Option Addr) (cB : Nat) (B : List (List Int)), av = .slice aB R.length cB ∧ tv = .int .i64 q ∧ 1 ≤ q ∧ q ≤ 7 ∧ B.length = R.length ∧ SmR R.length B ∧ hi2 ≤ wx.heap.size ∧ Rows2 (fun k => lo2 ≤ k ∧ k < hi2) wx (.slice aB R.length cB) B ∧ Ext wo wx ∧ Ext w4 wx ∧
          BXF 18 o (fun k => w4.heap.size ≤ k ∧ k ≠ w5.heap.size ∧ ¬ (lo2 ≤ k ∧ k < hi2)) w5.heap.size wx (.slice ao o.length co) (.slice ap o.length cp) (.slice ac o.length cc)) (fun _ tv _ => 8 - (intOf tv).toNat)
         case atStart => exact ⟨1, lo, hi', aA, cA, A, rfl, rfl, by omega, by omega, HA.out.1, HA.out.2, hhi, hA, hgo, hg, hX⟩
         case round =>
          clear hX hg hA hhi hgo hwo
          obtain ⟨q, lo2, hi2, aB, cB, B, rfl, rfl, hq1, hq7, hBl, hBs, hhi, hB, hgo, hg, hX⟩ := hrel
          have hct2 := hgo.cell hct (by simp)
          by_cases hlq : (q : Int) < te
          ·have hcon := l02Product_ok wr p _ _ B A R.length _ _ hB (Rows2.ext hA0 hgo) HN.out.2.1 hBs HA.out.2 (by omega) (by omega)
           have HB := Lib.hid (And.intro hBl hBs); clear hBl hBs
           obtain ⟨wp, hwp⟩ : ∃ wp : World, wp = wr := ⟨_, rfl⟩
           go_wp2_with fail
           refine Calls.mono hcon ?_
           rintro e9 w9 ⟨v9, rfl, hg9, L, hLl, hLs, hO9⟩
           clear hcon
           obtain ⟨a9, c9, hv9, _, _⟩ := SlD.shape (hO9.toD (by have := HB.out.1; omega))
           rw [hLl, HB.out.1] at hv9
           subst hv9
           have hA9 := (RowsD.rows (hO9.toD (by have := HB.out.1; omega))).sub (S' := fun k => wr.heap.size ≤ k ∧ k < w9.heap.size) (fun k hk hlt => ⟨hk, hlt⟩)
           have hX9 : BXF 18 o (fun k => w4.heap.size ≤ k ∧ k ≠ w5.heap.size ∧ ¬ (wr.heap.size ≤ k ∧ k < w9.heap.size)) w5.heap.size w9 (.slice ao o.length co) (.slice ap o.length cp) (.slice ac o.length cc) :=
            (hX.turn (F' := fun k => w4.heap.size ≤ k ∧ k ≠ w5.heap.size ∧ ¬ (wr.heap.size ≤ k ∧ k < w9.heap.size)) (fun k hk hlt => ⟨hk.1, hk.2.1, by omega⟩) (fun h => h.2.1 rfl)).ext hg9
           have hgo9 := grown_trans hgo hg9
           have hg49 := grown_trans hg hg9
           have hct9 := hg9.cell hct2 (by simp)
           have HL := Lib.hid (And.intro hLl hLs); clear hLl hLs
           clear hct2 hX hg9 hB hO9
           go_wp2
           go_roundw
           case rel => exact ⟨q + 1, wr.heap.size, w9.heap.size, a9, c9, L, rfl, by go_num, by omega, by omega, by rw [HL.out.1, HB.out.1], HL.out.2, Nat.le_refl _, hA9, hgo9, hg49, hX9⟩
           case measure => simp [intOf]; omega
          ·have HB := Lib.hid (And.intro hBl hBs); clear hBl hBs
           go_wp2
           go_roundw
           case rel => exact ⟨i + 1, lo2, hi2, aB, cB, B, rfl, by go_num, by omega, HB.out.1, HB.out.2, hhi, hB, hg, hX⟩
           case measure => simp [intOf]; omega
      ·have hlt' : ¬ ((i : Int) < t.length) := by omega
       have hz := HN.out.2.2.2.1 _ (grown_trans hg04 hg)
       clear hA
       obtain ⟨h0, h1, h2, h3', h4⟩ := id hX.box
       obtain ⟨k0, k1, k2, k3, k4⟩ := id hz
       have hZ := hz.all (.slice ao o.length co) (.slice ap o.length cp) (.slice ac o.length cc)
       have hT := grown_set3 wr w.heap.size (.slice ao o.length co) (.slice ap o.length cp) (.slice ac o.length cc)
       obtain ⟨_, z0, z1, z2, _⟩ := id hZ
       have HQ := Lib.hid (And.intro hT hX); clear hT hZ hX
       go_wp2
       refine bodyPost_ret (v := .agg #[.slice ao o.length co, .slice ap o.length cp, .slice ac o.length cc]) (by simp [results, Tryz.results413, go_sem, z0, z1, z2]) rfl ?_
       have hq1 := HN.out.2.2.2.2
       have hq2 := hg04.size
       exact ⟨_, rfl, grown_own (grown_trans hg0 (grown_trans hg04 hg)) HQ.out.1 (fun j hj hlt => by cases hj; omega), (BX.ret (BXF.bx HQ.out.2 hs5 (fun k hk => hk.1)) HQ.out.1 (by omega)).weak (by omega)⟩
end Go.Proofs.YtmjkoejegfjbbaaGreat
