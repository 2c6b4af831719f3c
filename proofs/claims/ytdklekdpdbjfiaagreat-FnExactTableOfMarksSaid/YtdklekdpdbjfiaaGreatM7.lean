/-
  The reference's list of the elements of a subgroup: spec.l12Elements.
  spec.l19Table: the numbers of all products.
  spec.l19Span: the mask of the subgroup that some elements generate.
  spec.l19Sequence: the sequence of the subgroup that a mask tells.
  What a run does to the count of draws: it never falls.
  impl.pivots and impl.sizeOf again: the count of draws does not fall. (Printed from PivW and SizeW.)
  slices.Concat at integers: the numbers of all rows, in order. cmp.Or at int.
  The library's sort at [][]int64, laid from the shelf.
  A row that the call has built, sorted by the library: any elements of one cell. (After the library's Sort/OwnSortedInts, at a general reading.)
  The order of subgroups as a comparison: by order, then by the entries.
  impl.compareSubgroups, impl.latticeOf$1, cmp.Or at int.
  spec.l03Flat, spec.l01Less, spec.l19Before.
  Lists of subgroups whose rows are shared with older lists.
  The reference's closure: spec.l12Close.
-/
import Derived.Test.YtdklekdpdbjfiaaGreatM6
import Derived.Test.YtdklekdpdbjfiaaGreatM1
import Derived.Test.YtdklekdpdbjfiaaGreatM5
import Derived.Test.YtdklekdpdbjfiaaGreatM4
import Derived.Shelf.Spec.SlicesGrow
import Derived.Shelf.SlSortCmp.NoneTotal
import Derived.Sort.OwnSortedInts
/- The reference's list of the elements of a subgroup: spec.l12Elements. -/
namespace Go.Proofs.YtdklekdpdbjfiaaGreat
open Go.RowKit
set_option maxRecDepth 100000 in
set_option maxHeartbeats 8000000 in
theorem l12Elements_ok (P : Pr) (G : Grp P) (w : World) (pv uv : Value) (H : List Int → Prop) (Sp Su : Nat → Prop) (S : Sub P H) (hpv : PresV Sp w pv P) (hu : Rows2 Su w uv (cseq P H)) :
  Calls Tryz.prog 155 #[pv, uv] w (Ret w fun w' v => RowsO w.heap.size w' v (elemsIn P H)) := by
 have hP := G.v
 have hn6 := hP.n6
 have h729 : ordP P ≤ 729 := hP.le729
 have hpos := hP.ordP_pos
 have hl := G.cseq_len S
 have hsq := (G.seq_facts S).1
 have hUV : ∀ z ∈ cseq P H, Vec P.orders z := fun z hz => S.vec z ((G.seq_facts S).2.1 z hz)
 have hmk := G.marks_elems S
 obtain ⟨U, hU⟩ : ∃ U, U = cseq P H := ⟨_, rfl⟩
 rw [← hU] at hl hsq hUV hmk hu
 have hpr := prodU_729 hP hsq U.length (Nat.le_refl _)
 have hol := ordsU_len P U
 have hshape : Valid (shapeP (ordsU P U)) := by
  refine shapeP_valid (by omega) (fun i hi => ?_) ?_
  ·rw [ordsU_at P U i (by omega)]
   exact hP.ord _ (hsq.1 _ (gtMem (by omega))).2.1
  ·rw [hol, prodTo_ordsU P U U.length (Nat.le_refl _)]; exact hpr.2
 obtain ⟨vo, vp, vc, rfl, h3⟩ := hpv
 have hp0 := PresP.box h3 31
 have hg0 : Ext w (w.alloc (.cells #[vo, vp, vc] 31)) := World.grownBy_alloc _ _ _
 have hu0 := Rows2.ext hu hg0
 have hs0 : (w.alloc (.cells #[vo, vp, vc] 31)).heap.size = w.heap.size + 1 := by simp
 obtain ⟨au, capu, rfl, _, _⟩ := Sl.shape hu
 obtain ⟨vo6, vp6, vc6, _, _, hc0, hc1, hc2, h36⟩ := hp0.at
 simp only [Nat.zero_add] at hc1 hc2
 have hbx : ∀ w', Ext (w.alloc (.cells #[vo, vp, vc] 31)) w' → w'.cell? ⟨w.heap.size, 0, none⟩ = some vo6 ∧ w'.cell? ⟨w.heap.size, 1, none⟩ = some vp6 ∧ w'.cell? ⟨w.heap.size, 2, none⟩ = some vc6 := fun w' h => ⟨h.cell hc0 (by simp), h.cell hc1 (by simp), h.cell hc2 (by simp)⟩
 have HB := Lib.hid hbx; clear hbx
 have hE := l12Order_ok P hP (w.alloc (.cells #[vo, vp, vc] 31)) _ _ U Any Su ⟨_, _, _, rfl, h36⟩ hu0 hsq (by omega)
 have HU := Lib.hid (And.intro hsq (And.intro hUV (And.intro hshape (And.intro hU hol)))); clear hsq hUV hshape hU hol hp0 hu
 go_enter Tryz.func155, Tryz.ntmps155
 go_wp2_with fail
 have HS := Lib.hid hs0; clear hs0 hc0 hc1 hc2
 generalize hw0 : w.alloc (.cells #[vo, vp, vc] 31) = w0 at *
 clear hw0
 refine Calls.mono hE ?_
 rintro e1 w1 ⟨v1, rfl, hg1, rfl⟩
 clear hE
 obtain ⟨hb0, hb1, hb2⟩ := HB.out w1 hg1
 go_wp2_with fail
 clear hb0 hb1 hb2
 refine Calls.mono (l10Order_ok w1 _ P Any hP ⟨_, _, _, rfl, Pres3.ext h36 hg1⟩) ?_
 rintro e2 w2 ⟨v2, rfl, hg2, rfl⟩
 have hg02 := grown_trans hg1 hg2
 obtain ⟨hb0, hb1, hb2⟩ := HB.out w2 hg02
 have hle1 := hg1.size
 have hle2 := hg2.size
 go_wp2_with (first | (at_make; refine wp_make_bools rfl _ _ rfl w2.heap.size (ordP P).toNat w2.heap.size rfl (ordP P) rfl rfl (by omega) (by omega) (Nat.le_refl _) ?_; intro w3 hM3 hg3 hlt3; have hb03 := HB.out w3 (grown_trans hg02 hg3); obtain ⟨hc0, hc1, hc2⟩ := hb03) | fail)
 clear hb0 hb1 hb2 hc0 hc1 hc2
 have hg03 := grown_trans hg02 hg3
 refine Calls.mono (l12Orders_ok P hP w3 _ _ U Any Su ⟨_, _, _, rfl, Pres3.ext h36 hg03⟩ (Rows2.ext hu0 hg03) HU.out.1 (by omega)) ?_
 rintro e4 w4 ⟨ov, rfl, hg4, hO4⟩
 have hOi := hO4.ints (by rw [HU.out.2.2.2.2]; omega)
 obtain ⟨aor, capor, hvo, _, _⟩ := hOi.shape
 subst hvo
 have hg04 := grown_trans hg03 hg4
 have hs2 : w.heap.size < w2.heap.size := by have := HS.out; omega
 have hs4 : w3.heap.size ≤ w4.heap.size := hg4.size
 have hgm : w2.heap.size ≠ w4.heap.size := by omega
 have hE5 : Ext w4 (w4.alloc (.cells #[.slice aor (ordsU P U).length capor, .slice none 0 0, .slice none 0 0] 31)) := World.grownBy_alloc _ _ _
 have hS5 : ∀ k, k < 3 → (w4.alloc (.cells #[.slice aor (ordsU P U).length capor, .slice none 0 0, .slice none 0 0] 31)).cell? ⟨w4.heap.size, k, none⟩ = some (gt [Value.slice aor (ordsU P U).length capor, .slice none 0 0, .slice none 0 0] k) := fun k hk => by
  rw [World.cell?_alloc_at _ _ _ _ rfl]
  rcases (show k = 0 ∨ k = 1 ∨ k = 2 by omega) with rfl | rfl | rfl <;> rfl
 have hO5 : Ints (fun k => w3.heap.size ≤ k) (w4.alloc (.cells #[.slice aor (ordsU P U).length capor, .slice none 0 0, .slice none 0 0] 31)) (.slice aor (ordsU P U).length capor) (ordsU P U) := (ints_of_own hO4 (by rw [HU.out.2.2.2.2]; omega) (fun k hk => (hO4.lt k hk).1)).ext hE5
 have hM5 := (hM3.ext0 hg4).ext0 hE5
 have hE25 := grown_trans hg3 (grown_trans hg4 hE5)
 have hsz5 : (w4.alloc (.cells #[.slice aor (ordsU P U).length capor, .slice none 0 0, .slice none 0 0] 31)).heap.size = w4.heap.size + 1 := by simp
 have HSZ := Lib.hid hsz5; clear hsz5
 go_wp2_with fail
 generalize hw5 : w4.alloc (.cells #[.slice aor (ordsU P U).length capor, .slice none 0 0, .slice none 0 0] 31) = w5 at *
 clear hw5 hO4 hOi hM3
 obtain ⟨N, hN⟩ : ∃ N, N = (ordP P).toNat := ⟨_, rfl⟩
 obtain ⟨f, hf⟩ : ∃ f : Nat → Nat, f = fun k => (num P (prodN P U k)).toNat := ⟨_, rfl⟩
 rw [← hf, ← hN] at hmk
 have HN := Lib.hid (And.intro hf (And.intro hmk hN)); clear hf hmk
 rw [← hN] at hM5 ⊢
 have hNo : (N : Int) = ordP P := by omega
 clear hN
 have HNo := Lib.hid hNo; clear hNo
 have hM0 : BOwn w2.heap.size w5 (.slice (some ⟨w2.heap.size, 0, none⟩) N N) (markAt N f 0) := hM5
 clear hM5
 go_loopw [8] (fun kv wr => ∃ k : Nat, kv = .int .i64 k ∧ (k : Int) ≤ prodU P U U.length ∧ w5.grownBy wr (some w2.heap.size) ∧ BOwn w2.heap.size wr (.slice (some ⟨w2.heap.size, 0, none⟩) N N) (markAt N f k)) (fun kv _ => (prodU P U U.length).toNat - (intOf kv).toNat)
 case atStart => exact ⟨0, rfl, by omega, grown_refl _ _, hM0⟩
 case round =>
  clear hM0
  obtain ⟨k, rfl, hk, hgk, hM⟩ := hrel
  have hE2r : Ext w2 wr := grown_own hE25 hgk (fun j hj hlt => by cases hj; omega)
  have hE0r := grown_trans hg02 hE2r
  by_cases hlt : (k : Int) < prodU P U U.length
  ·have hkx : (k : Int) ≤ 729 := by omega
   have hgr : w5.heap.size ≤ wr.heap.size := hgk.size
   have hbr := HB.out wr hE0r
   obtain ⟨hb0, hb1, hb2⟩ := hbr
   have hs0 : wr.cell? ⟨w4.heap.size, 0, none⟩ = some (.slice aor (ordsU P U).length capor) := hgk.cell (hS5 0 (by omega)) (by simp; omega)
   have hs1 : wr.cell? ⟨w4.heap.size, 1, none⟩ = some (.slice none 0 0) := hgk.cell (hS5 1 (by omega)) (by simp; omega)
   have hs2' : wr.cell? ⟨w4.heap.size, 2, none⟩ = some (.slice none 0 0) := hgk.cell (hS5 2 (by omega)) (by simp; omega)
   have hOr : Ints Any wr (.slice aor (ordsU P U).length capor) (ordsU P U) := Ints.mono hO5 (frame_of hgk (fun j hj _ => ⟨trivial, fun e => by cases e; omega⟩))
   have hvA := elAt_vec HU.out.2.2.1 (k : Int) (by omega)
   have hvl : (elAt (shapeP (ordsU P U)) (k : Int)).length = U.length := hvA.1.trans HU.out.2.2.2.2
   have hvb : ∀ i, i < U.length → 0 ≤ gt (elAt (shapeP (ordsU P U)) (k : Int)) i ∧ gt (elAt (shapeP (ordsU P U)) (k : Int)) i ≤ 1000 := fun i hi => by
    have h1 : 0 ≤ gt (elAt (shapeP (ordsU P U)) (k : Int)) i ∧ gt (elAt (shapeP (ordsU P U)) (k : Int)) i < gt (ordsU P U) i := hvA.2 i (by show i < (ordsU P U).length; rw [HU.out.2.2.2.2]; exact hi)
    have h2 : 2 ≤ gt (ordsU P U) i ∧ gt (ordsU P U) i ≤ 7 := HU.out.2.2.1.ord7 i (by show i < (ordsU P U).length; rw [HU.out.2.2.2.2]; exact hi)
    omega
   have hpV : Vec P.orders (prodN P U k) := G.prodR_vec HU.out.2.1 _ _ (Nat.le_refl _)
   have hpl : (prodN P U k).length ≤ 6 := by rw [hpV.1]; omega
   have hnb := num_bd hP hpV
   have hpe : prodR P U (elAt (shapeP (ordsU P U)) (k : Int)) U.length = prodN P U k := rfl
   have hfk : f k = (num P (prodN P U k)).toNat := by rw [HN.out.1]
   have hNo2 := HNo.out
   obtain ⟨n0, n1⟩ := hnb
   obtain ⟨m, hm⟩ : ∃ m, m = num P (prodN P U k) := ⟨_, rfl⟩
   rw [← hm] at n0 n1 hfk
   have hmN : m < N := by omega
   have hmk2 : markAt N f (k + 1) = (markAt N f k).set m.toNat true := by rw [← hfk]; rfl
   have HV := Lib.hid (And.intro hvl (And.intro hvb (And.intro hpV (And.intro hpl (And.intro hpe (And.intro hm hmk2)))))); clear hvl hvb hpV hpl hpe hm hmk2 hvA hfk hNo2
   have hcel := hM.cell m.toNat (by rw [markAt_len]; omega)
   have hfr := hM.frozen m.toNat
   have e1 : ∀ w', Near wr w2.heap.size w' → w'.cell? ⟨w.heap.size, 0, none⟩ = some vo6 := fun w' h => h.cell hb0 (by simp; omega)
   have e2 : ∀ w', Near wr w2.heap.size w' → w'.cell? ⟨w.heap.size, 1, none⟩ = some vp6 := fun w' h => h.cell hb1 (by simp; omega)
   have e3 : ∀ w', Near wr w2.heap.size w' → w'.cell? ⟨w.heap.size, 2, none⟩ = some vc6 := fun w' h => h.cell hb2 (by simp; omega)
   have e4 : ∀ w', Near wr w2.heap.size w' → w'.cell? ⟨w4.heap.size, 0, none⟩ = some (.slice aor (ordsU P U).length capor) := fun w' h => h.cell hs0 (by simp; omega)
   have e5 : ∀ w', Near wr w2.heap.size w' → w'.cell? ⟨w4.heap.size, 1, none⟩ = some (.slice none 0 0) := fun w' h => h.cell hs1 (by simp; omega)
   have e6 : ∀ w', Near wr w2.heap.size w' → w'.cell? ⟨w4.heap.size, 2, none⟩ = some (.slice none 0 0) := fun w' h => h.cell hs2' (by simp; omega)
   clear hb0 hb1 hb2 hs0 hs1 hs2'
   have h3r := Pres3.ext h36 hE0r
   have hur := Rows2.ext hu0 hE0r
   go_wp2
   go_region_held3 (fun w' => Near wr w2.heap.size w') (first | exact Near.of (grown_drew _ _) | exact Near.of (by assumption) | exact Near.store (by assumption) | assumption)
    (first
     | (go_at_call 130; refine Calls.mono (Calls.rel (w0 := wr) (by first | exact grown_drew _ _ | assumption) (l10AtO_ok (ordsU P U) HU.out.2.2.1 _ _ _ _ (k : Int) Any (Ints.ext hOr (by first | exact grown_drew _ _ | assumption)) (by omega) (by omega))) ?_; rintro eE wE ⟨vE, rfl, hgE, hsE, hOE⟩; have hEi := hOE.ints (by rw [HV.out.1]; omega))
     | (go_at_call 215; refine Calls.mono (Calls.rel (w0 := wr) (by assumption) (l12Product_ok P G _ _ _ _ U _ Any Any Any ⟨_, _, _, rfl, Pres3.ext h3r (by assumption)⟩ (Rows2.sub (Rows2.ext hur (by assumption)) (fun _ _ _ => trivial)) hEi HU.out.2.1 (by rw [HV.out.1]; exact Nat.le_refl _) HV.out.2.1)) ?_; rintro eF wF ⟨vF, rfl, hgF, hsF, hOF⟩; rw [HV.out.2.2.2.2.1] at hOF; have hFi := hOF.ints (by have := HV.out.2.2.2.1; omega))
     | (go_at_call 207; refine Calls.mono (Calls.rel (w0 := wr) (by assumption) (l10Number_ok P hP _ _ _ _ Any Any ⟨_, _, _, rfl, Pres3.ext h3r (by assumption)⟩ hFi HV.out.2.2.1)) ?_; rintro eG wG ⟨vG, rfl, hgG, hsG, hvG⟩; rw [← HV.out.2.2.2.2.2.1] at hvG; subst hvG; have hcel2 := hgG.cell hcel (by simp); have hfr2 := (hM.ext0 hgG).frozen m.toNat))
   clear e1 e2 e3 e4 e5 e6
   obtain ⟨hO3, hgs⟩ := (hM.ext0 hgG).store m.toNat true
   have hgn : w5.grownBy (wG.setCell ⟨w2.heap.size, m.toNat, none⟩ (.bool true)) (some w2.heap.size) := grown_trans (grown_trans hgk (grown_of_ext _ hgG)) hgs
   rw [← HV.out.2.2.2.2.2.2] at hO3
   clear hcel hcel2 hfr hfr2 hgs
   go_wp2
   go_roundw
   case rel => exact ⟨k + 1, by go_num, by omega, hgn, hO3⟩
   case measure => simp [intOf]; omega
  ·have hke : k = (prodU P U U.length).toNat := by omega
   obtain ⟨wo, rfl⟩ : ∃ wo : World, wo = wr := ⟨_, rfl⟩
   rw [hke] at hM
   have HK := Lib.hid hke; clear hke
   go_wp2
   go_loopw [9, 10] (fun ov tv wr => ∃ (t : Nat) (v4 : Value), v4 = ov ∧ tv = .int .i64 t ∧ t ≤ N ∧ Ext wo wr ∧ RowsO wo.heap.size wr v4 (elemsTo P H t)) (fun _ tv _ => N - (intOf tv).toNat)
   case atStart => exact ⟨0, _, rfl, rfl, by omega, World.grownBy_alloc _ _ _, [], fun _ _ => False, by simp [elemsTo], World.ownsRow_lit wo #[] 0 (Nat.le_refl _) (by decide) rfl, by simp, by simp, by simp [elemsTo]⟩
   case round =>
    obtain ⟨t, v4, rfl, rfl, ht, hgt, hO⟩ := hrel
    by_cases htl : t < N
    ·have htl' : (t : Int) < N := by omega
     have hcm := hgt.cell (hM.cell t (by rw [markAt_len]; exact htl)) (by simp)
     have hiff := HN.out.2.1 t htl
     have hst := elemsTo_succ P H t
     have htlen := elemsTo_len P H t
     have hbx := HB.out wr (grown_trans hE0r hgt)
     obtain ⟨hb0, hb1, hb2⟩ := hbx
     cases hq : gt (markAt N f (prodU P U U.length).toNat) t with
     | true =>
      rw [hq] at hcm
      rw [if_pos (hiff.1 hq)] at hst
      have htN := HNo.out
      have hvE := elAt_vec hP (t : Int) (by omega)
      have hvl : (elAt P (t : Int)).length = P.orders.length := hvE.1
      have HST := Lib.hid (And.intro hst (And.intro hvl htN)); clear hst hvl hiff hq hvE htN
      have hN729 : N ≤ 729 := by have := HST.out.2.2; omega
      go_wp2_with fail
      clear hb0 hb1 hb2 hcm
      refine Calls.mono (l10At_ok P hP wr _ (t : Int) Any ⟨_, _, _, rfl, Pres3.ext h36 (grown_trans hE0r hgt)⟩ (by omega) (by omega)) ?_
      rintro eA wA ⟨vA, rfl, hgA, hOA⟩
      have hYO : OwnIn (From wr.heap.size) wA vA (elAt P (t : Int)) := OwnIn.of hOA (by rw [HST.out.2.1]; omega) (fun j h1 _ => h1)
      obtain ⟨ay, capy, hvy, _, _⟩ := hYO.ints.shape
      subst hvy
      go_wp2_with (first | (at_builtin; refine wp_app_row rfl _ _ rfl wo.heap.size wr wA v4 _ (elemsTo P H t) (elAt P (t : Int)) rfl hO hgA hYO rfl rfl (by omega) hgt.size ?_; intro v5 w6 hO6 hg6 hg7; have hgw6 := hO.extw hgt (Nat.le_refl _) hg6) | fail)
      go_roundw
      case rel => exact ⟨t + 1, v5, rfl, by go_num, by omega, hgw6, by rw [HST.out.1]; exact hO6⟩
      case measure => simp [intOf]; omega
     | false =>
      rw [hq] at hcm
      rw [if_neg (fun h => by have := hiff.2 h; rw [hq] at this; cases this), List.append_nil] at hst
      have HST := Lib.hid hst; clear hst hiff hq
      have hN729 : N ≤ 729 := by have := HNo.out; omega
      go_wp2
      go_roundw
      case rel => exact ⟨t + 1, v4, rfl, by go_num, by omega, hgt, by rw [HST.out]; exact hO⟩
      case measure => simp [intOf]; omega
    ·have hte : t = N := by omega
     have hel : elemsTo P H t = elemsIn P H := by rw [hte, HN.out.2.2]; exact elemsTo_all P H
     have htlen := elemsTo_len P H t
     rw [hel] at hO htlen
     have hN729 : N ≤ 729 := by have := HNo.out; omega
     obtain ⟨az, capz, hvz, _, _⟩ := SlD.shape (hO.toD (by omega))
     subst hvz
     have HX := Lib.hid (And.intro hte hel); clear hte hel
     go_wp2
     go_ret
     exact ⟨_, rfl, grown_trans hg0 (grown_trans hE0r hgt), hO.weak (by have := hE0r.size; have := HS.out; omega)⟩
end Go.Proofs.YtdklekdpdbjfiaaGreat

/- spec.l19Table: the numbers of all products. -/
namespace Go.Proofs.YtdklekdpdbjfiaaGreat
open Go.RowKit
set_option maxRecDepth 100000 in
set_option maxHeartbeats 4000000 in
theorem l19Table_ok (P : Pr) (G : Grp P) (w : World) (pv : Value) (Sp : Nat → Prop) (hpv : PresV Sp w pv P) :
  Calls Tryz.prog 142 #[pv] w (Ret w fun w' v => Rows2 (From w.heap.size) w' v (tabL P)) := by
 have hP := G.v
 have hn6 := hP.n6
 have h729 : ordP P ≤ 729 := hP.le729
 have hpos := hP.ordP_pos
 obtain ⟨vo, vp, vc, rfl, h3⟩ := hpv
 have hp0 := PresP.box h3 31
 have hg0 : Ext w (w.alloc (.cells #[vo, vp, vc] 31)) := World.grownBy_alloc _ _ _
 obtain ⟨vo6, vp6, vc6, _, _, hc0, hc1, hc2, h36⟩ := hp0.at
 simp only [Nat.zero_add] at hc1 hc2
 have hbx : ∀ w', Ext (w.alloc (.cells #[vo, vp, vc] 31)) w' → w'.cell? ⟨w.heap.size, 0, none⟩ = some vo6 ∧ w'.cell? ⟨w.heap.size, 1, none⟩ = some vp6 ∧ w'.cell? ⟨w.heap.size, 2, none⟩ = some vc6 := fun w' h => ⟨h.cell hc0 (by simp), h.cell hc1 (by simp), h.cell hc2 (by simp)⟩
 have hs0 : (w.alloc (.cells #[vo, vp, vc] 31)).heap.size = w.heap.size + 1 := by simp
 have HB := Lib.hid (And.intro hbx hs0); clear hbx hs0 hp0
 obtain ⟨N, hN⟩ : ∃ N, N = (ordP P).toNat := ⟨_, rfl⟩
 have hNo : ordP P = (N : Int) := by omega
 have hNb : N ≤ 729 := by omega
 have hat : ∀ i, i < N → Vec P.orders (elAt P i) := fun i hi => G.elAtV (by omega)
 have HN := Lib.hid (And.intro hN (And.intro hNo hat)); clear hN hNo hat h729 hpos
 go_enter Tryz.func142, Tryz.ntmps142
 go_wp2
 clear hc0 hc1 hc2
 generalize hw0 : w.alloc (.cells #[vo, vp, vc] 31) = w0 at *
 clear hw0
 go_loopw [3, 4] (fun ov iv wr => ∃ (i : Nat) (v4 : Value), v4 = ov ∧ iv = .int .i64 i ∧ i ≤ N ∧ Ext w0 wr ∧ SlO (fun F w u (x : List Int) => Ints F w u x) 22 w0.heap.size wr v4 ((tabL P).take i)) (fun _ iv _ => N - (intOf iv).toNat)
 case atStart => exact ⟨0, _, rfl, rfl, by omega, World.grownBy_alloc _ _ _, by rw [← HB.out.2]; exact ⟨[], fun _ _ => False, rfl, World.ownsRow_lit w0 #[] 0 (Nat.le_refl _) (by decide) rfl, by simp, by simp, by simp⟩⟩
 case round =>
  obtain ⟨i, v4, rfl, rfl, hi, hg, hO⟩ := hrel
  obtain ⟨hc0, hc1, hc2⟩ := HB.out.1 wr hg
  have hor := l10Order_ok wr _ P Any hP ⟨_, _, _, rfl, Pres3.ext h36 hg⟩
  rw [HN.out.2.1] at hor
  go_wp2_with fail
  clear hc0 hc1 hc2
  refine Calls.mono hor ?_
  rintro eo wo ⟨vo', rfl, hgo, rfl⟩
  clear hor
  have hgo0 := grown_trans hg hgo
  have hOo := SlO.ext rdInts hO hgo
  clear hO
  by_cases hlt : i < N
  ·have hlt' : (i : Int) < N := by omega
   have hxV := HN.out.2.2 i hlt
   go_wp2
   have hga : Ext wo (wo.alloc (.cells #[] 2)) := World.grownBy_alloc _ _ _
   go_loopw [5, 6] (fun rv jv wr => ∃ (j : Nat) (v7 : Value), v7 = rv ∧ jv = .int .i64 j ∧ j ≤ N ∧ Ext wo wr ∧ Own wo.heap.size wr v7 ((gt (tabL P) i).take j)) (fun _ jv _ => N - (intOf jv).toNat)
   case atStart => exact ⟨0, _, rfl, rfl, by omega, hga, World.ownsRow_lit wo #[] 0 (Nat.le_refl _) (by decide) rfl⟩
   case round =>
    obtain ⟨j, v7, rfl, rfl, hj, hgj, hR⟩ := hrel
    have hg0j := grown_trans hgo0 hgj
    have hTl : (gt (tabL P) i).length = N := by rw [tabL_row (by rw [← HN.out.1]; exact hlt), ← HN.out.1]; simp
    obtain ⟨hc0, hc1, hc2⟩ := HB.out.1 wr hg0j
    have hor := l10Order_ok wr _ P Any hP ⟨_, _, _, rfl, Pres3.ext h36 hg0j⟩
    rw [HN.out.2.1] at hor
    go_wp2_with fail
    clear hc0 hc1 hc2
    refine Calls.mono hor ?_
    rintro ep wp ⟨vp', rfl, hgp, rfl⟩
    clear hor
    have hgjp := grown_trans hgj hgp
    have hg0p := grown_trans hg0j hgp
    have hRp := hR.ext0 hgp
    clear hR
    by_cases hltj : j < N
    ·have hltj' : (j : Int) < N := by omega
     have hyV := HN.out.2.2 j hltj
     have hmV := G.mulV hxV hyV
     obtain ⟨q, hq⟩ : ∃ q, q = num P (rMul P (elAt P i) (elAt P j)) := ⟨_, rfl⟩
     have hstep : (gt (tabL P) i).take (j + 1) = (gt (tabL P) i).take j ++ [q] := by
      rw [take_succ_gt _ j (by omega), tabL_at (by rw [← HN.out.1]; exact hlt) (by rw [← HN.out.1]; exact hltj), hq]
      congr 2
      unfold tb
      have := num_bd hP hmV
      omega
     have hlen : ((gt (tabL P) i).take j).length ≤ 1000000 := by rw [List.length_take]; omega
     have hxl : (elAt P (i : Int)).length ≤ 6 := by rw [hxV.1]; exact hn6
     have hyl : (elAt P (j : Int)).length ≤ 6 := by rw [hyV.1]; exact hn6
     have hml : (rMul P (elAt P i) (elAt P j)).length ≤ 6 := by rw [hmV.1]; exact hn6
     obtain ⟨x, hx⟩ : ∃ x, x = elAt P (i : Int) := ⟨_, rfl⟩
     obtain ⟨y, hy⟩ : ∃ y, y = elAt P (j : Int) := ⟨_, rfl⟩
     obtain ⟨z, hz⟩ : ∃ z, z = rMul P (elAt P i) (elAt P j) := ⟨_, rfl⟩
     rw [← hz] at hmV hq hml
     rw [← hx, ← hy] at hz
     have hxV' := hxV
     rw [← hx] at hxV' hxl
     rw [← hy] at hyV hyl
     have HY := Lib.hid (And.intro (And.intro hxV' (And.intro hyV hmV)) (And.intro (And.intro hxl (And.intro hyl hml)) (And.intro hq (And.intro hstep (And.intro hlen (And.intro hx (And.intro hy hz)))))))
     clear hxV' hyV hmV hxl hyl hml hq hstep hlen hx hy hz hTl
     have e1 : ∀ w', Ext wo w' → w'.cell? ⟨w.heap.size, 0, none⟩ = some vo6 := fun w' h => (HB.out.1 w' (grown_trans hgo0 h)).1
     have e2 : ∀ w', Ext wo w' → w'.cell? ⟨w.heap.size, 1, none⟩ = some vp6 := fun w' h => (HB.out.1 w' (grown_trans hgo0 h)).2.1
     have e3 : ∀ w', Ext wo w' → w'.cell? ⟨w.heap.size, 2, none⟩ = some vc6 := fun w' h => (HB.out.1 w' (grown_trans hgo0 h)).2.2
     have h3p := Pres3.ext h36 hgo0
     go_wp2
     go_region_held3 (fun w' => Ext wo w') (first | exact grown_trans hgjp (grown_drew _ _) | assumption | exact grown_trans hgD (World.grownBy_alloc _ _ _))
      (first
       | (revert hgB; intro hgB; go_at_call 176; refine Calls.mono (Calls.rel2 (w0 := wo) (by assumption) (l08Mul_ok P hP _ _ _ _ x y Any Any Any ⟨_, _, _, rfl, Pres3.ext h3p (by assumption)⟩ (Ints.ext hAi hgB2) hBi HY.out.1.1 HY.out.1.2.1)) ?_; rintro eC wC ⟨vC, rfl, hgC, hgC2, hsC, hOC⟩; rw [← HY.out.2.2.2.2.2.2.2] at hOC; have hCi : Ints Any wC vC z := ints_of_own hOC (by have := HY.out.2.1.2.2; omega) (fun _ _ => trivial); obtain ⟨aC, capC, hvC, _, _⟩ := hCi.shape; subst hvC)
       | (go_at_call 207; refine Calls.mono (Calls.rel2 (w0 := wo) (by assumption) (l10Number_ok P hP _ _ _ z Any Any ⟨_, _, _, rfl, Pres3.ext h3p (by assumption)⟩ hCi HY.out.1.2.2)) ?_; rintro eD wD ⟨vD, rfl, hgD, hgD2, hsD, hvD⟩; rw [← HY.out.2.2.1] at hvD; subst hvD)
       | (revert hgA; intro hgA; go_at_call 130; refine Calls.mono (Calls.rel2 (w0 := wo) (by assumption) (l10At_ok P hP _ _ (j : Int) Any ⟨_, _, _, rfl, Pres3.ext h3p (by assumption)⟩ (by omega) (by omega))) ?_; rintro eB wB ⟨vB, rfl, hgB, hgB2, hsB, hOB⟩; rw [← HY.out.2.2.2.2.2.2.1] at hOB; have hBi : Ints Any wB vB y := ints_of_own hOB (by have := HY.out.2.1.2.1; omega) (fun _ _ => trivial); obtain ⟨aB, capB, hvB, _, _⟩ := hBi.shape; subst hvB)
       | (go_at_call 130; refine Calls.mono (Calls.rel2 (w0 := wo) (by assumption) (l10At_ok P hP _ _ (i : Int) Any ⟨_, _, _, rfl, Pres3.ext h3p (by assumption)⟩ (by omega) (by omega))) ?_; rintro eA wA ⟨vA, rfl, hgA, hgA2, hsA, hOA⟩; rw [← HY.out.2.2.2.2.2.1] at hOA; have hAi : Ints Any wA vA x := ints_of_own hOA (by have := HY.out.2.1.1; omega) (fun _ _ => trivial); obtain ⟨aA, capA, hvA, _, _⟩ := hAi.shape; subst hvA)
       | (refine step_app_int rfl _ _ rfl wo.heap.size _ ((gt (tabL P) i).take j) q rfl wD (hRp.ext0 (grown_trans (grown_trans (grown_trans (grown_trans (grown_drew _ _) hgA2) hgB2) hgC2) hgD2)) rfl rfl HY.out.2.2.2.2.1 hgD.size ?_; intro v5 w5 hO5 hg5; have hgw5 : Ext wo w5 := grown_own hgD hg5 (fun j hj hlt => by have := (hRp.lt j hj).1; omega)))
     clear e1 e2 e3
     rw [← HY.out.2.2.2.1] at hO5
     go_wp2
     go_roundw
     case rel => exact ⟨j + 1, v5, rfl, by go_num, by omega, hgw5, hO5⟩
     case measure => simp [intOf]; omega
    ·have hje : j = N := by omega
     subst hje
     have hR2 : Own wo.heap.size wp v7 (gt (tabL P) i) := by rw [List.take_of_length_le (by omega)] at hRp; exact hRp
     have hrow : Ints (From wo.heap.size) wp v7 (gt (tabL P) i) := ints_of_own hR2 (by omega) (fun k hk => (hR2.lt k hk).1)
     obtain ⟨a7, c7, hv7, _, _⟩ := hrow.shape
     subst hv7
     have hstep : (tabL P).take (i + 1) = (tabL P).take i ++ [gt (tabL P) i] := take_succ_gt _ i (by rw [tabL_len, ← HN.out.1]; exact hlt)
     have hlen : ((tabL P).take i).length ≤ 1000000 := by rw [List.length_take]; omega
     have HZ := Lib.hid (And.intro hstep hlen); clear hstep hlen hTl hRp
     go_wp2_with (first | (at_builtin; refine wp_app_one rdInts 23 22 (.slice none 0 0) 24 und_rows Tryz.infoRow rfl (by decide) rfl _ _ rfl w0.heap.size wo wp v4 _ ((tabL P).take i) (gt (tabL P) i) rfl hOo hgjp hrow rfl rfl HZ.out.2 hgo0.size ?_; intro v5 w5 hO5 hg5 hg5b) | fail)
     have hgw5 : Ext w0 w5 := grown_own hgo0 hg5 (fun b hb hlt => by have := (hOo.lt b hb).1; omega)
     rw [← HZ.out.1] at hO5
     clear hOo hrow hg5 hg5b hR2
     go_roundw
     case rel => exact ⟨i + 1, v5, rfl, by go_num, by omega, hgw5, hO5⟩
     case measure => simp [intOf]; omega
  ·have hie : i = N := by omega
   subst hie
   have hfin : SlO (fun F w u (x : List Int) => Ints F w u x) 22 w.heap.size wo v4 (tabL P) := by
    rw [List.take_of_length_le (by rw [tabL_len, ← HN.out.1]; exact Nat.le_refl _)] at hOo
    exact hOo.weak (by have := HB.out.2; omega)
   have hrows : Rows2 (From w.heap.size) wo v4 (tabL P) := rows_of_slO hfin (by rw [tabL_len, ← HN.out.1]; omega)
   clear hOo hfin
   go_wp2
   go_ret
   exact ⟨_, rfl, grown_trans hg0 hgo0, hrows⟩
end Go.Proofs.YtdklekdpdbjfiaaGreat

/- spec.l19Span: the mask of the subgroup that some elements generate. -/
namespace Go.Proofs.YtdklekdpdbjfiaaGreat
open Go.RowKit
def natI (q : List Nat) : List Int := q.map (fun t : Nat => (t : Int))
theorem natI_len (q : List Nat) : (natI q).length = q.length := by unfold natI; rw [List.length_map]
theorem natI_gt {q : List Nat} {k : Nat} (h : k < q.length) : gt (natI q) k = ((gt q k : Nat) : Int) := by unfold natI; exact gt_map _ _ _ h
theorem natI_app (q : List Nat) (y : Nat) : natI (q ++ [y]) = natI q ++ [(y : Int)] := by unfold natI; rw [List.map_append]; rfl
theorem bit_rem (m t : Nat) : ((m : Int) / 2 ^ t).tmod 2 = if m.testBit t then 1 else 0 := by
 have e : ((m : Int) / 2 ^ t) = ((m / 2 ^ t : Nat) : Int) := by rw [Int.natCast_ediv, Int.natCast_pow]; rfl
 rw [e, Nat.testBit_eq_decide_div_mod_eq, Int.tmod_eq_emod_of_nonneg (Int.natCast_nonneg _)]
 by_cases h : m / 2 ^ t % 2 = 1
 ·simp [h]; omega
 ·have : m / 2 ^ t % 2 = 0 := by omega
  simp [this]; omega
theorem shl_oneI (t : Nat) (ht : t < 32) : IntKind.i64.wrap (2 ^ t) = ((2 ^ t : Nat) : Int) := by
 have h1 : (2 : Nat) ^ t < 2 ^ 32 := Nat.pow_lt_pow_right (by decide) ht
 have e : ((2 : Int) ^ t) = ((2 ^ t : Nat) : Int) := by rw [Int.natCast_pow]; rfl
 rw [e]
 obtain ⟨q, hq⟩ : ∃ q, q = 2 ^ t := ⟨_, rfl⟩
 rw [← hq] at h1 ⊢
 exact IntWalk.i64_in _ ⟨by omega, by omega⟩
set_option maxRecDepth 100000 in
set_option maxHeartbeats 4000000 in
theorem l19Span_ok (P : Pr) (G : Grp P) (w : World) (tv gv : Value) (gs : List Nat) (S Sg : Nat → Prop) (h32 : ordP P ≤ 32) (ht : Rows2 S w tv (tabL P)) (hgv : Ints Sg w gv (natI gs)) (hg : ∀ g ∈ gs, g < (ordP P).toNat) (hgl : gs.length ≤ 100000) :
  Calls Tryz.prog 204 #[tv, gv] w (Ret w fun _ v => v = .int .i64 ((msk P (genN P gs) : Nat) : Int)) := by
 obtain ⟨at', capt, rfl, _, _⟩ := Sl.shape ht
 obtain ⟨ag, capg, rfl, _, _⟩ := hgv.shape
 have hpos := G.v.ordP_pos
 obtain ⟨N, hN⟩ : ∃ N, N = (ordP P).toNat := ⟨_, rfl⟩
 have hN32 : N ≤ 32 := by omega
 have hlen : (tabL P).length = N := by rw [tabL_len, hN]
 have hgnl := natI_len gs
 have hgI : Ints Sg w (.slice ag gs.length capg) (natI gs) := by rw [← hgnl]; exact hgv
 have htN : Rows2 S w (.slice at' N capt) (tabL P) := by rw [← hlen]; exact ht
 rw [hlen, hgnl]
 have hB := Lib.hid (And.intro hN (And.intro hlen (And.intro hg hgnl))); clear hN hlen hg hgnl hgv ht hpos
 go_enter Tryz.func204, Tryz.ntmps204
 go_wp2
 go_loopw [5, 6, 7] (fun mv qv kv wr => ∃ (q : List Nat) (k m : Nat) (v6 : Value), mv = .int .i64 (m : Int) ∧ v6 = qv ∧ kv = .int .i64 k ∧ k ≤ q.length ∧ Ext w wr ∧ Own w.heap.size wr v6 (natI q) ∧ Hid (Spn P gs q k 0) ∧ Hid (Bits m q)) (fun _ _ kv _ => 33 - (intOf kv).toNat)
 case atStart => exact ⟨[0], 0, 1, _, rfl, rfl, rfl, by simp, World.grownBy_alloc _ _ _, World.ownsRow_lit w #[.int .i64 0] 1 (Nat.le_refl _) (by decide) rfl, Lib.hid (G.spn_start gs), Lib.hid (fun t => by
  rw [show (1 : Nat) = 2 ^ 0 by rfl, bit_pow, decide_eq_true_iff]; simp; omega)⟩
 case round =>
  obtain ⟨q, k, m, v6, rfl, rfl, rfl, hk, hgw, hO, hS, hM⟩ := hrel
  have hql := hS.out.len
  rw [← hB.out.1] at hql
  have hnl := natI_len q
  have hqi := hO.ints (by omega)
  obtain ⟨aq, capq, hvq, _, _⟩ := hqi.shape
  rw [hnl] at hvq
  subst hvq
  by_cases hlt : k < q.length
  ·have hlt' : (k : Int) < q.length := by omega
   have hmm := Lib.hid (And.intro hS hM)
   go_wp2
   go_loopw [5, 6, 8] (fun mv qv iv wr => ∃ (q : List Nat) (i m : Nat) (v6 : Value), mv = .int .i64 (m : Int) ∧ v6 = qv ∧ iv = .int .i64 i ∧ i ≤ gs.length ∧ k < q.length ∧ Ext w wr ∧ Own w.heap.size wr v6 (natI q) ∧ Hid (Spn P gs q k i) ∧ Hid (Bits m q)) (fun _ _ iv _ => gs.length - (intOf iv).toNat)
   case atStart => exact ⟨q, 0, m, _, rfl, rfl, rfl, by omega, hlt, hgw, hO, hmm.out.1, hmm.out.2⟩
   case round =>
    clear hO hS hM hmm hlt hlt' hk hgw hql hnl hqi
    obtain ⟨q, i, m, v6, rfl, rfl, rfl, hi, hlt, hgw, hO, hS, hM⟩ := hrel
    have hql := hS.out.len
    rw [← hB.out.1] at hql
    have hnl := natI_len q
    have hqi := hO.ints (by omega)
    obtain ⟨aq, capq, hvq, _, _⟩ := hqi.shape
    rw [hnl] at hvq
    subst hvq
    have hlt' : (k : Int) < q.length := by omega
    by_cases hil : i < gs.length
    ·have hil' : (i : Int) < gs.length := by omega
     obtain ⟨bq, oq, hbq, _, _, hcq⟩ := Ints.at (show Sl IntEl _ wr (.slice aq q.length capq) (natI q) by rw [← hnl] at hqi ⊢; exact hqi) k (by omega)
     subst hbq
     rw [natI_gt hlt] at hcq
     obtain ⟨bg, og, hbg, _, _, hcg⟩ := Ints.at (Ints.ext hgI hgw) i (by rw [natI_len]; exact hil)
     subst hbg
     rw [natI_gt hil] at hcg
     have ha := (hS.out.rng _ (gtMem hlt)).1
     have hb := hB.out.2.2.1 _ (gtMem hil)
     obtain ⟨bt, ot, a2, cap2, hbt, _, _, hct, hrt⟩ := Rows2.at (Rows2.ext htN hgw) (gt q k) (by rw [hB.out.2.1, hB.out.1]; exact ha)
     subst hbt
     have hrl : (gt (tabL P) (gt q k)).length = N := by rw [tabL_row ha, hB.out.1]; simp
     obtain ⟨br, or', hbr, _, _, hcr⟩ := Ints.at hrt (gt gs i) (by rw [hrl, hB.out.1]; exact hb)
     subst hbr
     rw [hrl] at hct
     rw [tabL_at ha hb] at hcr
     have htb := (G.tb_lt ha hb).1
     obtain ⟨a, haa⟩ : ∃ a, a = gt q k := ⟨_, rfl⟩
     obtain ⟨b, hbb⟩ : ∃ b, b = gt gs i := ⟨_, rfl⟩
     rw [← haa] at hcq hct hcr ha htb
     rw [← hbb] at hcg hcr hb htb
     obtain ⟨y, hy⟩ : ∃ y, y = tb P a b := ⟨_, rfl⟩
     rw [← hy] at hcr htb
     have haN : a < N := by rw [hB.out.1]; exact ha
     have hbN : b < N := by rw [hB.out.1]; exact hb
     have hyN : y < N := by rw [hB.out.1]; exact htb
     have haN' : (a : Int) < N := by omega
     have hbN' : (b : Int) < N := by omega
     have HY := Lib.hid (And.intro haa (And.intro hbb hy)); clear haa hbb hy ha hb htb hrl
     go_wp2
     go_quiet (fail)
     rename_i nq _
     clear hcq hcg hct hcr hqi hrt
     have hgq : Ext w (wr.drewN nq) := grown_trans hgw (grown_drewN _ _ _)
     have hOq : Own w.heap.size (wr.drewN nq) (.slice (some ⟨bq, oq, none⟩) q.length capq) (natI q) := hO
     generalize wr.drewN nq = wq at *
     clear hO hgw
     have hm32 : m < 4294967296 := by
      have h1 : m < 2 ^ N := Nat.lt_pow_two_of_testBit _ (fun t ht => by
       rw [Bool.eq_false_iff]
       intro e
       have := (hS.out.rng t ((hM.out t).1 e)).1
       rw [← hB.out.1] at this
       omega)
      exact Nat.lt_of_lt_of_le h1 (Nat.pow_le_pow_right (n := 2) (by decide) hN32)
     have hrem := bit_rem m y
     cases hbit : m.testBit y with
     | true =>
      rw [hbit] at hrem
      have hrem : ((m : Int) / 2 ^ y).tmod 2 = 1 := hrem
      have hS2 := Lib.hid (hS.out.skip (by rw [← HY.out.1, ← HY.out.2.1, ← HY.out.2.2]; exact (hM.out y).1 hbit))
      clear hS hbit
      go_wp2
      clear hrem
      go_roundw
      case rel => exact ⟨q, i + 1, m, _, rfl, rfl, by go_num, by omega, hlt, hgq, hOq, hS2, hM⟩
      case measure => simp [intOf]; omega
     | false =>
      rw [hbit] at hrem
      have hrem : ((m : Int) / 2 ^ y).tmod 2 = 0 := hrem
      have hyq : ¬ y ∈ q := fun h => by rw [(hM.out y).2 h] at hbit; cases hbit
      have hS2 := G.spn_app hS.out hB.out.2.2.1 hlt hil (by rw [← HY.out.1, ← HY.out.2.1, ← HY.out.2.2]; exact hyq)
      rw [← HY.out.1, ← HY.out.2.1, ← HY.out.2.2] at hS2
      have hM2 := hM.out.app hyq
      have hshl := shl_oneI y (by omega)
      have hp32 : (2 : Nat) ^ y < 2 ^ 32 := Nat.pow_lt_pow_right (by decide) (by omega)
      obtain ⟨p, hp⟩ : ∃ p, p = 2 ^ y := ⟨_, rfl⟩
      rw [← hp] at hshl hM2 hp32
      have hadd : IntKind.i64.wrap ((m : Int) + (p : Int)) = ((m + p : Nat) : Int) := by
       rw [IntWalk.i64_in _ ⟨by omega, by omega⟩]; omega
      have hal : (natI q).length ≤ 1000000 := by omega
      have happ := natI_app q y
      have HS2 := Lib.hid (And.intro hS2 (And.intro hM2 (And.intro hal happ)))
      clear hS hbit hyq hS2 hM2 hp hp32 hM hal happ
      go_wp2_with (first | (at_builtin; refine wp_app_int rfl _ _ rfl w.heap.size _ (natI q) (y : Int) rfl wq hOq rfl rfl HS2.out.2.2.1 hgq.size ?_; intro v5 w5 hO5 hg5; have hgw5 := grown_own hgq hg5 (fun j hj hlt => by have := (hOq.lt j hj).1; omega)) | fail)
      clear hrem hshl hadd
      go_roundw
      case rel => exact ⟨q ++ [y], i + 1, m + p, _, rfl, rfl, by go_num, by omega, by simp; omega, hgw5, by rw [HS2.out.2.2.2]; exact hO5, Lib.hid HS2.out.1, Lib.hid HS2.out.2.1⟩
      case measure => simp [intOf]; omega
    ·have hie : i = gs.length := by omega
     subst hie
     have hS2 := Lib.hid hS.out.next
     clear hS
     go_wp2
     go_roundw
     case rel => exact ⟨q, k + 1, m, _, rfl, rfl, by go_num, by omega, hgw, hO, hS2, hM⟩
     case measure => simp [intOf]; omega
  ·have hke : k = q.length := by omega
   have hend := G.spn_end hB.out.2.2.1 (by rw [← hke]; exact hS.out) hM.out
   have hnk : ¬ (k : Int) < q.length := by omega
   have HE := Lib.hid hend; clear hend hS hM hke hlt
   go_wp2
   go_ret
   exact ⟨_, rfl, hgw, congrArg (fun z : Nat => Value.int .i64 (z : Int)) HE.out⟩
end Go.Proofs.YtdklekdpdbjfiaaGreat

/- spec.l19Sequence: the sequence of the subgroup that a mask tells. -/
namespace Go.Proofs.YtdklekdpdbjfiaaGreat
open Go.RowKit
def dmk (n : Nat) (L : List (List Int)) : List Bool := (List.range n).map (fun d => L.any (fun y => dep y == d))
theorem dmk_len (n : Nat) (L : List (List Int)) : (dmk n L).length = n := by unfold dmk; simp
theorem dmk_nil (n : Nat) : dmk n [] = List.replicate n false := by
 refine List.ext_getElem (by simp [dmk]) (fun i h1 h2 => ?_)
 simp [dmk]
theorem dmk_app (n : Nat) (L : List (List Int)) (x : List Int) : (dmk n L).set (dep x) true = dmk n (L ++ [x]) := by
 refine List.ext_getElem (by simp [dmk]) (fun i h1 h2 => ?_)
 rw [List.getElem_set]
 unfold dmk
 simp only [List.getElem_map, List.getElem_range, List.any_append, List.any_cons, List.any_nil, Bool.or_false]
 by_cases he : dep x = i
 ·simp [he]
 ·have : (dep x == i) = false := by simpa using he
  rw [if_neg he, this, Bool.or_false]
theorem dmk_at {n d : Nat} {L : List (List Int)} (hd : d < n) : gt (dmk n L) d = true ↔ ∃ y ∈ L, dep y = d := by
 rw [gt_eq _ _ (by rw [dmk_len]; exact hd)]
 simp [dmk]
theorem ShQ.rowsB {bad : Nat → Prop} {B : Nat} {w : World} {v : Value} {xs : List (List Int)} (h : ShQ bad B w v xs) (hb : ∀ k, bad k → k < B) : Rows2 (fun k => ¬ bad k) w v xs := by
 obtain ⟨vs, hl, hq, hr⟩ := h
 rcases hq with ⟨rfl, rfl⟩ | ⟨g, off, cap, cur, rfl, hB, hg, hnc, hcm, hsz, hc⟩
 ·have : xs = [] := List.eq_nil_of_length_eq_zero (by simpa using hl.symm)
  subst this
  exact ⟨none, 0, rfl, ⟨by simp, by simp, fun _ => rfl⟩, fun i hi => by simp at hi⟩
 ·have hgs : g < w.heap.size := (Array.getElem?_eq_some_iff.1 hg).1
  have hcm2 : cap ≤ 9223372036854775807 := by unfold maxLen at hcm; omega
  refine ⟨_, cap, by rw [hl], ⟨by omega, by omega, fun h => by cases h⟩, fun i hi => ⟨g, off, gt vs i, rfl, fun h => by have := hb g h; omega, hgs, ?_, Ints.sub (hr i hi) (fun k hk _ => hk.1)⟩⟩
  simp only [World.cell?, hg, Option.isSome_none, Bool.false_eq_true, if_false]
  exact hc i (by omega)
def FitE (L : List (List Int)) (d : Nat) (x : List Int) (e : Nat) : Prop := dep x = d ∧ gt x d = 1 ∧ ∀ e', d < e' → e' < e → (∃ y ∈ L, dep y = e') → gt x e' = 0
theorem fitE_end (P : Pr) (L : List (List Int)) (d : Nat) (x : List Int) : FitE L d x P.orders.length ↔ Fits P L d x := Iff.rfl
theorem fitE_step {L : List (List Int)} {d : Nat} {x : List Int} {e : Nat} (hde : d < e) : FitE L d x (e + 1) ↔ FitE L d x e ∧ ((∃ y ∈ L, dep y = e) → gt x e = 0) :=
 ⟨fun ⟨h1, h2, h3⟩ => ⟨⟨h1, h2, fun e' a b => h3 e' a (by omega)⟩, h3 e hde (by omega)⟩, fun ⟨⟨h1, h2, h3⟩, h4⟩ => ⟨h1, h2, fun e' a b => by
  rcases Nat.lt_succ_iff_lt_or_eq.1 b with h | h
  ·exact h3 e' a h
  ·subst h; exact h4⟩⟩
open Classical in
noncomputable def fitT (P : Pr) (L : List (List Int)) (d k : Nat) : List (List Int) := (L.take k).filter (fun x => decide (Fits P L d x))
theorem fitT_yes {P : Pr} {L : List (List Int)} {d k : Nat} (hk : k < L.length) (h : Fits P L d (gt L k)) : fitT P L d (k + 1) = fitT P L d k ++ [gt L k] := by
 unfold fitT; rw [take_succ_gt L k hk, List.filter_append]; simp [h]
theorem fitT_no {P : Pr} {L : List (List Int)} {d k : Nat} (hk : k < L.length) (h : ¬ Fits P L d (gt L k)) : fitT P L d (k + 1) = fitT P L d k := by
 unfold fitT; rw [take_succ_gt L k hk, List.filter_append]; simp [h]
theorem fitT_all (P : Pr) (L : List (List Int)) (d : Nat) : seqTo P L d ++ fitT P L d L.length = seqTo P L (d + 1) := by
 unfold fitT; rw [List.take_length]; rfl
open Classical in
theorem fitT_len (P : Pr) (L : List (List Int)) (d k : Nat) : (fitT P L d k).length ≤ k := by
 unfold fitT
 have := List.length_filter_le (fun x => decide (Fits P L d x)) (L.take k)
 rw [List.length_take] at this
 omega
theorem seqTo_len (P : Pr) (L : List (List Int)) (d : Nat) : (seqTo P L d).length ≤ d * L.length := by
 induction d with
 | zero => simp [seqTo]
 | succ d ih =>
  have := fitT_len P L d L.length
  rw [← fitT_all, List.length_append, Nat.succ_mul]; omega
set_option maxRecDepth 100000 in
set_option maxHeartbeats 8000000 in
theorem l19Sequence_ok (P : Pr) (G : Grp P) (w : World) (pv : Value) (H : List Int → Prop) (Sp : Nat → Prop) (S : Sub P H) (h32 : ordP P ≤ 32) (hpv : PresV Sp w pv P) :
  Calls Tryz.prog 205 #[pv, .int .i64 ((msk P H : Nat) : Int)] w (Ret w fun w' v => Rows2 (From w.heap.size) w' v (cseq P H)) := by
 have hP := G.v
 have hn6 := hP.n6
 have hpos := hP.ordP_pos
 obtain ⟨n, hn⟩ : ∃ n, n = P.orders.length := ⟨_, rfl⟩
 rw [← hn] at hn6
 have HN2 := Lib.hid hn
 obtain ⟨vo, vp, vc, rfl, h3⟩ := hpv
 obtain ⟨ao, capo, hvo, _, _⟩ := h3.o.shape
 rw [← hn] at hvo
 subst hvo
 clear hn
 have hp0 := PresP.box h3 31
 have hg0 : Ext w (w.alloc (.cells #[.slice ao n capo, vp, vc] 31)) := World.grownBy_alloc _ _ _
 obtain ⟨vo6, vp6, vc6, _, _, hc0, hc1, hc2, h36⟩ := hp0.at
 simp only [Nat.zero_add] at hc1 hc2
 have hbx : ∀ w', Ext (w.alloc (.cells #[.slice ao n capo, vp, vc] 31)) w' → w'.cell? ⟨w.heap.size, 0, none⟩ = some vo6 ∧ w'.cell? ⟨w.heap.size, 1, none⟩ = some vp6 ∧ w'.cell? ⟨w.heap.size, 2, none⟩ = some vc6 := fun w' h => ⟨h.cell hc0 (by simp), h.cell hc1 (by simp), h.cell hc2 (by simp)⟩
 have hs0 : (w.alloc (.cells #[.slice ao n capo, vp, vc] 31)).heap.size = w.heap.size + 1 := by simp
 have HB := Lib.hid (And.intro hbx hs0); clear hbx hs0 hp0
 obtain ⟨N, hN⟩ : ∃ N, N = (ordP P).toNat := ⟨_, rfl⟩
 have hNo : ordP P = (N : Int) := by omega
 have hN32 : N ≤ 32 := by omega
 have hNpos : 1 ≤ N := by omega
 have hfin := G.seqTo_eq S
 obtain ⟨m, hm⟩ : ∃ m, m = msk P H := ⟨_, rfl⟩
 rw [← hm, ← hN] at hfin
 rw [← hm]
 have HN := Lib.hid (And.intro hN (And.intro hNo (And.intro hm hfin))); clear hN hNo hm hfin hpos h32
 go_enter Tryz.func205, Tryz.ntmps205
 have hs1 : ((w.alloc (.cells #[.slice ao n capo, vp, vc] 31)).alloc (.cells #[] 22)).heap.size = w.heap.size + 1 + 1 := by simp
 have hg1 : Ext (w.alloc (.cells #[.slice ao n capo, vp, vc] 31)) ((w.alloc (.cells #[.slice ao n capo, vp, vc] 31)).alloc (.cells #[] 22)) := World.grownBy_alloc _ _ _
 have hL1 : SlOA OwnIn 22 (w.heap.size + 1) (fun k => k = w.heap.size + 1 + 1) ((w.alloc (.cells #[.slice ao n capo, vp, vc] 31)).alloc (.cells #[] 22)) (.slice (some ⟨w.heap.size + 1, 0, none⟩) 0 0) [] := by
  refine ⟨[], fun _ _ => False, rfl, ?_, by simp, by simp, by simp, by simp, fun k hk => by have := own_blk hk; omega⟩
  have : OwnV (w.alloc (.cells #[.slice ao n capo, vp, vc] 31)).heap.size 22 ((w.alloc (.cells #[.slice ao n capo, vp, vc] 31)).alloc (.cells #[] 22)) (.slice (some ⟨(w.alloc (.cells #[.slice ao n capo, vp, vc] 31)).heap.size, 0, none⟩) 0 0) [] := World.ownsRow_lit (w.alloc (.cells #[.slice ao n capo, vp, vc] 31)) #[] 0 (Nat.le_refl _) (by decide) rfl
  rw [HB.out.2] at this; exact this
 have HL1 := Lib.hid (And.intro hs1 (And.intro hg1 hL1)); clear hs1 hg1 hL1
 go_wp2_with (first | (at_make; refine wp_make_bools rfl _ _ rfl (w.heap.size + 1 + 1) n (w.heap.size + 1 + 1) HL1.out.1 (n : Int) rfl rfl rfl (by omega) (Nat.le_refl _) ?_; intro w3 hM3 hg3 hlt3) | fail)
 clear hc0 hc1 hc2
 generalize hw0 : w.alloc (.cells #[.slice ao n capo, vp, vc] 31) = w0 at *
 clear hw0
 have hg03 := grown_trans HL1.out.2.1 hg3
 have hL3 := HL1.out.2.2.ext rdOwn hg3
 have hlo : w0.heap.size = w.heap.size + 1 := HB.out.2
 obtain ⟨db, hdb⟩ : ∃ db, db = w.heap.size + 1 + 1 := ⟨_, rfl⟩
 rw [← hdb] at hM3 hL3 hlt3
 rw [← hdb]
 have hdb1 : w.heap.size + 1 < db := by omega
 clear hdb
 have HDB := Lib.hid (And.intro hL3 hM3); clear hL3 hM3
 go_loopw [5, 7] (fun ov tv wr => ∃ (t : Nat) (v5 : Value), v5 = ov ∧ tv = .int .i64 t ∧ 1 ≤ t ∧ t ≤ N ∧ Ext w0 wr ∧ db < wr.heap.size ∧ SlOA OwnIn 22 (w.heap.size + 1) (fun k => k = db) wr v5 (memL P m t) ∧ BOwn db wr (.slice (some ⟨db, 0, none⟩) n n) (dmk n (memL P m t))) (fun _ tv _ => N - (intOf tv).toNat)
 case atStart => exact ⟨1, _, rfl, rfl, by omega, hNpos, hg03, hlt3, HDB.out.1, by rw [show memL P m 1 = [] from rfl, dmk_nil]; exact HDB.out.2⟩
 case round =>
  clear HDB
  obtain ⟨t, v5, rfl, rfl, ht1, ht, hg, hdl, hL, hD⟩ := hrel
  obtain ⟨hc0, hc1, hc2⟩ := HB.out.1 wr hg
  have hor := l10Order_ok wr _ P Any hP ⟨_, _, _, rfl, Pres3.ext h36 hg⟩
  rw [HN.out.2.1] at hor
  have hml := memL_len P m t
  go_wp2_with fail
  clear hc0 hc1 hc2
  refine Calls.mono hor ?_
  rintro eo wo ⟨vo', rfl, hgo, rfl⟩
  clear hor
  have hgo0 := grown_trans hg hgo
  have hLo := hL.ext rdOwn hgo
  have hDo := hD.ext0 hgo
  have hdo : db < wo.heap.size := Nat.lt_of_lt_of_le hdl hgo.size
  clear hL hD hdl
  by_cases hlt : t < N
  ·have hlt' : (t : Int) < N := by omega
   have hrem := bit_rem m t
   cases hb : m.testBit t with
   | false =>
    rw [hb] at hrem
    have hrem : ((m : Int) / 2 ^ t).tmod 2 = 0 := hrem
    have hst : memL P m (t + 1) = memL P m t := by rw [memL, if_neg (by rw [hb]; simp)]
    have HS := Lib.hid hst; clear hst hb
    go_wp2
    clear hrem
    go_roundw
    case rel => exact ⟨t + 1, v5, rfl, by go_num, by omega, by omega, hgo0, hdo, by rw [HS.out]; exact hLo, by rw [HS.out]; exact hDo⟩
    case measure => simp [intOf]; omega
   | true =>
    rw [hb] at hrem
    have hrem : ((m : Int) / 2 ^ t).tmod 2 = 1 := hrem
    have hst : memL P m (t + 1) = memL P m t ++ [elAt P (t : Int)] := by rw [memL, if_pos ⟨by omega, hb⟩]
    have htN : t < (ordP P).toNat := by have := HN.out.1; omega
    have hxV : Vec P.orders (elAt P (t : Int)) := G.elAtV htN
    have hxn : dep (elAt P (t : Int)) < n := by
     have h1 := dep_le (elAt P (t : Int))
     rw [hxV.1] at h1
     rcases Nat.lt_or_ge (dep (elAt P (t : Int))) P.orders.length with h2 | h2
     ·rw [HN2.out]; exact h2
     ·have h4 := (dep_top hP hxV).1 (by omega)
      have h5 := G.num_el htN
      rw [h4, num_zeros hP] at h5
      omega
    have hdset := dmk_app n (memL P m t) (elAt P (t : Int))
    obtain ⟨x, hx⟩ : ∃ x, x = elAt P (t : Int) := ⟨_, rfl⟩
    have hxl : x.length ≤ 6 := by rw [hx, hxV.1, ← HN2.out]; exact hn6
    rw [← hx] at hst hxV hxn hdset
    obtain ⟨d, hd⟩ : ∃ d, d = dep x := ⟨_, rfl⟩
    rw [← hd] at hxn hdset
    rw [← hst] at hdset
    have HS := Lib.hid (And.intro hst (And.intro hxV (And.intro hdset (And.intro hx (And.intro hd hxl))))); clear hst hb hdset hxV hx hd hxl
    obtain ⟨hc0, hc1, hc2⟩ := HB.out.1 wo hgo0
    go_wp2_with fail
    clear hrem hc0 hc1 hc2
    refine Calls.mono (l10At_ok P hP wo _ (t : Int) Any ⟨_, _, _, rfl, Pres3.ext h36 hgo0⟩ (by omega) (by omega)) ?_
    rintro eX wX ⟨xv, rfl, hgX, hOX⟩
    rw [← HS.out.2.2.2.1] at hOX
    have hXI : OwnIn (From wo.heap.size) wX xv x := OwnIn.of hOX (by have := HS.out.2.2.2.2.2; omega) (fun k h1 _ => h1)
    obtain ⟨xa, xc, hxv, _, _⟩ := hXI.ints.shape
    subst hxv
    have hml2 : (memL P m t).length ≤ 1000000 := by omega
    go_wp2_with (first | (at_builtin; refine wp_app_rowA rfl _ _ rfl (w.heap.size + 1) (fun k => k = db) wo wX v5 _ (memL P m t) x rfl hLo (fun k hk => by omega) none hgX (fun k hk => by cases hk) hXI rfl rfl hml2 (by have := hgo0.size; omega) ?_; intro v8 w8 hL8 hg8) | fail)
    have hav := hLo.avoids
    have hg08 : Ext w0 w8 := grown_own (grown_trans hgo0 hgX) hg8 (fun b hb hlt => by have := (hav b hb).2.1; omega)
    have hD8 : BOwn db w8 (.slice (some ⟨db, 0, none⟩) n n) (dmk n (memL P m t)) := by
     have h1 := hDo.ext0 hgX
     cases hv : v5.ownBlock with
     | none => rw [hv] at hg8; exact h1.ext0 hg8
     | some r => rw [hv] at hg8; exact h1.keep hg8 (fun e => (hav r hv).1 e.symm)
    have hX8 : Ints Any w8 (.slice xa x.length xc) x := Ints.mono hXI.ints (frame_of hg8 (fun k hk _ => ⟨trivial, fun e => by
     have h1 : wo.heap.size ≤ k := hk
     have := (hav k e).2.2; omega⟩))
    have hd8 : db < w8.heap.size := Nat.lt_of_lt_of_le hdo (Nat.le_trans hgX.size hg8.size)
    clear hLo hDo hg8 hgX hXI hOX
    refine Calls.mono (l12Depth_ok _ x w8 Any hX8) ?_
    rintro eD wD ⟨dv, rfl, hgD, hdv⟩
    rw [← HS.out.2.2.2.2.1] at hdv
    subst hdv
    have hDD := hD8.ext0 hgD
    have hLD := hL8.ext rdOwn hgD
    have hcel := hDD.cell d (by rw [dmk_len]; exact hxn)
    have hfr := hDD.frozen d
    have hxn' : (d : Int) < n := by omega
    obtain ⟨hD9, hgs⟩ := hDD.store d true
    have hL9 := hLD.kept rdOwn hgs rfl
    have hg09 := grown_own (grown_trans hg08 hgD) hgs (fun b hb hlt => by cases hb; omega)
    rw [HS.out.2.2.1] at hD9
    rw [← HS.out.1] at hL9
    have hd9 : db < (wD.setCell ⟨db, d, none⟩ (.bool true)).heap.size := by have := hgs.size; have := hgD.size; omega
    have HF := Lib.hid (And.intro hD9 (And.intro hL9 (And.intro hg09 hd9))); clear hD9 hL9 hg09 hd9 hgs hLD hDD hL8 hD8 hX8
    go_wp2
    clear hcel hfr
    go_roundw
    case rel => exact ⟨t + 1, v8, rfl, by go_num, by omega, by omega, HF.out.2.2.1, HF.out.2.2.2, HF.out.2.1, HF.out.1⟩
    case measure => simp [intOf]; omega
  ·have hte : t = N := by omega
   rw [hte] at hLo hDo
   have hml3 := memL_len P m N
   obtain ⟨L, hLd⟩ : ∃ L, L = memL P m N := ⟨_, rfl⟩
   rw [← hLd] at hLo hDo hml3
   have hLV : ∀ x ∈ L, x.length = n := fun x hx => by
    rw [hLd] at hx
    obtain ⟨t', h1, _, _, rfl⟩ := memL_mem.1 hx
    rw [(G.elAtV (by have := HN.out.1; omega)).1, HN2.out]
   have hfin := HN.out.2.2.2
   rw [← hLd, ← HN2.out] at hfin
   have hsl : ∀ d k, d ≤ n → k ≤ L.length → (seqTo P L d ++ fitT P L d k).length ≤ 1000000 := fun d k hd hk => by
    have h1 := seqTo_len P L d
    have h2 := fitT_len P L d k
    have h3 : d * L.length ≤ 6 * 32 := Nat.mul_le_mul (by omega) (by omega)
    rw [List.length_append]; omega
   have hR0 := RowsD.rows (hLo.o.toD (by omega))
   obtain ⟨al, capl, hvl, _, _⟩ := Sl.shape hR0
   subst hvl
   have HL := Lib.hid (And.intro hLV (And.intro hfin hsl)); clear hLV hfin hsl hLd hml hLo
   have hnt : ¬ (t : Int) < N := by omega
   have hR0 : Rows2 (From (w.heap.size + 1)) wo (.slice al L.length capl) L := hR0
   go_wp2
   clear hnt hte hlt ht ht1 hg hgo
   obtain ⟨wL, rfl⟩ : ∃ wL : World, wL = wo := ⟨_, rfl⟩
   go_loopw [9, 10] (fun ov dv wr => ∃ (d : Nat) (v9 : Value), v9 = ov ∧ dv = .int .i64 d ∧ d ≤ n ∧ Ext wL wr ∧ ShQ (fun k => k < w.heap.size) wL.heap.size wr v9 (seqTo P L d)) (fun _ dv _ => n - (intOf dv).toNat)
   case atStart => exact ⟨0, _, rfl, rfl, by omega, World.grownBy_alloc _ _ _, ShQ.lit _ _ _ (Nat.le_refl _)⟩
   case round =>
    obtain ⟨d, v9, rfl, rfl, hd, hg, hQ⟩ := hrel
    by_cases hltd : d < n
    ·have hltd' : (d : Int) < n := by omega
     go_wp2
     go_loopw [9, 11] (fun ov kv wr => ∃ (k : Nat) (v9 : Value), v9 = ov ∧ kv = .int .i64 k ∧ k ≤ L.length ∧ Ext wL wr ∧ ShQ (fun k => k < w.heap.size) wL.heap.size wr v9 (seqTo P L d ++ fitT P L d k)) (fun _ kv _ => L.length - (intOf kv).toNat)
     case atStart => exact ⟨0, v9, rfl, rfl, by omega, hg, by rw [show fitT P L d 0 = [] by simp [fitT], List.append_nil]; exact hQ⟩
     case round =>
      clear hg hQ
      obtain ⟨k, v9, rfl, rfl, hk, hg, hQ⟩ := hrel
      by_cases hlt : k < L.length
      ·have hlt' : (k : Int) < L.length := by omega
       obtain ⟨bb, off, a2, cap2, hal, _, _, hc, hr⟩ := Rows2.at hR0 k hlt
       subst hal
       have hcr := hg.cell hc (by simp)
       have hxl := HL.out.1 _ (gtMem hlt)
       have hyes := fitT_yes (P := P) (d := d) hlt
       have hno := fitT_no (P := P) (d := d) hlt
       have hsl := HL.out.2.2 d k hd hk
       obtain ⟨x, hx⟩ : ∃ x, x = gt L k := ⟨_, rfl⟩
       rw [← hx] at hc hcr hr hxl hyes hno
       rw [hxl] at hc hcr
       have hrn : Ints (From (w.heap.size + 1)) wL (.slice a2 n cap2) x := by rw [← hxl]; exact hr
       have HX := Lib.hid (And.intro hxl (And.intro hyes (And.intro hno (And.intro hsl hx)))); clear hyes hno hsl hr hx hc
       go_wp2_with fail
       clear hcr
       refine Calls.mono (l12Depth_ok _ x wr _ (Ints.ext hrn hg)) ?_
       rintro eD wD ⟨dv, rfl, hgD, rfl⟩
       have hgLD := grown_trans hg hgD
       have hrD := Ints.ext hrn hgLD
       have hQD := hQ.ext hgD
       obtain ⟨bd, od, hbd, _, _, hcd⟩ := Ints.at hrD d (by omega)
       subst hbd
       have hDD := hDo.ext0 hgLD
       have hcs : (dep x = d ∧ gt x d = 1) ∨ (dep x = d ∧ ¬ gt x d = 1) ∨ ¬ dep x = d := by omega
       clear hQ hg
       rcases hcs with ⟨h1, h2⟩ | ⟨h1, h2⟩ | h1
       have HF0 : Hid ((true = true) ↔ FitE L d x (d + 1)) := Lib.hid ⟨fun _ => ⟨h1, h2, fun e' a b => by omega⟩, fun _ => rfl⟩
       have h1' : ((dep x : Nat) : Int) = (d : Int) := by omega
       clear h1
       go_wp2
       rotate_left
       have HF0 : Hid ((false = true) ↔ FitE L d x (d + 1)) := Lib.hid ⟨fun h => (by cases h), fun h => absurd h.2.1 h2⟩
       have h2 : (gt x d == 1) = false := by simpa using h2
       have h1' : ((dep x : Nat) : Int) = (d : Int) := by omega
       clear h1
       go_wp2
       rotate_left
       have HF0 : Hid ((false = true) ↔ FitE L d x (d + 1)) := Lib.hid ⟨fun h => (by cases h), fun h => absurd h.1 h1⟩
       have h1' : ¬ ((dep x : Nat) : Int) = (d : Int) := by omega
       have h2 : True := trivial
       clear h1
       go_wp2
       rotate_left
       all_goals
        clear hcd
        go_loopw [13, 14] (fun fv ev wr => ∃ (f : Bool) (e : Nat), fv = .bool f ∧ ev = .int .i64 e ∧ d + 1 ≤ e ∧ e ≤ n ∧ wr = wD ∧ Hid (f = true ↔ FitE L d x e)) (fun _ ev _ => n - (intOf ev).toNat)
        case atStart => exact ⟨_, d + 1, rfl, rfl, by omega, by omega, rfl, by first | exact HF0 | exact Lib.hid (by have h3 := HF0.out; simpa using h3) | exact Lib.hid (by have h3 := HF0.out; rw [h2]; exact h3)⟩
        case round =>
         clear HF0 h1' h2
         obtain ⟨f, e, rfl, rfl, he1, he2, hw, hF⟩ := hrel
         subst hw
         by_cases hlte : e < n
         ·have hlte' : (e : Int) < n := by omega
          have hce := hDD.cell e (by rw [dmk_len]; exact hlte)
          obtain ⟨bx, ox, hbx, _, _, hcx⟩ := Ints.at hrD e (by omega)
          cases hbx
          have hdk := dmk_at (L := L) hlte
          have hfs := fitE_step (L := L) (x := x) (show d < e by omega)
          cases f with
          | false =>
           have HF1 : Hid ((false = true) ↔ FitE L d x (e + 1)) := Lib.hid ⟨fun h => (by cases h), fun h => hF.out.2 (hfs.1 h).1⟩
           clear hdk hfs hF hce hcx
           go_wp2
           go_roundw
           case rel => exact ⟨false, e + 1, rfl, by go_num, by omega, by omega, by first | rfl | trivial, HF1⟩
           case measure => simp [intOf]; omega
          | true =>
           cases hb : gt (dmk n L) e with
           | false =>
            rw [hb] at hce
            have HF1 : Hid ((true = true) ↔ FitE L d x (e + 1)) := Lib.hid ⟨fun _ => hfs.2 ⟨hF.out.1 rfl, fun h => by rw [hdk.2 h] at hb; cases hb⟩, fun _ => rfl⟩
            clear hdk hfs hF hb hcx
            go_wp2
            clear hce
            go_roundw
            case rel => exact ⟨true, e + 1, rfl, by go_num, by omega, by omega, by first | rfl | trivial, HF1⟩
            case measure => simp [intOf]; omega
           | true =>
            rw [hb] at hce
            have hex := hdk.1 hb
            obtain ⟨q2, hq2⟩ : ∃ q2, q2 = gt x e := ⟨_, rfl⟩
            rw [← hq2] at hcx hfs
            by_cases hz : q2 = 0
            ·have HF1 : Hid ((true = true) ↔ FitE L d x (e + 1)) := Lib.hid ⟨fun _ => hfs.2 ⟨hF.out.1 rfl, fun _ => hz⟩, fun _ => rfl⟩
             clear hdk hfs hF hb hq2 hex
             subst hz
             go_wp2
             clear hce hcx
             go_roundw
             case rel => exact ⟨true, e + 1, rfl, by go_num, by omega, by omega, by first | rfl | trivial, HF1⟩
             case measure => simp [intOf]; omega
            ·have HF1 : Hid ((false = true) ↔ FitE L d x (e + 1)) := Lib.hid ⟨fun h => (by cases h), fun h => absurd ((hfs.1 h).2 hex) hz⟩
             clear hdk hfs hF hb hq2 hex
             have hz' : (q2 == 0) = false := by simpa using hz
             go_wp2
             clear hce hcx
             go_roundw
             case rel => exact ⟨false, e + 1, rfl, by go_num, by omega, by omega, by first | rfl | trivial, HF1⟩
             case measure => simp [intOf]; omega
         ·have hen : e = n := by omega
          have hfit := hF.out
          rw [hen, HN2.out, fitE_end] at hfit
          have hnl : ¬ (e : Int) < n := by omega
          cases f with
          | true =>
           have hst := HX.out.2.1 (hfit.1 rfl)
           have HST := Lib.hid hst; clear hst hfit hF hen
           have hrA : Ints (fun k => ¬ k < w.heap.size ∧ v9.ownBlock ≠ some k) wr (.slice (some ⟨bd, od, none⟩) n cap2) x := Ints.mono hrn (fun k hk hlt => ⟨⟨by have : w.heap.size + 1 ≤ k := hk; omega, fun e => by have := (hQD.lt k e).1; omega⟩, Nat.lt_of_lt_of_le hlt hgLD.size, hgLD.block k hlt (by simp)⟩)
           go_wp2_with (first | (at_builtin; refine wp_shq_app rfl _ _ rfl (fun k => k < w.heap.size) wL.heap.size v9 _ (seqTo P L d ++ fitT P L d k) x rfl wr hQD rfl hrA rfl HX.out.2.2.2.1 hgLD.size ?_; intro v5 w5 hQ5 hg5 hb5; have hgw5 := grown_own hgLD hg5 (fun j hj hlt => by have := (hQD.lt j hj).1; omega)) | fail)
           go_roundw
           case rel => exact ⟨k + 1, v5, rfl, by go_num, by omega, hgw5, by rw [HST.out, ← List.append_assoc]; exact hQ5⟩
           case measure => simp [intOf]; omega
          | false =>
           have hst := HX.out.2.2.1 (fun h => (by have := hfit.2 h; cases this))
           have HST := Lib.hid hst; clear hst hfit hF hen
           go_wp2
           go_roundw
           case rel => exact ⟨k + 1, v9, rfl, by go_num, by omega, hgLD, by rw [HST.out]; exact hQD⟩
           case measure => simp [intOf]; omega
      ·have hke : k = L.length := by omega
       rw [hke, fitT_all] at hQ
       have hnl : ¬ (k : Int) < L.length := by omega
       clear hke
       go_wp2
       go_roundw
       case rel => exact ⟨d + 1, v9, rfl, by go_num, by omega, hg, hQ⟩
       case measure => simp [intOf]; omega
    ·have hde : d = n := by omega
     rw [hde, HL.out.2.1] at hQ
     have hrows := hQ.rowsB (fun k hk => by have := hgo0.size; omega)
     have hrows2 : Rows2 (From w.heap.size) wr v9 (cseq P H) := Rows2.sub hrows (fun k hk _ => by
      have h : ¬ k < w.heap.size := hk
      show w.heap.size ≤ k; omega)
     obtain ⟨az, capz, hvz, _, _⟩ := Sl.shape hrows2
     subst hvz
     have hnl : ¬ (d : Int) < n := by omega
     have HR := Lib.hid hrows2; clear hrows hrows2 hde hQ
     go_wp2
     go_ret
     exact ⟨_, rfl, grown_trans hg0 (grown_trans hgo0 hg), HR.out⟩
end Go.Proofs.YtdklekdpdbjfiaaGreat

/- What a run does to the count of draws: it never falls. -/
namespace Go.Proofs.YtdklekdpdbjfiaaGreat
theorem freeze_drawn (w : World) (a : Addr) (n : Nat) : (w.freeze a n).drawn = w.drawn := by
 unfold World.freeze; split <;> rfl
theorem ask_drawn {α : Type} (q : Ask α) : ∀ w : World, w.drawn ≤ (w.ask q).2.drawn := by
 induction q with
 | done a => intro w; exact Nat.le_refl _
 | ask what range k ih =>
  intro w
  unfold World.ask
  dsimp only
  split
  ·exact ih _ _
  ·exact Nat.le_trans (Nat.le_succ _) (ih _ { w with drawn := w.drawn + 1 })
theorem sys_drawn (w : World) (c : Sys) : w.drawn ≤ (w.sys c).2.drawn := by
 unfold World.sys
 have h := ask_drawn (Kernel.perform c w.os) w
 revert h
 generalize w.ask (Kernel.perform c w.os) = r
 intro h
 split
 ·exact Nat.le_refl _
 ·exact h
theorem viewStore_drawn (p : Program) (w : World) (at_ : Addr) (u : TypeId) (k : Addr) (v : Value) (atomic : Bool) (r : World × List Addr) (h : w.viewStore p at_ u k v atomic = .ok r) : r.1.drawn = w.drawn := by
 unfold World.viewStore at h
 simp only [bind, Except.bind, pure, Except.pure] at h
 repeat' split at h
 all_goals first | (cases h; done) | (cases h; rfl)
theorem farStore_drawn (p : Program) (w : World) (a : Addr) (v : Value) (atomic : Bool) (r : World × List Addr) (h : w.farStore p a v atomic = .ok r) : r.1.drawn = w.drawn := by
 unfold World.farStore at h
 split at h
 ·split at h
  ·rename_i hv
   cases h
   exact viewStore_drawn _ _ _ _ _ _ _ _ hv
  ·cases h
 ·cases h
theorem run_drawn {α : Type} (p : Program) (s : Sem α) : ∀ (w w' : World) (a : α), s.run p w = .ok a w' → w.drawn ≤ w'.drawn := by
 induction s with
 | pure a => intro w w' b h; cases h; exact Nat.le_refl _
 | load m a k ih =>
  intro w w' b h
  unfold Sem.run at h
  split at h
  ·exact ih _ _ _ _ h
  ·split at h
   ·exact ih _ _ _ _ h
   ·cases h
 | store m a v k ih =>
  intro w w' b h
  cases v <;> simp only [Sem.run] at h
  all_goals try (cases h; done)
  all_goals
   split at h
   ·split at h
    ·cases h
    ·exact ih (w.setCell a _) _ _ h
   ·split at h
    ·rename_i w1 l hf
     have h1 := farStore_drawn _ _ _ _ _ _ hf
     have h2 := ih _ _ _ h
     dsimp only at h1
     omega
    ·cases h
 | new o k ih => intro w w' b h; exact ih _ { w with heap := w.heap.push o } _ _ h
 | shape r k ih => intro w w' b h; exact ih _ _ _ _ h
 | freeze a n k ih => intro w w' b h; have := ih _ _ _ h; rw [freeze_drawn] at this; exact this
 | frozen a k ih => intro w w' b h; exact ih _ _ _ _ h
 | getObj r k ih =>
  intro w w' b h
  unfold Sem.run at h
  split at h
  ·cases h
  ·exact ih _ _ _ _ h
  ·cases h
 | setObj r o k ih =>
  intro w w' b h
  unfold Sem.run at h
  split at h
  ·cases h
  ·exact ih { w with heap := w.heap.setIfInBounds r o } _ _ h
  ·cases h
 | choose q k ih =>
  intro w w' b h
  unfold Sem.run at h
  split at h
  ·exact ih _ _ _ _ h
  ·exact Nat.le_trans (Nat.le_succ _) (ih _ _ _ _ h)
 | sys c k ih => intro w w' b h; exact Nat.le_trans (sys_drawn w c) (ih _ _ _ _ h)
 | program k ih => intro w w' b h; exact ih _ _ _ _ h
 | mark m k ih => intro w w' b h; exact ih _ _ _ h
 | halt hh => intro w w' b h; cases h
theorem wpList_drawn {P : Program} {ops : Array Oper} {rest : List Oper} {o : Oper} {a : Act} {Q : Exit → Act → World → Prop} {w : World} {Φ : Act → World → Prop} (hgd : o.guard = none)
  (hnc : ∀ f args w', (execOp a.eval o).run P w ≠ .ok (.enter f args) w') (hnr : ∀ r args w', (execOp a.eval o).run P w ≠ .ok (.row r args) w')
  (h : wpList P ops (fun e a' w' => e = .normal ∧ Φ a' w') [o] a w) (k : ∀ a' w', Φ a' w' → w.drawn ≤ w'.drawn → wpList P ops Q rest a' w') :
  wpList P ops Q (o :: rest) a w := by
 have hw : Region.wanted o (yielded ops a.tmps) = true := by simp [Region.wanted, hgd]
 unfold wpList at h ⊢
 rw [if_pos hw] at h ⊢
 rcases h with h | ⟨_, ⟨_, _, he, _⟩⟩
 ·left
  unfold Oper.wp at h ⊢
  cases hr : (execOp a.eval o).run P w with
  | ok n w' =>
   have hd := run_drawn _ _ _ _ _ hr
   rw [hr] at h
   cases n with
   | value v => exact k _ _ h.2 hd
   | skip => exact k _ _ h.2 hd
   | defer d => exact k _ _ h.2 hd
   | enter f args => exact absurd hr (hnc _ _ _)
   | row r args => exact absurd hr (hnr _ _ _)
   | _ => exact h.elim
  | halt hh w' =>
   rw [hr] at h
   cases hh with
   | panic v => cases h.1
   | _ => exact h.elim
 ·cases he
theorem run_value_only (P : Program) (s : Sem Value) (w w' : World) (n : Next) (h : Sem.run P (do pure (Next.value (← s))) w = .ok n w') : ∃ v, n = .value v := by
 rw [Sem.run_bind] at h
 cases hs : Sem.run P s w with
 | ok v w1 => rw [hs] at h; cases h; exact ⟨v, rfl⟩
 | halt hh w1 => rw [hs] at h; cases h
theorem append_value {P : Program} {o : Oper} {a : Act} {w w' : World} {n : Next} {args : Array Operand} {tys : Array TypeId} (ho : o.op = Op.call { callee := Callee.builtin Builtin.append, args := args, argTypes := tys })
  (h : (execOp a.eval o).run P w = .ok n w') : ∃ v, n = .value v := by
 unfold execOp at h
 rw [ho] at h
 exact run_value_only P (Builtin.append_ tys o.type (args.map a.eval)) w w' n h
theorem append_drawn {P : Program} {ops : Array Oper} {rest : List Oper} {o : Oper} {a : Act} {Q : Exit → Act → World → Prop} {w : World} {Φ : Act → World → Prop} (hgd : o.guard = none) {args : Array Operand} {tys : Array TypeId}
  (ho : o.op = Op.call { callee := Callee.builtin Builtin.append, args := args, argTypes := tys })
  (h : wpList P ops (fun e a' w' => e = .normal ∧ Φ a' w') [o] a w) (k : ∀ a' w', Φ a' w' → w.drawn ≤ w'.drawn → wpList P ops Q rest a' w') :
  wpList P ops Q (o :: rest) a w :=
 wpList_drawn hgd (fun f x w' hr => by obtain ⟨v, hv⟩ := append_value ho hr; cases hv) (fun f x w' hr => by obtain ⟨v, hv⟩ := append_value ho hr; cases hv) h k
end Go.Proofs.YtdklekdpdbjfiaaGreat

/- impl.pivots and impl.sizeOf again: the count of draws does not fall. (Printed from PivW and SizeW.) -/
namespace Go.Proofs.YtdklekdpdbjfiaaGreat
open Go.RowKit
theorem wp_app_valD (T E : Nat) (z : Value) (bytes : Nat) (hT : Tryz.prog.underlying T = some (.slice E)) (hE : (Tryz.prog.info? E).map (fun i => (i.zero, i.size, i.bytes)) = some (some z, 1, bytes))
  (hzs : z.cells.size = 1) (hbt : bytes ≤ 64) {ops : Array Oper} {rest : List Oper} {o : Oper} {a : Act} {Q : Exit → Act → World → Prop} {w : World} (hgd : o.guard = none) (s x : Operand)
  (ho : o.op = Op.call { callee := Callee.builtin Builtin.append, args := #[s, x], argTypes := #[T, T] }) (B : Nat) (v u : Value) (xs : List Value) (hs : a.eval s = v) (w0 : World) (hown : OwnV B E w0 v xs) (hw : w = w0.alloc (.cells #[u] E)) (h1 : u.oneCell' = true)
  (hx : a.eval x = .slice (some ⟨w0.heap.size, 0, none⟩) 1 1) (hlen : xs.length ≤ 1000000) (hbase : B ≤ w0.heap.size)
  (h : ∀ v' w', OwnV B E w' v' (xs ++ [u]) → w0.grownBy w' v.ownBlock → w0.drawn ≤ w'.drawn → wpList Tryz.prog ops Q rest (a.put o.dst v') w') :
  wpList Tryz.prog ops Q (o :: rest) a w := by
 refine append_drawn (Φ := fun a' w' => ∃ v', OwnV B E w' v' (xs ++ [u]) ∧ w0.grownBy w' v.ownBlock ∧ a' = a.put o.dst v') hgd ho ?_ ?_
 ·exact wp_app_val T E z bytes hT hE hzs hbt hgd s x ho B v u xs hs w0 hown hw h1 hx hlen hbase (fun v' w' k1 k2 => ⟨rfl, v', k1, k2, rfl⟩)
 ·rintro a' w' ⟨v', k1, k2, rfl⟩ hd
  subst hw
  exact h v' w' k1 k2 hd
set_option maxHeartbeats 1000000 in
theorem pivotsD_ok (v : Value) (U : List (List Int)) (w : World) (S : Nat → Prop) (h : Rows2 S w v U) (hU : ∀ z ∈ U, dep z < z.length) (hl : U.length ≤ 100000) :
  Calls Tryz.prog 120 #[v] w (Ret w fun w' r => OwnV w.heap.size 3 w' r (depV U) ∧ w.drawn ≤ w'.drawn) := by
 obtain ⟨a, cap, rfl, _, _⟩ := Sl.shape h
 have HU := Lib.hid hU; clear hU
 go_enter Tryz.func120, Tryz.ntmps120
 go_wp2
 go_loopw [3, 8] (fun ov iv wr => ∃ (k : Nat) (v4 : Value), v4 = ov ∧ iv = .int .i64 k ∧ k ≤ U.length ∧ Ext w wr ∧ OwnV w.heap.size 3 wr v4 (depV (U.take k)) ∧ w.drawn ≤ wr.drawn) (fun _ iv _ => U.length - (intOf iv).toNat)
 case atStart => exact ⟨0, _, rfl, rfl, by omega, Ext.refl _, World.ownsRow_nil _ _ _ _, Nat.le_refl _⟩
 case round =>
  obtain ⟨k, v4, rfl, rfl, hk, hg, hO, hdr⟩ := hrel
  by_cases hlt : k < U.length
  ·obtain ⟨b, off, a2, cap2, rfl, _, _, hc, hi⟩ := Rows2.at (Rows2.ext h hg) k hlt
   have hstep : depV (U.take (k + 1)) = depV (U.take k) ++ [.int .i64 (dep (gt U k))] := by unfold depV; rw [take_succ_gt U k hlt, List.map_append]; rfl
   have hdl : (depV (U.take k)).length ≤ 1000000 := by unfold depV; rw [List.length_map, List.length_take]; omega
   have HS := Lib.hid hstep; clear hstep
   have hlt' : (k : Int) < U.length := by omega
   go_wp2_with fail
   refine Calls.mono (idxNz_ok _ (gt U k) wr _ hi (HU.out _ (gtMem hlt))) ?_
   rintro e1 w1 ⟨rfl, rfl⟩
   go_wp2_with (first | (at_builtin; refine wp_app_valD 110 3 (.int .i64 0) 8 und_intsG Tryz.infoIntG rfl (by decide) rfl _ _ rfl w.heap.size v4 _ (depV (U.take k)) rfl wr hO rfl rfl rfl hdl hg.size ?_; intro v5 w5 hO5 hg5 hd5) | fail)
   have hg6 : Ext w w5 := grown_own hg hg5 (fun j hj hlt => by have := (hO.lt j hj).1; omega)
   go_roundw
   case rel => exact ⟨k + 1, v5, rfl, by go_num, by omega, hg6, by rw [HS.out]; exact hO5, Nat.le_trans hdr hd5⟩
   case measure => simp [intOf]; omega
  ·have hke : k = U.length := by omega
   subst hke
   rw [List.take_length] at hO
   have hsh : ∃ az capz, v4 = .slice az U.length capz := by
    rcases hO.form with ⟨h1, h2⟩ | ⟨g, cp, h1, _⟩
    ·have h3 : U.length = 0 := by unfold depV at h2; rw [List.map_eq_nil_iff] at h2; rw [h2]; rfl
     exact ⟨none, 0, by rw [h1, h3]⟩
    ·exact ⟨_, _, by rw [h1]; unfold depV; rw [List.length_map]⟩
   obtain ⟨az, capz, rfl⟩ := hsh
   go_wp2
   go_ret
   exact ⟨_, rfl, hg, hO, hdr⟩
set_option maxHeartbeats 1000000 in
theorem sizeOfD_ok (P : Pr) (hP : Valid P) (w : World) (p uv : Value) (U : List (List Int)) (Sp Su : Nat → Prop) (hp : PresP Sp w p P) (hu : Rows2 Su w uv U) (hU : SeqOk P U) (hl : U.length ≤ 100) :
  Calls Tryz.prog 69 #[p, uv] w (Ret w fun w' v => v = .int .i64 (prodU P U U.length) ∧ w.drawn ≤ w'.drawn) := by
 have hn6 := hP.n6
 obtain ⟨pb, po, rfl⟩ := hp.shape
 obtain ⟨ao, capo, hco0, hoi⟩ := hp.ordAt
 obtain ⟨au, capu, rfl, _, _⟩ := Sl.shape hu
 have hUz : ∀ z ∈ U, dep z < z.length := fun z hz => by have := hU.1 z hz; rw [this.1.1]; exact this.2.1
 have HU := Lib.hid hU; clear hU
 go_enter Tryz.func69, Tryz.ntmps69
 go_wp2_with fail
 refine Calls.mono (pivotsD_ok _ U w Su hu hUz (by omega)) ?_
 rintro e1 w1 ⟨pv, rfl, hg1, hV1, hd1⟩
 have hpvs : ∃ az capz, pv = .slice az U.length capz := by
  rcases hV1.form with ⟨h1, h2⟩ | ⟨g, cp, h1, _⟩
  ·have h3 : U.length = 0 := by unfold depV at h2; rw [List.map_eq_nil_iff] at h2; rw [h2]; rfl
   exact ⟨none, 0, by rw [h1, h3]⟩
  ·exact ⟨_, _, by rw [h1]; unfold depV; rw [List.length_map]⟩
 obtain ⟨ap, capp, rfl⟩ := hpvs
 go_wp2
 go_loopw [5, 11] (fun mv iv wr => ∃ i : Nat, mv = .int .i64 (prodU P U i) ∧ iv = .int .i64 i ∧ i ≤ U.length ∧ w1 = wr) (fun _ iv _ => U.length - (intOf iv).toNat)
 case atStart => exact ⟨0, rfl, rfl, by omega, rfl⟩
 case round =>
  obtain ⟨i, rfl, rfl, hi, rfl⟩ := hrel
  by_cases hlt : i < U.length
  ·have hlt' : (i : Int) < U.length := by omega
   have hdi : gt (depV U) i = .int .i64 (dep (gt U i)) := by unfold depV; rw [gt_map _ _ _ hlt]
   have hpf : ∃ g, ap = some ⟨g, 0, none⟩ := by
    rcases hV1.form with ⟨h1, h2⟩ | ⟨g, cp, h1, _⟩
    ·unfold depV at h2; rw [List.map_eq_nil_iff] at h2; rw [h2] at hlt; simp at hlt
    ·simp only [Value.slice.injEq] at h1; exact ⟨g, h1.1⟩
   obtain ⟨gp, rfl⟩ := hpf
   have hcp := hV1.cell i (by unfold depV; rw [List.length_map]; exact hlt)
   rw [hdi] at hcp
   clear hdi
   have hst : prodU P U (i + 1) = prodU P U i * gt P.orders (dep (gt U i)) := rfl
   have hb := prodU_729 hP HU.out (i + 1) hlt
   rw [hst] at hb
   obtain ⟨d, hd⟩ : ∃ d, d = dep (gt U i) := ⟨_, rfl⟩
   rw [← hd] at hcp hst hb
   have hdn : d < P.orders.length := by rw [hd]; exact (HU.out.1 _ (gtMem hlt)).2.1
   clear hd
   have hdn' : (d : Int) < P.orders.length := by omega
   obtain ⟨b, off, rfl, _, _, hco⟩ := Ints.at (hoi.ext hg1) d hdn
   have hc0 := hg1.cell hco0 (by simp)
   have hw : IntKind.i64.wrap (prodU P U i * gt P.orders d) = prodU P U i * gt P.orders d := IntWalk.i64_in _ (by omega)
   have HS := Lib.hid hst; clear hst hb
   go_wp2
   go_roundw
   case rel => exact ⟨i + 1, by rw [HS.out], by go_num, by omega, trivial⟩
   case measure => simp [intOf]; omega
  ·have hie : i = U.length := by omega
   subst hie
   go_wp2
   go_ret
   exact ⟨_, rfl, hg1, rfl, hd1⟩
end Go.Proofs.YtdklekdpdbjfiaaGreat

/- slices.Concat at integers: the numbers of all rows, in order. cmp.Or at int. -/
namespace Go.Proofs.YtdklekdpdbjfiaaGreat
open Go.Proofs Go.Shelf Go.RowKit
section
open Go.Lib
def Tryz.growInts_ren : Go.Shelf.Ren := ⟨fun | 4 => 156 | n => n, fun | 22 => 22 | 25 => 2 | 3 => 3 | 4 => 4 | 9 => 9 | 20 => 20 | 0 => 0 | n => n, fun | n => n⟩
theorem Tryz.growInts : Go.Proofs.Lays8.n4 Tryz.prog Tryz.growInts_ren := {
  mixed := by kernel_rfl
  f4 := ⟨Tryz.f156.name, by decide, Tryz.func156.trans (congrArg some (by kernel_rfl))⟩
  t0 := Tryz.underlying0
  a0 := Tryz.isAgg0
  z0 := Tryz.sizeOf0
  v0 := Tryz.zeroValue0
  t3 := Tryz.underlying3
  a3 := Tryz.isAgg3
  z3 := Tryz.sizeOf3
  v3 := Tryz.zeroValue3
  t4 := Tryz.underlying4
  a4 := Tryz.isAgg4
  z4 := Tryz.sizeOf4
  v4 := Tryz.zeroValue4
  t9 := Tryz.underlying9
  a9 := Tryz.isAgg9
  z9 := Tryz.sizeOf9
  v9 := Tryz.zeroValue9
  t20 := Tryz.underlying20
  a20 := Tryz.isAgg20
  z20 := Tryz.sizeOf20
  v20 := Tryz.zeroValue20
  t22 := Tryz.underlying22
  a22 := Tryz.isAgg22
  z22 := Tryz.sizeOf22
  v22 := Tryz.zeroValue22 }
theorem growInts_ok (n : Nat) (hn : n ≤ 1000000) (w : World) : Calls Tryz.prog 156 #[.slice none 0 0, .int .i64 n] w (Ret w fun w' v => Own w.heap.size w' v [] ∧ w.drawn ≤ w'.drawn) := by
 rcases Nat.eq_zero_or_pos n with rfl | h0
 ·have h := Any8.slices_Grow_room Tryz.growInts none 0 0 0 w (by omega) (by omega) (by omega) (by omega)
  change Calls Tryz.prog 156 _ _ _ at h
  refine h.mono ?_
  rintro e w' ⟨rfl, rfl⟩
  exact ⟨_, rfl, Ext.refl _, Own.of (World.ownsRow_nil _ _ _ _), Nat.le_refl _⟩
 ·obtain ⟨i0, hi, hz0, hz1, hz2⟩ := info_parts Tryz.infoInt
  have hmax : 0 + n ≤ maxLen := by unfold maxLen; omega
  have h := Any8.slices_Grow_grow Tryz.growInts i0 (.int .i64 0) hi hz0 (by rw [hz1]; decide) none 0 0 n [] w (by omega) (by omega) (by rw [hz2]; omega) (by omega) (by simp) (fun _ => rfl) (fun a ha => by cases ha)
  change Calls Tryz.prog 156 _ _ _ at h
  refine h.mono ?_
  rintro e w' ⟨rfl, rfl⟩
  have hge := grownCap_ge w (0 + n) 0 2
  have hle := grownCap_le_maxLen w (0 + n) 0 2 hmax
  refine ⟨_, rfl, grown_trans (grown_drew w none) (World.grownBy_alloc _ _ _), Own.of ⟨rfl, .inr ⟨w.heap.size, _, _, rfl, Nat.le_refl _, Array.getElem?_push_size (xs := w.heap), Nat.zero_le _, hle, ?_, by simp⟩⟩, by first | exact Nat.le_refl _ | exact Nat.le_succ _⟩
  simp only [Array.size_append, size_zeroCells, List.size_toArray, List.length_nil]
  have e1 : (Value.cells (.int .i64 0)).size = 1 := rfl
  have hge2 : 0 + n ≤ grownCap w (0 + n) 0 2 := hge
  rw [e1]
  show 0 + (0 + n - 0) * 1 + (grownCap w (0 + n) 0 2 - (0 + n)) * 1 = grownCap w (0 + n) 0 2 * 1
  omega
end
theorem wp_app_intsD {ops : Array Oper} {rest : List Oper} {o : Oper} {a : Act} {Q : Exit → Act → World → Prop} {w : World} (hgd : o.guard = none) (s x : Operand)
  (ho : o.op = Op.call { callee := Callee.builtin Builtin.append, args := #[s, x], argTypes := #[22, 22] }) (base : Nat) (v : Value) (l : List Int) (hs : a.eval s = v) (hown : Own base w v l)
  (u : Value) (m : List Int) (hx : a.eval x = u) (S : Nat → Prop) (hu : Ints S w u m) (hlen : l.length + m.length ≤ 2147483648) (hbase : base ≤ w.heap.size)
  (h : ∀ v' w', Own base w' v' (l ++ m) → w.grownBy w' v.ownBlock → w.drawn ≤ w'.drawn → wpList Tryz.prog ops Q rest (a.put o.dst v') w') :
  wpList Tryz.prog ops Q (o :: rest) a w := by
 refine append_drawn (Φ := fun a' w' => ∃ v', Own base w' v' (l ++ m) ∧ w.grownBy w' v.ownBlock ∧ a' = a.put o.dst v') hgd ho ?_ ?_
 ·exact wp_app_ints hgd s x ho base v l hs hown u m hx S hu hlen hbase (fun v' w' k1 k2 _ => ⟨rfl, v', k1, k2, rfl⟩)
 ·rintro a' w' ⟨v', k1, k2, rfl⟩ hd
  exact h v' w' k1 k2 hd
def rowsTo (us : List (List Int)) : Nat → List Int
 | 0 => []
 | k + 1 => rowsTo us k ++ gt us k
theorem rowsTo_len (us : List (List Int)) (b : Nat) (h : ∀ u ∈ us, u.length ≤ b) (k : Nat) (hk : k ≤ us.length) : (rowsTo us k).length ≤ b * k := by
 induction k with
 | zero => simp [rowsTo]
 | succ k ih =>
  have h1 := ih (by omega)
  have h2 := h _ (gt_mem (l := us) (i := k) (by omega))
  simp only [rowsTo, List.length_append, Nat.mul_succ]; omega
theorem rowsTo_take (us : List (List Int)) (k : Nat) (hk : k ≤ us.length) : rowsTo us k = (us.take k).flatten := by
 induction k with
 | zero => simp [rowsTo]
 | succ k ih =>
  have hlt : k < us.length := by omega
  rw [rowsTo, ih (by omega), List.take_succ_eq_append_getElem hlt, List.flatten_append]
  simp [gt, hlt]
theorem rowsTo_all (us : List (List Int)) : rowsTo us us.length = us.flatten := by
 rw [rowsTo_take us _ (Nat.le_refl _), List.take_length]
set_option maxRecDepth 100000 in
set_option maxHeartbeats 4000000 in
theorem concatInts_ok (w : World) (lv : Value) (us : List (List Int)) (Sr : Nat → Prop) (hl : Rows2 Sr w lv us) (hb : ∀ u ∈ us, u.length ≤ 1000) (hn : us.length ≤ 100) :
  Calls Tryz.prog 95 #[lv] w (Ret w fun w' v => Own w.heap.size w' v us.flatten ∧ w.drawn ≤ w'.drawn) := by
 obtain ⟨al, capl, rfl, _, _⟩ := Sl.shape hl
 have hfl : ∀ k, k ≤ us.length → (rowsTo us k).length ≤ 100000 := fun k hk => by have := rowsTo_len us 1000 hb k hk; omega
 have HF := Lib.hid (And.intro hfl hb); clear hfl hb
 rw [← rowsTo_all]
 go_enter Tryz.func95, Tryz.ntmps95
 go_wp2
 go_loopw [3, 11] (fun sv iv wr => ∃ k : Nat, sv = .int .i64 ((rowsTo us k).length : Nat) ∧ iv = .int .i64 k ∧ k ≤ us.length ∧ w = wr) (fun _ iv _ => us.length - (intOf iv).toNat)
 case atStart => exact ⟨0, rfl, rfl, by omega, rfl⟩
 case round =>
  obtain ⟨k, rfl, rfl, hk, rfl⟩ := hrel
  have hfk := HF.out.1 k hk
  by_cases hlt : k < us.length
  ·have hlt' : (k : Int) < us.length := by omega
   obtain ⟨b, off, a2, cap2, rfl, _, _, hc, hr⟩ := Rows2.at hl k hlt
   have hfk2 := HF.out.1 (k + 1) hlt
   have hst : (rowsTo us (k + 1)).length = (rowsTo us k).length + (gt us k).length := by simp only [rowsTo, List.length_append]
   obtain ⟨m, hm⟩ : ∃ m, m = (rowsTo us k).length := ⟨_, rfl⟩
   obtain ⟨m2, hm2⟩ : ∃ m2, m2 = (gt us k).length := ⟨_, rfl⟩
   rw [← hm] at hfk hst ⊢
   rw [← hm2] at hc hr hst
   have hmm : m + m2 ≤ 100000 := by omega
   have hw : IntKind.i64.wrap ((m : Int) + (m2 : Int)) = ((m + m2 : Nat) : Int) := by rw [IntWalk.i64_in _ (by omega)]; omega
   have hnn : ¬ ((m + m2 : Nat) : Int) < 0 := by omega
   have HS := Lib.hid (And.intro hst (And.intro hm hm2)); clear hst hm hm2 hfk2
   go_wp2
   go_roundw
   case rel => exact ⟨k + 1, by rw [HS.out.1, Int.natCast_add], by go_num, by omega, trivial⟩
   case measure => simp [intOf]; omega
  ·have hke : k = us.length := by omega
   subst hke
   obtain ⟨m, hm⟩ : ∃ m, m = (rowsTo us us.length).length := ⟨_, rfl⟩
   rw [← hm] at hfk ⊢
   clear hm
   go_wp2_with fail
   refine Calls.mono (growInts_ok m (by omega) w) ?_
   rintro e1 w1 ⟨v1, rfl, hg1, hO1, hd1⟩
   go_wp2
   go_loopw [6, 27] (fun ov iv wr => ∃ (k : Nat) (v4 : Value), v4 = ov ∧ iv = .int .i64 k ∧ k ≤ us.length ∧ Ext w wr ∧ Own w.heap.size wr v4 (rowsTo us k) ∧ w.drawn ≤ wr.drawn) (fun _ iv _ => us.length - (intOf iv).toNat)
   case atStart => exact ⟨0, v1, rfl, rfl, by omega, hg1, hO1, hd1⟩
   case round =>
    clear hO1
    obtain ⟨k, v4, rfl, rfl, hk, hg, hO, hdr⟩ := hrel
    by_cases hlt : k < us.length
    ·have hlt' : (k : Int) < us.length := by omega
     obtain ⟨b, off, a2, cap2, rfl, _, _, hc, hr⟩ := Rows2.at hl k hlt
     have hcr := hg.cell hc (by simp)
     have hr2 := Ints.ext hr hg
     have hlk := HF.out.2 _ (gt_mem hlt)
     have hfk := HF.out.1 k hk
     have hlen : (rowsTo us k).length + (gt us k).length ≤ 2147483648 := by omega
     have HN := Lib.hid (And.intro hr2 hlen); clear hlen hr2 hlk hfk hc
     go_wp2_with (first | (at_builtin; refine wp_app_intsD rfl _ _ rfl w.heap.size _ (rowsTo us k) rfl hO _ (gt us k) rfl _ HN.out.1 HN.out.2 hg.size ?_; intro v5 w5 hO5 hg5 hd5; have hgw5 := grown_own hg hg5 (fun j hj hlt => by have := (hO.lt j hj).1; omega)) | fail)
     clear hcr
     go_roundw
     case rel => exact ⟨k + 1, v5, rfl, by go_num, by omega, hgw5, hO5, Nat.le_trans hdr hd5⟩
     case measure => simp [intOf]; omega
    ·have hke : k = us.length := by omega
     subst hke
     obtain ⟨az, capz, nz, hvz⟩ : ∃ az capz nz, v4 = .slice az nz capz := by
      rcases hO.2 with ⟨h1, _⟩ | ⟨g, cp, _, h1, _⟩
      ·exact ⟨_, _, _, h1⟩
      ·exact ⟨_, _, _, h1⟩
     subst hvz
     go_wp2
     go_ret
     exact ⟨_, rfl, hg, hO, hdr⟩
end Go.Proofs.YtdklekdpdbjfiaaGreat

/- The library's sort at [][]int64, laid from the shelf. -/
namespace Go.Proofs.YtdklekdpdbjfiaaGreat
open Go.Proofs Go.Shelf Go.RowKit Go.Lib Go.Sort
def Tryz.sortRows_ren : Go.Shelf.Ren := ⟨fun | 6 => 216 | 15 => 200 | 14 => 246 | 28 => 240 | 29 => 241 | 20 => 256 | 21 => 257 | 22 => 258 | 23 => 259 | 24 => 260 | 25 => 261 | 26 => 262 | 27 => 263 | 46 => 266 | 47 => 252 | 48 => 253 | 49 => 267 | 50 => 268 | 57 => 269 | n => n, fun | 22 => 23 | 24 => 22 | 25 => 171 | 3 => 3 | 39 => 168 | 0 => 0 | 53 => 198 | 55 => 95 | 4 => 4 | 46 => 191 | 45 => 190 | 50 => 195 | 5 => 5 | 9 => 9 | 66 => 204 | 70 => 208 | 76 => 216 | 77 => 217 | n => n, fun | n => n⟩
theorem Tryz.sortRows : Go.Proofs.SlLaysF.n6 Tryz.prog Tryz.sortRows_ren := {
  mixed := by kernel_rfl
  f6 := ⟨Tryz.f216.name, by decide, Tryz.func216.trans (congrArg some (by kernel_rfl))⟩
  f14 := ⟨Tryz.f246.name, by decide, Tryz.func246.trans (congrArg some (by kernel_rfl))⟩
  f15 := Tryz.func200.trans (congrArg some (by kernel_rfl))
  f20 := ⟨Tryz.f256.name, by decide, Tryz.func256.trans (congrArg some (by kernel_rfl))⟩
  f21 := ⟨Tryz.f257.name, by decide, Tryz.func257.trans (congrArg some (by kernel_rfl))⟩
  f22 := ⟨Tryz.f258.name, by decide, Tryz.func258.trans (congrArg some (by kernel_rfl))⟩
  f23 := ⟨Tryz.f259.name, by decide, Tryz.func259.trans (congrArg some (by kernel_rfl))⟩
  f24 := ⟨Tryz.f260.name, by decide, Tryz.func260.trans (congrArg some (by kernel_rfl))⟩
  f25 := ⟨Tryz.f261.name, by decide, Tryz.func261.trans (congrArg some (by kernel_rfl))⟩
  f26 := ⟨Tryz.f262.name, by decide, Tryz.func262.trans (congrArg some (by kernel_rfl))⟩
  f27 := ⟨Tryz.f263.name, by decide, Tryz.func263.trans (congrArg some (by kernel_rfl))⟩
  f28 := Tryz.func240.trans (congrArg some (by kernel_rfl))
  f29 := Tryz.func241.trans (congrArg some (by kernel_rfl))
  f46 := ⟨Tryz.f266.name, by decide, Tryz.func266.trans (congrArg some (by kernel_rfl))⟩
  f47 := Tryz.func252.trans (congrArg some (by kernel_rfl))
  f48 := Tryz.func253.trans (congrArg some (by kernel_rfl))
  f49 := ⟨Tryz.f267.name, by decide, Tryz.func267.trans (congrArg some (by kernel_rfl))⟩
  f50 := ⟨Tryz.f268.name, by decide, Tryz.func268.trans (congrArg some (by kernel_rfl))⟩
  f57 := ⟨Tryz.f269.name, by decide, Tryz.func269.trans (congrArg some (by kernel_rfl))⟩
  t0 := Tryz.underlying0
  a0 := Tryz.isAgg0
  z0 := Tryz.sizeOf0
  v0 := Tryz.zeroValue0
  t3 := Tryz.underlying3
  a3 := Tryz.isAgg3
  z3 := Tryz.sizeOf3
  v3 := Tryz.zeroValue3
  t4 := Tryz.underlying4
  a4 := Tryz.isAgg4
  z4 := Tryz.sizeOf4
  v4 := Tryz.zeroValue4
  t5 := Tryz.underlying5
  a5 := Tryz.isAgg5
  z5 := Tryz.sizeOf5
  v5 := Tryz.zeroValue5
  t9 := Tryz.underlying9
  a9 := Tryz.isAgg9
  z9 := Tryz.sizeOf9
  v9 := Tryz.zeroValue9
  t22 := Tryz.underlying23
  a22 := Tryz.isAgg23
  z22 := Tryz.sizeOf23
  v22 := Tryz.zeroValue23
  a24 := Tryz.isAgg22
  z24 := Tryz.sizeOf22
  t25 := Tryz.underlying171
  a25 := Tryz.isAgg171
  z25 := Tryz.sizeOf171
  v25 := Tryz.zeroValue171
  t39 := Tryz.underlying168
  a39 := Tryz.isAgg168
  z39 := Tryz.sizeOf168
  v39 := Tryz.zeroValue168
  t45 := Tryz.underlying190
  a45 := Tryz.isAgg190
  z45 := Tryz.sizeOf190
  v45 := Tryz.zeroValue190
  t46 := Tryz.underlying191
  a46 := Tryz.isAgg191
  z46 := Tryz.sizeOf191
  v46 := Tryz.zeroValue191
  t50 := Tryz.underlying195
  a50 := Tryz.isAgg195
  z50 := Tryz.sizeOf195
  v50 := Tryz.zeroValue195
  t53 := Tryz.underlying198
  a53 := Tryz.isAgg198
  z53 := Tryz.sizeOf198
  v53 := Tryz.zeroValue198
  t55 := Tryz.underlying95
  a55 := Tryz.isAgg95
  z55 := Tryz.sizeOf95
  v55 := Tryz.zeroValue95
  t66 := Tryz.underlying204
  a66 := Tryz.isAgg204
  z66 := Tryz.sizeOf204
  v66 := Tryz.zeroValue204
  t70 := Tryz.underlying208
  a70 := Tryz.isAgg208
  z70 := Tryz.sizeOf208
  v70 := Tryz.zeroValue208
  t76 := Tryz.underlying216
  a76 := Tryz.isAgg216
  z76 := Tryz.sizeOf216
  v76 := Tryz.zeroValue216
  t77 := Tryz.underlying217
  a77 := Tryz.isAgg217
  z77 := Tryz.sizeOf217
  v77 := Tryz.zeroValue217 }
end Go.Proofs.YtdklekdpdbjfiaaGreat

/- A row that the call has built, sorted by the library: any elements of one cell. (After the library's Sort/OwnSortedInts, at a general reading.) -/
namespace Go.Proofs.YtdklekdpdbjfiaaGreat
open Go.Proofs Go.Shelf Go.RowKit Go.Lib Go.Sort
section
variable {α : Type} [Inhabited α] {enc : α → Value}
theorem holds_of_blockV {w : World} {g : Nat} {cur : Array Value} {e : TypeId} {ss : List α} (hb : w.heap[g]? = some (.cells cur e (0, 0))) (ht : cur.toList.take ss.length = ss.map enc) : Go.Sort.Holds enc w g 0 ss.toArray := by
 intro j hj
 have hj' : j < ss.length := by simpa using hj
 refine ⟨?_, by simp [World.frozen?, hb]⟩
 have h1 : (cur.toList.take ss.length)[j]? = (ss.map enc)[j]? := by rw [ht]
 rw [List.getElem?_take_of_lt hj'] at h1
 simp only [World.cell?, hb, Nat.zero_add]
 simp only [Option.isSome_none, Bool.false_eq_true, if_false]
 rw [← Array.getElem?_toList, h1]
 simp [hj']
theorem heap_sortedV {w : World} {g n : Nat} {os : Array Obj} {cur : Array Value} {e : TypeId} {fr : Nat × Nat} (d : Array α) (hb : w.heap[g]? = some (.cells cur e fr)) :
  (sortWorld enc w g 0 n d os).heap[g]? = some (.cells (putCells enc 0 d cur) e fr) := by
 have hg : g < w.heap.size := (Array.getElem?_eq_some_iff.1 hb).1
 unfold sortWorld
 rw [heap_grow_old _ _ (by simpa using hg)]
 simp [putRow, mapBlock, Sort.ahead, Array.getElem?_modify, hb, onCells]
theorem grownBy_sortedV {w : World} {g n : Nat} {os : Array Obj} (d : Array α) : w.grownBy (sortWorld enc w g 0 n d os) (some g) := by
 unfold sortWorld
 refine ⟨rfl, rfl, rfl, by simp, fun k hk hne => ?_⟩
 rw [heap_grow_old _ _ (by simpa using hk)]
 have : g ≠ k := fun e => hne (by rw [e])
 simp [putRow, mapBlock, Sort.ahead, Array.getElem?_modify, this]
theorem take_putCellsV (cur : Array Value) (ts : List α) (h : ts.length ≤ cur.size) : (putCells enc 0 ts.toArray cur).toList.take ts.length = ts.map enc := by
 apply List.ext_getElem?
 intro j
 by_cases hj : j < ts.length
 ·rw [List.getElem?_take_of_lt hj, Array.getElem?_toList]
  simp [putCells, hj, show j < cur.size by omega]
 ·rw [List.getElem?_take_eq_none (by omega), List.getElem?_eq_none (by simp; omega)]
theorem ownsRow_sortedV {w : World} {base g cap n : Nat} {e : TypeId} {os : Array Obj} {cur : Array Value} {ss ts : List α} (hl : ts.length = ss.length) (hbase : base ≤ g) (hb : w.heap[g]? = some (.cells cur e (0, 0)))
  (h1 : ss.length ≤ cap) (h2 : cap ≤ maxLen) (h3 : cur.size = cap * 1) :
  (sortWorld enc w g 0 n ts.toArray os).ownsRow base e 1 (.slice (some ⟨g, 0, none⟩) ss.length cap) ss.length (ts.map enc) :=
 ⟨by simp [hl], .inr ⟨g, cap, _, rfl, hbase, heap_sortedV _ hb, h1, h2, by simp [putCells, h3], by rw [Nat.mul_one, ← hl]; exact take_putCellsV cur ts (by omega)⟩⟩
end
def encAt (vs : List Value) (k : Nat) : Value := if k < vs.length then gt vs k else .slice none 0 0
theorem encAt_one {vs : List Value} (h : ∀ i, i < vs.length → (gt vs i).oneCell' = true) : OneCell (encAt vs) := by
 intro k
 unfold encAt
 split
 ·exact h k (by assumption)
 ·rfl
theorem gt_inj {α : Type} [Inhabited α] {l : List α} (h : l.Nodup) {i j : Nat} (hi : i < l.length) (hj : j < l.length) (he : gt l i = gt l j) : i = j := by
 simp only [gt, List.getD_eq_getElem?_getD, List.getElem?_eq_getElem hi, List.getElem?_eq_getElem hj, Option.getD_some] at he
 rcases Nat.lt_trichotomy i j with h1 | h1 | h1
 ·exact absurd he (List.pairwise_iff_getElem.1 h i j hi hj h1)
 ·exact h1
 ·exact absurd he.symm (List.pairwise_iff_getElem.1 h j i hj hi h1)
end Go.Proofs.YtdklekdpdbjfiaaGreat

/- The order of subgroups as a comparison: by order, then by the entries. -/
namespace Go.Proofs.YtdklekdpdbjfiaaGreat
open Go.Proofs Go.Shelf Go.RowKit Go.Lib Go.Sort
def cmpS (P : Pr) (u v : List (List Int)) : Int := if cmpI (prodU P u u.length) (prodU P v v.length) = 0 then cmpL u.flatten v.flatten else cmpI (prodU P u u.length) (prodU P v v.length)
theorem cmpS_neg {P : Pr} {u v : List (List Int)} : cmpS P u v < 0 ↔ subLt P u v := by
 unfold cmpS subLt
 rcases cmpI_cases (prodU P u u.length) (prodU P v v.length) with ⟨h, k⟩ | ⟨h, k⟩ | ⟨h, k⟩ <;> rw [h]
 ·rw [if_neg (by omega)]; exact ⟨fun _ => .inl k, fun _ => by omega⟩
 ·rw [if_pos rfl]; exact ⟨fun h => .inr ⟨k, h⟩, fun h => (h.elim (fun h => (by omega)) (fun h => h.2))⟩
 ·rw [if_neg (by omega)]; exact ⟨fun h => by omega, fun h => by omega⟩
theorem cmpS_swap (P : Pr) (u v : List (List Int)) : cmpS P v u = - cmpS P u v := by
 unfold cmpS
 rw [cmpL_swap u.flatten v.flatten]
 rcases cmpI_cases (prodU P u u.length) (prodU P v v.length) with ⟨h, k⟩ | ⟨h, k⟩ | ⟨h, k⟩ <;> rcases cmpI_cases (prodU P v v.length) (prodU P u u.length) with ⟨h', k'⟩ | ⟨h', k'⟩ | ⟨h', k'⟩ <;> rw [h, h']
 all_goals first | omega | rfl
theorem swo_cmpS (P : Pr) : SWO (ltOf (cmpS P)) where
 irrefl x := by
  have := cmpS_swap P x x
  unfold ltOf; rw [decide_eq_false_iff_not]; omega
 trans x y z h k := by
  unfold ltOf at *
  rw [decide_eq_true_iff] at *
  exact cmpS_neg.2 (subLt_trans (cmpS_neg.1 h) (cmpS_neg.1 k))
 ntrans x y z h k := by
  unfold ltOf at *
  rw [decide_eq_false_iff_not] at *
  intro hz
  have hz' := cmpS_neg.1 hz
  unfold subLt at hz'
  rw [cmpS_neg] at h k
  unfold subLt at h k
  have h1 := cmpL_swap x.flatten y.flatten
  have h2 := cmpL_swap y.flatten z.flatten
  have h3 := cmpL_swap x.flatten z.flatten
  rcases hz' with hz' | ⟨e, hz'⟩
  ·have : ¬ prodU P x x.length < prodU P y y.length := fun hh => h (.inl hh)
   have : ¬ prodU P y y.length < prodU P z z.length := fun hh => k (.inl hh)
   omega
  ·have hx : ¬ prodU P x x.length < prodU P y y.length := fun hh => h (.inl hh)
   have hy : ¬ prodU P y y.length < prodU P z z.length := fun hh => k (.inl hh)
   have e1 : prodU P x x.length = prodU P y y.length := by omega
   have e2 : prodU P y y.length = prodU P z z.length := by omega
   have c1 : ¬ cmpL x.flatten y.flatten < 0 := fun hh => h (.inr ⟨e1, hh⟩)
   have c2 : ¬ cmpL y.flatten z.flatten < 0 := fun hh => k (.inr ⟨e2, hh⟩)
   have h4 := cmpL_le_trans z.flatten y.flatten x.flatten (by omega) (by omega)
   omega
theorem latL_of {P : Pr} (G : Grp P) {L L' : List (List (List Int))} (hp : L'.Perm L) (hs : L'.Pairwise (fun x y => 0 ≤ cmpS P y x)) (hn : L.Nodup) (hm : ∀ u, u ∈ L ↔ SubB P u) : LatL P L' := by
 refine ⟨?_, fun u => (hp.mem_iff).trans (hm u)⟩
 have hn' : L'.Nodup := hp.symm.nodup hn
 have hmem : ∀ u ∈ L', SubB P u := fun u hu => (hm u).1 (hp.mem_iff.1 hu)
 refine List.pairwise_iff_getElem.2 fun i j hi hj hij => ?_
 have h1 := List.pairwise_iff_getElem.1 hs i j hi hj hij
 have h2 := List.pairwise_iff_getElem.1 hn' i j hi hj hij
 refine Classical.byContradiction fun hc => ?_
 have := subLt_total G (hmem _ (List.getElem_mem hi)) (hmem _ (List.getElem_mem hj)) h2 hc
 rw [← cmpS_neg] at this
 omega
end Go.Proofs.YtdklekdpdbjfiaaGreat

/- impl.compareSubgroups, impl.latticeOf$1, cmp.Or at int. -/
namespace Go.Proofs.YtdklekdpdbjfiaaGreat
open Go.RowKit
set_option maxHeartbeats 1000000 in
theorem orInt_ok (a b : Int) (w : World) (v : Value) (S : Nat → Prop) (h : Ints S w v [a, b]) :
  Calls Tryz.prog 201 #[v] w fun e w' => e = .returned (.int .i64 (if a = 0 then b else a)) ∧ w' = w := by
 obtain ⟨av, capv, rfl, _, _⟩ := h.shape
 obtain ⟨b0, o0, rfl, _, _, hc0⟩ := Ints.at h 0 (by simp)
 have hc1 : w.cell? ⟨b0, o0 + 1, none⟩ = some (.int .i64 b) := by
  obtain ⟨b1, o1, e, _, _, hc1⟩ := Ints.at h 1 (by simp)
  cases e; exact hc1
 have hc0' : w.cell? ⟨b0, o0, none⟩ = some (.int .i64 a) := hc0
 clear hc0 h
 have hln : (([a, b] : List Int).length : Int) = 2 := rfl
 rw [show ([a, b] : List Int).length = 2 from rfl]
 clear hln
 go_enter Tryz.func201, Tryz.ntmps201
 go_wp2
 go_loopw [8] (fun iv wr => ∃ k : Nat, iv = .int .i64 k ∧ k ≤ 2 ∧ wr = w ∧ (1 ≤ k → a = 0) ∧ (2 ≤ k → b = 0)) (fun iv _ => 2 - (intOf iv).toNat)
 case atStart => exact ⟨0, rfl, by omega, rfl, fun h => by omega, fun h => by omega⟩
 case round =>
  obtain ⟨k, rfl, hk, rfl, ha, hb⟩ := hrel
  by_cases h0 : k = 0
  ·subst h0
   clear ha hb hk
   by_cases hz : a = 0
   ·subst hz
    go_wp2
    go_roundw
    case rel => exact ⟨1, by go_num, by omega, trivial, by simp, by omega⟩
    case measure => simp [intOf]
   ·go_wp2
    exact bodyPost_ret (v := .int .i64 a) (by simp [results, Tryz.results201, go_sem]) rfl ⟨rfl, rfl⟩
  ·by_cases h1 : k = 1
   ·subst h1
    have ha' := ha (by omega)
    subst ha'
    clear ha hb hk h0
    by_cases hz : b = 0
    ·subst hz
     go_wp2
     go_roundw
     case rel => exact ⟨2, by go_num, by omega, trivial, by simp, by simp⟩
     case measure => simp [intOf]
    ·go_wp2
     exact bodyPost_ret (v := .int .i64 b) (by simp [results, Tryz.results201, go_sem]) rfl ⟨rfl, rfl⟩
   ·have h2 : k = 2 := by omega
    subst h2
    have ha' := ha (by omega)
    have hb' := hb (by omega)
    subst ha'; subst hb'
    clear ha hb hk h0 h1
    go_wp2
    exact bodyPost_ret (v := .int .i64 0) (by simp [results, Tryz.results201, go_sem]) rfl ⟨rfl, rfl⟩
theorem seqOk_row {P : Pr} {U : List (List Int)} (hU : SeqOk P U) : ∀ u ∈ U, u.length = P.orders.length := fun u hu => (hU.1 u hu).1.1
set_option maxRecDepth 100000 in
set_option maxHeartbeats 2000000 in
theorem compareSubgroups_ok (P : Pr) (hP : Valid P) (w : World) (p uv vv : Value) (U V : List (List Int)) (Sp Su Sv : Nat → Prop) (hp : PresP Sp w p P) (hu : Rows2 Su w uv U) (hv : Rows2 Sv w vv V) (hU : SeqOk P U) (hV : SeqOk P V) (hlu : U.length ≤ 100) (hlv : V.length ≤ 100) :
  Calls Tryz.prog 140 #[p, uv, vv] w (Ret w fun w' v => v = .int .i64 (cmpS P U V) ∧ w.drawn ≤ w'.drawn) := by
 have hn6 := hP.n6
 obtain ⟨pb, po, rfl⟩ := hp.shape
 obtain ⟨au, capu, rfl, _, _⟩ := Sl.shape hu
 obtain ⟨av, capv, rfl, _, _⟩ := Sl.shape hv
 have hUl : ∀ u ∈ U, u.length ≤ 1000 := fun u h => by have := seqOk_row hU u h; omega
 have hVl : ∀ u ∈ V, u.length ≤ 1000 := fun u h => by have := seqOk_row hV u h; omega
 have hUf : U.flatten.length ≤ 100000 := by have := rowsTo_len U 1000 hUl _ (Nat.le_refl _); rw [rowsTo_all] at this; omega
 have hVf : V.flatten.length ≤ 100000 := by have := rowsTo_len V 1000 hVl _ (Nat.le_refl _); rw [rowsTo_all] at this; omega
 have hdef : cmpS P U V = if cmpI (prodU P U U.length) (prodU P V V.length) = 0 then cmpL U.flatten V.flatten else cmpI (prodU P U U.length) (prodU P V V.length) := rfl
 have HH := Lib.hid (And.intro (And.intro hU hV) (And.intro (And.intro hUl hVl) (And.intro hUf (And.intro hVf hdef)))); clear hU hV hUl hVl hUf hVf hdef
 go_enter Tryz.func140, Tryz.ntmps140
 go_wp2_with fail
 refine Calls.mono (sizeOfD_ok P hP w _ _ U Sp Su hp hu HH.out.1.1 hlu) ?_
 rintro e1 w1 ⟨v1, rfl, hg1, rfl, hd1⟩
 obtain ⟨a, ha⟩ : ∃ a, a = prodU P U U.length := ⟨_, rfl⟩
 rw [← ha]
 have HA := Lib.hid (And.intro ha hd1); clear ha hd1
 go_wp2_with fail
 refine Calls.mono (sizeOfD_ok P hP w1 _ _ V Sp Sv (hp.ext hg1) (Rows2.ext hv hg1) HH.out.1.2 hlv) ?_
 rintro e2 w2 ⟨v2, rfl, hg2, rfl, hd2⟩
 obtain ⟨b, hb⟩ : ∃ b, b = prodU P V V.length := ⟨_, rfl⟩
 rw [← hb]
 have hdef := HH.out.2.2.2.2
 rw [← HA.out.1, ← hb] at hdef
 have HD := Lib.hid (And.intro hdef hd2); clear hdef hb hd2
 go_wp2_with fail
 refine Calls.mono (cmpI_ok a b w2) ?_
 rintro e3 w3 ⟨rfl, rfl⟩
 obtain ⟨c, hc⟩ : ∃ c, c = cmpI a b := ⟨_, rfl⟩
 rw [← hc]
 have hdef := HD.out.1
 rw [← hc] at hdef
 have HD2 := Lib.hid hdef; clear hdef hc
 have hg12 := grown_trans hg1 hg2
 go_wp2_with fail
 refine Calls.mono (concatInts_ok w3 _ U Su (Rows2.ext hu hg12) HH.out.2.1.1 hlu) ?_
 rintro e4 w4 ⟨v4, rfl, hg4, hO4, hd4⟩
 have hg14 := grown_trans hg12 hg4
 have HD4 := Lib.hid hd4; clear hd4
 go_wp2_with fail
 refine Calls.mono (concatInts_ok w4 _ V Sv (Rows2.ext hv hg14) HH.out.2.1.2 hlv) ?_
 rintro e5 w5 ⟨v5, rfl, hg5, hO5, hd5⟩
 have hI4 : Ints Any w5 v4 U.flatten := Ints.sub (Ints.ext (ints_of_own (S := Any) hO4 (by have := HH.out.2.2.1; omega) (fun _ _ => trivial)) hg5) (fun _ _ _ => trivial)
 have hI5 : Ints Any w5 v5 V.flatten := ints_of_own (S := Any) hO5 (by have := HH.out.2.2.2.1; omega) (fun _ _ => trivial)
 have HI := Lib.hid (And.intro hI4 hI5); clear hI4 hI5 hO4 hO5
 have HD5 := Lib.hid hd5; clear hd5
 go_wp2_with fail
 refine Calls.mono (sCompare_ok v4 v5 U.flatten V.flatten w5 Any Any HI.out.1 HI.out.2) ?_
 rintro e6 w6 ⟨rfl, rfl⟩
 obtain ⟨d, hd⟩ : ∃ d, d = cmpL U.flatten V.flatten := ⟨_, rfl⟩
 rw [← hd]
 have hdef := HD2.out
 rw [← hd] at hdef
 have HD3 := Lib.hid hdef; clear hdef hd HD2 HH HI
 have hga : Ext w6 (w6.alloc (.cells #[.int .i64 c, .int .i64 d] 3)) := World.grownBy_alloc _ _ _
 have hO7 : OwnV w6.heap.size 3 (w6.alloc (.cells #[.int .i64 c, .int .i64 d] 3)) (.slice (some ⟨w6.heap.size, 0, none⟩) 2 2) [.int .i64 c, .int .i64 d] := World.ownsRow_lit w6 #[.int .i64 c, .int .i64 d] 2 (Nat.le_refl _) (by decide) rfl
 have hI7 : Ints Any (w6.alloc (.cells #[.int .i64 c, .int .i64 d] 3)) (.slice (some ⟨w6.heap.size, 0, none⟩) 2 2) [c, d] := by
  refine ⟨_, _, rfl, ⟨by simp, by simp, fun h => by cases h⟩, fun i hi => ⟨w6.heap.size, 0, .int .i64 (gt [c, d] i), rfl, trivial, by simp, ?_, rfl⟩⟩
  have := hO7.cell i (by simpa using hi)
  rw [Nat.zero_add, this]
  have hi2 : i < 2 := by simpa using hi
  have : i = 0 ∨ i = 1 := by omega
  rcases this with rfl | rfl <;> rfl
 have H7 := Lib.hid hI7; clear hI7 hO7
 go_wp2_with fail
 refine Calls.mono (orInt_ok c d _ _ Any H7.out) ?_
 rintro e8 w8 ⟨rfl, rfl⟩
 rw [← HD3.out]
 go_wp2
 go_ret
 exact ⟨_, rfl, grown_trans hg14 (grown_trans hg5 hga), rfl, Nat.le_trans (Nat.le_trans HA.out.2 HD.out.2) (Nat.le_trans HD4.out HD5.out)⟩
set_option maxHeartbeats 1000000 in
theorem latCmp_ok (P : Pr) (hP : Valid P) (w : World) (bx pb po : Nat) (uv vv : Value) (U V : List (List Int)) (Sp Su Sv : Nat → Prop) (hc : w.cell? ⟨bx, 0, none⟩ = some (.pointer (some ⟨pb, po, none⟩))) (hp : PresP Sp w (.pointer (some ⟨pb, po, none⟩)) P)
  (hu : Rows2 Su w uv U) (hv : Rows2 Sv w vv V) (hU : SeqOk P U) (hV : SeqOk P V) (hlu : U.length ≤ 100) (hlv : V.length ≤ 100) :
  Calls Tryz.prog 148 #[uv, vv, .pointer (some ⟨bx, 0, none⟩)] w (Ret w fun w' v => v = .int .i64 (cmpS P U V) ∧ w.drawn ≤ w'.drawn) := by
 go_enter Tryz.func148, Tryz.ntmps148
 go_wp2_with fail
 refine Calls.mono (compareSubgroups_ok P hP w _ uv vv U V Sp Su Sv hp hu hv hU hV hlu hlv) ?_
 rintro e1 w1 ⟨v1, rfl, hg1, rfl, hd1⟩
 obtain ⟨c, hc⟩ : ∃ c, c = cmpS P U V := ⟨_, rfl⟩
 rw [← hc]
 have HC := Lib.hid (And.intro hc hd1); clear hc hd1
 go_wp2
 go_ret
 exact ⟨_, rfl, hg1, congrArg (Value.int .i64) HC.out.1, HC.out.2⟩
end Go.Proofs.YtdklekdpdbjfiaaGreat

/- spec.l03Flat, spec.l01Less, spec.l19Before. -/
namespace Go.Proofs.YtdklekdpdbjfiaaGreat
open Go.RowKit
set_option maxRecDepth 100000 in
set_option maxHeartbeats 2000000 in
theorem l03Flat_ok (w : World) (lv : Value) (us : List (List Int)) (Sr : Nat → Prop) (hl : Rows2 Sr w lv us) (hb : ∀ u ∈ us, u.length ≤ 1000) (hn : us.length ≤ 100) :
  Calls Tryz.prog 231 #[lv] w (Ret w fun w' v => Own w.heap.size w' v us.flatten) := by
 obtain ⟨al, capl, rfl, _, _⟩ := Sl.shape hl
 have hfl : ∀ k, k ≤ us.length → (rowsTo us k).length ≤ 100000 := fun k hk => by have := rowsTo_len us 1000 hb k hk; omega
 have HF := Lib.hid (And.intro hfl hb); clear hfl hb
 rw [← rowsTo_all]
 go_enter Tryz.func231, Tryz.ntmps231
 go_wp2
 go_loopw [3, 4] (fun ov iv wr => ∃ (k : Nat) (v4 : Value), v4 = ov ∧ iv = .int .i64 k ∧ k ≤ us.length ∧ Ext w wr ∧ Own w.heap.size wr v4 (rowsTo us k)) (fun _ iv _ => us.length - (intOf iv).toNat)
 case atStart => exact ⟨0, _, rfl, rfl, by omega, World.grownBy_alloc _ _ _, World.ownsRow_lit w #[] 0 (Nat.le_refl _) (by decide) rfl⟩
 case round =>
  obtain ⟨k, v4, rfl, rfl, hk, hg, hO⟩ := hrel
  by_cases hlt : k < us.length
  ·have hlt' : (k : Int) < us.length := by omega
   obtain ⟨b, off, a2, cap2, rfl, _, _, hc, hr⟩ := Rows2.at hl k hlt
   have hcr := hg.cell hc (by simp)
   have hr2 := Ints.ext hr hg
   have hlk := HF.out.2 _ (gt_mem hlt)
   have hfk := HF.out.1 k hk
   have hlen : (rowsTo us k).length + (gt us k).length ≤ 2147483648 := by omega
   have HN := Lib.hid (And.intro hr2 hlen); clear hlen hr2 hlk hfk hc
   go_wp2_with (first | (at_builtin; refine wp_app_ints rfl _ _ rfl w.heap.size _ (rowsTo us k) rfl hO _ (gt us k) rfl _ HN.out.1 HN.out.2 hg.size ?_; intro v5 w5 hO5 hg5 _; have hgw5 := grown_own hg hg5 (fun j hj hlt => by have := (hO.lt j hj).1; omega)) | fail)
   clear hcr
   go_roundw
   case rel => exact ⟨k + 1, v5, rfl, by go_num, by omega, hgw5, hO5⟩
   case measure => simp [intOf]; omega
  ·have hke : k = us.length := by omega
   subst hke
   obtain ⟨az, nz, capz, hvz⟩ : ∃ az nz capz, v4 = .slice az nz capz := by
    rcases hO.2 with ⟨h1, _⟩ | ⟨g, cp, _, h1, _⟩
    ·exact ⟨_, _, _, h1⟩
    ·exact ⟨_, _, _, h1⟩
   subst hvz
   go_wp2
   go_ret
   exact ⟨_, rfl, hg, hO⟩
theorem cmpL_end {X Y : List Int} {k : Nat} (hx : k ≤ X.length) (hy : k ≤ Y.length) (h : k = X.length ∨ k = Y.length) : (cmpL (X.drop k) (Y.drop k) < 0 ↔ X.length < Y.length) := by
 by_cases h1 : k < X.length
 ·have h2 : k = Y.length := by omega
  rw [drop_gt h1, List.drop_eq_nil_of_le (show Y.length ≤ k by omega)]
  simp only [cmpL]; omega
 ·rw [List.drop_eq_nil_of_le (show X.length ≤ k by omega)]
  by_cases h2 : k < Y.length
  ·rw [drop_gt h2]; simp only [cmpL]; omega
  ·rw [List.drop_eq_nil_of_le (show Y.length ≤ k by omega)]
   simp only [cmpL]; omega
set_option maxRecDepth 100000 in
set_option maxHeartbeats 4000000 in
theorem l01Less_ok (a b : Value) (X Y : List Int) (w : World) (Sa Sb : Nat → Prop) (ha : Ints Sa w a X) (hb : Ints Sb w b Y) :
  Calls Tryz.prog 230 #[a, b] w (Ret w fun _ v => v = .bool (decide (cmpL X Y < 0))) := by
 obtain ⟨aa, capa, rfl, hla, _⟩ := ha.shape
 obtain ⟨ab, capb, rfl, hlb, _⟩ := hb.shape
 go_enter Tryz.func230, Tryz.ntmps230
 go_wp2
 go_loopw [5] (fun v wr => ∃ k : Nat, v = .int .i64 k ∧ k ≤ X.length ∧ k ≤ Y.length ∧ Ext w wr ∧ Hid (cmpL X Y = cmpL (X.drop k) (Y.drop k))) (fun v _ => X.length - (intOf v).toNat)
 case atStart => exact ⟨0, rfl, by omega, by omega, Ext.refl _, Lib.hid (by simp)⟩
 case round =>
  obtain ⟨k, rfl, hk, hkY, hg, hcmp⟩ := hrel
  by_cases hlt : k < X.length
  ·obtain ⟨ba, oa, rfl, _, _, hca⟩ := Ints.at (Ints.ext ha hg) k hlt
   have hlt' : (k : Int) < X.length := by omega
   by_cases hltY : k < Y.length
   ·obtain ⟨bb, ob, rfl, _, _, hcb⟩ := Ints.at (Ints.ext hb hg) k hltY
    have hltY' : (k : Int) < Y.length := by omega
    have hc2 := hcmp.out
    rw [drop_gt hlt, drop_gt hltY] at hc2
    simp only [cmpL] at hc2
    obtain ⟨x, hx⟩ : ∃ x, x = gt X k := ⟨_, rfl⟩
    obtain ⟨y, hy⟩ : ∃ y, y = gt Y k := ⟨_, rfl⟩
    rw [← hx] at hca hc2
    rw [← hy] at hcb hc2
    have HC := Lib.hid hc2; clear hc2 hcmp hx hy
    go_wp2
    go_quiet (fail)
    rename_i nq _
    have hgq : Ext w (wr.drewN nq) := grown_trans hg (grown_drewN _ _ _)
    have hca2 : (wr.drewN nq).cell? ⟨ba, oa + k, none⟩ = some (.int .i64 x) := hca
    have hcb2 : (wr.drewN nq).cell? ⟨bb, ob + k, none⟩ = some (.int .i64 y) := hcb
    clear hca hcb
    generalize wr.drewN nq = wq at *
    by_cases hz : x = y
    ·subst hz
     have hcn := HC.out
     have h0 : cmpI x x = 0 := by unfold cmpI; simp
     rw [if_pos h0] at hcn
     have HC2 := Lib.hid hcn; clear hcn HC h0
     go_wp2
     go_roundw
     case rel => exact ⟨k + 1, by go_num, by omega, by omega, hgq, HC2⟩
     case measure => simp [intOf]; omega
    ·have hcn := HC.out
     have h1 : cmpI x y ≠ 0 := by
      rcases cmpI_cases x y with ⟨h, k⟩ | ⟨h, k⟩ | ⟨h, k⟩ <;> omega
     rw [if_neg h1] at hcn
     have h2 : (decide (cmpL X Y < 0)) = decide (x < y) := by
      rw [hcn]
      rcases cmpI_cases x y with ⟨h, k⟩ | ⟨h, k⟩ | ⟨h, k⟩
      ·rw [h]; simp [k]
      ·exact absurd k hz
      ·rw [h]; simp; omega
     have HC2 := Lib.hid h2; clear hcn HC h1 h2
     have hne : (x != y) = true := by simpa using hz
     go_wp2
     go_quiet (fail)
     rename_i nq2 _
     go_wp2
     go_ret
     exact ⟨_, rfl, grown_trans hgq (grown_drewN _ _ _), congrArg Value.bool HC2.out.symm⟩
   ·have hend := cmpL_end hk hkY (.inr (by omega))
    have h2 : (decide (cmpL X Y < 0)) = decide (X.length < Y.length) := by rw [hcmp.out]; exact decide_eq_decide.2 hend
    have HC2 := Lib.hid h2; clear h2 hend hcmp
    have hltY' : ¬ (k : Int) < Y.length := by omega
    go_wp2
    go_ret
    exact ⟨_, rfl, hg, congrArg Value.bool HC2.out.symm⟩
  ·have hend := cmpL_end hk hkY (.inl (by omega))
   have h2 : (decide (cmpL X Y < 0)) = decide (X.length < Y.length) := by rw [hcmp.out]; exact decide_eq_decide.2 hend
   have HC2 := Lib.hid h2; clear h2 hend hcmp
   have hlt' : ¬ (k : Int) < X.length := by omega
   go_wp2
   go_ret
   exact ⟨_, rfl, hg, congrArg Value.bool HC2.out.symm⟩
def ltB (P : Pr) (u v : List (List Int)) : Bool := decide (cmpS P u v < 0)
theorem ltB_iff {P : Pr} {u v : List (List Int)} : ltB P u v = true ↔ subLt P u v := by unfold ltB; rw [decide_eq_true_iff]; exact cmpS_neg
set_option maxRecDepth 100000 in
set_option maxHeartbeats 4000000 in
theorem l19Before_ok (P : Pr) (hP : Valid P) (w : World) (pv uv vv : Value) (U V : List (List Int)) (Sp Su Sv : Nat → Prop) (hpv : PresV Sp w pv P) (hu : Rows2 Su w uv U) (hv : Rows2 Sv w vv V) (hU : SeqOk P U) (hV : SeqOk P V) (hlu : U.length ≤ 100) (hlv : V.length ≤ 100) :
  Calls Tryz.prog 193 #[pv, uv, vv] w (Ret w fun _ v => v = .bool (ltB P U V)) := by
 have hn6 := hP.n6
 obtain ⟨vo, vp, vc, rfl, h3⟩ := hpv
 have hp0 := PresP.box h3 31
 have hg0 : Ext w (w.alloc (.cells #[vo, vp, vc] 31)) := World.grownBy_alloc _ _ _
 obtain ⟨vo6, vp6, vc6, _, _, hc0, hc1, hc2, h36⟩ := hp0.at
 simp only [Nat.zero_add] at hc1 hc2
 have hbx : ∀ w', Ext (w.alloc (.cells #[vo, vp, vc] 31)) w' → w'.cell? ⟨w.heap.size, 0, none⟩ = some vo6 ∧ w'.cell? ⟨w.heap.size, 1, none⟩ = some vp6 ∧ w'.cell? ⟨w.heap.size, 2, none⟩ = some vc6 := fun w' h => ⟨h.cell hc0 (by simp), h.cell hc1 (by simp), h.cell hc2 (by simp)⟩
 have HB := Lib.hid hbx; clear hbx hp0
 obtain ⟨au, capu, rfl, _, _⟩ := Sl.shape hu
 obtain ⟨av, capv, rfl, _, _⟩ := Sl.shape hv
 have hUl : ∀ u ∈ U, u.length ≤ 1000 := fun u h => by have := seqOk_row hU u h; omega
 have hVl : ∀ u ∈ V, u.length ≤ 1000 := fun u h => by have := seqOk_row hV u h; omega
 have hUf : U.flatten.length ≤ 100000 := by have := rowsTo_len U 1000 hUl _ (Nat.le_refl _); rw [rowsTo_all] at this; omega
 have hVf : V.flatten.length ≤ 100000 := by have := rowsTo_len V 1000 hVl _ (Nat.le_refl _); rw [rowsTo_all] at this; omega
 have hdef : ltB P U V = decide ((if cmpI (prodU P U U.length) (prodU P V V.length) = 0 then cmpL U.flatten V.flatten else cmpI (prodU P U U.length) (prodU P V V.length)) < 0) := rfl
 have hu0 := Rows2.ext hu hg0
 have hv0 := Rows2.ext hv hg0
 have HH := Lib.hid (And.intro (And.intro hU hV) (And.intro (And.intro hUl hVl) (And.intro hUf (And.intro hVf hdef)))); clear hU hV hUl hVl hUf hVf hdef hu hv
 go_enter Tryz.func193, Tryz.ntmps193
 go_wp2
 clear hc0 hc1 hc2
 generalize hw0 : w.alloc (.cells #[vo, vp, vc] 31) = w0 at *
 clear hw0
 obtain ⟨a, ha⟩ : ∃ a, a = prodU P U U.length := ⟨_, rfl⟩
 obtain ⟨b, hb⟩ : ∃ b, b = prodU P V V.length := ⟨_, rfl⟩
 have hdef := HH.out.2.2.2.2
 rw [← ha, ← hb] at hdef
 have HD := Lib.hid (And.intro hdef (And.intro ha hb)); clear hdef ha hb
 have e1 : ∀ w', Ext w0 w' → w'.cell? ⟨w.heap.size, 0, none⟩ = some vo6 := fun w' h => (HB.out w' h).1
 have e2 : ∀ w', Ext w0 w' → w'.cell? ⟨w.heap.size, 1, none⟩ = some vp6 := fun w' h => (HB.out w' h).2.1
 have e3 : ∀ w', Ext w0 w' → w'.cell? ⟨w.heap.size, 2, none⟩ = some vc6 := fun w' h => (HB.out w' h).2.2
 go_region_held3 (fun w' => Ext w0 w') (first | exact grown_drew _ _ | assumption)
  (first
   | (revert hgA; intro hgA; go_at_call 61; refine Calls.mono (Calls.rel (w0 := w0) (by assumption) (l12Order_ok P hP _ _ _ V Any Any ⟨_, _, _, rfl, Pres3.ext h36 (by assumption)⟩ (Rows2.sub (Rows2.ext hv0 (by assumption)) (fun _ _ _ => trivial)) HH.out.1.2 (by omega))) ?_; rintro eB wB ⟨vB, rfl, hgB, hsB, hvB⟩; rw [← HD.out.2.2] at hvB; subst hvB)
   | (go_at_call 61; refine Calls.mono (Calls.rel (w0 := w0) (by assumption) (l12Order_ok P hP _ _ _ U Any Any ⟨_, _, _, rfl, Pres3.ext h36 (by assumption)⟩ (Rows2.sub (Rows2.ext hu0 (by assumption)) (fun _ _ _ => trivial)) HH.out.1.1 (by omega))) ?_; rintro eA wA ⟨vA, rfl, hgA, hsA, hvA⟩; rw [← HD.out.2.1] at hvA; subst hvA))
 clear e1 e2 e3 hgA hsA hsB
 by_cases hab : a = b
 ·subst hab
  have h0 : cmpI a a = 0 := by unfold cmpI; simp
  have hd := HD.out.1
  rw [if_pos h0] at hd
  have HD2 := Lib.hid hd; clear hd h0
  go_wp2_with fail
  refine Calls.mono (l03Flat_ok wB _ U Any (Rows2.sub (Rows2.ext hu0 hgB) (fun _ _ _ => trivial)) HH.out.2.1.1 hlu) ?_
  rintro e4 w4 ⟨v4, rfl, hg4, hO4⟩
  have hg04 := grown_trans hgB hg4
  go_wp2_with fail
  refine Calls.mono (l03Flat_ok w4 _ V Any (Rows2.sub (Rows2.ext hv0 hg04) (fun _ _ _ => trivial)) HH.out.2.1.2 hlv) ?_
  rintro e5 w5 ⟨v5, rfl, hg5, hO5⟩
  have hI4 : Ints Any w5 v4 U.flatten := Ints.sub (Ints.ext (ints_of_own (S := Any) hO4 (by have := HH.out.2.2.1; omega) (fun _ _ => trivial)) hg5) (fun _ _ _ => trivial)
  have hI5 : Ints Any w5 v5 V.flatten := ints_of_own (S := Any) hO5 (by have := HH.out.2.2.2.1; omega) (fun _ _ => trivial)
  have HI := Lib.hid (And.intro hI4 hI5); clear hI4 hI5 hO4 hO5
  go_wp2_with fail
  refine Calls.mono (l01Less_ok v4 v5 U.flatten V.flatten w5 Any Any HI.out.1 HI.out.2) ?_
  rintro e6 w6 ⟨v6, rfl, hg6, hv6⟩
  rw [← HD2.out] at hv6
  obtain ⟨r, hr⟩ : ∃ r, r = ltB P U V := ⟨_, rfl⟩
  rw [← hr] at hv6
  subst hv6
  have HR := Lib.hid hr; clear hr
  go_wp2
  go_ret
  exact ⟨_, rfl, grown_trans hg0 (grown_trans hg04 (grown_trans hg5 hg6)), congrArg Value.bool HR.out⟩
 ·have hd := HD.out.1
  have h1 : cmpI a b ≠ 0 := by
   rcases cmpI_cases a b with ⟨h, k⟩ | ⟨h, k⟩ | ⟨h, k⟩ <;> omega
  rw [if_neg h1] at hd
  have hd2 : ltB P U V = decide (a < b) := by
   rw [hd]
   rcases cmpI_cases a b with ⟨h, k⟩ | ⟨h, k⟩ | ⟨h, k⟩
   ·rw [h]; simp [k]
   ·exact absurd k hab
   ·rw [h]; simp; omega
  have HD2 := Lib.hid hd2; clear hd2 hd h1
  have hne : (a != b) = true := by simpa using hab
  go_wp2
  go_ret
  exact ⟨_, rfl, grown_trans hg0 hgB, congrArg Value.bool HD2.out.symm⟩
end Go.Proofs.YtdklekdpdbjfiaaGreat

/- Lists of subgroups whose rows are shared with older lists. -/
namespace Go.Proofs.YtdklekdpdbjfiaaGreat
open Go.RowKit
def Sh3 (S : Nat → Prop) (B : Nat) (w : World) (v : Value) (xs : List (List (List Int))) : Prop :=
 ∃ vs, vs.length = xs.length ∧ OwnV B 23 w v vs ∧ ∀ i, i < xs.length → Rows2 (fun k => S k ∧ k < B) w (gt vs i) (gt xs i)
theorem Sh3.kept {S : Nat → Prop} {B : Nat} {w w' : World} {v : Value} {xs : List (List (List Int))} {r : Option Nat} (h : Sh3 S B w v xs) (hg : w.grownBy w' r) (hne : v.ownBlock = none ∨ v.ownBlock ≠ r) (hr : ∀ k, r = some k → B ≤ k) : Sh3 S B w' v xs := by
 obtain ⟨vs, h1, h2, h3⟩ := h
 exact ⟨vs, h1, h2.kept hg hne, fun i hi => Rows2.mono (h3 i hi) (frame_of hg (fun k hk _ => ⟨hk, fun e => by have := hr k e; omega⟩))⟩
theorem Sh3.ext {S : Nat → Prop} {B : Nat} {w w' : World} {v : Value} {xs : List (List (List Int))} (h : Sh3 S B w v xs) (hg : Ext w w') : Sh3 S B w' v xs :=
 h.kept hg (by cases hv : v.ownBlock <;> simp) (fun k hk => by cases hk)
theorem Sh3.lt {S : Nat → Prop} {B : Nat} {w : World} {v : Value} {xs : List (List (List Int))} (h : Sh3 S B w v xs) (k : Nat) (hk : v.ownBlock = some k) : B ≤ k ∧ k < w.heap.size := by
 obtain ⟨vs, h1, h2, h3⟩ := h
 exact h2.lt k hk
theorem Sh3.shape {S : Nat → Prop} {B : Nat} {w : World} {v : Value} {xs : List (List (List Int))} (h : Sh3 S B w v xs) : ∃ a c, v = .slice a xs.length c := by
 obtain ⟨vs, h1, h2, h3⟩ := h
 rcases h2.form with ⟨e1, e2⟩ | ⟨g, cp, e1, _⟩
 ·have : xs.length = 0 := by rw [← h1, e2]; rfl
  exact ⟨none, 0, by rw [e1, this]⟩
 ·exact ⟨_, _, by rw [e1, h1]⟩
theorem Sh3.rows {S : Nat → Prop} {B : Nat} {w : World} {v : Value} {xs : List (List (List Int))} (h : Sh3 S B w v xs) (hl : xs.length ≤ 1000000) : Rows3 (fun k => S k ∨ B ≤ k) w v xs := by
 obtain ⟨vs, h1, h2, h3⟩ := h
 rcases h2.form with ⟨rfl, e2⟩ | ⟨g, cp, rfl, hc, hB, hgs⟩
 ·have : xs = [] := List.eq_nil_of_length_eq_zero (by rw [← h1, e2]; rfl)
  subst this
  exact ⟨none, 0, rfl, ⟨by simp, by simp, fun _ => rfl⟩, fun i hi => by simp at hi⟩
 ·refine ⟨_, cp, by rw [h1], ⟨by omega, by omega, fun h => by cases h⟩, fun i hi => ⟨g, 0, gt vs i, rfl, .inr hB, hgs, ?_, Rows2.sub (h3 i hi) (fun k hk _ => .inl hk.1)⟩⟩
  rw [Nat.zero_add]; exact h2.cell i (by omega)
theorem Sh3.nil (S : Nat → Prop) (B : Nat) (w : World) : Sh3 S B w (.slice none 0 0) [] := ⟨[], rfl, World.ownsRow_nil _ _ _ _, by simp⟩
theorem Sh3.lit0 (S : Nat → Prop) (B : Nat) (w : World) (hB : B ≤ w.heap.size) : Sh3 S B (w.alloc (.cells #[] 23)) (.slice (some ⟨w.heap.size, 0, none⟩) 0 0) [] :=
 ⟨[], rfl, World.ownsRow_lit w #[] 0 hB (by decide) rfl, by simp⟩
theorem rows2_one {S : Nat → Prop} {w : World} {v : Value} {xs : List (List Int)} (h : Rows2 S w v xs) : v.oneCell' = true := by obtain ⟨a, cap, rfl, _⟩ := h; rfl
theorem wp_app_r3 {ops : Array Oper} {rest : List Oper} {o : Oper} {a : Act} {Q : Exit → Act → World → Prop} {w : World} (hgd : o.guard = none) (s x : Operand)
  (ho : o.op = Op.call { callee := Callee.builtin Builtin.append, args := #[s, x], argTypes := #[24, 24] }) (S : Nat → Prop) (B : Nat) (v u : Value) (xs : List (List (List Int))) (y : List (List Int)) (hs : a.eval s = v) (w2 : World) (hown : Sh3 S B w2 v xs)
  (hu : Rows2 (fun k => S k ∧ k < B) w2 u y) (hw : w = w2.alloc (.cells #[u] 23)) (hx : a.eval x = .slice (some ⟨w2.heap.size, 0, none⟩) 1 1) (hlen : xs.length ≤ 1000000) (hbase : B ≤ w2.heap.size)
  (h : ∀ v' w', Sh3 S B w' v' (xs ++ [y]) → w2.grownBy w' v.ownBlock → wpList Tryz.prog ops Q rest (a.put o.dst v') w') :
  wpList Tryz.prog ops Q (o :: rest) a w := by
 obtain ⟨vs, h1, h2, h3⟩ := hown
 refine wp_app_v 24 23 (.slice none 0 0) 24 und_r3 Tryz.infoR3 rfl (by decide) hgd s x ho B w2 v u vs hs h2 hw (rows2_one hu) hx (by omega) hbase ?_
 intro v' w' k1 k2
 have hown : ∀ k, v.ownBlock = some k → B ≤ k := fun k hk => (h2.lt k hk).1
 refine h v' w' ⟨vs ++ [u], by simp [h1], k1, fun i hi => ?_⟩ k2
 simp only [List.length_append, List.length_singleton] at hi
 have hfr : ∀ {z : Value} {q : List (List Int)}, Rows2 (fun k => S k ∧ k < B) w2 z q → Rows2 (fun k => S k ∧ k < B) w' z q := fun hz => Rows2.mono hz (frame_of k2 (fun k hk _ => ⟨hk, fun e => by have := hown k e; omega⟩))
 by_cases hlt : i < xs.length
 ·rw [gt_append_left _ _ _ (by omega), gt_append_left _ _ _ hlt]
  exact hfr (h3 i hlt)
 ·have hi2 : i = xs.length := by omega
  subst hi2
  rw [gt_concat, ← h1, gt_concat]
  exact hfr hu
end Go.Proofs.YtdklekdpdbjfiaaGreat

/- The reference's closure: spec.l12Close. -/
namespace Go.Proofs.YtdklekdpdbjfiaaGreat
open Go.RowKit
theorem tab_keptF {B gb n W W0 : Nat} {wI w2 : World} {v1 v2 : Value} {b : List (List Int)} (h : TabAt B (fun k => v1.ownBlock = some k ∨ k < W0) wI gb n b) (hv : ∀ k, v1.ownBlock = some k → W ≤ k) (hgb : gb < W)
  (hg2 : wI.grownBy w2 v1.ownBlock) (hb2 : v2.ownBlock = v1.ownBlock ∨ ∀ k, v2.ownBlock = some k → wI.heap.size ≤ k) : TabAt B (fun k => v2.ownBlock = some k ∨ k < W0) w2 gb n b := by
 refine h.kept hg2.size (fun k hk hc => hg2.block k hk (fun e => ?_)) (fun k hk e => ?_)
 ·rcases hc with rfl | hc
  ·have := hv _ e.symm; omega
  ·exact hc (.inl e.symm)
 ·rcases e with e | e
  ·rcases hb2 with h | h
   ·rw [← h]; exact .inl e
   ·have := h k e; omega
  ·exact .inr e
theorem SlO.shq {bad : Nat → Prop} {B : Nat} {w : World} {v : Value} {xs : List (List Int)} (h : RowsO B w v xs) (hbad : ∀ k, bad k → k < B) : ShQ bad B w v xs := by
 obtain ⟨vs, G, hl, hO, hG, _, hE⟩ := h
 refine ⟨vs, hl, QOwn.of hO, fun i hi => Ints.sub (hE i hi).ints (fun k hk _ => ?_)⟩
 obtain ⟨h1, h2, _⟩ := hG i k hi hk
 exact ⟨fun h => by have := hbad k h; omega, h2⟩
def HeldB (w0 w1 : World) (g : Nat) (w' : World) : Prop := Ext w0 w' ∧ w'.heap[g]? = w1.heap[g]?
theorem heldB_ext {w0 w1 w' : World} {g : Nat} (h0 : Ext w0 w1) (hg : g < w1.heap.size) (h : Ext w1 w') : HeldB w0 w1 g w' := ⟨grown_trans h0 h, h.block g hg (by simp)⟩
theorem HeldB.cell {w0 w1 w' : World} {g i : Nat} {v : Value} (h : HeldB w0 w1 g w') (hc : w1.cell? ⟨g, i, none⟩ = some v) : w'.cell? ⟨g, i, none⟩ = some v := (World.cell?_of_block (w := w1) h.2).trans hc
set_option maxRecDepth 100000 in
set_option maxHeartbeats 8000000 in
theorem l12CloseF_ok (P : Pr) (G : Grp P) (w : World) (pv lv : Value) (L : List (List Int)) (Sp Sr : Nat → Prop) (hpv : PresV Sp w pv P) (hl : Rows2 Sr w lv L) (hL : ∀ x ∈ L, Vec P.orders x) (hlen : L.length ≤ 10000) :
  Calls Tryz.prog 64 #[pv, lv] w (Ret w fun w' v => ShQ (fun k => k < w.heap.size) w.heap.size w' v (cseq P (genP P (fun x => x ∈ L)))) := by
 have hP := G.v
 have hn6 := hP.n6
 obtain ⟨vo, vp, vc, rfl, h3⟩ := hpv
 have hp0 := PresP.box h3 31
 have hg0 : Ext w (w.alloc (.cells #[vo, vp, vc] 31)) := World.grownBy_alloc _ _ _
 have hs0 : (w.alloc (.cells #[vo, vp, vc] 31)).heap.size = w.heap.size + 1 := by simp
 obtain ⟨vo6, vp6, vc6, _, _, hc0, hc1, hc2, h36⟩ := hp0.at
 simp only [Nat.zero_add] at hc1 hc2
 obtain ⟨ao, capo, rfl, _, _⟩ := h36.o.shape
 clear hp0
 obtain ⟨al, capl, rfl, _, _⟩ := Sl.shape hl
 have hLl : ∀ x ∈ L, x.length ≤ 1000000 := fun x hx => by rw [(hL x hx).1]; omega
 have HL := Lib.hid (And.intro hL hLl); clear hL hLl
 go_enter Tryz.func64, Tryz.ntmps64
 go_wp2_with (first | (at_make; refine wp_make_tab rfl _ _ rfl w.heap.size P.orders.length (w.heap.size + 1) (by simp) _ rfl rfl rfl (by omega) (by omega) ?_; intro w1 hT1 hg1 hlt1) | fail)
 have HS := Lib.hid hs0; clear hs0
 generalize hw0 : w.alloc (.cells #[vo, vp, vc] 31) = w0 at *
 clear hw0
 have hl0 := Rows2.ext hl hg0
 clear hl
 have hgb1 : w.heap.size + 1 < w1.heap.size := hlt1
 refine Calls.mono (l01Own2_ok w1 _ L Sr (Rows2.ext hl0 hg1) HL.out.2 (by omega)) ?_
 rintro e2 w2 ⟨qv0, rfl, hg2, hQ2⟩
 have hq2 : ShQ (fun k => k = w.heap.size + 1) w1.heap.size w2 qv0 L := hQ2.shq (fun k hk => by omega)
 have hg02 := grown_trans hg1 hg2
 have hown2 : ∀ k, qv0.ownBlock = some k → w1.heap.size ≤ k := fun k hk => (hq2.lt k hk).1
 have hT2 : TabAt w.heap.size (fun k => qv0.ownBlock = some k ∨ k < w.heap.size) w2 (w.heap.size + 1) P.orders.length (List.replicate P.orders.length []) := (hT1 _).ext hg2
 clear hT1 hQ2 hl0
 -- facts of the box and the orders
 have hbx : ∀ w', Ext w0 w' → w'.cell? ⟨w.heap.size, 0, none⟩ = some (.slice ao P.orders.length capo) ∧ w'.cell? ⟨w.heap.size, 1, none⟩ = some vp6 ∧ w'.cell? ⟨w.heap.size, 2, none⟩ = some vc6 := fun w' h => ⟨h.cell hc0 (by simp), h.cell hc1 (by simp), h.cell hc2 (by simp)⟩
 have HB := Lib.hid hbx; clear hbx hc0 hc1 hc2
 obtain ⟨Q, hQ⟩ : ∃ Q : List Int → Prop, Q = fun x => x = zeros P.orders.length ∨ x ∈ L.reverse := ⟨_, rfl⟩
 have hst : ∃ R, AddInv P Q (gt (List.replicate P.orders.length [])) L.reverse R := by
  rw [hQ]; exact ⟨_, G.addInv_start G.ind_one (fun x hx => HL.out.1 x (List.mem_reverse.1 hx))⟩
 have hQL : genP P Q = genP P (fun x => x ∈ L) := by
  rw [hQ, genP_one]
  congr 1
  funext x
  simp
 have HST := Lib.hid (And.intro hst hQL); clear hst hQL hQ
 go_wp2
 go_loopg [7] (miss (List.replicate P.orders.length ([] : List Int)) P.orders.length * (P.orders.length + 3) + L.length) (fun gk qv wr => ∃ (b q : List (List Int)), gk ≤ 20000 ∧ gk = miss b P.orders.length * (P.orders.length + 3) + q.length ∧ Ext w0 wr ∧
  TabAt w.heap.size (fun k => qv.ownBlock = some k ∨ k < w.heap.size) wr (w.heap.size + 1) P.orders.length b ∧ ShQ (fun k => k = w.heap.size + 1) w1.heap.size wr qv q ∧ Hid (∃ R, AddInv P Q (gt b) q.reverse R))
 case atStart =>
  have hk0 : miss (List.replicate P.orders.length ([] : List Int)) P.orders.length * (P.orders.length + 3) + L.length ≤ 20000 := by
   have h3 : miss (List.replicate P.orders.length ([] : List Int)) P.orders.length * (P.orders.length + 3) ≤ 6 * 9 := Nat.mul_le_mul (by have := miss_le (List.replicate P.orders.length ([] : List Int)) P.orders.length; omega) (by omega)
   omega
  exact ⟨_, L, hk0, rfl, hg02, hT2, hq2, Lib.hid HST.out.1⟩
 case round =>
  clear hT2 hq2 hown2 hg02
  obtain ⟨b, q, hgkb, hgk, hg, hT, hq, hA⟩ := hrel
  have hlb := hT.len
  obtain ⟨hb1, hb2, hb3⟩ := HB.out wr hg
  have hqc : q = [] ∨ ∃ q1 y, q = q1 ++ [y] := by
   rcases List.eq_nil_or_concat q with h | ⟨q1, y, h⟩
   ·exact .inl h
   ·exact .inr ⟨q1, y, by rw [h, List.concat_eq_append]⟩
  rcases hqc with rfl | ⟨q1, y, rfl⟩
  ·obtain ⟨aq, capq, rfl, _⟩ := hq.shape
   have hnk : w.heap.size ≤ wr.heap.size := (grown_trans hg0 hg).size
   have hI : Ind P (genP P Q) (gt b) := by obtain ⟨R, hA⟩ := hA.out; exact G.addInv_end hA
   have HI := Lib.hid hI; clear hI hA
   go_wp2_with fail
   refine Calls.mono (l12FullF_ok P G wr _ _ b (genP P Q) Any _ ⟨_, _, _, rfl, Pres3.ext h36 hg⟩ (hT.rows (by omega)) hlb HI.out (fun k => k < w.heap.size) (fun k hk => ⟨by have := (grown_trans hg0 hg).size; omega, fun e => by rcases e with e | e; omega; exact e.2 (.inr hk)⟩)) ?_
   rintro eF wF ⟨vF, rfl, hgF, hRF⟩
   rw [HST.out.2] at hRF
   obtain ⟨aR, capR, rfl, _⟩ := hRF.shape
   go_wp2
   go_ret
   exact ⟨_, rfl, grown_trans hg0 (grown_trans hg hgF), hRF.weak hnk⟩
  ·obtain ⟨aq, capq, rfl, _⟩ := hq.shape
   obtain ⟨k1, hk1⟩ : ∃ k1, k1 = q1.length := ⟨_, rfl⟩
   obtain ⟨gq, off, u, rfl, hgB, hglt, hcell, hyI⟩ := ShQ.head hq q1.length (by simp)
   rw [gt_concat] at hyI
   have hcap : k1 ≤ capq := by
    obtain ⟨vs, hvl, hqo, _⟩ := hq
    rcases hqo with ⟨h, _⟩ | ⟨g, o, cp, cur, hv, _, _, h1, _⟩
    ·simp at h
    ·simp only [Value.slice.injEq] at hv
     obtain ⟨_, _, rfl⟩ := hv
     simp at hvl; omega
   have hq1 := hq.init
   rw [← hk1] at hcell hq1
   have hml : (q1 ++ [y]).length = k1 + 1 := by simp [hk1]
   obtain ⟨m, hm⟩ : ∃ m, m = (q1 ++ [y]).length := ⟨_, rfl⟩
   rw [← hm] at hml hgk ⊢
   have hyV : Vec P.orders y := by obtain ⟨R, hA⟩ := hA.out; exact hA.vec _ (hA.que _ (by simp))
   have htab : ∀ d, d < P.orders.length → gt b d ≠ [] → T P d (gt b d) ∧ gt (gt b d) d = 1 := by obtain ⟨R, hA⟩ := hA.out; exact fun d hd h => (hA.tab d hd h).2
   have hA1 : ∃ R, AddInv P Q (gt b) (y :: q1.reverse) R := by
    obtain ⟨R, hA⟩ := hA.out
    rw [List.reverse_append] at hA
    exact ⟨R, hA⟩
   obtain ⟨ay, capy, hvy, _, _⟩ := hyI.shape
   rw [hyV.1] at hvy
   subst hvy
   have HY := Lib.hid (And.intro hyV (And.intro htab (And.intro hA1 (And.intro hk1 hgk)))); clear hyV htab hA1 hA hk1 hgk
   have hmb : m ≤ 20000 := by have := HY.out.2.2.2.2; omega
   have hmi : (0 : Int) < m := by omega
   have hwm : IntKind.i64.wrap ((m : Int) - 1) = (k1 : Int) := by rw [show (m : Int) - 1 = (k1 : Int) by omega]; exact IntWalk.i64_in _ (by omega)
   have hkm : (k1 : Int) < m := by omega
   have hk0 : (0 : Int) ≤ k1 := by omega
   have hrt := run_head_rows wr (some ⟨gq, off, none⟩) m capq (k1 : Int) hk0 (by omega)
   rw [show ((k1 : Int)).toNat = k1 by omega] at hrt
   have HM := Lib.hid (And.intro hml hm); clear hml hm
   have hTr := hT.rows (by omega)
   go_wp2_with fail
   refine Calls.mono (l12Strip_ok P G wr _ _ _ b y Any _ _ ⟨_, _, _, rfl, Pres3.ext h36 hg⟩ hTr hyI HY.out.1 hlb HY.out.2.1) ?_
   rintro eS wS ⟨vS, rfl, hgS, d, rv, Y, rfl, hOY, hSY, hdn, hdY⟩
   have hYV := hSY.vec.1
   have hYi := hOY.ints (by rw [hYV.1]; omega)
   have hA2 : ∃ R, AddInv P Q (gt b) (Y :: q1.reverse) R := by
    obtain ⟨R, hA⟩ := HY.out.2.2.1
    exact hSY.inv _ _ _ hA
   obtain ⟨ar, capr, hvr, _, _⟩ := hYi.shape
   rw [hYV.1] at hvr
   subst hvr
   have hgT := grown_trans hg hgS
   have hqS := hq1.ext hgS
   have hTS : TabAt w.heap.size (fun k => (Value.slice (some ⟨gq, off, none⟩) k1 capq).ownBlock = some k ∨ k < w.heap.size) wS (w.heap.size + 1) P.orders.length b := hT.ext hgS
   have HLB := Lib.hid hlb
   clear hT hq hq1 hTr hyI hcell hrt hwm hb1 hb2 hb3 hlb
   have hT0 := hSY.vec
   have HA2 := Lib.hid (And.intro hA2 (And.intro hT0 hYV)); clear hA2 hT0 hYV hSY
   by_cases hd : d = P.orders.length
   ·have hY0 : Y = zeros P.orders.length := T.top hP (by rw [← hd]; exact HA2.out.2.1)
    have hA3 : Hid (∃ R, AddInv P Q (gt b) q1.reverse R) := by
     obtain ⟨R, hA⟩ := HA2.out.1
     exact Lib.hid ⟨R, addInv_drop hA hY0⟩
    clear hdY hY0
    subst hd
    go_wp2
    go_roundg (gk - 1)
    case measure => have := HY.out.2.2.2.2; omega
    case rel => exact ⟨b, q1, by omega, by have := HY.out.2.2.2.2; have := HY.out.2.2.2.1; have := HM.out.1; omega, hgT, hTS, hqS, hA3⟩
   ·have hdl : d < P.orders.length := by omega
    obtain ⟨hy0, hbd⟩ := hdY hdl
    clear hdY
    have hdi : ((d : Int) == (P.orders.length : Int)) = false := by simp; omega
    have hYV := HA2.out.2.2
    have ho := hP.ord7 d hdl
    have hpr := hP.ord d hdl
    have hyd := hYV.2 d hdl
    obtain ⟨br, or_, rfl, _, _, hcr⟩ := Ints.at hYi d (by rw [hYV.1]; exact hdl)
    obtain ⟨bo, oo, rfl, _, _, hco⟩ := Ints.at (Ints.ext h36.o hgT) d hdl
    have hyd1 : 1 ≤ gt Y d := by omega
    have HD := Lib.hid (And.intro hbd (And.intro hpr (And.intro hy0 hd))); clear hbd hpr hy0 hd
    have hd0 : (0 : Int) ≤ d := by omega
    have hdn' : (d : Int) < P.orders.length := by omega
    have e1 : ∀ w', Ext wS w' → w'.cell? ⟨w.heap.size, 0, none⟩ = some (.slice (some ⟨bo, oo, none⟩) P.orders.length capo) := fun w' h => (HB.out w' (grown_trans hgT h)).1
    have e2 : ∀ w', Ext wS w' → w'.cell? ⟨w.heap.size, 1, none⟩ = some vp6 := fun w' h => (HB.out w' (grown_trans hgT h)).2.1
    have e3 : ∀ w', Ext wS w' → w'.cell? ⟨w.heap.size, 2, none⟩ = some vc6 := fun w' h => (HB.out w' (grown_trans hgT h)).2.2
    have e4 : ∀ w', Ext wS w' → w'.cell? ⟨br, or_ + d, none⟩ = some (.int .i64 (gt Y d)) := fun w' h => h.cell hcr (by simp)
    have e5 : ∀ w', Ext wS w' → w'.cell? ⟨bo, oo + d, none⟩ = some (.int .i64 (gt P.orders d)) := fun w' h => h.cell hco (by simp)
    clear hcr hco
    go_wp2
    go_region_held3 (fun w' => Ext wS w') (first | exact grown_drew _ _ | assumption)
     (first
      | (go_at_call 114; refine Calls.mono (Calls.rel (w0 := wS) (by first | exact grown_drew _ _ | assumption) (l01Inv_ok (gt Y d) (gt P.orders d) _ HD.out.2.1 hyd1 hyd.2)) ?_; rintro eI wI ⟨vI, rfl, hgI, hsI, kk, rfl, hk1', hk2', hkk⟩; have HK := Lib.hid hkk; clear hkk)
      | (go_at_call 113; refine Calls.mono (Calls.rel (w0 := wS) (by assumption) (l10Pow_ok P G _ _ _ Y _ Any Any ⟨_, _, _, rfl, Pres3.ext (Pres3.ext h36 hgT) (by assumption)⟩ (Ints.sub (Ints.ext hYi (by assumption)) (fun _ _ _ => trivial)) hYV (by omega))) ?_; rintro eZ wZ ⟨zv, rfl, hgZ, hsZ, hOZ⟩))
    clear e1 e2 e3 e4 e5
    rw [pwZ_nat _ _ _ hk1'] at hOZ
    obtain ⟨Z, hZ⟩ : ∃ Z, Z = pw P Y kk.toNat := ⟨_, rfl⟩
    rw [← hZ] at hOZ
    have hZV : Vec P.orders Z := by rw [hZ]; exact G.pw_vec hYV _
    have hZl : Z.length = P.orders.length := hZV.1
    have hZne : Z ≠ [] := fun h => by rw [h] at hZl; simp at hZl; omega
    have hgwZ := grown_trans hgT hgZ
    have hszS := hgS.size
    have hZI : Ints (fun k => k ≠ w.heap.size + 1 ∧ ¬ ((Value.slice (some ⟨gq, off, none⟩) k1 capq).ownBlock = some k ∨ k < w.heap.size)) wZ zv Z := ints_of_own hOZ (by omega) (fun k hk => by
     have h1 := (hOZ.lt k hk).1
     exact ⟨by omega, fun e => e.elim (fun e => by have := own_blk e; omega) (fun e => by omega)⟩)
    obtain ⟨az, capz, hvz, _, _⟩ := hZI.shape
    rw [hZl] at hvz
    subst hvz
    obtain ⟨hT5, hg5⟩ := (hTS.ext hgZ).put d hZI hZne
    obtain ⟨hfr, hcc⟩ := (hTS.ext hgZ).at d hdl
    have hcd : wZ.cell? ⟨w.heap.size + 1, d, none⟩ = some (.slice none 0 0) := hcc.elim (fun h => h.2) (fun h => absurd HD.out.1 h.1)
    have hfar : ∀ (S : Nat → Prop) k, (k ≠ w.heap.size + 1 ∧ S k) → k < wZ.heap.size → (k ≠ w.heap.size + 1 ∧ S k) ∧ k < (wZ.setCell ⟨w.heap.size + 1, d, none⟩ (.slice az P.orders.length capz)).heap.size ∧ (wZ.setCell ⟨w.heap.size + 1, d, none⟩ (.slice az P.orders.length capz)).heap[k]? = wZ.heap[k]? := fun S k hk hlt => ⟨hk, Nat.lt_of_lt_of_le hlt hg5.size, hg5.block k hlt (fun e => hk.1 (by cases e; rfl))⟩
    have hZ5 := Ints.sub (Ints.mono hZI (hfar _)) (S' := fun k => k ≠ w.heap.size + 1 ∧ ¬ ((Value.slice (some ⟨gq, off, none⟩) k1 capq).ownBlock = some k)) (fun k hk _ => ⟨hk.1, fun e => hk.2 (.inl e)⟩)
    have hr5 : Ints (fun k => k ≠ w.heap.size + 1 ∧ ¬ ((Value.slice (some ⟨gq, off, none⟩) k1 capq).ownBlock = some k)) (wZ.setCell ⟨w.heap.size + 1, d, none⟩ (.slice az P.orders.length capz)) (.slice (some ⟨br, or_, none⟩) P.orders.length capr) Y := Ints.mono (ints_of_own (hOY.ext0 hgZ) (by rw [hYV.1]; omega) (fun k hk => by
     have h1 := ((hOY.ext0 hgZ).lt k hk).1
     exact ⟨by omega, fun e => by have := own_blk e; omega⟩)) (hfar _)
    have hq5 : ShQ (fun k => k = w.heap.size + 1) w1.heap.size (wZ.setCell ⟨w.heap.size + 1, d, none⟩ (.slice az P.orders.length capz)) (.slice (some ⟨gq, off, none⟩) k1 capq) q1 := (hqS.ext hgZ).kept hg5.size (fun j hj hc => hg5.block j hj (fun e => by
     have e := Option.some.inj e
     subst e
     rcases hc with hc | hc
     ·have := own_blk hc; omega
     ·exact hc rfl)) (fun _ _ h => h)
    have hgw5 : Ext w0 (wZ.setCell ⟨w.heap.size + 1, d, none⟩ (.slice az P.orders.length capz)) := grown_own hgwZ hg5 (fun j hj hlt => by cases hj; have := HS.out; omega)
    have hqown : ∀ k, (Value.slice (some ⟨gq, off, none⟩) k1 capq).ownBlock = some k → w1.heap.size ≤ k := fun k hk => by have := own_blk hk; omega
    have HZ := Lib.hid (And.intro hZ (And.intro hZV (And.intro hZl hZne))); clear hZ hZV hZl hZne hcc hTS hqS hOZ hOY hZI
    have hq1l : q1.length ≤ 20000 := by have := HY.out.2.2.2.1; omega
    generalize hw5 : wZ.setCell ⟨w.heap.size + 1, d, none⟩ (.slice az P.orders.length capz) = w5 at *
    have hs5 : w1.heap.size ≤ w5.heap.size := by have := hgw5.size; have := hg5.size; have := hgZ.size; omega
    go_wp2_with (first | (at_builtin; refine wp_shq_app rfl _ _ rfl (fun k => k = w.heap.size + 1) w1.heap.size _ _ q1 Y rfl w5 hq5 rfl hr5 rfl (by omega) hs5 ?_; intro v6 w6 hq6 hg6 hb6; have hgw6 := grown_own hgw5 hg6 (fun j hj hlt => by have := hqown j hj; have := HS.out; omega)) | fail)
    have hT6 := tab_keptF hT5 hqown hgb1 hg6 hb6
    have hZ6 : Ints (fun k => ¬ (k = w.heap.size + 1) ∧ v6.ownBlock ≠ some k) w6 (.slice az P.orders.length capz) Z := Ints.mono hZ5 (q_kept (bad := fun k => k = w.heap.size + 1) hg6 hb6)
    have hs6 : w1.heap.size ≤ w6.heap.size := by have := hg6.size; omega
    have hqlt6 : ∀ k, v6.ownBlock = some k → w1.heap.size ≤ k := fun k hk => (hq6.lt k hk).1
    clear hw5 hfar hT5 hg5 hZ5 hr5 hq5 hg6 hb6 hfr hcd hqown
    have hTV : Vec P.orders (pw P Z (gt P.orders d).toNat) := G.pw_vec HZ.out.2.1 _
    have hTl : (pw P Z (gt P.orders d).toNat).length ≤ 6 := by rw [hTV.1]; omega
    have hTe : pwZ P Z (gt P.orders d) = pw P Z (gt P.orders d).toNat := pwZ_nat _ _ _ (by omega)
    have HTV := Lib.hid (And.intro hTl hTe); clear hTl hTe hTV
    have e1 : ∀ w', Ext w0 w' → w'.cell? ⟨w.heap.size, 0, none⟩ = some (.slice (some ⟨bo, oo, none⟩) P.orders.length capo) := fun w' h => (HB.out w' h).1
    have e2 : ∀ w', Ext w0 w' → w'.cell? ⟨w.heap.size, 1, none⟩ = some vp6 := fun w' h => (HB.out w' h).2.1
    have e3 : ∀ w', Ext w0 w' → w'.cell? ⟨w.heap.size, 2, none⟩ = some vc6 := fun w' h => (HB.out w' h).2.2
    obtain ⟨_, _, hbb, _, _, hco⟩ := Ints.at h36.o d hdl
    have e5 : ∀ w', Ext w0 w' → w'.cell? ⟨bo, oo + d, none⟩ = some (.int .i64 (gt P.orders d)) := fun w' h => h.cell (by cases hbb; exact hco) (by simp)
    clear hco hbb
    go_region_held3 (fun w' => Ext w0 w') (first | exact grown_trans hgw6 (grown_drew _ _) | assumption | exact grown_trans hgwT (World.grownBy_alloc _ _ _))
     (first
      | (go_at_call 113; refine Calls.mono (Calls.rel2 (w0 := w6) (grown_drew _ _) (l10Pow_ok P G _ _ _ Z (gt P.orders d) Any _ ⟨_, _, _, rfl, Pres3.ext h36 (grown_trans hgw6 (grown_drew _ _))⟩ (hZ6.ext (grown_drew _ _)) HZ.out.2.1 (by omega))) ?_; rintro eT wT ⟨vT, rfl, hgT6, hgT7, hsT, hOT⟩; have hgwT := grown_trans hgw6 hgT6; rw [HTV.out.2] at hOT; have hTI : Ints (fun k => ¬ (k = w.heap.size + 1) ∧ v6.ownBlock ≠ some k) wT vT (pw P Z (gt P.orders d).toNat) := ints_of_own hOT (by have := HTV.out.1; omega) (fun k hk => by
        have h1 := (hOT.lt k hk).1
        have h3 := hgw6.size
        exact ⟨by omega, fun e => by have := (hq6.lt k e).2; omega⟩); obtain ⟨aT, capT, hvT, _, _⟩ := hTI.shape; subst hvT)
      | (refine step_shq_app rfl _ _ rfl (fun k => k = w.heap.size + 1) w1.heap.size v6 _ (q1 ++ [Y]) _ rfl wT (hq6.ext hgT6) rfl hTI rfl (by simp; omega) (by have := hgT6.size; omega) ?_; intro v7 w7 hq7 hg7 hb7; have hgw7 := grown_own hgwT hg7 (fun j hj hlt => by have := hqlt6 j hj; have := HS.out; omega)))
    clear e1 e2 e3 e5
    have hs7 : w1.heap.size ≤ w7.heap.size := by have := hg7.size; have := hgT6.size; omega
    have hT7 := tab_keptF (hT6.ext hgT6) hqlt6 hgb1 hg7 hb7
    have hZ7 : Ints (fun k => ¬ (k = w.heap.size + 1) ∧ v7.ownBlock ≠ some k) w7 (.slice az P.orders.length capz) Z := Ints.mono (hZ6.ext hgT6) (q_kept (bad := fun k => k = w.heap.size + 1) hg7 hb7)
    obtain ⟨T1, hT1e⟩ : ∃ T1, T1 = pw P Z (gt P.orders d).toNat := ⟨_, rfl⟩
    rw [← hT1e] at hq7
    have HT1 := Lib.hid hT1e; clear hT1e hq6 hT6 hZ6 hqlt6 hTI hOT hg7 hb7
    go_wp2
    go_loopw [7, 12] (fun qv ev wr2 => ∃ (e : Nat) (v8 : Value), v8 = qv ∧ ev = .int .i64 e ∧ e ≤ P.orders.length ∧ w1.heap.size ≤ wr2.heap.size ∧ Ext w0 wr2 ∧ TabAt w.heap.size (fun j => v8.ownBlock = some j ∨ j < w.heap.size) wr2 (w.heap.size + 1) P.orders.length (b.set d Z) ∧
     ShQ (fun k => k = w.heap.size + 1) w1.heap.size wr2 v8 (q1 ++ [Y] ++ [T1] ++ comsR P b Z e) ∧ Ints (fun j => ¬ (j = w.heap.size + 1) ∧ v8.ownBlock ≠ some j) wr2 (.slice az P.orders.length capz) Z) (fun _ ev _ => P.orders.length - (intOf ev).toNat)
    case atStart => exact ⟨0, v7, rfl, rfl, by omega, hs7, hgw7, hT7, by simpa [comsR] using hq7, hZ7⟩
    case round =>
     obtain ⟨e, v8, rfl, rfl, he, hs8, hg8, hT8, hq8, hZ8⟩ := hrel
     clear hT7 hq7 hZ7
     have hqlt8 : ∀ j, v8.ownBlock = some j → w1.heap.size ≤ j := fun j hj => (hq8.lt j hj).1
     by_cases he2 : e < P.orders.length
     ·have he' : (e : Int) < P.orders.length := by omega
      have he0 : (0 : Int) ≤ e := by omega
      by_cases hed : e = d
      ·have hcs : comsR P b Z (e + 1) = comsR P b Z e := by simp only [comsR]; rw [if_pos (by rw [hed]; exact HD.out.1), List.append_nil]
       have hne : ((e : Int) != (d : Int)) = false := by simp [hed]
       have HC := Lib.hid hcs; clear hcs hed
       go_wp2
       go_roundw
       case rel => exact ⟨e + 1, v8, rfl, by go_num, by omega, hs8, hg8, hT8, by rw [HC.out]; exact hq8, hZ8⟩
       case measure => simp [intOf]; omega
      ·have hne : ((e : Int) != (d : Int)) = true := by simp; omega
       have hbe : gt (b.set d Z) e = gt b e := gt_set_ne _ _ _ _ (fun h => hed h.symm)
       obtain ⟨_, hcc⟩ := hT8.at e he2
       rw [hbe] at hcc
       clear hbe hed
       rcases hcc with ⟨h0, hcell⟩ | ⟨hnn, ab, capb, hcell, hbI⟩
       ·have hcs : comsR P b Z (e + 1) = comsR P b Z e := by simp only [comsR]; rw [if_pos h0, List.append_nil]
        have HC := Lib.hid hcs; clear hcs h0
        go_wp2
        go_roundw
        case rel => exact ⟨e + 1, v8, rfl, by go_num, by omega, hs8, hg8, hT8, by rw [HC.out]; exact hq8, hZ8⟩
        case measure => simp [intOf]; omega
       ·have hcs : comsR P b Z (e + 1) = comsR P b Z e ++ [comR P Z (gt b e)] := by simp only [comsR]; rw [if_neg hnn]
        have hbV := (HY.out.2.1 e he2 hnn).1.1
        have hcV : Vec P.orders (comR P Z (gt b e)) := G.mulV (G.invV (G.mulV hbV HZ.out.2.1)) (G.mulV HZ.out.2.1 hbV)
        have hbl : (0 : Int) < (gt b e).length := by
         have : 0 < (gt b e).length := List.length_pos_iff.2 hnn
         omega
        have hcl := comsR_len P b Z e
        have HC := Lib.hid (And.intro hcs (And.intro hbV (And.intro hcV hcl))); clear hcs hbV hcV hcl hnn
        have hgbl : w.heap.size + 1 < wr.heap.size := by have := hT8.lt; omega
        go_wp2
        have e1 : ∀ w', HeldB w0 wr (w.heap.size + 1) w' → w'.cell? ⟨w.heap.size, 0, none⟩ = some (.slice (some ⟨bo, oo, none⟩) P.orders.length capo) := fun w' h => (HB.out w' h.1).1
        have e2 : ∀ w', HeldB w0 wr (w.heap.size + 1) w' → w'.cell? ⟨w.heap.size, 1, none⟩ = some vp6 := fun w' h => (HB.out w' h.1).2.1
        have e3 : ∀ w', HeldB w0 wr (w.heap.size + 1) w' → w'.cell? ⟨w.heap.size, 2, none⟩ = some vc6 := fun w' h => (HB.out w' h.1).2.2
        have e4 : ∀ w', HeldB w0 wr (w.heap.size + 1) w' → w'.cell? ⟨w.heap.size + 1, e, none⟩ = some (.slice (some ab) (gt b e).length capb) := fun w' h => h.cell hcell
        clear hcell
        go_region_held3 (fun w' => HeldB w0 wr (w.heap.size + 1) w') (first | exact heldB_ext hg8 hgbl (grown_drew _ _) | assumption | exact heldB_ext hg8 hgbl hgC | exact heldB_ext hg8 hgbl (grown_trans hgC (World.grownBy_alloc _ _ _)))
         (first
          | (go_at_call 115; refine Calls.mono (Calls.rel2 (w0 := wr) (grown_drew _ _) (l10Comm_ok P G _ _ _ _ Z (gt b e) Any _ _ ⟨_, _, _, rfl, Pres3.ext h36 (grown_trans hg8 (grown_drew _ _))⟩ (hZ8.ext (grown_drew _ _)) (Ints.ext hbI (grown_drew _ _)) HZ.out.2.1 HC.out.2.1)) ?_; rintro eC wC ⟨vC, rfl, hgC, hgC2, hsC, hOC⟩; have hCI : Ints (fun k => ¬ (k = w.heap.size + 1) ∧ v8.ownBlock ≠ some k) wC vC (comR P Z (gt b e)) := ints_of_own hOC (by rw [HC.out.2.2.1.1]; omega) (fun k hk => by
            have h1 := (hOC.lt k hk).1
            exact ⟨by omega, fun e => by have := (hq8.lt k e).2; omega⟩); obtain ⟨aC, capC, hvC, _, _⟩ := hCI.shape; subst hvC)
          | (refine step_shq_app rfl _ _ rfl (fun k => k = w.heap.size + 1) w1.heap.size v8 _ (q1 ++ [Y] ++ [T1] ++ comsR P b Z e) _ rfl wC (hq8.ext hgC) rfl hCI rfl (by have := HC.out.2.2.2; simp; omega) (by have := hgC.size; omega) ?_; intro v9 w9 hq9 hg9 hb9; have hH9 : HeldB w0 wr (w.heap.size + 1) w9 := ⟨grown_own (grown_trans hg8 hgC) hg9 (fun j hj hlt => by have := hqlt8 j hj; have := HS.out; omega), (hg9.block _ (by have := hgC.size; omega) (fun e => by have := hqlt8 _ e.symm; omega)).trans (hgC.block _ hgbl (by simp))⟩))
        clear e1 e2 e3 e4
        have hs9 : w1.heap.size ≤ w9.heap.size := by have := hg9.size; have := hgC.size; omega
        have hT9 := tab_keptF (hT8.ext hgC) hqlt8 hgb1 hg9 hb9
        have hZ9 : Ints (fun k => ¬ (k = w.heap.size + 1) ∧ v9.ownBlock ≠ some k) w9 (.slice az P.orders.length capz) Z := Ints.mono (hZ8.ext hgC) (q_kept (bad := fun k => k = w.heap.size + 1) hg9 hb9)
        clear hq8 hT8 hZ8 hg9 hb9 hCI hOC
        go_wp2
        go_roundw
        case rel => exact ⟨e + 1, v9, rfl, by go_num, by omega, hs9, hH9.1, hT9, by rw [HC.out.1, ← List.append_assoc]; exact hq9, hZ9⟩
        case measure => simp [intOf]; omega
     ·have hee : e = P.orders.length := by omega
      subst hee
      have hms := miss_set (b := b) (z := Z) HD.out.1 HZ.out.2.2.2 P.orders.length (by rw [HLB.out]; exact Nat.le_refl _)
      rw [if_pos hdl] at hms
      have hcl := comsR_len P b Z P.orders.length
      have hll : (q1 ++ [Y] ++ [T1] ++ comsR P b Z P.orders.length).length ≤ q1.length + 2 + P.orders.length := by simp; omega
      have hmul : miss b P.orders.length * (P.orders.length + 3) = miss (b.set d Z) P.orders.length * (P.orders.length + 3) + (P.orders.length + 3) := by rw [← hms, Nat.add_mul, Nat.one_mul]
      have hA5 : Hid (∃ R, AddInv P Q (gt (b.set d Z)) (q1 ++ [Y] ++ [T1] ++ comsR P b Z P.orders.length).reverse R) := by
       obtain ⟨R, hA⟩ := HA2.out.1
       have hst := G.close_step (q' := (q1 ++ [Y] ++ [T1] ++ comsR P b Z P.orders.length).reverse) hA hdl HA2.out.2.1 HD.out.1 HLB.out kk hk1' HK.out (fun x => by
        rw [← HZ.out.1, ← HT1.out]
        simp only [List.mem_reverse, List.mem_append, List.mem_singleton, or_assoc])
       rw [← HZ.out.1] at hst
       exact Lib.hid hst
      have hlt5 : miss (b.set d Z) P.orders.length * (P.orders.length + 3) + (q1 ++ [Y] ++ [T1] ++ comsR P b Z P.orders.length).length < gk := by
       have := HY.out.2.2.2.2; have := HY.out.2.2.2.1; have := HM.out.1; omega
      have HX := Lib.hid (And.intro hll (And.intro hlt5 (And.intro hmul hms))); clear hll hmul hms hlt5 hcl hZ8
      go_wp2
      go_roundg (miss (b.set d Z) P.orders.length * (P.orders.length + 3) + (q1 ++ [Y] ++ [T1] ++ comsR P b Z P.orders.length).length)
      case measure => exact HX.out.2.1
      case rel => exact ⟨b.set d Z, _, by have := HX.out.2.1; omega, rfl, hg8, hT8, hq8, hA5⟩
theorem l12Close_ok (P : Pr) (G : Grp P) (w : World) (pv lv : Value) (L : List (List Int)) (Sp Sr : Nat → Prop) (hpv : PresV Sp w pv P) (hl : Rows2 Sr w lv L) (hL : ∀ x ∈ L, Vec P.orders x) (hlen : L.length ≤ 10000) :
  Calls Tryz.prog 64 #[pv, lv] w (Ret w fun w' v => Rows2 Any w' v (cseq P (genP P (fun x => x ∈ L)))) :=
 (l12CloseF_ok P G w pv lv L Sp Sr hpv hl hL hlen).mono (fun _ _ ⟨v, he, hg, h⟩ => ⟨v, he, hg, h.rows⟩)
end Go.Proofs.YtdklekdpdbjfiaaGreat
