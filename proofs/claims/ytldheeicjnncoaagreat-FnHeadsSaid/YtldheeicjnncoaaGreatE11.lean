/-
  Drawing: spec.l07Meta.
  Drawing: spec.l07Heisenberg.
  Drawing: spec.l07Affine (printed by gen_aff.py).
  Drawing: spec.l07Family (printed by gen_family.py).
  append of a whole list of rows, in a region that draws; l01Own2 hands back a list that is not nil.
  append of a list of integers onto a list of the call's own, in a region that draws.
-/
import Derived.Test.YtldheeicjnncoaaGreatE1
import Derived.Test.YtldheeicjnncoaaGreatE10
import Derived.Test.YtldheeicjnncoaaGreatE6
import Derived.Test.YtldheeicjnncoaaGreatE7
import Derived.Test.YtldheeicjnncoaaGreatE9
import Derived.Deep.RegionHeld3
namespace Go.Proofs.YtldheeicjnncoaaGreat
open Go.RowKit
attribute [local go_sem ↓] Go.wp_at_zero Go.wp_at_succ

theorem i64_succ (i : Nat) (h : i < 100000) : IntKind.i64.wrap ((i : Int) + 1) = (i : Int) + 1 := IntWalk.i64_in _ (by omega)
theorem w64_succ (i : Nat) (h : i < 100000) : wrap64 ((i : Int) + 1) = (i : Int) + 1 := IntWalk.wrap64_in _ (by omega)
theorem i64_sp (k : Nat) (h : k < 100000) : IntKind.i64.wrap (((k + 1 : Nat) : Int) - 1) = (k : Int) := by
  rw [show ((k + 1 : Nat) : Int) - 1 = (k : Int) by omega]; exact IntWalk.i64_in _ (by omega)
theorem w64_sp (k : Nat) (h : k < 100000) : wrap64 (((k + 1 : Nat) : Int) - 1) = (k : Int) := by
  rw [show ((k + 1 : Nat) : Int) - 1 = (k : Int) by omega]; exact IntWalk.wrap64_in _ (by omega)

set_option maxRecDepth 100000 in
set_option maxHeartbeats 4000000 in
theorem l07Meta_ok (w : World) (n m r s : Int) (hn : 1 ≤ n ∧ n ≤ 729) (hm : 1 ≤ m ∧ m ≤ 729) (hr : 0 ≤ r ∧ r < 30000) (hs : 0 ≤ s ∧ s ≤ 1000000000) :
    Calls Tryz.prog 261 #[.int .i64 n, .int .i64 m, .int .i64 r, .int .i64 s] w (Ret w (PresN 18 w.heap.size)) := by
  obtain ⟨n, rfl⟩ := Int.eq_ofNat_of_zero_le (show 0 ≤ n by omega)
  obtain ⟨m, rfl⟩ := Int.eq_ofNat_of_zero_le (show 0 ≤ m by omega)
  have hz0 : ∀ w', Ext (w.alloc (.cells #[.slice none 0 0, .slice none 0 0, .slice none 0 0] 28)) w' → Box3 w' w.heap.size (.slice none 0 0) (.slice none 0 0) (.slice none 0 0) := fun w' h => (Box3.made w 28 _ _ _).ext h
  have hg0 : Ext w (w.alloc (.cells #[.slice none 0 0, .slice none 0 0, .slice none 0 0] 28)) := World.grownBy_alloc _ _ _
  have hs0 : (w.alloc (.cells #[.slice none 0 0, .slice none 0 0, .slice none 0 0] 28)).heap.size = w.heap.size + 1 := by simp
  have hp0 : 0 ≤ r % (m : Int) := Int.emod_nonneg _ (by omega)
  have hp1 : r % (m : Int) < m := Int.emod_lt_of_pos _ (by omega)
  obtain ⟨pw, hpw⟩ : ∃ pw, pw = r % (m : Int) := ⟨_, rfl⟩
  rw [← hpw] at hp0 hp1
  have hm0 : (m : Int) ≠ 0 := by omega
  have HN := Lib.hid (And.intro hn (And.intro hm (And.intro hs (And.intro hz0 (And.intro hs0 (And.intro hp0 hp1)))))); clear hn hz0 hs0 hp0 hp1 hs hm
  go_enter Tryz.func261, Tryz.ntmps261
  go_wp2_with fail
  generalize w.alloc (.cells #[.slice none 0 0, .slice none 0 0, .slice none 0 0] 28) = w0 at *
  refine Calls.mono (l07Factors_ok w0 n (by have := HN.out.1; omega)) ?_
  rintro e1 w1 ⟨v1, rfl, hg1, a1, c1, t, r1, rfl, hO1, ht9, htx⟩
  go_wp2_with fail
  refine Calls.mono (l07Factors_ok w1 m (by have := HN.out.2.1; omega)) ?_
  rintro e2 w2 ⟨v2, rfl, hg2, a2, c2, b, r2, rfl, hO2, hb9, hbx⟩
  go_wp2_with fail
  refine Calls.mono (l01Own_ok w2 _ t _ (Ints.ext (hO1.ints (by omega)) hg2) (by omega)) ?_
  rintro e3 w3 ⟨v3, rfl, hg3, hO3⟩
  go_wp2_with (at_builtin; refine wp_app_ints rfl _ _ rfl w2.heap.size v3 t rfl hO3 _ b rfl _ (Ints.ext (hO2.ints (by omega)) hg3) (by omega) hg3.size ?_; intro v4 w4 hO4 hg4 _)
  have hg24 : Ext w2 w4 := grown_own hg3 hg4 (fun j hj hlt => by have := (hO3.lt j hj).1; omega)
  obtain ⟨o, ho⟩ : ∃ o, o = t ++ b := ⟨_, rfl⟩
  rw [← ho] at hO4
  have hol : o.length = t.length + b.length := by rw [ho]; simp
  have hox : ∀ i, i < o.length → 1 ≤ gt o i ∧ gt o i ≤ 7 := fun i hi => by
    have hmem : gt o i ∈ t ++ b := by rw [← ho, gt_eq o i hi]; exact List.getElem_mem hi
    rcases List.mem_append.1 hmem with h | h
    · have := htx _ h; omega
    · have := hbx _ h; omega
  clear ho
  have HT := Lib.hid (And.intro hol (And.intro hox (And.intro htx (And.intro ht9 hb9)))); clear hol hox htx hbx hb9 ht9
  have ho18 : o.length ≤ 18 := by have := HT.out; omega
  have htk : t.length ≤ o.length := by have := HT.out; omega
  obtain ⟨a4, c4, hv4, _⟩ := (hO4.ints (by omega)).shape
  subst hv4
  have hs4 := hg24.size
  have hOi : Ints Any w4 (.slice a4 o.length c4) o := (hO4.ints (by omega)).sub (fun _ _ _ => trivial)
  refine Calls.mono (l07Trivial_ok w4 _ o _ hOi (by omega)) ?_
  rintro e5 w5 ⟨v5, rfl, hg5, vo, vp, vc, rfl, hX5⟩
  obtain ⟨ao, co, ap, cp, ac, cc, rfl, rfl, rfl⟩ := trivX_shape hX5
  go_wp2_with fail
  have hgA : Ext w5 (w5.alloc (.cells #[.slice ao o.length co, .slice ap o.length cp, .slice ac o.length cc] 28)) := World.grownBy_alloc _ _ _
  have hX := BX.start (N := 18) (B := w4.heap.size) (by omega) hX5 hgA (Box3.made w5 28 (.slice ao o.length co) (.slice ap o.length cp) (.slice ac o.length cc)) hg5.size
  have hs5 := hg5.size
  generalize w5.alloc (.cells #[.slice ao o.length co, .slice ap o.length cp, .slice ac o.length cc] 28) = w6 at *
  have hg6 : Ext w4 w6 := grown_trans hg5 hgA
  have hg04 : Ext w0 w4 := grown_trans hg1 (grown_trans hg2 hg24)
  have ht6 : Ints Any w1 (.slice a1 t.length c1) t := (hO1.ints (by omega)).sub (fun _ _ _ => trivial)
  have hgt : Ext w1 w4 := grown_trans hg2 hg24
  clear hX5 hg5 hO1 hO2 hO3 hO4 hg3 hg4
  go_loopw [16] (fun iv wr => ∃ i : Nat, iv = .int .i64 i ∧ i ≤ o.length ∧ Ext w4 wr ∧ BX 18 o w4.heap.size w5.heap.size wr (.slice ao o.length co) (.slice ap o.length cp) (.slice ac o.length cc)) (fun iv _ => o.length - (intOf iv).toNat)
  case atStart => exact ⟨0, rfl, by omega, hg6, hX⟩
  case round =>
    clear hX hg6
    obtain ⟨i, rfl, hi, hg, hX⟩ := hrel
    by_cases hlt : i + 1 < o.length
    · have hlt' : (i : Int) + 1 < o.length := by omega
      have hi5 : i < 100000 := by omega
      have ht5 : t.length < 100000 := by omega
      by_cases hk : (i : Int) = (t.length : Int) - 1
      · skip
        go_wp2
        go_roundw
        case rel => exact ⟨i + 1, by go_num, by omega, hg, hX⟩
        case measure => simp [intOf]; omega
      · obtain ⟨g, cap, z, hvg, hgB, hgp, hgl, hcc, hst⟩ := hX.storeP i (by omega)
        obtain ⟨rfl, rfl⟩ : ap = some ⟨g, 0, none⟩ ∧ cp = cap := by cases hvg; exact ⟨rfl, rfl⟩
        clear hvg
        have e1 : ∀ w', Near wr g w' → w'.cell? ⟨w5.heap.size, 1, none⟩ = some (.slice (some ⟨g, 0, none⟩) o.length cp) := fun w' h => h.cell hX.box.2.2.1 (by simp; omega)
        have hcon : ∀ w, Calls Tryz.prog 149 #[.int .i64 o.length, .int .i64 ((i : Int) + 1)] w (Ret w fun w' v => Own w.heap.size w' v (unitV o.length (i + 1))) := fun w => by
          have h := l07Unit_ok o.length (i + 1) w (by omega) (by omega)
          rwa [show ((i + 1 : Nat) : Int) = (i : Int) + 1 by omega] at h
        have hul : (unitV o.length (i + 1)).length ≤ 9223372036854775807 := by rw [unitV_len]; omega
        have HX := Lib.hid (And.intro hX (And.intro hst (And.intro hcc hul))); clear hX hst hcc hul
        have hl2 : (i : Int) < o.length := by omega
        go_wp2
        clear hk
        have hwi : IntKind.i64.wrap ((i : Int) + 1) = (i : Int) + 1 := i64_succ _ hi5
        have hwj : wrap64 ((i : Int) + 1) = (i : Int) + 1 := w64_succ _ hi5
        go_region_held3 (fun w' => Near wr g w') (first | exact Near.of (grown_drew _ _) | exact Near.of (by assumption) | exact Near.store (by assumption) | assumption)
          (first
            | (go_at_call 149; refine Calls.mono (Calls.rel (w0 := wr) (by first | exact grown_drew _ _ | assumption) (hcon _)) ?_; rintro eE wE ⟨vE, rfl, hgE, hsE, hOE⟩; obtain ⟨aE, cE, hvE, _⟩ := (hOE.ints HX.out.2.2.2).shape; subst hvE; have hcl := (HX.out.2.2.1 wE hgE).1; have hfr := (HX.out.2.2.1 wE hgE).2))
        clear hwi hwj
        have hsz := hgE.size
        have hX5 := HX.out.2.1 wE _ (unitV o.length (i + 1)) hgE (OwnIn.of hOE (by rw [unitV_len]; omega) (fun k hk _ => Nat.le_trans (by assumption) hk)) (by rw [unitV_len]; omega)
        have hgn : Ext w4 (wE.setCell ⟨g, i, none⟩ (.slice aE (unitV o.length (i + 1)).length cE)) := grown_own (grown_trans hg hgE) (grown_set1 _ _ _ _) (fun j hj hlt => by cases hj; omega)
        clear hcl hfr e1
        go_wp2
        go_roundw
        case rel => exact ⟨i + 1, by go_num, by omega, hgn, hX5⟩
        case measure => simp [intOf]; omega
    · have hlt' : ¬ ((i : Int) + 1 < o.length) := by omega
      have htl18 : t.length ≤ 18 := by omega
      have hmI : (1 : Int) ≤ m ∧ (m : Int) ≤ 729 := HN.out.2.1
      by_cases ht0 : t.length = 0
      · have ht0' : ¬ (0 : Int) < t.length := by omega
        go_wp2
        clear hpw
        generalize hr' : r % (m : Int) = pw' 
        clear hr'
        go_loopw [18] (fun iv wx => iv = .int .i64 0 ∧ wx = wr) (fun _ _ => 0)
        case atStart => exact ⟨rfl, rfl⟩
        case round =>
          obtain ⟨rfl, rfl⟩ := hrel
          have hz := HN.out.2.2.2.1 _ (grown_trans hg04 hg)
          obtain ⟨h0, h1, h2, h3', h4⟩ := id hX.box
          obtain ⟨k0, k1, k2, k3, k4⟩ := id hz
          have hZ := hz.all (.slice ao o.length co) (.slice ap o.length cp) (.slice ac o.length cc)
          have hT := grown_set3 wr w.heap.size (.slice ao o.length co) (.slice ap o.length cp) (.slice ac o.length cc)
          obtain ⟨_, z0, z1, z2, _⟩ := id hZ
          have HQ := Lib.hid (And.intro hT hX); clear hT hZ hX
          go_wp2
          refine bodyPost_ret (v := .agg #[.slice ao o.length co, .slice ap o.length cp, .slice ac o.length cc]) (by simp [results, Tryz.results261, go_sem, z0, z1, z2]) rfl ?_
          have hq1 := HN.out.2.2.2.2.1
          have hq2 := hg04.size
          exact ⟨_, rfl, grown_own (grown_trans hg0 (grown_trans hg04 hg)) HQ.out.1 (fun j hj hlt => by cases hj; omega), (HQ.out.2.ret HQ.out.1 (by omega)).weak (by omega)⟩
      · have ht0' : (0 : Int) < t.length := by omega
        obtain ⟨kt, hkt⟩ : ∃ kt, t.length = kt + 1 := ⟨t.length - 1, by omega⟩
        obtain ⟨g, cap, z, hvg, hgB, hgp, hgl, hcc, hst⟩ := hX.storeP kt (by omega)
        obtain ⟨rfl, rfl⟩ : ap = some ⟨g, 0, none⟩ ∧ cp = cap := by cases hvg; exact ⟨rfl, rfl⟩
        clear hvg
        have e1 : ∀ w', Near wr g w' → w'.cell? ⟨w5.heap.size, 1, none⟩ = some (.slice (some ⟨g, 0, none⟩) o.length cp) := fun w' h => h.cell hX.box.2.2.1 (by simp; omega)
        have hox := HT.out.2.1
        have hdig : ∀ w' (k : Nat) (x : Int), Ext w4 w' → 0 ≤ x → x ≤ 1000000000 → Calls Tryz.prog 318 #[.slice a4 o.length c4, .int .i64 k, .int .i64 x] w' (Ret w' fun w'' r => ∃ l, l.length = o.length ∧ Own w'.heap.size w'' r l) := fun w' k x he h1 h2 =>
          l07Digits_ok w' _ o k x Any (hOi.ext he) (by omega) hox ⟨h1, h2⟩
        have hbig : o.length ≤ 9223372036854775807 := by omega
        have hkl : (kt : Int) < o.length := by omega
        have HX := Lib.hid (And.intro hX (And.intro hst (And.intro hcc (And.intro hdig (And.intro hbig hkt))))); clear hX hst hcc hdig hox hbig hkt
        have hpl := HN.out.2.2.2.2.2
        have hsI := HN.out.2.2.1
        go_wp2
        have hkt2 : kt < 100000 := by omega
        have hkt := HX.out.2.2.2.2.2
        have hwi : IntKind.i64.wrap ((t.length : Int) - 1) = (kt : Int) := by rw [hkt]; exact i64_sp kt hkt2
        have hwj : wrap64 ((t.length : Int) - 1) = (kt : Int) := by rw [hkt]; exact w64_sp kt hkt2
        clear hkt
        go_region_held3 (fun w' => Near wr g w') (first | exact Near.of (grown_drew _ _) | exact Near.of (by assumption) | exact Near.store (by assumption) | assumption)
          (first
            | (go_at_call 318; refine Calls.mono (Calls.rel (w0 := wr) (by first | exact grown_drew _ _ | assumption) (HX.out.2.2.2.1 _ t.length s (grown_trans hg (by first | exact grown_drew _ _ | assumption)) hsI.1 hsI.2)) ?_; rintro eE wE ⟨vE, rfl, hgE, hsE, lE, hlE, hOE⟩; obtain ⟨aE, cE, hvE, _⟩ := (hOE.ints (by rw [hlE]; exact HX.out.2.2.2.2.1)).shape; subst hvE; have hcl := (HX.out.2.2.1 wE hgE).1; have hfr := (HX.out.2.2.1 wE hgE).2))
        clear hwi hwj
        have hsz := hgE.size
        have hX5 := HX.out.2.1 wE _ lE hgE (OwnIn.of hOE (by rw [hlE]; exact HX.out.2.2.2.2.1) (fun k hk _ => Nat.le_trans (by assumption) hk)) (by rw [hlE]; exact ho18)
        have hgn : Ext w4 (wE.setCell ⟨g, kt, none⟩ (.slice aE lE.length cE)) := grown_own (grown_trans hg hgE) (grown_set1 _ _ _ _) (fun j hj hlt => by cases hj; omega)
        rw [hlE] at hX5 hgn
        have hdig := HX.out.2.2.2.1
        have hbig := HX.out.2.2.2.2.1
        have HD := Lib.hid (And.intro hdig hbig); clear hdig hlE hbig HX
        clear hcl hfr e1 hlt hlt' hkl hgB hgp hgl hsI hOE hgE hsz hsE
        go_wp2
        rw [← hpw]
        clear hpw
        clear hi hg
        generalize wE.setCell ⟨g, kt, none⟩ (.slice aE o.length cE) = w7 at *
        go_loopw [17, 18] (fun pv iv wr => ∃ (i : Nat) (p : Int), iv = .int .i64 i ∧ pv = .int .i64 p ∧ i ≤ t.length ∧ 0 ≤ p ∧ p < 30000 ∧ Ext w4 wr ∧ BX 18 o w4.heap.size w5.heap.size wr (.slice ao o.length co) (.slice (some ⟨g, 0, none⟩) o.length cp) (.slice ac o.length cc)) (fun _ iv _ => t.length - (intOf iv).toNat)
        case atStart => exact ⟨0, pw, rfl, rfl, by omega, hpl.1, by have := hpl.2; omega, hgn, hX5⟩
        case round =>
          clear hX5 hgn hpl
          obtain ⟨i, p, rfl, rfl, hi, hp0, hp1, hg, hX⟩ := hrel
          by_cases hlt : i < t.length
          · have hlt' : (i : Int) < t.length := by omega
            obtain ⟨wo, hwo⟩ : ∃ wo : World, wo = wr := ⟨_, rfl⟩
            go_wp2
            go_loopw [19] (fun jv wx => ∃ (J : Nat) (y : Int), jv = .int .i64 y ∧ y = ((i + 1 + J : Nat) : Int) ∧ i + 1 + J ≤ o.length ∧ Ext w4 wx ∧ BX 18 o w4.heap.size w5.heap.size wx (.slice ao o.length co) (.slice (some ⟨g, 0, none⟩) o.length cp) (.slice ac o.length cc)) (fun jv _ => o.length - (intOf jv).toNat)
            case atStart => exact ⟨t.length - i - 1, _, rfl, by omega, by omega, hg, hX⟩
            case round =>
              clear hX hg hwo
              obtain ⟨J, y, rfl, hy, hJ, hg, hX⟩ := hrel
              by_cases hltj : i + 1 + J < o.length
              · have hyl : y < o.length := by omega
                have hy0 : 0 ≤ y := by omega
                obtain ⟨gc, capc, b, capb, z2, hvc, hcB, hcp, hcl, hcell, hbB, hbp, hbg, hbl, hcc2, hst2⟩ := hX.storeC i J (by omega) (by omega)
                obtain ⟨rfl, rfl⟩ : ac = some ⟨gc, 0, none⟩ ∧ cc = capc := by cases hvc; exact ⟨rfl, rfl⟩
                clear hvc
                have e1 : ∀ w', Near wr b w' → w'.cell? ⟨w5.heap.size, 2, none⟩ = some (.slice (some ⟨gc, 0, none⟩) o.length cc) := fun w' h => h.cell hX.box.2.2.2.1 (by simp; omega)
                have e2 : ∀ w', Near wr b w' → w'.cell? ⟨gc, i, none⟩ = some (.slice (some ⟨b, 0, none⟩) (o.length - 1 - i) capb) := fun w' h => h.cell hcell (by simp; omega)
                have hd2 := HD.out.1
                have hcon : ∀ w', Ext w4 w' → Calls Tryz.prog 318 #[.slice a4 o.length c4, .int .i64 y, .int .i64 p] w' (Ret w' fun w'' r => ∃ l, l.length = o.length ∧ Own w'.heap.size w'' r l) := fun w' he => by
                  rw [hy]; exact hd2 w' _ p he hp0 (by omega)
                have HY := Lib.hid (And.intro hX (And.intro hst2 (And.intro hcc2 (And.intro hcon hy)))); clear hX hst2 hcc2 hcon hd2 hcell
                have hJl : (J : Int) < ((o.length - 1 - i : Nat) : Int) := by omega
                have hio : (i : Int) < o.length := by omega
                go_wp2
                obtain ⟨d, hd⟩ : ∃ d, d = y - (i : Int) := ⟨_, rfl⟩
                have hw1 : IntKind.i64.wrap (y - (i : Int)) = d := by rw [hd]; exact IntWalk.i64_in _ (by omega)
                have hw3 : IntKind.i64.wrap (d - 1) = (J : Int) := by rw [show d - 1 = (J : Int) by omega]; exact IntWalk.i64_in _ (by omega)
                have hw2 : wrap64 (y - (i : Int)) = d := by rw [hd]; exact IntWalk.wrap64_in _ (by clear hw1 hw3; omega)
                have hw4 : wrap64 (d - 1) = (J : Int) := by rw [show d - 1 = (J : Int) by clear hw1 hw2 hw3; omega]; exact IntWalk.wrap64_in _ (by clear hw1 hw2 hw3; omega)
                clear hd hy
                go_region_held3 (fun w' => Near wr b w') (first | exact Near.of (grown_drew _ _) | exact Near.of (by assumption) | exact Near.store (by assumption) | assumption)
                  (first
                    | (go_at_call 318; refine Calls.mono (Calls.rel (w0 := wr) (by first | exact grown_drew _ _ | assumption) (HY.out.2.2.2.1 _ (grown_trans hg (by first | exact grown_drew _ _ | assumption)))) ?_; rintro eE wE ⟨vE, rfl, hgE, hsE, lE, hlE, hOE⟩; obtain ⟨aE, cE, hvE, _⟩ := (hOE.ints (by rw [hlE]; exact HD.out.2)).shape; subst hvE; have hcl := (HY.out.2.2.1 wE hgE).1; have hfr := (HY.out.2.2.1 wE hgE).2))
                clear hw1 hw2 hw3 hw4
                have hX5 := HY.out.2.1 wE _ lE hgE (OwnIn.of hOE (by rw [hlE]; exact HD.out.2) (fun k hk _ => Nat.le_trans (by assumption) hk)) (by rw [hlE]; exact ho18)
                have hgn : Ext w4 (wE.setCell ⟨b, J, none⟩ (.slice aE lE.length cE)) := grown_own (grown_trans hg hgE) (grown_set1 _ _ _ _) (fun j hj hlt => by cases hj; omega)
                rw [hlE] at hX5 hgn
                have hyJ := HY.out.2.2.2.2
                clear hcl hfr e1 e2 hlE
                have HZ := Lib.hid hyJ; clear hyJ
                go_wp2
                go_roundw
                case rel => exact ⟨J + 1, y + 1, rfl, by have := HZ.out; omega, by omega, hgn, hX5⟩
                case measure => have := HZ.out; simp [intOf]; omega
              · have hyl : ¬ (y < o.length) := by omega
                obtain ⟨bt, ot, rfl, _, _, hct⟩ := Ints.at (Ints.ext ht6 (grown_trans hgt hg)) i hlt
                have hte : 2 ≤ gt t i ∧ gt t i ≤ 7 := HT.out.2.2.1 _ (by rw [gt_eq t i hlt]; exact List.getElem_mem hlt)
                have hpow := l01Power_ok wr p (gt t i) m ⟨hp0, hp1⟩ (by omega) (by omega)
                have HP := Lib.hid (And.intro hte hy); clear hte hy
                go_wp2_with fail
                refine Calls.mono hpow ?_
                rintro eP wP ⟨vP, rfl, hgP, pn, rfl, hpn0, hpn1⟩
                have hgn := grown_trans hg hgP
                have hXn := hX.ext hgP
                clear hX hg hpow
                go_wp2
                go_roundw
                case rel => exact ⟨i + 1, pn, by go_num, rfl, by omega, hpn0, hpn1, hgn, hXn⟩
                case measure => simp [intOf]; omega
          · have hlt' : ¬ ((i : Int) < t.length) := by omega
            have hz := HN.out.2.2.2.1 _ (grown_trans hg04 hg)
            obtain ⟨h0, h1, h2, h3', h4⟩ := id hX.box
            obtain ⟨k0, k1, k2, k3, k4⟩ := id hz
            have hZ := hz.all (.slice ao o.length co) (.slice (some ⟨g, 0, none⟩) o.length cp) (.slice ac o.length cc)
            have hT := grown_set3 wr w.heap.size (.slice ao o.length co) (.slice (some ⟨g, 0, none⟩) o.length cp) (.slice ac o.length cc)
            obtain ⟨_, z0, z1, z2, _⟩ := id hZ
            have HQ := Lib.hid (And.intro hT hX); clear hT hZ hX
            go_wp2
            refine bodyPost_ret (v := .agg #[.slice ao o.length co, (.slice (some ⟨g, 0, none⟩) o.length cp), (.slice ac o.length cc)]) (by simp [results, Tryz.results261, go_sem, z0, z1, z2]) rfl ?_
            have hq1 := HN.out.2.2.2.2.1
            have hq2 := hg04.size
            exact ⟨_, rfl, grown_own (grown_trans hg0 (grown_trans hg04 hg)) HQ.out.1 (fun j hj hlt => by cases hj; omega), (HQ.out.2.ret HQ.out.1 (by omega)).weak (by omega)⟩
end Go.Proofs.YtldheeicjnncoaaGreat
namespace Go.Proofs.YtldheeicjnncoaaGreat
open Go.RowKit
attribute [local go_sem ↓] Go.wp_at_zero Go.wp_at_succ

/-- a store elsewhere leaves it -/
theorem BX.by {N : Nat} {o : List Int} {B pb : Nat} {w w' : World} {vo vp vc : Value} (h : BX N o B pb w vo vp vc) {r : Option Nat} (hT : w.grownBy w' r) (hr : ∀ k, r = some k → k < B) : BX N o B pb w' vo vp vc := by
  obtain ⟨P, h1, h2, h3⟩ := h.px
  have hB := h.hB
  refine ⟨hB, Box3.keep h.box hT.size (hT.block _ h.box.1 (fun e => by have := hr _ e.symm; omega)), P, h1, h2, h3.mono (fun k hk hlt => ⟨hk, Nat.lt_of_lt_of_le hlt hT.size, hT.block k hlt (fun e => by have := hr _ e.symm; have : B ≤ k := hk.1; omega)⟩)⟩

/-- reached by growth and by writes into s and g -/
def NearS (w : World) (s g : Nat) (w' : World) : Prop := ∀ k, k < w.heap.size → k ≠ s → k ≠ g → w'.heap[k]? = w.heap[k]?
theorem NearS.of {w w' : World} {s g : Nat} (h : w.grownBy w' (some s)) : NearS w s g w' := fun k hk hs _ => h.block k hk (fun e => hs (by cases e; rfl))
theorem NearS.ext {w w' : World} {s g : Nat} (h : Ext w w') : NearS w s g w' := NearS.of (grown_of_ext _ h)
theorem NearS.two {w w1 w' : World} {s g : Nat} (h : w.grownBy w1 (some s)) (h2 : w1.grownBy w' (some g)) : NearS w s g w' := fun k hk hs hg =>
  (h2.block k (Nat.lt_of_lt_of_le hk h.size) (fun e => hg (by cases e; rfl))).trans (h.block k hk (fun e => hs (by cases e; rfl)))
theorem NearS.cell {w w' : World} {s g : Nat} (h : NearS w s g w') {a : Addr} {v : Value} (hc : w.cell? a = some v) (hne : a.block ≠ g) (hns : a.block ≠ s) : w'.cell? a = some v :=
  (World.cell?_of_block (h a.block (World.block_lt_of_cell? w a hc) hns hne)).trans hc

/-- a list of three integers just made -/
theorem own_lit3 (w : World) (x y z : Int) {B : Nat} (hB : B ≤ w.heap.size) : OwnIn (From B) (w.alloc (.cells #[.int .i64 x, .int .i64 y, .int .i64 z] 2)) (.slice (some ⟨w.heap.size, 0, none⟩) 3 3) [x, y, z] :=
  OwnIn.of (Own.of (World.ownsRow_lit w #[.int .i64 x, .int .i64 y, .int .i64 z] 3 hB (by decide) rfl)) (by simp) (fun k hk _ => hk)

/-- a drawn value and its source -/
def DrawR (B0 sb : Nat) (Φ : World → Value → Prop) (w' : World) (v : Value) : Prop := Φ w' v ∧ Src B0 w' sb

set_option maxRecDepth 100000 in
set_option maxHeartbeats 4000000 in
theorem l07Heisenberg_ok (B0 : Nat) (w : World) (sb : Nat) (p : Int) (hB0 : B0 ≤ w.heap.size) (hs : Src B0 w sb) :
    Calls Tryz.prog 328 #[.pointer (some ⟨sb, 0, none⟩), .int .i64 p] w (Mut w (some sb) (DrawR B0 sb (PresN 3 w.heap.size))) := by
  have hz0 : ∀ w' r, (w.alloc (.cells #[.slice none 0 0, .slice none 0 0, .slice none 0 0] 28)).grownBy w' r → (∀ k, r = some k → k ≠ w.heap.size) → Box3 w' w.heap.size (.slice none 0 0) (.slice none 0 0) (.slice none 0 0) := fun w' r h hr =>
    Box3.keep (Box3.made w 28 _ _ _) h.size (h.block _ (by simp) (fun e => hr _ e.symm rfl))
  have hg0 : Ext w (w.alloc (.cells #[.slice none 0 0, .slice none 0 0, .slice none 0 0] 28)) := World.grownBy_alloc _ _ _
  have hs0 : (w.alloc (.cells #[.slice none 0 0, .slice none 0 0, .slice none 0 0] 28)).heap.size = w.heap.size + 1 := by simp
  have hsl := hs.lt
  have HN := Lib.hid (And.intro hz0 (And.intro hs0 (And.intro hs hsl))); clear hz0 hs0 hs hsl
  go_enter Tryz.func328, Tryz.ntmps328
  go_wp2_with fail
  generalize w.alloc (.cells #[.slice none 0 0, .slice none 0 0, .slice none 0 0] 28) = w0 at *
  have hO1 := own_lit3 w0 p p p (Nat.le_refl _)
  have hgA : Ext w0 (w0.alloc (.cells #[.int .i64 p, .int .i64 p, .int .i64 p] 2)) := World.grownBy_alloc _ _ _
  rw [HN.out.2.1] at hO1
  obtain ⟨o, ho⟩ : ∃ o, o = [p, p, p] := ⟨_, rfl⟩
  have hol : o.length = 3 := by rw [ho]; rfl
  rw [← ho] at hO1
  clear ho
  have hsA : (w0.alloc (.cells #[.int .i64 p, .int .i64 p, .int .i64 p] 2)).heap.size = w.heap.size + 2 := by simp [HN.out.2.1]
  generalize w0.alloc (.cells #[.int .i64 p, .int .i64 p, .int .i64 p] 2) = w1 at *
  refine Calls.mono (l07Trivial_ok w1 _ o _ hO1.ints (by omega)) ?_
  rintro e5 w5 ⟨v5, rfl, hg5, vo, vp, vc, rfl, hX5⟩
  obtain ⟨ao, co, ap, cp, ac, cc, h1, h2, h3⟩ := trivX_shape hX5
  subst h1 h2 h3
  have HO := Lib.hid hol; clear hol
  go_wp2_with fail
  have hgA2 : Ext w5 (w5.alloc (.cells #[.slice ao o.length co, .slice ap o.length cp, .slice ac o.length cc] 28)) := World.grownBy_alloc _ _ _
  have hX := BX.start (N := 3) (B := w1.heap.size) (by have := HO.out; omega) hX5 hgA2 (Box3.made w5 28 (.slice ao o.length co) (.slice ap o.length cp) (.slice ac o.length cc)) hg5.size
  have hs5 := hg5.size
  generalize w5.alloc (.cells #[.slice ao o.length co, .slice ap o.length cp, .slice ac o.length cc] 28) = w6 at *
  have hg6 : Ext w w6 := grown_trans hg0 (grown_trans hgA (grown_trans hg5 hgA2))
  have hg06 : Ext w0 w6 := grown_trans hgA (grown_trans hg5 hgA2)
  clear hX5 hO1 hg5
  obtain ⟨gc, capc, b, capb, z2, hvc, hcB, hcp, hcl, hcell, hbB, hbp, hbg, hbl, hcc2, hst2⟩ := hX.storeC 0 0 (by have := HO.out; omega) (by have := HO.out; omega)
  obtain ⟨rfl, rfl⟩ : ac = some ⟨gc, 0, none⟩ ∧ cc = capc := by cases hvc; exact ⟨rfl, rfl⟩
  clear hvc
  have hgL : Ext w6 (w6.alloc (.cells #[.int .i64 0, .int .i64 1, .int .i64 1] 2)) := World.grownBy_alloc _ _ _
  have hOL := own_lit3 w6 0 1 1 (Nat.le_refl _)
  have c1 := (hX.ext hgL).box.2.2.2.1
  have c2 := hgL.cell hcell (by simp)
  obtain ⟨c3, c4⟩ := hcc2 _ hgL
  have k1 := hX.box.2.2.2.1
  have hX7 := hst2 _ _ _ hgL hOL (by simp)
  have hs7 := hgL.size
  have hgn : Ext w ((w6.alloc (.cells #[.int .i64 0, .int .i64 1, .int .i64 1] 2)).setCell ⟨b, 0, none⟩ (.slice (some ⟨w6.heap.size, 0, none⟩) 3 3)) := grown_own (grown_trans hg6 hgL) (grown_set1 _ _ _ _) (fun j hj hlt => by cases hj; omega)
  have hgn0 : Ext w0 ((w6.alloc (.cells #[.int .i64 0, .int .i64 1, .int .i64 1] 2)).setCell ⟨b, 0, none⟩ (.slice (some ⟨w6.heap.size, 0, none⟩) 3 3)) := grown_own (grown_trans hg06 hgL) (grown_set1 _ _ _ _) (fun j hj hlt => by cases hj; have := HN.out.2.1; omega)
  clear hst2 hX
  obtain ⟨m, hm⟩ : ∃ m, m = o.length - 1 - 0 := ⟨_, rfl⟩
  have hm0 : (0 : Int) < m := by have := HO.out; omega
  have hn0 : 0 < o.length := by have := HO.out; omega
  have hn1 : 1 < o.length := by have := HO.out; omega
  have hnm : 0 < m := by have := HO.out; omega
  have hl0 : (0 : Int) < o.length := by have := HO.out; omega
  have hl1 : (1 : Int) < o.length := by have := HO.out; omega
  rw [← hm] at hcell c2
  clear hm
  have heq : (w6.alloc (.cells #[.int .i64 0, .int .i64 1, .int .i64 1] 2)).setCell ⟨b, 0, none⟩ (.slice (some ⟨w6.heap.size, 0, none⟩) 3 3) = (w6.setCell ⟨b, 0, none⟩ (.slice (some ⟨w6.heap.size, 0, none⟩) 3 3)).alloc (.cells #[.int .i64 0, .int .i64 1, .int .i64 1] 2) := by
    simp [go_sem, hbl]
  rw [heq] at hX7 hgn hgn0
  have i1 : ∀ w', (Instr.indexAt 26 (.slice (some ⟨gc, 0, none⟩) o.length cc) (.int .i64 0)).run Tryz.prog w' = .ok (.pointer (some ⟨gc, 0, none⟩)) w' := fun w' => by
    rw [run_indexAt_slice (h := by rfl), if_pos ⟨by decide, hl0⟩]; kernel_rfl
  go_wp2
  rw [i1]
  clear i1
  go_wp2_with fail
  generalize (w6.setCell ⟨b, 0, none⟩ (.slice (some ⟨w6.heap.size, 0, none⟩) 3 3)).alloc (.cells #[.int .i64 0, .int .i64 1, .int .i64 1] 2) = w7 at *
  have hsb := HN.out.2.2.2
  refine Calls.mono (l01Next_ok B0 w7 sb 2 (HN.out.2.2.1.ext hgn)) ?_
  rintro e8 w8 ⟨v8, rfl, hg8, x, rfl, hx0, hx1, hs8⟩
  have hX8 := hX7.by hg8 (fun k e => by cases e; omega)
  have hgw8 := grown_trans (grown_of_ext (some sb) hgn) hg8
  have hgw08 := grown_trans (grown_of_ext (some sb) hgn0) hg8
  clear hX7 hg8 hgn hgn0 c1 c2 c3 c4 k1 hx0 hx1 hcell hcc2 heq
  by_cases hx : x = 0
  · subst hx
    go_wp2
    obtain ⟨g, capg, z, hvg, hgB, hgp, hgl, hcc, hst⟩ := hX8.storeP 0 (by omega)
    obtain ⟨rfl, rfl⟩ : ap = some ⟨g, 0, none⟩ ∧ cp = capg := by cases hvg; exact ⟨rfl, rfl⟩
    clear hvg
    have e1 : ∀ w', NearS w8 sb g w' → w'.cell? ⟨w5.heap.size, 1, none⟩ = some (.slice (some ⟨g, 0, none⟩) o.length cp) := fun w' h => h.cell hX8.box.2.2.1 (by simp; omega) (by simp; omega)
    have HXa := Lib.hid (And.intro hX8 (And.intro hs8 (And.intro hgw8 hgw08))); clear hX8 hs8 hgw8 hgw08 hcc hst
    go_region_held3 (fun w' => NearS w8 sb g w') (first | exact NearS.ext (grown_drew _ _) | exact NearS.of (by assumption) | exact NearS.of hgL | exact NearS.two hg9 (grown_trans (grown_set1 _ _ _ _) (grown_of_ext _ (World.grownBy_alloc _ _ _))) | assumption)
      (first
        | (go_at_call 111; refine Calls.mono (l01Next_ok B0 w8.drew sb p (HXa.out.2.1.ext (grown_drew _ _))) ?_; rintro e9 w9a ⟨v9, rfl, hg9, xa, rfl, hx0, hx1, hs9⟩; have hg9 : w8.grownBy w9a (some sb) := grown_trans (grown_of_ext (some sb) (grown_drew _ _)) hg9; have hgL : w8.grownBy (w9a.alloc (.cells #[.int .i64 0, .int .i64 0, .int .i64 xa] 2)) (some sb) := grown_trans hg9 (grown_of_ext _ (World.grownBy_alloc _ _ _)); have hX9 := HXa.out.1.by hg9 (fun k e => by cases e; omega); obtain ⟨g', capg', z', hvg', _, _, _, hcc9, hst9⟩ := hX9.storeP 0 (by omega); cases hvg'; have hcl := (hcc9 (w9a.alloc (.cells #[.int .i64 0, .int .i64 0, .int .i64 xa] 2)) (World.grownBy_alloc _ _ _)).1; have hfr := (hcc9 (w9a.alloc (.cells #[.int .i64 0, .int .i64 0, .int .i64 xa] 2)) (World.grownBy_alloc _ _ _)).2))
    have hXa := hst9 _ _ _ (World.grownBy_alloc _ _ _) (own_lit3 w9a 0 0 xa (Nat.le_refl _)) (by simp)
    have hq : (w9a.alloc (.cells #[.int .i64 0, .int .i64 0, .int .i64 xa] 2)).setCell ⟨g, 0, none⟩ (.slice (some ⟨w9a.heap.size, 0, none⟩) 3 3) = (w9a.setCell ⟨g, 0, none⟩ (.slice (some ⟨w9a.heap.size, 0, none⟩) 3 3)).alloc (.cells #[.int .i64 0, .int .i64 0, .int .i64 xa] 2) := by
      simp [go_sem, Nat.lt_of_lt_of_le hgl hg9.size]
    rw [hq] at hXa
    have hT : w9a.grownBy ((w9a.setCell ⟨g, 0, none⟩ (.slice (some ⟨w9a.heap.size, 0, none⟩) 3 3)).alloc (.cells #[.int .i64 0, .int .i64 0, .int .i64 xa] 2)) (some g) := grown_trans (grown_set1 _ _ _ _) (grown_of_ext _ (World.grownBy_alloc _ _ _))
    have hsA2 := hs9.own hT (fun k e => by cases e; omega)
    have hgwA := grown_own (grown_trans HXa.out.2.2.1 hg9) hT (fun j hj hlt => by cases hj; omega)
    have hgw0A := grown_own (grown_trans HXa.out.2.2.2 hg9) hT (fun j hj hlt => by cases hj; have := HN.out.2.1; omega)
    have hXA := hXa
    clear hXa hq hT hcl hfr hcc9 hst9 hX9 hgL hg9 hs9 hx0 hx1 e1
    go_wp2
    generalize (w9a.setCell ⟨g, 0, none⟩ (.slice (some ⟨w9a.heap.size, 0, none⟩) 3 3)).alloc (.cells #[.int .i64 0, .int .i64 0, .int .i64 xa] 2) = wA at *
    have hsw0 := HN.out.2.1
    obtain ⟨g2, capg, z, hvg, hgB, hgp, hgl, hcc, hst⟩ := hXA.storeP 1 (by omega)
    cases hvg
    have e1 : ∀ w', NearS wA sb g w' → w'.cell? ⟨w5.heap.size, 1, none⟩ = some (.slice (some ⟨g, 0, none⟩) o.length cp) := fun w' h => h.cell hXA.box.2.2.1 (by simp; omega) (by simp; omega)
    have HXb := Lib.hid (And.intro hXA (And.intro hsA2 (And.intro hgwA hgw0A))); clear hXA hsA2 hgwA hgw0A hcc hst
    go_region_held3 (fun w' => NearS wA sb g w') (first | exact NearS.ext (grown_drew _ _) | exact NearS.of (by assumption) | exact NearS.of hgL | exact NearS.two hg9 (grown_trans (grown_set1 _ _ _ _) (grown_of_ext _ (World.grownBy_alloc _ _ _))) | assumption)
      (first
        | (go_at_call 111; refine Calls.mono (l01Next_ok B0 wA.drew sb p (HXb.out.2.1.ext (grown_drew _ _))) ?_; rintro e9 w9b ⟨v9, rfl, hg9, xb, rfl, hx0, hx1, hs9⟩; have hg9 : wA.grownBy w9b (some sb) := grown_trans (grown_of_ext (some sb) (grown_drew _ _)) hg9; have hgL : wA.grownBy (w9b.alloc (.cells #[.int .i64 0, .int .i64 0, .int .i64 xb] 2)) (some sb) := grown_trans hg9 (grown_of_ext _ (World.grownBy_alloc _ _ _)); have hX9 := HXb.out.1.by hg9 (fun k e => by cases e; omega); obtain ⟨g', capg', z', hvg', _, _, _, hcc9, hst9⟩ := hX9.storeP 1 (by omega); cases hvg'; have hcl := (hcc9 (w9b.alloc (.cells #[.int .i64 0, .int .i64 0, .int .i64 xb] 2)) (World.grownBy_alloc _ _ _)).1; have hfr := (hcc9 (w9b.alloc (.cells #[.int .i64 0, .int .i64 0, .int .i64 xb] 2)) (World.grownBy_alloc _ _ _)).2))
    have hXa := hst9 _ _ _ (World.grownBy_alloc _ _ _) (own_lit3 w9b 0 0 xb (Nat.le_refl _)) (by simp)
    have hq : (w9b.alloc (.cells #[.int .i64 0, .int .i64 0, .int .i64 xb] 2)).setCell ⟨g, 1, none⟩ (.slice (some ⟨w9b.heap.size, 0, none⟩) 3 3) = (w9b.setCell ⟨g, 1, none⟩ (.slice (some ⟨w9b.heap.size, 0, none⟩) 3 3)).alloc (.cells #[.int .i64 0, .int .i64 0, .int .i64 xb] 2) := by
      simp [go_sem, Nat.lt_of_lt_of_le hgl hg9.size]
    rw [hq] at hXa
    have hT : w9b.grownBy ((w9b.setCell ⟨g, 1, none⟩ (.slice (some ⟨w9b.heap.size, 0, none⟩) 3 3)).alloc (.cells #[.int .i64 0, .int .i64 0, .int .i64 xb] 2)) (some g) := grown_trans (grown_set1 _ _ _ _) (grown_of_ext _ (World.grownBy_alloc _ _ _))
    have hsB := hs9.own hT (fun k e => by cases e; omega)
    have hgwB := grown_own (grown_trans HXb.out.2.2.1 hg9) hT (fun j hj hlt => by cases hj; omega)
    have hgw0B := grown_own (grown_trans HXb.out.2.2.2 hg9) hT (fun j hj hlt => by cases hj; have := HN.out.2.1; omega)
    have hXB := hXa
    clear hXa hq hT hcl hfr hcc9 hst9 hX9 hgL hg9 hs9 hx0 hx1 e1
    generalize (w9b.setCell ⟨g, 1, none⟩ (.slice (some ⟨w9b.heap.size, 0, none⟩) 3 3)).alloc (.cells #[.int .i64 0, .int .i64 0, .int .i64 xb] 2) = wB at *
    have hz := HN.out.1 wB (some sb) hgw0B (fun k e => by cases e; have := HN.out.2.2.2.2; omega)
    obtain ⟨h0, h1, h2, h3', h4⟩ := id hXB.box
    obtain ⟨k0, k1, k2, k3, k4⟩ := id hz
    have hZ := hz.all (.slice ao o.length co) (.slice (some ⟨g, 0, none⟩) o.length cp) (.slice (some ⟨gc, 0, none⟩) o.length cc)
    have hT := grown_set3 wB w.heap.size (.slice ao o.length co) (.slice (some ⟨g, 0, none⟩) o.length cp) (.slice (some ⟨gc, 0, none⟩) o.length cc)
    obtain ⟨_, z0, z1, z2, _⟩ := id hZ
    have HQ := Lib.hid (And.intro hT (And.intro hXB hsB)); clear hT hZ
    go_wp2
    refine bodyPost_ret (v := .agg #[.slice ao o.length co, (.slice (some ⟨g, 0, none⟩) o.length cp), .slice (some ⟨gc, 0, none⟩) o.length cc]) (by simp [results, Tryz.results328, go_sem, z0, z1, z2]) rfl ?_
    exact ⟨_, rfl, grown_own hgwB HQ.out.1 (fun j hj hlt => by cases hj; omega), (HQ.out.2.1.ret HQ.out.1 (by omega)).weak (by omega), HQ.out.2.2.own HQ.out.1 (fun k e => by cases e; exact hB0)⟩
  · skip
    have hz := HN.out.1 w8 (some sb) hgw08 (fun k e => by cases e; have := HN.out.2.2.2.2; omega)
    obtain ⟨h0, h1, h2, h3', h4⟩ := id hX8.box
    obtain ⟨k0, k1, k2, k3, k4⟩ := id hz
    have hZ := hz.all (.slice ao o.length co) (.slice ap o.length cp) (.slice (some ⟨gc, 0, none⟩) o.length cc)
    have hT := grown_set3 w8 w.heap.size (.slice ao o.length co) (.slice ap o.length cp) (.slice (some ⟨gc, 0, none⟩) o.length cc)
    obtain ⟨_, z0, z1, z2, _⟩ := id hZ
    have HQ := Lib.hid (And.intro hT (And.intro hX8 hs8)); clear hT hZ
    go_wp2
    refine bodyPost_ret (v := .agg #[.slice ao o.length co, (.slice ap o.length cp), .slice (some ⟨gc, 0, none⟩) o.length cc]) (by simp [results, Tryz.results328, go_sem, z0, z1, z2]) rfl ?_
    exact ⟨_, rfl, grown_own hgw8 HQ.out.1 (fun j hj hlt => by cases hj; omega), (HQ.out.2.1.ret HQ.out.1 (by omega)).weak (by omega), HQ.out.2.2.own HQ.out.1 (fun k e => by cases e; exact hB0)⟩

end Go.Proofs.YtldheeicjnncoaaGreat
namespace Go.Proofs.YtldheeicjnncoaaGreat
open Go.RowKit
attribute [local go_sem ↓] Go.wp_at_zero Go.wp_at_succ

theorem w64_sm2 (x y : Int) (h : x = y) (h0 : 0 ≤ x ∧ x ≤ 1000) : wrap64 x = y ∧ IntKind.i64.wrap x = y := ⟨by rw [← h]; exact w64_small x h0, by rw [← h]; exact i64_small x h0⟩

set_option maxRecDepth 100000 in
set_option maxHeartbeats 2000000 in
theorem l07Affine_ok (w : World) (p n : Int) (rv : Value) (R : List (List Int)) (S : Nat → Prop) (hr : Rows2 S w rv R) (hR : SmR R.length R) (hp : 1 ≤ p ∧ p ≤ 7) (hn : 1 ≤ n ∧ n ≤ 729) (hRl : R.length ≤ 9) :
    Calls Tryz.prog 329 #[.int .i64 p, rv, .int .i64 n] w (Ret w (PresN 18 w.heap.size)) := by
  obtain ⟨ar, capr, rfl, _, _⟩ := Sl.shape hr
  obtain ⟨n, rfl⟩ := Int.eq_ofNat_of_zero_le (show 0 ≤ n by omega)
  have hz0 : ∀ w', Ext (w.alloc (.cells #[.slice none 0 0, .slice none 0 0, .slice none 0 0] 28)) w' → Box3 w' w.heap.size (.slice none 0 0) (.slice none 0 0) (.slice none 0 0) := fun w' h => (Box3.made w 28 _ _ _).ext h
  have hg0 : Ext w (w.alloc (.cells #[.slice none 0 0, .slice none 0 0, .slice none 0 0] 28)) := World.grownBy_alloc _ _ _
  have hs0 : (w.alloc (.cells #[.slice none 0 0, .slice none 0 0, .slice none 0 0] 28)).heap.size = w.heap.size + 1 := by simp
  have HN := Lib.hid (And.intro hn (And.intro hp (And.intro hR (And.intro hz0 hs0)))); clear hn hz0 hs0 hp hR
  go_enter Tryz.func329, Tryz.ntmps329
  go_wp2_with fail
  generalize w.alloc (.cells #[.slice none 0 0, .slice none 0 0, .slice none 0 0] 28) = w0 at *
  refine Calls.mono (l07Factors_ok w0 n (by have := HN.out.1; omega)) ?_
  rintro e1 w1 ⟨v1, rfl, hg1, a1, c1, t, r1, rfl, hO1, ht9, htx⟩
  go_wp2_with fail
  refine Calls.mono (l01Own_ok w1 _ t _ (hO1.ints (by omega)) (by omega)) ?_
  rintro e2 w2 ⟨v2, rfl, hg2, hO2⟩
  have ht6 : Ints Any w1 (.slice a1 t.length c1) t := (hO1.ints (by omega)).sub (fun _ _ _ => trivial)
  have HT := Lib.hid (And.intro htx hO1); clear htx hO1
  go_wp2_with fail
  go_loopw [9, 10] (fun ov iv wr => ∃ (i : Nat) (l : List Int) (v4 : Value), v4 = ov ∧ iv = .int .i64 i ∧ i ≤ R.length ∧ l.length = t.length + i ∧ Ext w1 wr ∧ Own w1.heap.size wr v4 l) (fun _ iv _ => R.length - (intOf iv).toNat)
  case atStart => exact ⟨0, t, _, rfl, rfl, by omega, rfl, hg2, hO2⟩
  case round =>
    clear hO2 hg2
    obtain ⟨i, l, v4, rfl, rfl, hi, hll, hg, hO⟩ := hrel
    by_cases hlt : i < R.length
    · have hlt' : (i : Int) < R.length := by omega
      have hl1 : l.length ≤ 1000000 := by omega
      have HL := Lib.hid (And.intro hl1 hll); clear hl1 hll
      go_wp2_with (first | (at_builtin; refine wp_app_int rfl _ _ rfl w1.heap.size v4 l p rfl wr hO rfl rfl HL.out.1 hg.size ?_; intro v5 w5 hO5 hg5; have hgw5 := grown_own hg hg5 (fun j hj hlt => by have := (hO.lt j hj).1; omega)) | fail)
      go_roundw
      case rel => exact ⟨i + 1, _, v5, rfl, by go_num, by omega, by rw [List.length_append, HL.out.2]; rfl, hgw5, hO5⟩
      case measure => simp [intOf]; omega
    · have hlt' : ¬ ((i : Int) < R.length) := by omega
      have hie : i = R.length := by omega
      subst hie
      obtain ⟨o, ho⟩ : ∃ o, o = l := ⟨_, rfl⟩
      rw [← ho] at hO hll
      clear ho
      have ho18 : o.length ≤ 18 := by omega
      have htk : t.length ≤ o.length := by omega
      obtain ⟨a4, c4, hv4, _⟩ := (hO.ints (by omega)).shape
      subst hv4
      have hOi : Ints Any wr (.slice a4 o.length c4) o := (hO.ints (by omega)).sub (fun _ _ _ => trivial)
      have hs4 := hg.size
      clear hO
      obtain ⟨w4, hw4⟩ : ∃ w4 : World, w4 = wr := ⟨_, rfl⟩
      subst hw4
      have HO := Lib.hid hll; clear hll
      go_wp2_with fail
      refine Calls.mono (l07Trivial_ok w4 _ o _ hOi (by omega)) ?_
      rintro e5 w5 ⟨v5, rfl, hg5, vo, vp, vc, rfl, hX5⟩
      obtain ⟨ao, co, ap, cp, ac, cc, rfl, rfl, rfl⟩ := trivX_shape hX5
      go_wp2_with fail
      have hgA : Ext w5 (w5.alloc (.cells #[.slice ao o.length co, .slice ap o.length cp, .slice ac o.length cc] 28)) := World.grownBy_alloc _ _ _
      have hX := BX.start (N := 18) (B := w4.heap.size) (by omega) hX5 hgA (Box3.made w5 28 (.slice ao o.length co) (.slice ap o.length cp) (.slice ac o.length cc)) hg5.size
      have hs5 := hg5.size
      generalize w5.alloc (.cells #[.slice ao o.length co, .slice ap o.length cp, .slice ac o.length cc] 28) = w6 at *
      have hg6 : Ext w4 w6 := grown_trans hg5 hgA
      have hg04 : Ext w0 w4 := grown_trans hg1 hg
      clear hX5 hg5
      go_loopw [13] (fun iv wr => ∃ i : Nat, iv = .int .i64 i ∧ i ≤ t.length ∧ Ext w4 wr ∧ BX 18 o w4.heap.size w5.heap.size wr (.slice ao o.length co) (.slice ap o.length cp) (.slice ac o.length cc)) (fun iv _ => t.length - (intOf iv).toNat)
      case atStart => exact ⟨0, rfl, by omega, hg6, hX⟩
      case round =>
        clear hX hg6
        have hg14 := hg
        clear hg hi hlt hlt'
        obtain ⟨i, rfl, hi, hg, hX⟩ := hrel
        by_cases hlt : i + 1 < t.length
        · have hlt' : (i : Int) + 1 < t.length := by omega
          obtain ⟨g, cap, z, hvg, hgB, hgp, hgl, hcc, hst⟩ := hX.storeP i (by omega)
          obtain ⟨rfl, rfl⟩ : ap = some ⟨g, 0, none⟩ ∧ cp = cap := by cases hvg; exact ⟨rfl, rfl⟩
          clear hvg
          have e1 : ∀ w', Near wr g w' → w'.cell? ⟨w5.heap.size, 1, none⟩ = some (.slice (some ⟨g, 0, none⟩) o.length cp) := fun w' h => h.cell hX.box.2.2.1 (by simp; omega)
          have hcon : ∀ w, Calls Tryz.prog 149 #[.int .i64 o.length, .int .i64 ((i : Int) + 1)] w (Ret w fun w' v => Own w.heap.size w' v (unitV o.length (i + 1))) := fun w => by
            have h := l07Unit_ok o.length (i + 1) w (by omega) (by omega)
            rwa [show ((i + 1 : Nat) : Int) = (i : Int) + 1 by omega] at h
          have hul : (unitV o.length (i + 1)).length ≤ 9223372036854775807 := by rw [unitV_len]; omega
          have HX := Lib.hid (And.intro hX (And.intro hst (And.intro hcc hul))); clear hX hst hcc hul
          have hl2 : (i : Int) < o.length := by omega
          have hi5 : i < 100000 := by omega
          go_wp2
          have hwi : IntKind.i64.wrap ((i : Int) + 1) = (i : Int) + 1 := i64_succ _ hi5
          have hwj : wrap64 ((i : Int) + 1) = (i : Int) + 1 := w64_succ _ hi5
          go_region_held3 (fun w' => Near wr g w') (first | exact Near.of (grown_drew _ _) | exact Near.of (by assumption) | exact Near.store (by assumption) | assumption)
            (first
              | (go_at_call 149; refine Calls.mono (Calls.rel (w0 := wr) (by first | exact grown_drew _ _ | assumption) (hcon _)) ?_; rintro eE wE ⟨vE, rfl, hgE, hsE, hOE⟩; obtain ⟨aE, cE, hvE, _⟩ := (hOE.ints HX.out.2.2.2).shape; subst hvE; have hcl := (HX.out.2.2.1 wE hgE).1; have hfr := (HX.out.2.2.1 wE hgE).2))
          clear hwi hwj
          have hsz := hgE.size
          have hX5 := HX.out.2.1 wE _ (unitV o.length (i + 1)) hgE (OwnIn.of hOE (by rw [unitV_len]; omega) (fun k hk _ => Nat.le_trans (by assumption) hk)) (by rw [unitV_len]; omega)
          have hgn : Ext w4 (wE.setCell ⟨g, i, none⟩ (.slice aE (unitV o.length (i + 1)).length cE)) := grown_own (grown_trans hg hgE) (grown_set1 _ _ _ _) (fun j hj hlt => by cases hj; omega)
          clear hcl hfr e1
          go_wp2
          go_roundw
          case rel => exact ⟨i + 1, by go_num, by omega, hgn, hX5⟩
          case measure => simp [intOf]; omega
        · have hlt' : ¬ ((i : Int) + 1 < t.length) := by omega
          have hgw : Ext w wr := grown_trans hg0 (grown_trans hg04 hg)
          have hRb : ∀ x ∈ R, x.length ≤ 1000000 := fun x hx => by have := (HN.out.2.2.1 x hx).1; omega
          have hcon := l01Own2_ok wr _ R _ (Rows2.ext hr hgw) hRb (by omega)
          clear hRb
          go_wp2_with fail
          refine Calls.mono hcon ?_
          rintro e8 w8 ⟨v8, rfl, hg8, hO8⟩
          clear hcon
          obtain ⟨a8, c8, hv8, _, _⟩ := SlD.shape (hO8.toD (by omega))
          subst hv8
          have hA8 : Rows2 (fun k => wr.heap.size ≤ k ∧ k < w8.heap.size) w8 (.slice a8 R.length c8) R := (RowsD.rows (hO8.toD (by omega))).sub (fun k hk hlt => ⟨hk, hlt⟩)
          have hX8 : BXF 18 o (fun k => w4.heap.size ≤ k ∧ k ≠ w5.heap.size ∧ ¬ (wr.heap.size ≤ k ∧ k < w8.heap.size)) w5.heap.size w8 (.slice ao o.length co) (.slice ap o.length cp) (.slice ac o.length cc) :=
            (hX.f.turn (F' := fun k => w4.heap.size ≤ k ∧ k ≠ w5.heap.size ∧ ¬ (wr.heap.size ≤ k ∧ k < w8.heap.size)) (fun k hk hlt => ⟨hk.1, hk.2, by omega⟩) (fun h => h.2.1 rfl)).ext hg8
          have hgn8 : Ext w4 w8 := grown_trans hg hg8
          have hsz8 := hg8.size
          clear hX hO8 hlt hlt' hi
          go_wp2
          go_loopw [14, 15] (fun av iv wx => ∃ (i lo hi : Nat) (aA : Option Addr) (cA : Nat) (A : List (List Int)), av = .slice aA R.length cA ∧ iv = .int .i64 i ∧ i ≤ t.length ∧ A.length = R.length ∧ SmR R.length A ∧ hi ≤ wx.heap.size ∧ Rows2 (fun k => lo ≤ k ∧ k < hi) wx (.slice aA R.length cA) A ∧ Ext w4 wx ∧
            BXF 18 o (fun k => w4.heap.size ≤ k ∧ k ≠ w5.heap.size ∧ ¬ (lo ≤ k ∧ k < hi)) w5.heap.size wx (.slice ao o.length co) (.slice ap o.length cp) (.slice ac o.length cc)) (fun _ iv _ => t.length - (intOf iv).toNat)
          case atStart => exact ⟨0, wr.heap.size, w8.heap.size, a8, c8, R, rfl, rfl, by omega, rfl, HN.out.2.2.1, Nat.le_refl _, hA8, hgn8, hX8⟩
          case round =>
            clear hA8 hgn8 hX8 hg8 hgw hg
            obtain ⟨i, lo, hi', aA, cA, A, rfl, rfl, hi, hAl, hAs, hhi, hA, hg, hX⟩ := hrel
            by_cases hlt : i < t.length
            · have hlt' : (i : Int) < t.length := by omega
              have HA := Lib.hid (And.intro hAl hAs); clear hAl hAs
              go_wp2
              go_loopw [16] (fun jv wx => ∃ j : Nat, jv = .int .i64 j ∧ j ≤ R.length ∧ hi' ≤ wx.heap.size ∧ Rows2 (fun k => lo ≤ k ∧ k < hi') wx (.slice aA R.length cA) A ∧ Ext w4 wx ∧
                BXF 18 o (fun k => w4.heap.size ≤ k ∧ k ≠ w5.heap.size ∧ ¬ (lo ≤ k ∧ k < hi')) w5.heap.size wx (.slice ao o.length co) (.slice ap o.length cp) (.slice ac o.length cc)) (fun jv _ => R.length - (intOf jv).toNat)
              case atStart => exact ⟨0, rfl, by omega, hhi, hA, hg, hX⟩
              case round =>
                clear hX hg hA hhi
                obtain ⟨j, rfl, hj, hhi, hA, hg, hX⟩ := hrel
                by_cases hltj : j < R.length
                · have hltj' : (j : Int) < R.length := by omega
                  have hoe := HO.out
                  obtain ⟨J, hJ⟩ : ∃ J, J = t.length + j - i - 1 := ⟨_, rfl⟩
                  have hJo : J < o.length - 1 - i := by omega
                  obtain ⟨gc, capc, b, capb, z2, hvc, hcB, hcp, hcl, hcell, hbB, hbp, hbg, hbl, hcc2, hst2⟩ := hX.storeC i J (by omega) hJo (fun k hk => ⟨by have := hg.size; omega, by have := hX.box.1; omega, by omega⟩)
                  obtain ⟨rfl, rfl⟩ : ac = some ⟨gc, 0, none⟩ ∧ cc = capc := by cases hvc; exact ⟨rfl, rfl⟩
                  clear hvc
                  have hAj : j < A.length := by have := HA.out.1; omega
                  obtain ⟨ba, oa, az, capz, rfl, hbaS, _, hca, hra⟩ := Rows2.at hA j hAj
                  have hAz := HA.out.2 _ (gtMem hAj)
                  obtain ⟨zr, hzr⟩ : ∃ zr, zr = gt A j := ⟨_, rfl⟩
                  rw [← hzr] at hca hra hAz
                  clear hzr
                  have hbab : ba ≠ b := fun e => hbB.2.2 (e ▸ hbaS)
                  have e1 : ∀ w', Near wr b w' → w'.cell? ⟨w5.heap.size, 2, none⟩ = some (.slice (some ⟨gc, 0, none⟩) o.length cc) := fun w' h => h.cell hX.box.2.2.2.1 (by simp; omega)
                  have e2 : ∀ w', Near wr b w' → w'.cell? ⟨gc, i, none⟩ = some (.slice (some ⟨b, 0, none⟩) (o.length - 1 - i) capb) := fun w' h => h.cell hcell (by simp; omega)
                  have e3 : ∀ w', Near wr b w' → w'.cell? ⟨ba, oa + j, none⟩ = some (.slice az zr.length capz) := fun w' h => h.cell hca (by simp; omega)
                  have hcon : ∀ w', Ext wr w' → Calls Tryz.prog 330 #[.int .i64 t.length, .slice az zr.length capz, .int .i64 0] w' (Ret w' fun w'' r => ∃ l, l.length ≤ 18 ∧ Own w'.heap.size w'' r l) := fun w' he =>
                    Calls.mono (l07Shift_ok w' t.length _ zr 0 _ (Ints.ext hra he) (by have := hAz.1; omega)) (fun e w2 ⟨v, h1, h2, h3⟩ => ⟨v, h1, h2, _, by simp [shiftL]; have := hAz.1; omega, h3⟩)
                  have hA2 : ∀ wE u, Ext wr wE → Rows2 (fun k => lo ≤ k ∧ k < hi') (wE.setCell ⟨b, J, none⟩ u) (.slice (some ⟨ba, oa, none⟩) R.length cA) A := fun wE u he => Rows2.mono hA (fun k hk hlt => by
                    have hT : wr.grownBy (wE.setCell ⟨b, J, none⟩ u) (some b) := grown_trans (grown_of_ext _ he) (grown_set1 _ _ _ _)
                    exact ⟨hk, Nat.lt_of_lt_of_le hlt hT.size, hT.block k hlt (fun e => hbB.2.2 (by cases e; exact hk))⟩)
                  have HY := Lib.hid (And.intro hst2 (And.intro hcc2 (And.intro hcon hA2))); clear hst2 hcc2 hcon hcell hca hra hA2 hAz
                  have hJl : (J : Int) < ((o.length - 1 - i : Nat) : Int) := by omega
                  have hio : (i : Int) < o.length := by omega
                  have hw1 := w64_sm2 ((t.length : Int) + j) ((t.length + j : Nat) : Int) (by omega) (by omega)
                  have hw2 := w64_sm2 (((t.length + j : Nat) : Int) - i) ((t.length + j - i : Nat) : Int) (by clear hw1; omega) (by clear hw1; omega)
                  have hw3 := w64_sm2 (((t.length + j - i : Nat) : Int) - 1) (J : Int) (by clear hw1 hw2; omega) (by clear hw1 hw2; omega)
                  generalize ((t.length + j : Nat) : Int) = d1 at hw1 hw2
                  generalize ((t.length + j - i : Nat) : Int) = d2 at hw2 hw3
                  have HW := Lib.hid (And.intro hw1 (And.intro hw2 hw3)); clear hw1 hw2 hw3
                  have hbg2 := hX.box.1
                  have HJ := Lib.hid (And.intro hoe hJ); clear hoe hJ hX hA
                  go_wp2
                  obtain ⟨⟨q1, q2⟩, ⟨q3, q4⟩, q5, q6⟩ := HW.out
                  go_region_held3 (fun w' => Near wr b w') (first | exact Near.of (grown_drew _ _) | exact Near.of (by assumption) | exact Near.store (by assumption) | assumption)
                    (first
                      | (go_at_call 330; refine Calls.mono (Calls.rel (w0 := wr) (by first | exact grown_drew _ _ | assumption) (HY.out.2.2.1 _ (by first | exact grown_drew _ _ | assumption))) ?_; rintro eE wE ⟨vE, rfl, hgE, hsE, lE, hlE, hOE⟩; obtain ⟨aE, cE, hvE, _⟩ := (hOE.ints (Nat.le_trans hlE (by decide))).shape; subst hvE; have hcl := (HY.out.2.1 wE hgE).1; have hfr := (HY.out.2.1 wE hgE).2))
                  clear q1 q2 q3 q4 q5 q6
                  have hX5 := HY.out.1 wE _ lE hgE (OwnIn.of hOE (Nat.le_trans hlE (by decide)) (fun k hk _ => Nat.le_trans (by assumption) hk)) hlE
                  have hA5 := HY.out.2.2.2 wE (.slice aE lE.length cE) hgE
                  have hgn : Ext w4 (wE.setCell ⟨b, J, none⟩ (.slice aE lE.length cE)) := grown_own (grown_trans hg hgE) (grown_set1 _ _ _ _) (fun j hj hlt => by cases hj; omega)
                  have hhi5 : hi' ≤ (wE.setCell ⟨b, J, none⟩ (.slice aE lE.length cE)).heap.size := by have := hgE.size; simp; omega
                  clear hcl hfr e1 e2 e3
                  have HZ := Lib.hid hhi5; clear hhi5
                  go_wp2
                  go_roundw
                  case rel => exact ⟨j + 1, by go_num, by omega, HZ.out, hA5, hgn, hX5⟩
                  case measure => simp [intOf]; omega
                · have hltj' : ¬ ((j : Int) < R.length) := by omega
                  obtain ⟨bt, ot, rfl, _, _, hct⟩ := Ints.at (Ints.ext ht6 (grown_trans hg14 hg)) i hlt
                  have hte : 2 ≤ gt t i ∧ gt t i ≤ 7 := HT.out.1 _ (gtMem hlt)
                  obtain ⟨te, hte2⟩ : ∃ te, te = gt t i := ⟨_, rfl⟩
                  rw [← hte2] at hct hte
                  clear hte2
                  have hA0 := Rows2.sub hA (S' := Any) (fun _ _ _ => trivial)
                  obtain ⟨wo, hwo⟩ : ∃ wo : World, wo = wr := ⟨_, rfl⟩
                  rw [← hwo] at hct hA0
                  have hgo : Ext wo wr := by rw [hwo]; exact Ext.refl _
                  go_wp2
                  go_loopw [14, 18] (fun av tv wx => ∃ (q lo2 hi2 : Nat) (aB : Option Addr) (cB : Nat) (B : List (List Int)), av = .slice aB R.length cB ∧ tv = .int .i64 q ∧ 1 ≤ q ∧ q ≤ 7 ∧ B.length = R.length ∧ SmR R.length B ∧ hi2 ≤ wx.heap.size ∧ Rows2 (fun k => lo2 ≤ k ∧ k < hi2) wx (.slice aB R.length cB) B ∧ Ext wo wx ∧ Ext w4 wx ∧
                    BXF 18 o (fun k => w4.heap.size ≤ k ∧ k ≠ w5.heap.size ∧ ¬ (lo2 ≤ k ∧ k < hi2)) w5.heap.size wx (.slice ao o.length co) (.slice ap o.length cp) (.slice ac o.length cc)) (fun _ tv _ => 8 - (intOf tv).toNat)
                  case atStart => exact ⟨1, lo, hi', aA, cA, A, rfl, rfl, by omega, by omega, HA.out.1, HA.out.2, hhi, hA, hgo, hg, hX⟩
                  case round =>
                    clear hX hg hA hhi hgo hwo
                    obtain ⟨q, lo2, hi2, aB, cB, B, rfl, rfl, hq1, hq7, hBl, hBs, hhi, hB, hgo, hg, hX⟩ := hrel
                    have hct2 := hgo.cell hct (by simp)
                    by_cases hlq : (q : Int) < te
                    · have hcon := l02Product_ok wr p _ _ B A R.length _ _ hB (Rows2.ext hA0 hgo) HN.out.2.1 hBs HA.out.2 (by omega) (by omega)
                      have HB := Lib.hid (And.intro hBl hBs); clear hBl hBs
                      obtain ⟨wp, hwp⟩ : ∃ wp : World, wp = wr := ⟨_, rfl⟩
                      go_wp2_with fail
                      refine Calls.mono hcon ?_
                      rintro e9 w9 ⟨v9, rfl, hg9, L, hLl, hLs, hO9⟩
                      clear hcon
                      obtain ⟨a9, c9, hv9, _, _⟩ := SlD.shape (hO9.toD (by have := HB.out.1; omega))
                      rw [hLl, HB.out.1] at hv9
                      subst hv9
                      have hA9 := (RowsD.rows (hO9.toD (by have := HB.out.1; omega))).sub (S' := fun k => wr.heap.size ≤ k ∧ k < w9.heap.size) (fun k hk hlt => ⟨hk, hlt⟩)
                      have hX9 : BXF 18 o (fun k => w4.heap.size ≤ k ∧ k ≠ w5.heap.size ∧ ¬ (wr.heap.size ≤ k ∧ k < w9.heap.size)) w5.heap.size w9 (.slice ao o.length co) (.slice ap o.length cp) (.slice ac o.length cc) :=
                        (hX.turn (F' := fun k => w4.heap.size ≤ k ∧ k ≠ w5.heap.size ∧ ¬ (wr.heap.size ≤ k ∧ k < w9.heap.size)) (fun k hk hlt => ⟨hk.1, hk.2.1, by omega⟩) (fun h => h.2.1 rfl)).ext hg9
                      have hgo9 := grown_trans hgo hg9
                      have hg49 := grown_trans hg hg9
                      have hct9 := hg9.cell hct2 (by simp)
                      have HL := Lib.hid (And.intro hLl hLs); clear hLl hLs
                      clear hct2 hX hg9 hB hO9
                      go_wp2
                      go_roundw
                      case rel => exact ⟨q + 1, wr.heap.size, w9.heap.size, a9, c9, L, rfl, by go_num, by omega, by omega, by rw [HL.out.1, HB.out.1], HL.out.2, Nat.le_refl _, hA9, hgo9, hg49, hX9⟩
                      case measure => simp [intOf]; omega
                    · have HB := Lib.hid (And.intro hBl hBs); clear hBl hBs
                      go_wp2
                      go_roundw
                      case rel => exact ⟨i + 1, lo2, hi2, aB, cB, B, rfl, by go_num, by omega, HB.out.1, HB.out.2, hhi, hB, hg, hX⟩
                      case measure => simp [intOf]; omega
            · have hlt' : ¬ ((i : Int) < t.length) := by omega
              have hz := HN.out.2.2.2.1 _ (grown_trans hg04 hg)
              clear hA
              obtain ⟨h0, h1, h2, h3', h4⟩ := id hX.box
              obtain ⟨k0, k1, k2, k3, k4⟩ := id hz
              have hZ := hz.all (.slice ao o.length co) (.slice ap o.length cp) (.slice ac o.length cc)
              have hT := grown_set3 wr w.heap.size (.slice ao o.length co) (.slice ap o.length cp) (.slice ac o.length cc)
              obtain ⟨_, z0, z1, z2, _⟩ := id hZ
              have HQ := Lib.hid (And.intro hT hX); clear hT hZ hX
              go_wp2
              refine bodyPost_ret (v := .agg #[.slice ao o.length co, .slice ap o.length cp, .slice ac o.length cc]) (by simp [results, Tryz.results329, go_sem, z0, z1, z2]) rfl ?_
              have hq1 := HN.out.2.2.2.2
              have hq2 := hg04.size
              exact ⟨_, rfl, grown_own (grown_trans hg0 (grown_trans hg04 hg)) HQ.out.1 (fun j hj hlt => by cases hj; omega), (BX.ret (BXF.bx HQ.out.2 hs5 (fun k hk => hk.1)) HQ.out.1 (by omega)).weak (by omega)⟩
end Go.Proofs.YtldheeicjnncoaaGreat
namespace Go.Proofs.YtldheeicjnncoaaGreat
open Go.RowKit
attribute [local go_sem ↓] Go.wp_at_zero Go.wp_at_succ

/-- the drawn presentation is handed back -/
theorem fam_ret {w wX : World} {sb B0 N M B : Nat} {x y z : Value} (hgw : w.grownBy wX (some sb)) (hb : w.heap.size < B) (hsrc : Src B0 wX sb) (hB0 : B0 ≤ w.heap.size) (hP : PresN3 N B wX x y z) (hN : N ≤ M) :
    Mut w (some sb) (DrawR B0 sb (PresQ M w.heap.size)) (.returned (.agg #[x, y, z])) (((wX.setCell ⟨w.heap.size, 0, none⟩ x).setCell ⟨w.heap.size, 1, none⟩ y).setCell ⟨w.heap.size, 2, none⟩ z) := by
  have hT := grown_set3 wX w.heap.size x y z
  obtain ⟨Q, h1, h2⟩ := hP
  exact ⟨_, rfl, grown_own hgw hT (fun j hj hlt => by cases hj; omega), ⟨x, y, z, rfl, Q, h1.mono hN, h2.mono (fun k hk hlt => ⟨by have hk : B ≤ k := hk; show w.heap.size ≤ k; omega, Nat.lt_of_lt_of_le hlt hT.size, hT.block k hlt (fun e => by have hk : B ≤ k := hk; have := Option.some.inj e; omega)⟩)⟩, hsrc.own hT (fun k hk => by cases hk; exact hB0)⟩
/-- a literal list -/
theorem ints_litL (w : World) (L : List Int) (hl : L.length ≤ 1000) : Ints (fun k => k = w.heap.size) (w.alloc (.cells (L.map (Value.int .i64)).toArray 2)) (.slice (some ⟨w.heap.size, 0, none⟩) L.length L.length) L := by
  have h : Own 0 (w.alloc (.cells (L.map (Value.int .i64)).toArray 2)) (.slice (some ⟨w.heap.size, 0, none⟩) L.length L.length) L := by
    have := World.ownsRow_lit (base := 0) (e := 2) (size := 1) w (L.map (Value.int .i64)).toArray L.length (Nat.zero_le _) (by unfold maxLen; omega) (by simp)
    simpa using this
  exact ints_of_own h (by omega) (fun k hk => own_blk hk)
/-- rows of a literal list -/
theorem rows_litL (w : World) (vs : List Value) (R : List (List Int)) (hvl : vs.length = R.length) (hl : R.length ≤ 1000) (h : ∀ i, i < R.length → Ints Any w (gt vs i) (gt R i)) :
    Rows2 Any (w.alloc (.cells vs.toArray 24)) (.slice (some ⟨w.heap.size, 0, none⟩) R.length R.length) R := by
  refine ⟨_, _, rfl, ⟨Nat.le_refl _, by omega, fun h => by cases h⟩, fun i hi => ⟨w.heap.size, 0, gt vs i, rfl, trivial, by simp, ?_, Ints.ext (h i hi) (World.grownBy_alloc _ _ _)⟩⟩
  rw [World.cell?_alloc_at _ _ _ _ rfl]
  simp [gt, hvl, hi]

set_option maxRecDepth 100000 in
set_option maxHeartbeats 16000000 in
theorem l07Family_ok (B0 : Nat) (w : World) (sb : Nat) (hB0 : B0 ≤ w.heap.size) (hs : Src B0 w sb) :
    Calls Tryz.prog 275 #[.pointer (some ⟨sb, 0, none⟩)] w (Mut w (some sb) (DrawR B0 sb (PresQ 18 w.heap.size))) := by
  have hsb := hs.lt
  have hbB := Box3.made w 28 (.slice none 0 0) (.slice none 0 0) (.slice none 0 0)
  have hg0 : Ext w (w.alloc (.cells #[.slice none 0 0, .slice none 0 0, .slice none 0 0] 28)) := World.grownBy_alloc _ _ _
  have hs0 : (w.alloc (.cells #[.slice none 0 0, .slice none 0 0, .slice none 0 0] 28)).heap.size = w.heap.size + 1 := by simp
  have hsW := Lib.hid hs; clear hs
  go_enter Tryz.func275, Tryz.ntmps275
  go_wp2_with fail
  generalize w.alloc (.cells #[.slice none 0 0, .slice none 0 0, .slice none 0 0] 28) = w0 at *
  refine Calls.mono (l01Next_ok B0 w0 sb 9 (hsW.out.ext hg0)) ?_
  rintro e1 w1 ⟨v1, rfl, hg1, x, rfl, hx0, hx1, hs1⟩
  have hb1 := Box3.keep hbB hg1.size (hg1.block _ hbB.1 (fun e => by have := Option.some.inj e; omega))
  have hgw1 := grown_trans (grown_of_ext (some sb) hg0) hg1
  have hw1 : w.heap.size + 1 ≤ w1.heap.size := by have := hg1.size; omega
  have hx := hx1 (by omega)
  have HS1 := Lib.hid hs1
  clear hx0 hx1 hg1 hbB hg0 hs0 hs1
  rcases (show x = 0 ∨ x = 1 ∨ x = 2 ∨ x = 3 ∨ x = 4 ∨ x = 5 ∨ x = 6 ∨ x = 7 ∨ x = 8 by omega) with rfl | rfl | rfl | rfl | rfl | rfl | rfl | rfl | rfl
  all_goals clear hx
  · have hgE := World.grownBy_alloc w1 (.cells #[] 2) (some sb)
    have hOE : Own w1.heap.size (w1.alloc (.cells #[] 2)) (.slice (some ⟨w1.heap.size, 0, none⟩) 0 0) [] := World.ownsRow_lit w1 #[] 0 (Nat.le_refl _) (by decide) rfl
    have hsE := (HS1.out.ext (World.grownBy_alloc w1 (.cells #[] 2) none))
    have HS2 := Lib.hid hsE; clear hsE
    go_wp2_with fail
    generalize w1.alloc (.cells #[] 2) = wE at *
    refine Calls.mono (l01Next_ok B0 wE sb 5 HS2.out) ?_
    rintro e2 w2 ⟨v2, rfl, hg2, k, rfl, hk0, hk1, hs2⟩
    have hk := hk1 (by omega)
    clear hk0 hk1
    have hO2 := hOE.kept hg2 (by simp [Value.ownBlock]; omega)
    have hg12 := grown_trans hgE hg2
    have HS3 := Lib.hid hs2; clear hs2 hgE hOE hg2
    go_wp2_with fail
    go_loopw [3, 4] (fun ov kv wr => ∃ (k : Int) (o : List Int) (v4 : Value), v4 = ov ∧ kv = .int .i64 k ∧ 0 ≤ k ∧ k ≤ 4 ∧ Hid (o.length + k ≤ 4) ∧ w1.grownBy wr (some sb) ∧ Own w1.heap.size wr v4 o ∧ Hid (Src B0 wr sb)) (fun _ kv _ => (intOf kv).toNat)
    case atStart => exact ⟨k, [], _, rfl, rfl, hk.1, by omega, Lib.hid (by simp; omega), hg12, hO2, HS3⟩
    case round =>
      clear hO2 hg12 HS3 hk
      obtain ⟨k, o, v4, rfl, rfl, hk0, hk4, hol, hg, hO, hsr⟩ := hrel
      have hwr := hg.size
      by_cases hkp : 0 < k
      · have hob : ∀ j, v4.ownBlock = some j → w1.heap.size ≤ j := fun j hj => (hO.lt j hj).1
        have hll : o.length ≤ 1000000 := by have := hol.out; omega
        have HO := Lib.hid (And.intro hob hll); clear hob hll
        go_wp2_with fail
        have hgL : Ext wr (wr.alloc (.cells #[.int .i64 2, .int .i64 2, .int .i64 3] 2)) := World.grownBy_alloc _ _ _
        have hL : Ints (fun k => k = wr.heap.size) (wr.alloc (.cells #[.int .i64 2, .int .i64 2, .int .i64 3] 2)) (.slice (some ⟨wr.heap.size, 0, none⟩) 3 3) [2, 2, 3] := ints_litL wr [2, 2, 3] (by simp)
        have hsL : (wr.alloc (.cells #[.int .i64 2, .int .i64 2, .int .i64 3] 2)).heap.size = wr.heap.size + 1 := by simp
        generalize wr.alloc (.cells #[.int .i64 2, .int .i64 2, .int .i64 3] 2) = wL at *
        refine Calls.mono (l01Pick_ok B0 wL sb _ [2, 2, 3] _ (hsr.out.ext hgL) hL (fun k hk => by omega) (by simp) (by simp)) ?_
        rintro e3 w3 ⟨v3, rfl, hg3, i, hi, rfl, hs3⟩
        generalize gt ([2, 2, 3] : List Int) i = m at *
        have hgr3 := grown_trans (grown_of_ext (some sb) hgL) hg3
        have hO3 := hO.kept hgr3 (.inr (fun e => by have := HO.out.1 sb e; omega))
        have hg13 := grown_trans hg hgr3
        have HS4 := Lib.hid hs3; clear hs3 hgL hg3 hL hi hO
        go_wp2_with (first | (at_builtin; refine wp_app_int rfl _ _ rfl w1.heap.size v4 o m rfl w3 hO3 rfl rfl HO.out.2 hg13.size ?_; intro v5 w5 hO5 hg5) | fail)
        have hs5 : Src B0 w5 sb := HS4.out.own hg5 (fun j hj => by have := HO.out.1 j hj; omega)
        have hg15 : w1.grownBy w5 (some sb) := grown_own hg13 hg5 (fun j hj hlt => by have := HO.out.1 j hj; omega)
        have hll : (o ++ [m]).length = o.length + 1 := by simp
        go_roundw
        case rel => exact ⟨k - 1, o ++ [m], v5, rfl, rfl, by omega, by omega, Lib.hid (by have := hol.out; omega), hg15, hO5, Lib.hid hs5⟩
        case measure => simp [intOf]; omega
      · have hoI := hO.ints (show o.length ≤ 9223372036854775807 by have := hol.out; omega)
        have hos := hol.out
        have hsz : o.length ≤ 100 := by omega
        clear hos hO
        go_wp2_with fail
        refine Calls.mono (l07Trivial_ok wr _ o _ hoI hsz) ?_
        rintro e3 w3 ⟨v3, rfl, hg3, vo, vp, vc, rfl, hX3⟩
        have hP3 : PresN3 18 wr.heap.size w3 vo vp vc := ⟨trivP o, trivP_shp o (by have := hol.out; omega), hX3.p3⟩
        obtain ⟨a1, n1, c1, a2, n2, c2, a3, n3, c3, rfl, rfl, rfl⟩ := hP3.shape
        clear hX3
        have hg1x : w1.grownBy w3 (some sb) := grown_trans hg (grown_of_ext (some sb) hg3)
        have hb9 := Box3.keep hb1 hg1x.size (hg1x.block _ hb1.1 (fun e => by have := Option.some.inj e; omega))
        have hgw9 := grown_trans hgw1 hg1x
        obtain ⟨b0, b1, b2, b3, b4⟩ := id hb9
        have hZ := hb9.all (.slice a1 n1 c1) (.slice a2 n2 c2) (.slice a3 n3 c3)
        obtain ⟨-, z0, z1, z2, -⟩ := id hZ
        have HF := Lib.hid (And.intro hgw9 (And.intro hP3 (hsr.out.ext hg3))); clear hZ hgw9 hP3 hb9
        go_wp2_with fail
        refine bodyPost_ret (v := .agg #[.slice a1 n1 c1, .slice a2 n2 c2, .slice a3 n3 c3]) (by simp [results, Tryz.results275, go_sem, z0, z1, z2]) rfl ?_
        exact fam_ret HF.out.1 (B := wr.heap.size) (by omega) HF.out.2.2 hB0 HF.out.2.1 (by omega)
  · skip
    go_wp2_with fail
    have hgL : Ext w1 (w1.alloc (.cells #[.int .i64 1, .int .i64 4, .int .i64 6, .int .i64 8, .int .i64 9, .int .i64 12, .int .i64 5, .int .i64 7, .int .i64 27, .int .i64 25, .int .i64 36] 2)) := World.grownBy_alloc _ _ _
    have hL : Ints (fun k => k = w1.heap.size) (w1.alloc (.cells #[.int .i64 1, .int .i64 4, .int .i64 6, .int .i64 8, .int .i64 9, .int .i64 12, .int .i64 5, .int .i64 7, .int .i64 27, .int .i64 25, .int .i64 36] 2)) (.slice (some ⟨w1.heap.size, 0, none⟩) 11 11) [1, 4, 6, 8, 9, 12, 5, 7, 27, 25, 36] := ints_litL w1 [1, 4, 6, 8, 9, 12, 5, 7, 27, 25, 36] (by simp)
    have hsL : (w1.alloc (.cells #[.int .i64 1, .int .i64 4, .int .i64 6, .int .i64 8, .int .i64 9, .int .i64 12, .int .i64 5, .int .i64 7, .int .i64 27, .int .i64 25, .int .i64 36] 2)).heap.size = w1.heap.size + 1 := by simp
    generalize w1.alloc (.cells #[.int .i64 1, .int .i64 4, .int .i64 6, .int .i64 8, .int .i64 9, .int .i64 12, .int .i64 5, .int .i64 7, .int .i64 27, .int .i64 25, .int .i64 36] 2) = wL at *
    refine Calls.mono (l01Pick_ok B0 wL sb _ [1, 4, 6, 8, 9, 12, 5, 7, 27, 25, 36] _ (HS1.out.ext hgL) hL (fun k hk => by omega) (by simp) (by simp)) ?_
    rintro e2 w2 ⟨v2, rfl, hg2, i, hi, rfl, hs2⟩
    have hm : ∀ y ∈ ([1, 4, 6, 8, 9, 12, 5, 7, 27, 25, 36] : List Int), 1 ≤ y ∧ y ≤ 36 := by simp
    have hmi := hm _ (gtMem hi)
    generalize gt ([1, 4, 6, 8, 9, 12, 5, 7, 27, 25, 36] : List Int) i = m at *
    clear hm hi hL
    have hg12 := grown_trans (grown_of_ext (some sb) hgL) hg2
    have hw2 : w.heap.size + 1 ≤ w2.heap.size := by have := hg12.size; omega
    clear hgL hg2
    have HS2 := Lib.hid hs2; clear hs2
    obtain ⟨m, rfl⟩ := Int.eq_ofNat_of_zero_le (show 0 ≤ m by omega)
    go_wp2_with fail
    refine Calls.mono (CyclicPresentation_ok w2 m (by omega)) ?_
    rintro e3 w3 ⟨v3, rfl, hg3, vo, vp, vc, c, rfl, hP⟩
    obtain ⟨_, _, _, he, hP3⟩ := hP.q
    cases he
    obtain ⟨a1, n1, c1, a2, n2, c2, a3, n3, c3, rfl, rfl, rfl⟩ := hP3.shape
    have hg1x : w1.grownBy w3 (some sb) := grown_trans hg12 (grown_of_ext (some sb) hg3)
    have hb9 := Box3.keep hb1 hg1x.size (hg1x.block _ hb1.1 (fun e => by have := Option.some.inj e; omega))
    have hgw9 := grown_trans hgw1 hg1x
    obtain ⟨b0, b1, b2, b3, b4⟩ := id hb9
    have hgA := World.grownBy_alloc (((w3.setCell ⟨w.heap.size, 0, none⟩ (.slice a1 n1 c1)).setCell ⟨w.heap.size, 1, none⟩ (.slice a2 n2 c2)).setCell ⟨w.heap.size, 2, none⟩ (.slice a3 n3 c3)) (.cells #[.slice a1 n1 c1, .slice a2 n2 c2, .slice a3 n3 c3] 28) none
    have hZ := (hb9.all (.slice a1 n1 c1) (.slice a2 n2 c2) (.slice a3 n3 c3)).ext hgA
    obtain ⟨-, z0, z1, z2, -⟩ := id hZ
    have HF := Lib.hid (And.intro hgw9 (And.intro hP3 (And.intro (HS2.out.ext hg3) hgA))); clear hZ hgw9 hP3 hb9 hgA
    go_wp2_with fail
    refine bodyPost_ret (v := .agg #[.slice a1 n1 c1, .slice a2 n2 c2, .slice a3 n3 c3]) (by simp [results, Tryz.results275, go_sem, z0, z1, z2]) rfl ?_
    obtain ⟨_, he, k1, ⟨q1, q2, q3, k2, Q, k4, k5⟩, k3⟩ := fam_ret (M := 18) HF.out.1 (B := w2.heap.size) (by omega) HF.out.2.2.1 hB0 HF.out.2.1 (by omega)
    cases he
    cases k2
    exact ⟨_, rfl, grown_trans k1 (grown_of_ext (some sb) HF.out.2.2.2), ⟨_, _, _, rfl, Q, k4, k5.ext HF.out.2.2.2⟩, k3.ext HF.out.2.2.2⟩
  focus
    go_wp2_with fail
    have hgL : Ext w1 (w1.alloc (.cells #[.int .i64 3, .int .i64 4, .int .i64 5, .int .i64 6, .int .i64 7, .int .i64 8, .int .i64 9, .int .i64 12] 2)) := World.grownBy_alloc _ _ _
    have hL : Ints (fun k => k = w1.heap.size) (w1.alloc (.cells #[.int .i64 3, .int .i64 4, .int .i64 5, .int .i64 6, .int .i64 7, .int .i64 8, .int .i64 9, .int .i64 12] 2)) (.slice (some ⟨w1.heap.size, 0, none⟩) 8 8) [3, 4, 5, 6, 7, 8, 9, 12] := ints_litL w1 [3, 4, 5, 6, 7, 8, 9, 12] (by simp)
    have hsL : (w1.alloc (.cells #[.int .i64 3, .int .i64 4, .int .i64 5, .int .i64 6, .int .i64 7, .int .i64 8, .int .i64 9, .int .i64 12] 2)).heap.size = w1.heap.size + 1 := by simp
    generalize w1.alloc (.cells #[.int .i64 3, .int .i64 4, .int .i64 5, .int .i64 6, .int .i64 7, .int .i64 8, .int .i64 9, .int .i64 12] 2) = wL at *
    refine Calls.mono (l01Pick_ok B0 wL sb _ [3, 4, 5, 6, 7, 8, 9, 12] _ (HS1.out.ext hgL) hL (fun k hk => by omega) (by simp) (by simp)) ?_
    rintro e2 w2 ⟨v2, rfl, hg2, i, hi, rfl, hs2⟩
    have hm : ∀ y ∈ ([3, 4, 5, 6, 7, 8, 9, 12] : List Int), 3 ≤ y ∧ y ≤ 12 := by simp
    have hmi := hm _ (gtMem hi)
    generalize gt ([3, 4, 5, 6, 7, 8, 9, 12] : List Int) i = m at *
    clear hm hi hL
    have hg12 := grown_trans (grown_of_ext (some sb) hgL) hg2
    have hw2 : w.heap.size + 1 ≤ w2.heap.size := by have := hg12.size; omega
    clear hgL hg2
    have HS2 := Lib.hid hs2; clear hs2
    have hmd : 0 ≤ m / 2 ∧ m / 2 ≤ 6 := by omega
    go_wp2_with fail
    refine Calls.mono (l07Meta_ok w2 2 m (m - 1) 0 (by omega) (by omega) (by omega) (by omega)) ?_
    rintro e3 w3 ⟨v3, rfl, hg3, hP⟩
    obtain ⟨vo, vp, vc, rfl, hP3⟩ := hP.q
    have hg1x : w1.grownBy w3 (some sb) := grown_trans hg12 (grown_of_ext (some sb) hg3)
    have hsr := HS2.out.ext hg3
  rotate_left
  focus
    go_wp2_with fail
    have hgL : Ext w1 (w1.alloc (.cells #[.int .i64 4, .int .i64 6, .int .i64 8, .int .i64 12] 2)) := World.grownBy_alloc _ _ _
    have hL : Ints (fun k => k = w1.heap.size) (w1.alloc (.cells #[.int .i64 4, .int .i64 6, .int .i64 8, .int .i64 12] 2)) (.slice (some ⟨w1.heap.size, 0, none⟩) 4 4) [4, 6, 8, 12] := ints_litL w1 [4, 6, 8, 12] (by simp)
    have hsL : (w1.alloc (.cells #[.int .i64 4, .int .i64 6, .int .i64 8, .int .i64 12] 2)).heap.size = w1.heap.size + 1 := by simp
    generalize w1.alloc (.cells #[.int .i64 4, .int .i64 6, .int .i64 8, .int .i64 12] 2) = wL at *
    refine Calls.mono (l01Pick_ok B0 wL sb _ [4, 6, 8, 12] _ (HS1.out.ext hgL) hL (fun k hk => by omega) (by simp) (by simp)) ?_
    rintro e2 w2 ⟨v2, rfl, hg2, i, hi, rfl, hs2⟩
    have hm : ∀ y ∈ ([4, 6, 8, 12] : List Int), 3 ≤ y ∧ y ≤ 12 := by simp
    have hmi := hm _ (gtMem hi)
    generalize gt ([4, 6, 8, 12] : List Int) i = m at *
    clear hm hi hL
    have hg12 := grown_trans (grown_of_ext (some sb) hgL) hg2
    have hw2 : w.heap.size + 1 ≤ w2.heap.size := by have := hg12.size; omega
    clear hgL hg2
    have HS2 := Lib.hid hs2; clear hs2
    have hmd : 0 ≤ m / 2 ∧ m / 2 ≤ 6 := by omega
    go_wp2_with fail
    refine Calls.mono (l07Meta_ok w2 2 m (m - 1) (m / 2) (by omega) (by omega) (by omega) (by omega)) ?_
    rintro e3 w3 ⟨v3, rfl, hg3, hP⟩
    obtain ⟨vo, vp, vc, rfl, hP3⟩ := hP.q
    have hg1x : w1.grownBy w3 (some sb) := grown_trans hg12 (grown_of_ext (some sb) hg3)
    have hsr := HS2.out.ext hg3
  rotate_left
  focus
    go_wp2_with fail
    refine Calls.mono (l01Next_ok B0 w1 sb 6 HS1.out) ?_
    rintro e2 w2 ⟨v2, rfl, hg12, y, rfl, hy0, hy1, hs2⟩
    have hy := hy1 (by omega)
    have HS2 := Lib.hid hs2
    have hw2 : w.heap.size + 1 ≤ w2.heap.size := by have := hg12.size; omega
    clear hy0 hy1 hs2
    rcases (show y = 0 ∨ y = 1 ∨ y = 2 ∨ y = 3 ∨ y = 4 ∨ y = 5 by omega) with rfl | rfl | rfl | rfl | rfl | rfl
    all_goals clear hy
    focus
      go_wp2_with fail
      refine Calls.mono (l07Meta_ok w2 3 7 2 0 (by omega) (by omega) (by omega) (by omega)) ?_
      rintro e3 w3 ⟨v3, rfl, hg3, hP⟩
      obtain ⟨vo, vp, vc, rfl, hP3⟩ := hP.q
      have hg1x : w1.grownBy w3 (some sb) := grown_trans hg12 (grown_of_ext (some sb) hg3)
      have hsr := HS2.out.ext hg3
    rotate_left
    focus
      go_wp2_with fail
      refine Calls.mono (l07Meta_ok w2 4 5 2 0 (by omega) (by omega) (by omega) (by omega)) ?_
      rintro e3 w3 ⟨v3, rfl, hg3, hP⟩
      obtain ⟨vo, vp, vc, rfl, hP3⟩ := hP.q
      have hg1x : w1.grownBy w3 (some sb) := grown_trans hg12 (grown_of_ext (some sb) hg3)
      have hsr := HS2.out.ext hg3
    rotate_left
    focus
      go_wp2_with fail
      refine Calls.mono (l07Meta_ok w2 2 8 3 0 (by omega) (by omega) (by omega) (by omega)) ?_
      rintro e3 w3 ⟨v3, rfl, hg3, hP⟩
      obtain ⟨vo, vp, vc, rfl, hP3⟩ := hP.q
      have hg1x : w1.grownBy w3 (some sb) := grown_trans hg12 (grown_of_ext (some sb) hg3)
      have hsr := HS2.out.ext hg3
    rotate_left
    focus
      go_wp2_with fail
      refine Calls.mono (l07Meta_ok w2 2 8 5 0 (by omega) (by omega) (by omega) (by omega)) ?_
      rintro e3 w3 ⟨v3, rfl, hg3, hP⟩
      obtain ⟨vo, vp, vc, rfl, hP3⟩ := hP.q
      have hg1x : w1.grownBy w3 (some sb) := grown_trans hg12 (grown_of_ext (some sb) hg3)
      have hsr := HS2.out.ext hg3
    rotate_left
    focus
      go_wp2_with fail
      refine Calls.mono (l07Meta_ok w2 4 4 3 0 (by omega) (by omega) (by omega) (by omega)) ?_
      rintro e3 w3 ⟨v3, rfl, hg3, hP⟩
      obtain ⟨vo, vp, vc, rfl, hP3⟩ := hP.q
      have hg1x : w1.grownBy w3 (some sb) := grown_trans hg12 (grown_of_ext (some sb) hg3)
      have hsr := HS2.out.ext hg3
    rotate_left
    focus
      go_wp2_with fail
      refine Calls.mono (l07Meta_ok w2 3 9 4 0 (by omega) (by omega) (by omega) (by omega)) ?_
      rintro e3 w3 ⟨v3, rfl, hg3, hP⟩
      obtain ⟨vo, vp, vc, rfl, hP3⟩ := hP.q
      have hg1x : w1.grownBy w3 (some sb) := grown_trans hg12 (grown_of_ext (some sb) hg3)
      have hsr := HS2.out.ext hg3
    rotate_left
  rotate_left 6
  focus
    go_wp2_with fail
    have hgL : Ext w1 (w1.alloc (.cells #[.int .i64 2, .int .i64 3, .int .i64 2, .int .i64 3, .int .i64 5] 2)) := World.grownBy_alloc _ _ _
    have hL : Ints (fun k => k = w1.heap.size) (w1.alloc (.cells #[.int .i64 2, .int .i64 3, .int .i64 2, .int .i64 3, .int .i64 5] 2)) (.slice (some ⟨w1.heap.size, 0, none⟩) 5 5) [2, 3, 2, 3, 5] := ints_litL w1 [2, 3, 2, 3, 5] (by simp)
    have hsL : (w1.alloc (.cells #[.int .i64 2, .int .i64 3, .int .i64 2, .int .i64 3, .int .i64 5] 2)).heap.size = w1.heap.size + 1 := by simp
    generalize w1.alloc (.cells #[.int .i64 2, .int .i64 3, .int .i64 2, .int .i64 3, .int .i64 5] 2) = wL at *
    refine Calls.mono (l01Pick_ok B0 wL sb _ [2, 3, 2, 3, 5] _ (HS1.out.ext hgL) hL (fun k hk => by omega) (by simp) (by simp)) ?_
    rintro e2 w2 ⟨v2, rfl, hg2, i, hi, rfl, hs2⟩
    have hm : ∀ y ∈ ([2, 3, 2, 3, 5] : List Int), 2 ≤ y ∧ y ≤ 5 := by simp
    have hmi := hm _ (gtMem hi)
    generalize gt ([2, 3, 2, 3, 5] : List Int) i = m at *
    clear hm hi hL
    have hg12 := grown_trans (grown_of_ext (some sb) hgL) hg2
    have hw2 : w.heap.size + 1 ≤ w2.heap.size := by have := hg12.size; omega
    clear hgL hg2
    have HS2 := Lib.hid hs2; clear hs2
    go_wp2_with fail
    refine Calls.mono (l07Heisenberg_ok B0 w2 sb m (by omega) HS2.out) ?_
    rintro e3 w3 ⟨v3, rfl, hg3, hP, hs3⟩
    obtain ⟨vo, vp, vc, rfl, hP3⟩ := hP.q
    have hg1x : w1.grownBy w3 (some sb) := grown_trans hg12 hg3
    have hsr := hs3
  rotate_left
  focus
    go_wp2_with fail
    refine Calls.mono (l01Next_ok B0 w1 sb 6 HS1.out) ?_
    rintro e2 w2 ⟨v2, rfl, hg12, y, rfl, hy0, hy1, hs2⟩
    have hy := hy1 (by omega)
    have HS2 := Lib.hid hs2
    have hw2 : w.heap.size + 1 ≤ w2.heap.size := by have := hg12.size; omega
    clear hy0 hy1 hs2
    rcases (show y = 0 ∨ y = 1 ∨ y = 2 ∨ y = 3 ∨ y = 4 ∨ y = 5 by omega) with rfl | rfl | rfl | rfl | rfl | rfl
    all_goals clear hy
    focus
      go_wp2_with fail
      have hgL0 : Ext w2 (w2.alloc (.cells #[.int .i64 2, .int .i64 0] 2)) := World.grownBy_alloc _ _ _
      have hL0 : Ints Any (w2.alloc (.cells #[.int .i64 2, .int .i64 0] 2)) (.slice (some ⟨w2.heap.size, 0, none⟩) 2 2) [2, 0] := Ints.sub (ints_litL w2 [2, 0] (by simp)) (fun _ _ _ => trivial)
      have hsL0 : (w2.alloc (.cells #[.int .i64 2, .int .i64 0] 2)).heap.size = w2.heap.size + 1 := by simp
      generalize w2.alloc (.cells #[.int .i64 2, .int .i64 0] 2) = u0 at *
      have hgL1 : Ext u0 (u0.alloc (.cells #[.int .i64 0, .int .i64 2] 2)) := World.grownBy_alloc _ _ _
      have hL1 : Ints Any (u0.alloc (.cells #[.int .i64 0, .int .i64 2] 2)) (.slice (some ⟨u0.heap.size, 0, none⟩) 2 2) [0, 2] := Ints.sub (ints_litL u0 [0, 2] (by simp)) (fun _ _ _ => trivial)
      have hsL1 : (u0.alloc (.cells #[.int .i64 0, .int .i64 2] 2)).heap.size = u0.heap.size + 1 := by simp
      generalize u0.alloc (.cells #[.int .i64 0, .int .i64 2] 2) = u1 at *
      rw [hsL0] at hL1
      have hM0 := Ints.ext (hL0) hgL1
      have hM1 := hL1
      have hrow : ∀ i, i < ([[2, 0], [0, 2]] : List (List Int)).length → Ints Any u1 (gt ([.slice (some ⟨w2.heap.size, 0, none⟩) 2 2, .slice (some ⟨w2.heap.size + 1, 0, none⟩) 2 2] : List Value) i) (gt ([[2, 0], [0, 2]] : List (List Int)) i) := by
        intro i hi
        rcases (show i = 0 ∨ i = 1 by simp at hi; omega) with rfl | rfl
        · exact hM0
        · exact hM1
      have hRr := rows_litL u1 [.slice (some ⟨w2.heap.size, 0, none⟩) 2 2, .slice (some ⟨w2.heap.size + 1, 0, none⟩) 2 2] [[2, 0], [0, 2]] rfl (by simp) hrow
      have hgR := World.grownBy_alloc u1 (.cells #[.slice (some ⟨w2.heap.size, 0, none⟩) 2 2, .slice (some ⟨w2.heap.size + 1, 0, none⟩) 2 2] 24) none
      have hg2R : Ext w2 (u1.alloc (.cells #[.slice (some ⟨w2.heap.size, 0, none⟩) 2 2, .slice (some ⟨w2.heap.size + 1, 0, none⟩) 2 2] 24)) := grown_trans hgL0 (grown_trans hgL1 hgR)
      have hsR : u1.heap.size = w2.heap.size + 2 := by omega
      rw [hsL1, hsL0] at hRr
      refine Calls.mono (l07Affine_ok _ 3 2 _ [[2, 0], [0, 2]] Any hRr (by unfold SmR Sm; simp) (by omega) (by omega) (by simp)) ?_
      rintro e3 w3 ⟨v3, rfl, hg3, hP⟩
      have hP := hP.q.mono (B' := w2.heap.size) (Nat.le_refl _) hg2R.size
      have hg23 : Ext w2 w3 := grown_trans hg2R hg3
      clear hRr hgR hg2R hrow hM0 hL0 hgL0 hsL0 hM1 hL1 hgL1 hsL1
      obtain ⟨vo, vp, vc, rfl, hP3⟩ := hP
      have hg1x : w1.grownBy w3 (some sb) := grown_trans hg12 (grown_of_ext (some sb) hg23)
      have hsr := HS2.out.ext hg23
    rotate_left
    focus
      go_wp2_with fail
      have hgL0 : Ext w2 (w2.alloc (.cells #[.int .i64 0, .int .i64 1] 2)) := World.grownBy_alloc _ _ _
      have hL0 : Ints Any (w2.alloc (.cells #[.int .i64 0, .int .i64 1] 2)) (.slice (some ⟨w2.heap.size, 0, none⟩) 2 2) [0, 1] := Ints.sub (ints_litL w2 [0, 1] (by simp)) (fun _ _ _ => trivial)
      have hsL0 : (w2.alloc (.cells #[.int .i64 0, .int .i64 1] 2)).heap.size = w2.heap.size + 1 := by simp
      generalize w2.alloc (.cells #[.int .i64 0, .int .i64 1] 2) = u0 at *
      have hgL1 : Ext u0 (u0.alloc (.cells #[.int .i64 2, .int .i64 0] 2)) := World.grownBy_alloc _ _ _
      have hL1 : Ints Any (u0.alloc (.cells #[.int .i64 2, .int .i64 0] 2)) (.slice (some ⟨u0.heap.size, 0, none⟩) 2 2) [2, 0] := Ints.sub (ints_litL u0 [2, 0] (by simp)) (fun _ _ _ => trivial)
      have hsL1 : (u0.alloc (.cells #[.int .i64 2, .int .i64 0] 2)).heap.size = u0.heap.size + 1 := by simp
      generalize u0.alloc (.cells #[.int .i64 2, .int .i64 0] 2) = u1 at *
      rw [hsL0] at hL1
      have hM0 := Ints.ext (hL0) hgL1
      have hM1 := hL1
      have hrow : ∀ i, i < ([[0, 1], [2, 0]] : List (List Int)).length → Ints Any u1 (gt ([.slice (some ⟨w2.heap.size, 0, none⟩) 2 2, .slice (some ⟨w2.heap.size + 1, 0, none⟩) 2 2] : List Value) i) (gt ([[0, 1], [2, 0]] : List (List Int)) i) := by
        intro i hi
        rcases (show i = 0 ∨ i = 1 by simp at hi; omega) with rfl | rfl
        · exact hM0
        · exact hM1
      have hRr := rows_litL u1 [.slice (some ⟨w2.heap.size, 0, none⟩) 2 2, .slice (some ⟨w2.heap.size + 1, 0, none⟩) 2 2] [[0, 1], [2, 0]] rfl (by simp) hrow
      have hgR := World.grownBy_alloc u1 (.cells #[.slice (some ⟨w2.heap.size, 0, none⟩) 2 2, .slice (some ⟨w2.heap.size + 1, 0, none⟩) 2 2] 24) none
      have hg2R : Ext w2 (u1.alloc (.cells #[.slice (some ⟨w2.heap.size, 0, none⟩) 2 2, .slice (some ⟨w2.heap.size + 1, 0, none⟩) 2 2] 24)) := grown_trans hgL0 (grown_trans hgL1 hgR)
      have hsR : u1.heap.size = w2.heap.size + 2 := by omega
      rw [hsL1, hsL0] at hRr
      refine Calls.mono (l07Affine_ok _ 3 4 _ [[0, 1], [2, 0]] Any hRr (by unfold SmR Sm; simp) (by omega) (by omega) (by simp)) ?_
      rintro e3 w3 ⟨v3, rfl, hg3, hP⟩
      have hP := hP.q.mono (B' := w2.heap.size) (Nat.le_refl _) hg2R.size
      have hg23 : Ext w2 w3 := grown_trans hg2R hg3
      clear hRr hgR hg2R hrow hM0 hL0 hgL0 hsL0 hM1 hL1 hgL1 hsL1
      obtain ⟨vo, vp, vc, rfl, hP3⟩ := hP
      have hg1x : w1.grownBy w3 (some sb) := grown_trans hg12 (grown_of_ext (some sb) hg23)
      have hsr := HS2.out.ext hg23
    rotate_left
    focus
      go_wp2_with fail
      have hgL0 : Ext w2 (w2.alloc (.cells #[.int .i64 0, .int .i64 1, .int .i64 0] 2)) := World.grownBy_alloc _ _ _
      have hL0 : Ints Any (w2.alloc (.cells #[.int .i64 0, .int .i64 1, .int .i64 0] 2)) (.slice (some ⟨w2.heap.size, 0, none⟩) 3 3) [0, 1, 0] := Ints.sub (ints_litL w2 [0, 1, 0] (by simp)) (fun _ _ _ => trivial)
      have hsL0 : (w2.alloc (.cells #[.int .i64 0, .int .i64 1, .int .i64 0] 2)).heap.size = w2.heap.size + 1 := by simp
      generalize w2.alloc (.cells #[.int .i64 0, .int .i64 1, .int .i64 0] 2) = u0 at *
      have hgL1 : Ext u0 (u0.alloc (.cells #[.int .i64 0, .int .i64 0, .int .i64 1] 2)) := World.grownBy_alloc _ _ _
      have hL1 : Ints Any (u0.alloc (.cells #[.int .i64 0, .int .i64 0, .int .i64 1] 2)) (.slice (some ⟨u0.heap.size, 0, none⟩) 3 3) [0, 0, 1] := Ints.sub (ints_litL u0 [0, 0, 1] (by simp)) (fun _ _ _ => trivial)
      have hsL1 : (u0.alloc (.cells #[.int .i64 0, .int .i64 0, .int .i64 1] 2)).heap.size = u0.heap.size + 1 := by simp
      generalize u0.alloc (.cells #[.int .i64 0, .int .i64 0, .int .i64 1] 2) = u1 at *
      have hgL2 : Ext u1 (u1.alloc (.cells #[.int .i64 1, .int .i64 1, .int .i64 0] 2)) := World.grownBy_alloc _ _ _
      have hL2 : Ints Any (u1.alloc (.cells #[.int .i64 1, .int .i64 1, .int .i64 0] 2)) (.slice (some ⟨u1.heap.size, 0, none⟩) 3 3) [1, 1, 0] := Ints.sub (ints_litL u1 [1, 1, 0] (by simp)) (fun _ _ _ => trivial)
      have hsL2 : (u1.alloc (.cells #[.int .i64 1, .int .i64 1, .int .i64 0] 2)).heap.size = u1.heap.size + 1 := by simp
      generalize u1.alloc (.cells #[.int .i64 1, .int .i64 1, .int .i64 0] 2) = u2 at *
      rw [hsL0] at hL1
      rw [hsL1, hsL0] at hL2
      have hM0 := Ints.ext (Ints.ext (hL0) hgL1) hgL2
      have hM1 := Ints.ext (hL1) hgL2
      have hM2 := hL2
      have hrow : ∀ i, i < ([[0, 1, 0], [0, 0, 1], [1, 1, 0]] : List (List Int)).length → Ints Any u2 (gt ([.slice (some ⟨w2.heap.size, 0, none⟩) 3 3, .slice (some ⟨w2.heap.size + 1, 0, none⟩) 3 3, .slice (some ⟨w2.heap.size + 1 + 1, 0, none⟩) 3 3] : List Value) i) (gt ([[0, 1, 0], [0, 0, 1], [1, 1, 0]] : List (List Int)) i) := by
        intro i hi
        rcases (show i = 0 ∨ i = 1 ∨ i = 2 by simp at hi; omega) with rfl | rfl | rfl
        · exact hM0
        · exact hM1
        · exact hM2
      have hRr := rows_litL u2 [.slice (some ⟨w2.heap.size, 0, none⟩) 3 3, .slice (some ⟨w2.heap.size + 1, 0, none⟩) 3 3, .slice (some ⟨w2.heap.size + 1 + 1, 0, none⟩) 3 3] [[0, 1, 0], [0, 0, 1], [1, 1, 0]] rfl (by simp) hrow
      have hgR := World.grownBy_alloc u2 (.cells #[.slice (some ⟨w2.heap.size, 0, none⟩) 3 3, .slice (some ⟨w2.heap.size + 1, 0, none⟩) 3 3, .slice (some ⟨w2.heap.size + 1 + 1, 0, none⟩) 3 3] 24) none
      have hg2R : Ext w2 (u2.alloc (.cells #[.slice (some ⟨w2.heap.size, 0, none⟩) 3 3, .slice (some ⟨w2.heap.size + 1, 0, none⟩) 3 3, .slice (some ⟨w2.heap.size + 1 + 1, 0, none⟩) 3 3] 24)) := grown_trans hgL0 (grown_trans hgL1 (grown_trans hgL2 hgR))
      have hsR : u2.heap.size = w2.heap.size + 3 := by omega
      rw [hsL2, hsL1, hsL0] at hRr
      refine Calls.mono (l07Affine_ok _ 2 7 _ [[0, 1, 0], [0, 0, 1], [1, 1, 0]] Any hRr (by unfold SmR Sm; simp) (by omega) (by omega) (by simp)) ?_
      rintro e3 w3 ⟨v3, rfl, hg3, hP⟩
      have hP := hP.q.mono (B' := w2.heap.size) (Nat.le_refl _) hg2R.size
      have hg23 : Ext w2 w3 := grown_trans hg2R hg3
      clear hRr hgR hg2R hrow hM0 hL0 hgL0 hsL0 hM1 hL1 hgL1 hsL1 hM2 hL2 hgL2 hsL2
      obtain ⟨vo, vp, vc, rfl, hP3⟩ := hP
      have hg1x : w1.grownBy w3 (some sb) := grown_trans hg12 (grown_of_ext (some sb) hg23)
      have hsr := HS2.out.ext hg23
    rotate_left
    focus
      go_wp2_with fail
      have hgL0 : Ext w2 (w2.alloc (.cells #[.int .i64 1, .int .i64 1, .int .i64 0] 2)) := World.grownBy_alloc _ _ _
      have hL0 : Ints Any (w2.alloc (.cells #[.int .i64 1, .int .i64 1, .int .i64 0] 2)) (.slice (some ⟨w2.heap.size, 0, none⟩) 3 3) [1, 1, 0] := Ints.sub (ints_litL w2 [1, 1, 0] (by simp)) (fun _ _ _ => trivial)
      have hsL0 : (w2.alloc (.cells #[.int .i64 1, .int .i64 1, .int .i64 0] 2)).heap.size = w2.heap.size + 1 := by simp
      generalize w2.alloc (.cells #[.int .i64 1, .int .i64 1, .int .i64 0] 2) = u0 at *
      have hgL1 : Ext u0 (u0.alloc (.cells #[.int .i64 0, .int .i64 1, .int .i64 1] 2)) := World.grownBy_alloc _ _ _
      have hL1 : Ints Any (u0.alloc (.cells #[.int .i64 0, .int .i64 1, .int .i64 1] 2)) (.slice (some ⟨u0.heap.size, 0, none⟩) 3 3) [0, 1, 1] := Ints.sub (ints_litL u0 [0, 1, 1] (by simp)) (fun _ _ _ => trivial)
      have hsL1 : (u0.alloc (.cells #[.int .i64 0, .int .i64 1, .int .i64 1] 2)).heap.size = u0.heap.size + 1 := by simp
      generalize u0.alloc (.cells #[.int .i64 0, .int .i64 1, .int .i64 1] 2) = u1 at *
      have hgL2 : Ext u1 (u1.alloc (.cells #[.int .i64 0, .int .i64 0, .int .i64 1] 2)) := World.grownBy_alloc _ _ _
      have hL2 : Ints Any (u1.alloc (.cells #[.int .i64 0, .int .i64 0, .int .i64 1] 2)) (.slice (some ⟨u1.heap.size, 0, none⟩) 3 3) [0, 0, 1] := Ints.sub (ints_litL u1 [0, 0, 1] (by simp)) (fun _ _ _ => trivial)
      have hsL2 : (u1.alloc (.cells #[.int .i64 0, .int .i64 0, .int .i64 1] 2)).heap.size = u1.heap.size + 1 := by simp
      generalize u1.alloc (.cells #[.int .i64 0, .int .i64 0, .int .i64 1] 2) = u2 at *
      rw [hsL0] at hL1
      rw [hsL1, hsL0] at hL2
      have hM0 := Ints.ext (Ints.ext (hL0) hgL1) hgL2
      have hM1 := Ints.ext (hL1) hgL2
      have hM2 := hL2
      have hrow : ∀ i, i < ([[1, 1, 0], [0, 1, 1], [0, 0, 1]] : List (List Int)).length → Ints Any u2 (gt ([.slice (some ⟨w2.heap.size, 0, none⟩) 3 3, .slice (some ⟨w2.heap.size + 1, 0, none⟩) 3 3, .slice (some ⟨w2.heap.size + 1 + 1, 0, none⟩) 3 3] : List Value) i) (gt ([[1, 1, 0], [0, 1, 1], [0, 0, 1]] : List (List Int)) i) := by
        intro i hi
        rcases (show i = 0 ∨ i = 1 ∨ i = 2 by simp at hi; omega) with rfl | rfl | rfl
        · exact hM0
        · exact hM1
        · exact hM2
      have hRr := rows_litL u2 [.slice (some ⟨w2.heap.size, 0, none⟩) 3 3, .slice (some ⟨w2.heap.size + 1, 0, none⟩) 3 3, .slice (some ⟨w2.heap.size + 1 + 1, 0, none⟩) 3 3] [[1, 1, 0], [0, 1, 1], [0, 0, 1]] rfl (by simp) hrow
      have hgR := World.grownBy_alloc u2 (.cells #[.slice (some ⟨w2.heap.size, 0, none⟩) 3 3, .slice (some ⟨w2.heap.size + 1, 0, none⟩) 3 3, .slice (some ⟨w2.heap.size + 1 + 1, 0, none⟩) 3 3] 24) none
      have hg2R : Ext w2 (u2.alloc (.cells #[.slice (some ⟨w2.heap.size, 0, none⟩) 3 3, .slice (some ⟨w2.heap.size + 1, 0, none⟩) 3 3, .slice (some ⟨w2.heap.size + 1 + 1, 0, none⟩) 3 3] 24)) := grown_trans hgL0 (grown_trans hgL1 (grown_trans hgL2 hgR))
      have hsR : u2.heap.size = w2.heap.size + 3 := by omega
      rw [hsL2, hsL1, hsL0] at hRr
      refine Calls.mono (l07Affine_ok _ 2 4 _ [[1, 1, 0], [0, 1, 1], [0, 0, 1]] Any hRr (by unfold SmR Sm; simp) (by omega) (by omega) (by simp)) ?_
      rintro e3 w3 ⟨v3, rfl, hg3, hP⟩
      have hP := hP.q.mono (B' := w2.heap.size) (Nat.le_refl _) hg2R.size
      have hg23 : Ext w2 w3 := grown_trans hg2R hg3
      clear hRr hgR hg2R hrow hM0 hL0 hgL0 hsL0 hM1 hL1 hgL1 hsL1 hM2 hL2 hgL2 hsL2
      obtain ⟨vo, vp, vc, rfl, hP3⟩ := hP
      have hg1x : w1.grownBy w3 (some sb) := grown_trans hg12 (grown_of_ext (some sb) hg23)
      have hsr := HS2.out.ext hg23
    rotate_left
    focus
      go_wp2_with fail
      have hgL0 : Ext w2 (w2.alloc (.cells #[.int .i64 0, .int .i64 1, .int .i64 0, .int .i64 0] 2)) := World.grownBy_alloc _ _ _
      have hL0 : Ints Any (w2.alloc (.cells #[.int .i64 0, .int .i64 1, .int .i64 0, .int .i64 0] 2)) (.slice (some ⟨w2.heap.size, 0, none⟩) 4 4) [0, 1, 0, 0] := Ints.sub (ints_litL w2 [0, 1, 0, 0] (by simp)) (fun _ _ _ => trivial)
      have hsL0 : (w2.alloc (.cells #[.int .i64 0, .int .i64 1, .int .i64 0, .int .i64 0] 2)).heap.size = w2.heap.size + 1 := by simp
      generalize w2.alloc (.cells #[.int .i64 0, .int .i64 1, .int .i64 0, .int .i64 0] 2) = u0 at *
      have hgL1 : Ext u0 (u0.alloc (.cells #[.int .i64 1, .int .i64 0, .int .i64 0, .int .i64 0] 2)) := World.grownBy_alloc _ _ _
      have hL1 : Ints Any (u0.alloc (.cells #[.int .i64 1, .int .i64 0, .int .i64 0, .int .i64 0] 2)) (.slice (some ⟨u0.heap.size, 0, none⟩) 4 4) [1, 0, 0, 0] := Ints.sub (ints_litL u0 [1, 0, 0, 0] (by simp)) (fun _ _ _ => trivial)
      have hsL1 : (u0.alloc (.cells #[.int .i64 1, .int .i64 0, .int .i64 0, .int .i64 0] 2)).heap.size = u0.heap.size + 1 := by simp
      generalize u0.alloc (.cells #[.int .i64 1, .int .i64 0, .int .i64 0, .int .i64 0] 2) = u1 at *
      have hgL2 : Ext u1 (u1.alloc (.cells #[.int .i64 0, .int .i64 0, .int .i64 0, .int .i64 1] 2)) := World.grownBy_alloc _ _ _
      have hL2 : Ints Any (u1.alloc (.cells #[.int .i64 0, .int .i64 0, .int .i64 0, .int .i64 1] 2)) (.slice (some ⟨u1.heap.size, 0, none⟩) 4 4) [0, 0, 0, 1] := Ints.sub (ints_litL u1 [0, 0, 0, 1] (by simp)) (fun _ _ _ => trivial)
      have hsL2 : (u1.alloc (.cells #[.int .i64 0, .int .i64 0, .int .i64 0, .int .i64 1] 2)).heap.size = u1.heap.size + 1 := by simp
      generalize u1.alloc (.cells #[.int .i64 0, .int .i64 0, .int .i64 0, .int .i64 1] 2) = u2 at *
      have hgL3 : Ext u2 (u2.alloc (.cells #[.int .i64 0, .int .i64 0, .int .i64 1, .int .i64 0] 2)) := World.grownBy_alloc _ _ _
      have hL3 : Ints Any (u2.alloc (.cells #[.int .i64 0, .int .i64 0, .int .i64 1, .int .i64 0] 2)) (.slice (some ⟨u2.heap.size, 0, none⟩) 4 4) [0, 0, 1, 0] := Ints.sub (ints_litL u2 [0, 0, 1, 0] (by simp)) (fun _ _ _ => trivial)
      have hsL3 : (u2.alloc (.cells #[.int .i64 0, .int .i64 0, .int .i64 1, .int .i64 0] 2)).heap.size = u2.heap.size + 1 := by simp
      generalize u2.alloc (.cells #[.int .i64 0, .int .i64 0, .int .i64 1, .int .i64 0] 2) = u3 at *
      rw [hsL0] at hL1
      rw [hsL1, hsL0] at hL2
      rw [hsL2, hsL1, hsL0] at hL3
      have hM0 := Ints.ext (Ints.ext (Ints.ext (hL0) hgL1) hgL2) hgL3
      have hM1 := Ints.ext (Ints.ext (hL1) hgL2) hgL3
      have hM2 := Ints.ext (hL2) hgL3
      have hM3 := hL3
      have hrow : ∀ i, i < ([[0, 1, 0, 0], [1, 0, 0, 0], [0, 0, 0, 1], [0, 0, 1, 0]] : List (List Int)).length → Ints Any u3 (gt ([.slice (some ⟨w2.heap.size, 0, none⟩) 4 4, .slice (some ⟨w2.heap.size + 1, 0, none⟩) 4 4, .slice (some ⟨w2.heap.size + 1 + 1, 0, none⟩) 4 4, .slice (some ⟨w2.heap.size + 1 + 1 + 1, 0, none⟩) 4 4] : List Value) i) (gt ([[0, 1, 0, 0], [1, 0, 0, 0], [0, 0, 0, 1], [0, 0, 1, 0]] : List (List Int)) i) := by
        intro i hi
        rcases (show i = 0 ∨ i = 1 ∨ i = 2 ∨ i = 3 by simp at hi; omega) with rfl | rfl | rfl | rfl
        · exact hM0
        · exact hM1
        · exact hM2
        · exact hM3
      have hRr := rows_litL u3 [.slice (some ⟨w2.heap.size, 0, none⟩) 4 4, .slice (some ⟨w2.heap.size + 1, 0, none⟩) 4 4, .slice (some ⟨w2.heap.size + 1 + 1, 0, none⟩) 4 4, .slice (some ⟨w2.heap.size + 1 + 1 + 1, 0, none⟩) 4 4] [[0, 1, 0, 0], [1, 0, 0, 0], [0, 0, 0, 1], [0, 0, 1, 0]] rfl (by simp) hrow
      have hgR := World.grownBy_alloc u3 (.cells #[.slice (some ⟨w2.heap.size, 0, none⟩) 4 4, .slice (some ⟨w2.heap.size + 1, 0, none⟩) 4 4, .slice (some ⟨w2.heap.size + 1 + 1, 0, none⟩) 4 4, .slice (some ⟨w2.heap.size + 1 + 1 + 1, 0, none⟩) 4 4] 24) none
      have hg2R : Ext w2 (u3.alloc (.cells #[.slice (some ⟨w2.heap.size, 0, none⟩) 4 4, .slice (some ⟨w2.heap.size + 1, 0, none⟩) 4 4, .slice (some ⟨w2.heap.size + 1 + 1, 0, none⟩) 4 4, .slice (some ⟨w2.heap.size + 1 + 1 + 1, 0, none⟩) 4 4] 24)) := grown_trans hgL0 (grown_trans hgL1 (grown_trans hgL2 (grown_trans hgL3 hgR)))
      have hsR : u3.heap.size = w2.heap.size + 4 := by omega
      rw [hsL3, hsL2, hsL1, hsL0] at hRr
      refine Calls.mono (l07Affine_ok _ 2 2 _ [[0, 1, 0, 0], [1, 0, 0, 0], [0, 0, 0, 1], [0, 0, 1, 0]] Any hRr (by unfold SmR Sm; simp) (by omega) (by omega) (by simp)) ?_
      rintro e3 w3 ⟨v3, rfl, hg3, hP⟩
      have hP := hP.q.mono (B' := w2.heap.size) (Nat.le_refl _) hg2R.size
      have hg23 : Ext w2 w3 := grown_trans hg2R hg3
      clear hRr hgR hg2R hrow hM0 hL0 hgL0 hsL0 hM1 hL1 hgL1 hsL1 hM2 hL2 hgL2 hsL2 hM3 hL3 hgL3 hsL3
      obtain ⟨vo, vp, vc, rfl, hP3⟩ := hP
      have hg1x : w1.grownBy w3 (some sb) := grown_trans hg12 (grown_of_ext (some sb) hg23)
      have hsr := HS2.out.ext hg23
    rotate_left
    focus
      go_wp2_with fail
      have hgL0 : Ext w2 (w2.alloc (.cells #[.int .i64 0, .int .i64 1] 2)) := World.grownBy_alloc _ _ _
      have hL0 : Ints Any (w2.alloc (.cells #[.int .i64 0, .int .i64 1] 2)) (.slice (some ⟨w2.heap.size, 0, none⟩) 2 2) [0, 1] := Ints.sub (ints_litL w2 [0, 1] (by simp)) (fun _ _ _ => trivial)
      have hsL0 : (w2.alloc (.cells #[.int .i64 0, .int .i64 1] 2)).heap.size = w2.heap.size + 1 := by simp
      generalize w2.alloc (.cells #[.int .i64 0, .int .i64 1] 2) = u0 at *
      have hgL1 : Ext u0 (u0.alloc (.cells #[.int .i64 4, .int .i64 4] 2)) := World.grownBy_alloc _ _ _
      have hL1 : Ints Any (u0.alloc (.cells #[.int .i64 4, .int .i64 4] 2)) (.slice (some ⟨u0.heap.size, 0, none⟩) 2 2) [4, 4] := Ints.sub (ints_litL u0 [4, 4] (by simp)) (fun _ _ _ => trivial)
      have hsL1 : (u0.alloc (.cells #[.int .i64 4, .int .i64 4] 2)).heap.size = u0.heap.size + 1 := by simp
      generalize u0.alloc (.cells #[.int .i64 4, .int .i64 4] 2) = u1 at *
      rw [hsL0] at hL1
      have hM0 := Ints.ext (hL0) hgL1
      have hM1 := hL1
      have hrow : ∀ i, i < ([[0, 1], [4, 4]] : List (List Int)).length → Ints Any u1 (gt ([.slice (some ⟨w2.heap.size, 0, none⟩) 2 2, .slice (some ⟨w2.heap.size + 1, 0, none⟩) 2 2] : List Value) i) (gt ([[0, 1], [4, 4]] : List (List Int)) i) := by
        intro i hi
        rcases (show i = 0 ∨ i = 1 by simp at hi; omega) with rfl | rfl
        · exact hM0
        · exact hM1
      have hRr := rows_litL u1 [.slice (some ⟨w2.heap.size, 0, none⟩) 2 2, .slice (some ⟨w2.heap.size + 1, 0, none⟩) 2 2] [[0, 1], [4, 4]] rfl (by simp) hrow
      have hgR := World.grownBy_alloc u1 (.cells #[.slice (some ⟨w2.heap.size, 0, none⟩) 2 2, .slice (some ⟨w2.heap.size + 1, 0, none⟩) 2 2] 24) none
      have hg2R : Ext w2 (u1.alloc (.cells #[.slice (some ⟨w2.heap.size, 0, none⟩) 2 2, .slice (some ⟨w2.heap.size + 1, 0, none⟩) 2 2] 24)) := grown_trans hgL0 (grown_trans hgL1 hgR)
      have hsR : u1.heap.size = w2.heap.size + 2 := by omega
      rw [hsL1, hsL0] at hRr
      refine Calls.mono (l07Affine_ok _ 5 3 _ [[0, 1], [4, 4]] Any hRr (by unfold SmR Sm; simp) (by omega) (by omega) (by simp)) ?_
      rintro e3 w3 ⟨v3, rfl, hg3, hP⟩
      have hP := hP.q.mono (B' := w2.heap.size) (Nat.le_refl _) hg2R.size
      have hg23 : Ext w2 w3 := grown_trans hg2R hg3
      clear hRr hgR hg2R hrow hM0 hL0 hgL0 hsL0 hM1 hL1 hgL1 hsL1
      obtain ⟨vo, vp, vc, rfl, hP3⟩ := hP
      have hg1x : w1.grownBy w3 (some sb) := grown_trans hg12 (grown_of_ext (some sb) hg23)
      have hsr := HS2.out.ext hg23
    rotate_left
  rotate_left 6
  focus
    go_wp2_with fail
    refine Calls.mono (l01Next_ok B0 w1 sb 10 HS1.out) ?_
    rintro e2 w2 ⟨v2, rfl, hg12, y, rfl, hy0, hy1, hs2⟩
    have hy := hy1 (by omega)
    have HS2 := Lib.hid hs2
    have hw2 : w.heap.size + 1 ≤ w2.heap.size := by have := hg12.size; omega
    clear hy0 hy1 hs2
    go_wp2_with fail
    refine Calls.mono (l07Table_ok w2 y hy.1 hy.2) ?_
    rintro e3 w3 ⟨v3, rfl, hg3, hP⟩
    obtain ⟨vo, vp, vc, rfl, hP3⟩ := hP
    have hg1x : w1.grownBy w3 (some sb) := grown_trans hg12 (grown_of_ext (some sb) hg3)
    have hsr := HS2.out.ext hg3
  rotate_left
  focus
    go_wp2_with fail
    refine Calls.mono (l01Next_ok B0 w1 sb 10 HS1.out) ?_
    rintro e2 w2 ⟨v2, rfl, hg12, y, rfl, hy0, hy1, hs2⟩
    have hy := hy1 (by omega)
    have HS2 := Lib.hid hs2
    have hw2 : w.heap.size + 1 ≤ w2.heap.size := by have := hg12.size; omega
    clear hy0 hy1 hs2
    go_wp2_with fail
    refine Calls.mono (l07Table_ok w2 y hy.1 hy.2) ?_
    rintro e3 w3 ⟨v3, rfl, hg3, hP⟩
    obtain ⟨vo, vp, vc, rfl, hP3⟩ := hP
    have hg1x : w1.grownBy w3 (some sb) := grown_trans hg12 (grown_of_ext (some sb) hg3)
    have hsr := HS2.out.ext hg3
  rotate_left
  all_goals
    obtain ⟨a1, n1, c1, a2, n2, c2, a3, n3, c3, rfl, rfl, rfl⟩ := hP3.shape
    have hb9 := Box3.keep hb1 hg1x.size (hg1x.block _ hb1.1 (fun e => by have := Option.some.inj e; omega))
    have hgw9 := grown_trans hgw1 hg1x
    obtain ⟨b0, b1, b2, b3, b4⟩ := id hb9
    have hZ := hb9.all (.slice a1 n1 c1) (.slice a2 n2 c2) (.slice a3 n3 c3)
    obtain ⟨-, z0, z1, z2, -⟩ := id hZ
    have HF := Lib.hid (And.intro hgw9 (And.intro hP3 hsr)); clear hZ hgw9 hP3 hb9
    go_wp2_with fail
    refine bodyPost_ret (v := .agg #[.slice a1 n1 c1, .slice a2 n2 c2, .slice a3 n3 c3]) (by simp [results, Tryz.results275, go_sem, z0, z1, z2]) rfl ?_
    exact fam_ret HF.out.1 (B := w2.heap.size) (by omega) HF.out.2.2 hB0 HF.out.2.1 (by omega)

end Go.Proofs.YtldheeicjnncoaaGreat
namespace Go.Proofs.YtldheeicjnncoaaGreat
open Go.RowKit

theorem step_app_many (T E : Nat) (z : Value) (bytes : Nat) (hT : Tryz.prog.underlying T = some (.slice E)) (hE : (Tryz.prog.info? E).map (fun i => (i.zero, i.size, i.bytes)) = some (some z, 1, bytes))
    (hzs : z.cells.size = 1) (hbt : bytes ≤ 64) {ops : Array Oper} {o : Oper} {a : Act} {K : Act → World → Prop} {Q : Exit → Act → World → Prop} {Ex : Prop} {w : World} (hgd : o.guard = none) (s x : Operand)
    (ho : o.op = Op.call { callee := Callee.builtin Builtin.append, args := #[s, x], argTypes := #[T, T] }) (base g cap : Nat) (xs : List Value) (hs : a.eval s = .slice (some ⟨g, 0, none⟩) xs.length cap) (hown : OwnV base E w (.slice (some ⟨g, 0, none⟩) xs.length cap) xs)
    (sa : Option Addr) (m c : Nat) (news : List Value) (hx : a.eval x = .slice sa m c) (hl : news.length = m) (hsn : sa = none → c = 0)
    (hnews : ∀ j, j < m → ∃ b off, sa = some ⟨b, off, none⟩ ∧ w.cell? ⟨b, off + j, none⟩ = some (gt news j)) (h1 : ∀ u, u ∈ news → u.oneCell' = true) (hlen : xs.length + m ≤ 1000000) (hbase : base ≤ w.heap.size)
    (h : ∀ v' w', OwnV base E w' v' (xs ++ news) → w.grownBy w' (some g) → K (a.put o.dst v') w') :
    if Region.wanted o (yielded ops a.tmps) = true then Oper.wp Tryz.prog o a w K Q else Ex := by
  obtain ⟨i0, hi, hz0, hz1, hz2⟩ := info_parts hE
  have hw : Region.wanted o (yielded ops a.tmps) = true := by simp [Region.wanted, hgd]
  rcases Nat.eq_zero_or_pos m with rfl | hm
  · have hn : news = [] := List.eq_nil_of_length_eq_zero hl
    subst hn
    have hown0 := hown
    rw [List.append_nil] at h
    cases sa with
    | none =>
      have hc := hsn rfl
      subst hc
      rw [if_pos hw]
      have hrun := run_append_owned_none (P := Tryz.prog) (w := w) base T o.type E i0 1 hT hi _ xs.length xs hown
      unfold Oper.wp
      simp [execOp, ho, resolve, invoke, builtin, hs, hx, hrun, Result.andThen]
      exact h _ _ hown0 (grown_refl _ _)
    | some ad =>
      have hcap : xs.length ≤ cap := by
        rcases hown.form with ⟨h, _⟩ | ⟨g', cp, hv, hc, _⟩
        · cases h
        · simp only [Value.slice.injEq] at hv; omega
      refine step_append_at w hgd s x T ho E i0 z 1 bytes hT hi hz0 hz1 hz2 hzs (by decide) g 0 xs.length cap xs hs (by omega) (fun j u hj => ?_) ad 0 c [] hx rfl (by simp) (by simp) (fun _ j hj => by simp at hj) (by unfold maxLen; omega) (by have := Nat.mul_le_mul (show xs.length + 0 ≤ 1000000 by omega) hbt; omega) (fun _ => ?_) (fun h => by omega)
      · have hj2 : j < xs.length := by
          rcases Nat.lt_or_ge j xs.length with h | h
          · exact h
          · rw [List.getElem?_eq_none h] at hj; cases hj
        rw [Nat.zero_add, hown.cell j hj2]
        simp [gt, hj]
      · have e : w.setCells g (0 + xs.length * 1) [] = w := by simp [World.setCells]
        rw [e]
        exact h _ _ hown0 (grown_refl _ _)
  · obtain ⟨b, off, rfl, _⟩ := hnews 0 hm
    refine step_append_lies w hgd s x T ho base E i0 z 1 bytes hT hi hz0 hz1 hz2 hzs (by decide) _ xs.length xs hs hown ⟨b, off, none⟩ m c news hx (by omega) (fun j u hj => ?_) h1 hm (by unfold maxLen; omega) (by have := Nat.mul_le_mul (show xs.length + m ≤ 1000000 by omega) hbt; omega) hbase w.heap.size rfl ?_
    · have hj2 : j < m := by
        rcases Nat.lt_or_ge j news.length with h | h
        · omega
        · rw [List.getElem?_eq_none h] at hj; cases hj
      obtain ⟨b', off', he, hc⟩ := hnews j hj2
      cases he
      have hgj : gt news j = u := by simp [gt, hj]
      rw [hgj] at hc
      unfold Addr.add
      split
      · rename_i h0; subst h0; exact hc
      · exact hc
    · intro g' cap' w' k1 k2 k3 _
      exact h _ w' (by unfold OwnV; rw [List.length_append, hl]; exact k1) k2

end Go.Proofs.YtldheeicjnncoaaGreat
namespace Go.Proofs.YtldheeicjnncoaaGreat
open Go.RowKit

/-- append of a list of integers onto a list of the call's own, in a region that draws -/
theorem step_app_list {ops : Array Oper} {o : Oper} {a : Act} {K : Act → World → Prop} {Q : Exit → Act → World → Prop} {Ex : Prop} {w : World} (hgd : o.guard = none) (s x : Operand)
    (ho : o.op = Op.call { callee := Callee.builtin Builtin.append, args := #[s, x], argTypes := #[24, 24] }) (B g cap n : Nat) (l m : List Int) (hn0 : l.length = n) (hs : a.eval s = .slice (some ⟨g, 0, none⟩) n cap)
    (hown : Own B w (.slice (some ⟨g, 0, none⟩) n cap) l) (v : Value) (S : Nat → Prop) (hv : Ints S w v m) (hx : a.eval x = v) (hlen : l.length + m.length ≤ 1000000) (hbase : B ≤ w.heap.size)
    (h : ∀ v' w', Own B w' v' (l ++ m) → w.grownBy w' (some g) → K (a.put o.dst v') w') :
    if Region.wanted o (yielded ops a.tmps) = true then Oper.wp Tryz.prog o a w K Q else Ex := by
  subst hn0
  obtain ⟨sa, c, rfl, ⟨_, _, hn⟩, hc⟩ := hv
  have hl : (l.map (Value.int .i64)).length = l.length := List.length_map ..
  refine step_app_many 24 2 (.int .i64 0) 8 und_ints Tryz.infoInt rfl (by decide) hgd s x ho B g cap (l.map (Value.int .i64)) (by rw [hl]; exact hs) (by have := hown.v; rw [hl]; exact this) sa m.length c (m.map (Value.int .i64)) hx (by simp) hn (fun j hj => ?_) (fun u hu => ?_) (by rw [hl]; exact hlen) hbase (fun v' w' k1 k2 => ?_)
  · obtain ⟨b, off, u, h1, _, _, h2, h3⟩ := hc j hj
    exact ⟨b, off, h1, by rw [h2, h3]; simp [gt, hj]⟩
  · simp at hu
    obtain ⟨x, _, rfl⟩ := hu; rfl
  · exact h v' w' (Own.of (by rw [List.map_append]; exact k1)) k2

end Go.Proofs.YtldheeicjnncoaaGreat
