/-
  Drawing: spec.l07Affine (printed by gen_aff.py).
  Drawing: spec.l07Family (printed by gen_family.py).
  Drawing: spec.l07Both.
-/
import Derived.Test.YtoakmefajbbggaaGreatQ1
import Derived.Test.YtoakmefajbbggaaGreatQ5
import Derived.Test.YtoakmefajbbggaaGreatQ6
import Derived.Test.YtoakmefajbbggaaGreatQ7
import Derived.Test.YtoakmefajbbggaaGreatQ8
import Derived.Deep.RegionHeld3
import Derived.Deep.QuietTactic
namespace Go.Proofs.YtoakmefajbbggaaGreat
open Go.RowKit
attribute [local go_sem ↓] Go.wp_at_zero Go.wp_at_succ

theorem w64_sm2 (x y : Int) (h : x = y) (h0 : 0 ≤ x ∧ x ≤ 1000) : wrap64 x = y ∧ IntKind.i64.wrap x = y := ⟨by rw [← h]; exact w64_small x h0, by rw [← h]; exact i64_small x h0⟩

set_option maxRecDepth 100000 in
set_option maxHeartbeats 2000000 in
theorem l07Affine_ok (w : World) (p n : Int) (rv : Value) (R : List (List Int)) (S : Nat → Prop) (hr : Rows2 S w rv R) (hR : SmR R.length R) (hp : 1 ≤ p ∧ p ≤ 7) (hn : 1 ≤ n ∧ n ≤ 729) (hRl : R.length ≤ 9) :
    Calls Tryz.prog 264 #[.int .i64 p, rv, .int .i64 n] w (Ret w (PresN 18 w.heap.size)) := by
  obtain ⟨ar, capr, rfl, _, _⟩ := Sl.shape hr
  obtain ⟨n, rfl⟩ := Int.eq_ofNat_of_zero_le (show 0 ≤ n by omega)
  have hz0 : ∀ w', Ext (w.alloc (.cells #[.slice none 0 0, .slice none 0 0, .slice none 0 0] 28)) w' → Box3 w' w.heap.size (.slice none 0 0) (.slice none 0 0) (.slice none 0 0) := fun w' h => (Box3.made w 28 _ _ _).ext h
  have hg0 : Ext w (w.alloc (.cells #[.slice none 0 0, .slice none 0 0, .slice none 0 0] 28)) := World.grownBy_alloc _ _ _
  have hs0 : (w.alloc (.cells #[.slice none 0 0, .slice none 0 0, .slice none 0 0] 28)).heap.size = w.heap.size + 1 := by simp
  have HN := Lib.hid (And.intro hn (And.intro hp (And.intro hR (And.intro hz0 hs0)))); clear hn hz0 hs0 hp hR
  go_enter Tryz.func264, Tryz.ntmps264
  go_wp2_with fail
  generalize w.alloc (.cells #[.slice none 0 0, .slice none 0 0, .slice none 0 0] 28) = w0 at *
  refine Calls.mono (l07Factors_ok w0 n (by have := HN.out.1; omega)) ?_
  rintro e1 w1 ⟨v1, rfl, hg1, a1, c1, t, r1, rfl, hO1, ht9, htx⟩
  go_wp2_with fail
  refine Calls.mono (l01Own_ok w1 _ t _ (hO1.ints (by omega)) (by omega)) ?_
  rintro e2 w2 ⟨v2, rfl, hg2, hO2⟩
  have ht6 : Ints Any w1 (.slice a1 t.length c1) t := (hO1.ints (by omega)).sub (fun _ _ _ => trivial)
  have HT := Lib.hid (And.intro htx hO1); clear htx hO1
  go_wp2_with fail
  go_loopw [9, 10] (fun ov iv wr => ∃ (i : Nat) (l : List Int) (v4 : Value), v4 = ov ∧ iv = .int .i64 i ∧ i ≤ R.length ∧ l.length = t.length + i ∧ Ext w1 wr ∧ Own w1.heap.size wr v4 l) (fun _ iv _ => R.length - (intOf iv).toNat)
  case atStart => exact ⟨0, t, _, rfl, rfl, by omega, rfl, hg2, hO2⟩
  case round =>
    clear hO2 hg2
    obtain ⟨i, l, v4, rfl, rfl, hi, hll, hg, hO⟩ := hrel
    by_cases hlt : i < R.length
    · have hlt' : (i : Int) < R.length := by omega
      have hl1 : l.length ≤ 1000000 := by omega
      have HL := Lib.hid (And.intro hl1 hll); clear hl1 hll
      go_wp2_with (first | (at_builtin; refine wp_app_int rfl _ _ rfl w1.heap.size v4 l p rfl wr hO rfl rfl HL.out.1 hg.size ?_; intro v5 w5 hO5 hg5; have hgw5 := grown_own hg hg5 (fun j hj hlt => by have := (hO.lt j hj).1; omega)) | fail)
      go_roundw
      case rel => exact ⟨i + 1, _, v5, rfl, by go_num, by omega, by rw [List.length_append, HL.out.2]; rfl, hgw5, hO5⟩
      case measure => simp [intOf]; omega
    · have hlt' : ¬ ((i : Int) < R.length) := by omega
      have hie : i = R.length := by omega
      subst hie
      obtain ⟨o, ho⟩ : ∃ o, o = l := ⟨_, rfl⟩
      rw [← ho] at hO hll
      clear ho
      have ho18 : o.length ≤ 18 := by omega
      have htk : t.length ≤ o.length := by omega
      obtain ⟨a4, c4, hv4, _⟩ := (hO.ints (by omega)).shape
      subst hv4
      have hOi : Ints Any wr (.slice a4 o.length c4) o := (hO.ints (by omega)).sub (fun _ _ _ => trivial)
      have hs4 := hg.size
      clear hO
      obtain ⟨w4, hw4⟩ : ∃ w4 : World, w4 = wr := ⟨_, rfl⟩
      subst hw4
      have HO := Lib.hid hll; clear hll
      go_wp2_with fail
      refine Calls.mono (l07Trivial_ok w4 _ o _ hOi (by omega)) ?_
      rintro e5 w5 ⟨v5, rfl, hg5, vo, vp, vc, rfl, hX5⟩
      obtain ⟨ao, co, ap, cp, ac, cc, rfl, rfl, rfl⟩ := trivX_shape hX5
      go_wp2_with fail
      have hgA : Ext w5 (w5.alloc (.cells #[.slice ao o.length co, .slice ap o.length cp, .slice ac o.length cc] 28)) := World.grownBy_alloc _ _ _
      have hX := BX.start (N := 18) (B := w4.heap.size) (by omega) hX5 hgA (Box3.made w5 28 (.slice ao o.length co) (.slice ap o.length cp) (.slice ac o.length cc)) hg5.size
      have hs5 := hg5.size
      generalize w5.alloc (.cells #[.slice ao o.length co, .slice ap o.length cp, .slice ac o.length cc] 28) = w6 at *
      have hg6 : Ext w4 w6 := grown_trans hg5 hgA
      have hg04 : Ext w0 w4 := grown_trans hg1 hg
      clear hX5 hg5
      go_loopw [13] (fun iv wr => ∃ i : Nat, iv = .int .i64 i ∧ i ≤ t.length ∧ Ext w4 wr ∧ BX 18 o w4.heap.size w5.heap.size wr (.slice ao o.length co) (.slice ap o.length cp) (.slice ac o.length cc)) (fun iv _ => t.length - (intOf iv).toNat)
      case atStart => exact ⟨0, rfl, by omega, hg6, hX⟩
      case round =>
        clear hX hg6
        have hg14 := hg
        clear hg hi hlt hlt'
        obtain ⟨i, rfl, hi, hg, hX⟩ := hrel
        by_cases hlt : i + 1 < t.length
        · have hlt' : (i : Int) + 1 < t.length := by omega
          obtain ⟨g, cap, z, hvg, hgB, hgp, hgl, hcc, hst⟩ := hX.storeP i (by omega)
          obtain ⟨rfl, rfl⟩ : ap = some ⟨g, 0, none⟩ ∧ cp = cap := by cases hvg; exact ⟨rfl, rfl⟩
          clear hvg
          have e1 : ∀ w', Near wr g w' → w'.cell? ⟨w5.heap.size, 1, none⟩ = some (.slice (some ⟨g, 0, none⟩) o.length cp) := fun w' h => h.cell hX.box.2.2.1 (by simp; omega)
          have hcon : ∀ w, Calls Tryz.prog 167 #[.int .i64 o.length, .int .i64 ((i : Int) + 1)] w (Ret w fun w' v => Own w.heap.size w' v (unitV o.length (i + 1))) := fun w => by
            have h := l07Unit_ok o.length (i + 1) w (by omega) (by omega)
            rwa [show ((i + 1 : Nat) : Int) = (i : Int) + 1 by omega] at h
          have hul : (unitV o.length (i + 1)).length ≤ 9223372036854775807 := by rw [unitV_len]; omega
          have HX := Lib.hid (And.intro hX (And.intro hst (And.intro hcc hul))); clear hX hst hcc hul
          have hl2 : (i : Int) < o.length := by omega
          have hi5 : i < 100000 := by omega
          go_wp2
          have hwi : IntKind.i64.wrap ((i : Int) + 1) = (i : Int) + 1 := i64_succ _ hi5
          have hwj : wrap64 ((i : Int) + 1) = (i : Int) + 1 := w64_succ _ hi5
          go_region_held3 (fun w' => Near wr g w') (first | exact Near.of (grown_drew _ _) | exact Near.of (by assumption) | exact Near.store (by assumption) | assumption)
            (first
              | (go_at_call 167; refine Calls.mono (Calls.rel (w0 := wr) (by first | exact grown_drew _ _ | assumption) (hcon _)) ?_; rintro eE wE ⟨vE, rfl, hgE, hsE, hOE⟩; obtain ⟨aE, cE, hvE, _⟩ := (hOE.ints HX.out.2.2.2).shape; subst hvE; have hcl := (HX.out.2.2.1 wE hgE).1; have hfr := (HX.out.2.2.1 wE hgE).2))
          clear hwi hwj
          have hsz := hgE.size
          have hX5 := HX.out.2.1 wE _ (unitV o.length (i + 1)) hgE (OwnIn.of hOE (by rw [unitV_len]; omega) (fun k hk _ => Nat.le_trans (by assumption) hk)) (by rw [unitV_len]; omega)
          have hgn : Ext w4 (wE.setCell ⟨g, i, none⟩ (.slice aE (unitV o.length (i + 1)).length cE)) := grown_own (grown_trans hg hgE) (grown_set1 _ _ _ _) (fun j hj hlt => by cases hj; omega)
          clear hcl hfr e1
          go_wp2
          go_roundw
          case rel => exact ⟨i + 1, by go_num, by omega, hgn, hX5⟩
          case measure => simp [intOf]; omega
        · have hlt' : ¬ ((i : Int) + 1 < t.length) := by omega
          have hgw : Ext w wr := grown_trans hg0 (grown_trans hg04 hg)
          have hRb : ∀ x ∈ R, x.length ≤ 1000000 := fun x hx => by have := (HN.out.2.2.1 x hx).1; omega
          have hcon := l01Own2_ok wr _ R _ (Rows2.ext hr hgw) hRb (by omega)
          clear hRb
          go_wp2_with fail
          refine Calls.mono hcon ?_
          rintro e8 w8 ⟨v8, rfl, hg8, hO8⟩
          clear hcon
          obtain ⟨a8, c8, hv8, _, _⟩ := SlD.shape (hO8.toD (by omega))
          subst hv8
          have hA8 : Rows2 (fun k => wr.heap.size ≤ k ∧ k < w8.heap.size) w8 (.slice a8 R.length c8) R := (RowsD.rows (hO8.toD (by omega))).sub (fun k hk hlt => ⟨hk, hlt⟩)
          have hX8 : BXF 18 o (fun k => w4.heap.size ≤ k ∧ k ≠ w5.heap.size ∧ ¬ (wr.heap.size ≤ k ∧ k < w8.heap.size)) w5.heap.size w8 (.slice ao o.length co) (.slice ap o.length cp) (.slice ac o.length cc) :=
            (hX.f.turn (F' := fun k => w4.heap.size ≤ k ∧ k ≠ w5.heap.size ∧ ¬ (wr.heap.size ≤ k ∧ k < w8.heap.size)) (fun k hk hlt => ⟨hk.1, hk.2, by omega⟩) (fun h => h.2.1 rfl)).ext hg8
          have hgn8 : Ext w4 w8 := grown_trans hg hg8
          have hsz8 := hg8.size
          clear hX hO8 hlt hlt' hi
          go_wp2
          go_loopw [14, 15] (fun av iv wx => ∃ (i lo hi : Nat) (aA : Option Addr) (cA : Nat) (A : List (List Int)), av = .slice aA R.length cA ∧ iv = .int .i64 i ∧ i ≤ t.length ∧ A.length = R.length ∧ SmR R.length A ∧ hi ≤ wx.heap.size ∧ Rows2 (fun k => lo ≤ k ∧ k < hi) wx (.slice aA R.length cA) A ∧ Ext w4 wx ∧
            BXF 18 o (fun k => w4.heap.size ≤ k ∧ k ≠ w5.heap.size ∧ ¬ (lo ≤ k ∧ k < hi)) w5.heap.size wx (.slice ao o.length co) (.slice ap o.length cp) (.slice ac o.length cc)) (fun _ iv _ => t.length - (intOf iv).toNat)
          case atStart => exact ⟨0, wr.heap.size, w8.heap.size, a8, c8, R, rfl, rfl, by omega, rfl, HN.out.2.2.1, Nat.le_refl _, hA8, hgn8, hX8⟩
          case round =>
            clear hA8 hgn8 hX8 hg8 hgw hg
            obtain ⟨i, lo, hi', aA, cA, A, rfl, rfl, hi, hAl, hAs, hhi, hA, hg, hX⟩ := hrel
            by_cases hlt : i < t.length
            · have hlt' : (i : Int) < t.length := by omega
              have HA := Lib.hid (And.intro hAl hAs); clear hAl hAs
              go_wp2
              go_loopw [16] (fun jv wx => ∃ j : Nat, jv = .int .i64 j ∧ j ≤ R.length ∧ hi' ≤ wx.heap.size ∧ Rows2 (fun k => lo ≤ k ∧ k < hi') wx (.slice aA R.length cA) A ∧ Ext w4 wx ∧
                BXF 18 o (fun k => w4.heap.size ≤ k ∧ k ≠ w5.heap.size ∧ ¬ (lo ≤ k ∧ k < hi')) w5.heap.size wx (.slice ao o.length co) (.slice ap o.length cp) (.slice ac o.length cc)) (fun jv _ => R.length - (intOf jv).toNat)
              case atStart => exact ⟨0, rfl, by omega, hhi, hA, hg, hX⟩
              case round =>
                clear hX hg hA hhi
                obtain ⟨j, rfl, hj, hhi, hA, hg, hX⟩ := hrel
                by_cases hltj : j < R.length
                · have hltj' : (j : Int) < R.length := by omega
                  have hoe := HO.out
                  obtain ⟨J, hJ⟩ : ∃ J, J = t.length + j - i - 1 := ⟨_, rfl⟩
                  have hJo : J < o.length - 1 - i := by omega
                  obtain ⟨gc, capc, b, capb, z2, hvc, hcB, hcp, hcl, hcell, hbB, hbp, hbg, hbl, hcc2, hst2⟩ := hX.storeC i J (by omega) hJo (fun k hk => ⟨by have := hg.size; omega, by have := hX.box.1; omega, by omega⟩)
                  obtain ⟨rfl, rfl⟩ : ac = some ⟨gc, 0, none⟩ ∧ cc = capc := by cases hvc; exact ⟨rfl, rfl⟩
                  clear hvc
                  have hAj : j < A.length := by have := HA.out.1; omega
                  obtain ⟨ba, oa, az, capz, rfl, hbaS, _, hca, hra⟩ := Rows2.at hA j hAj
                  have hAz := HA.out.2 _ (gtMem hAj)
                  obtain ⟨zr, hzr⟩ : ∃ zr, zr = gt A j := ⟨_, rfl⟩
                  rw [← hzr] at hca hra hAz
                  clear hzr
                  have hbab : ba ≠ b := fun e => hbB.2.2 (e ▸ hbaS)
                  have e1 : ∀ w', Near wr b w' → w'.cell? ⟨w5.heap.size, 2, none⟩ = some (.slice (some ⟨gc, 0, none⟩) o.length cc) := fun w' h => h.cell hX.box.2.2.2.1 (by simp; omega)
                  have e2 : ∀ w', Near wr b w' → w'.cell? ⟨gc, i, none⟩ = some (.slice (some ⟨b, 0, none⟩) (o.length - 1 - i) capb) := fun w' h => h.cell hcell (by simp; omega)
                  have e3 : ∀ w', Near wr b w' → w'.cell? ⟨ba, oa + j, none⟩ = some (.slice az zr.length capz) := fun w' h => h.cell hca (by simp; omega)
                  have hcon : ∀ w', Ext wr w' → Calls Tryz.prog 265 #[.int .i64 t.length, .slice az zr.length capz, .int .i64 0] w' (Ret w' fun w'' r => ∃ l, l.length ≤ 18 ∧ Own w'.heap.size w'' r l) := fun w' he =>
                    Calls.mono (l07Shift_ok w' t.length _ zr 0 _ (Ints.ext hra he) (by have := hAz.1; omega)) (fun e w2 ⟨v, h1, h2, h3⟩ => ⟨v, h1, h2, _, by simp [shiftL]; have := hAz.1; omega, h3⟩)
                  have hA2 : ∀ wE u, Ext wr wE → Rows2 (fun k => lo ≤ k ∧ k < hi') (wE.setCell ⟨b, J, none⟩ u) (.slice (some ⟨ba, oa, none⟩) R.length cA) A := fun wE u he => Rows2.mono hA (fun k hk hlt => by
                    have hT : wr.grownBy (wE.setCell ⟨b, J, none⟩ u) (some b) := grown_trans (grown_of_ext _ he) (grown_set1 _ _ _ _)
                    exact ⟨hk, Nat.lt_of_lt_of_le hlt hT.size, hT.block k hlt (fun e => hbB.2.2 (by cases e; exact hk))⟩)
                  have HY := Lib.hid (And.intro hst2 (And.intro hcc2 (And.intro hcon hA2))); clear hst2 hcc2 hcon hcell hca hra hA2 hAz
                  have hJl : (J : Int) < ((o.length - 1 - i : Nat) : Int) := by omega
                  have hio : (i : Int) < o.length := by omega
                  have hw1 := w64_sm2 ((t.length : Int) + j) ((t.length + j : Nat) : Int) (by omega) (by omega)
                  have hw2 := w64_sm2 (((t.length + j : Nat) : Int) - i) ((t.length + j - i : Nat) : Int) (by clear hw1; omega) (by clear hw1; omega)
                  have hw3 := w64_sm2 (((t.length + j - i : Nat) : Int) - 1) (J : Int) (by clear hw1 hw2; omega) (by clear hw1 hw2; omega)
                  generalize ((t.length + j : Nat) : Int) = d1 at hw1 hw2
                  generalize ((t.length + j - i : Nat) : Int) = d2 at hw2 hw3
                  have HW := Lib.hid (And.intro hw1 (And.intro hw2 hw3)); clear hw1 hw2 hw3
                  have hbg2 := hX.box.1
                  have HJ := Lib.hid (And.intro hoe hJ); clear hoe hJ hX hA
                  go_wp2
                  obtain ⟨⟨q1, q2⟩, ⟨q3, q4⟩, q5, q6⟩ := HW.out
                  go_region_held3 (fun w' => Near wr b w') (first | exact Near.of (grown_drew _ _) | exact Near.of (by assumption) | exact Near.store (by assumption) | assumption)
                    (first
                      | (go_at_call 265; refine Calls.mono (Calls.rel (w0 := wr) (by first | exact grown_drew _ _ | assumption) (HY.out.2.2.1 _ (by first | exact grown_drew _ _ | assumption))) ?_; rintro eE wE ⟨vE, rfl, hgE, hsE, lE, hlE, hOE⟩; obtain ⟨aE, cE, hvE, _⟩ := (hOE.ints (Nat.le_trans hlE (by decide))).shape; subst hvE; have hcl := (HY.out.2.1 wE hgE).1; have hfr := (HY.out.2.1 wE hgE).2))
                  clear q1 q2 q3 q4 q5 q6
                  have hX5 := HY.out.1 wE _ lE hgE (OwnIn.of hOE (Nat.le_trans hlE (by decide)) (fun k hk _ => Nat.le_trans (by assumption) hk)) hlE
                  have hA5 := HY.out.2.2.2 wE (.slice aE lE.length cE) hgE
                  have hgn : Ext w4 (wE.setCell ⟨b, J, none⟩ (.slice aE lE.length cE)) := grown_own (grown_trans hg hgE) (grown_set1 _ _ _ _) (fun j hj hlt => by cases hj; omega)
                  have hhi5 : hi' ≤ (wE.setCell ⟨b, J, none⟩ (.slice aE lE.length cE)).heap.size := by have := hgE.size; simp; omega
                  clear hcl hfr e1 e2 e3
                  have HZ := Lib.hid hhi5; clear hhi5
                  go_wp2
                  go_roundw
                  case rel => exact ⟨j + 1, by go_num, by omega, HZ.out, hA5, hgn, hX5⟩
                  case measure => simp [intOf]; omega
                · have hltj' : ¬ ((j : Int) < R.length) := by omega
                  obtain ⟨bt, ot, rfl, _, _, hct⟩ := Ints.at (Ints.ext ht6 (grown_trans hg14 hg)) i hlt
                  have hte : 2 ≤ gt t i ∧ gt t i ≤ 7 := HT.out.1 _ (gtMem hlt)
                  obtain ⟨te, hte2⟩ : ∃ te, te = gt t i := ⟨_, rfl⟩
                  rw [← hte2] at hct hte
                  clear hte2
                  have hA0 := Rows2.sub hA (S' := Any) (fun _ _ _ => trivial)
                  obtain ⟨wo, hwo⟩ : ∃ wo : World, wo = wr := ⟨_, rfl⟩
                  rw [← hwo] at hct hA0
                  have hgo : Ext wo wr := by rw [hwo]; exact Ext.refl _
                  go_wp2
                  go_loopw [14, 18] (fun av tv wx => ∃ (q lo2 hi2 : Nat) (aB : Option Addr) (cB : Nat) (B : List (List Int)), av = .slice aB R.length cB ∧ tv = .int .i64 q ∧ 1 ≤ q ∧ q ≤ 7 ∧ B.length = R.length ∧ SmR R.length B ∧ hi2 ≤ wx.heap.size ∧ Rows2 (fun k => lo2 ≤ k ∧ k < hi2) wx (.slice aB R.length cB) B ∧ Ext wo wx ∧ Ext w4 wx ∧
                    BXF 18 o (fun k => w4.heap.size ≤ k ∧ k ≠ w5.heap.size ∧ ¬ (lo2 ≤ k ∧ k < hi2)) w5.heap.size wx (.slice ao o.length co) (.slice ap o.length cp) (.slice ac o.length cc)) (fun _ tv _ => 8 - (intOf tv).toNat)
                  case atStart => exact ⟨1, lo, hi', aA, cA, A, rfl, rfl, by omega, by omega, HA.out.1, HA.out.2, hhi, hA, hgo, hg, hX⟩
                  case round =>
                    clear hX hg hA hhi hgo hwo
                    obtain ⟨q, lo2, hi2, aB, cB, B, rfl, rfl, hq1, hq7, hBl, hBs, hhi, hB, hgo, hg, hX⟩ := hrel
                    have hct2 := hgo.cell hct (by simp)
                    by_cases hlq : (q : Int) < te
                    · have hcon := l02Product_ok wr p _ _ B A R.length _ _ hB (Rows2.ext hA0 hgo) HN.out.2.1 hBs HA.out.2 (by omega) (by omega)
                      have HB := Lib.hid (And.intro hBl hBs); clear hBl hBs
                      obtain ⟨wp, hwp⟩ : ∃ wp : World, wp = wr := ⟨_, rfl⟩
                      go_wp2_with fail
                      refine Calls.mono hcon ?_
                      rintro e9 w9 ⟨v9, rfl, hg9, L, hLl, hLs, hO9⟩
                      clear hcon
                      obtain ⟨a9, c9, hv9, _, _⟩ := SlD.shape (hO9.toD (by have := HB.out.1; omega))
                      rw [hLl, HB.out.1] at hv9
                      subst hv9
                      have hA9 := (RowsD.rows (hO9.toD (by have := HB.out.1; omega))).sub (S' := fun k => wr.heap.size ≤ k ∧ k < w9.heap.size) (fun k hk hlt => ⟨hk, hlt⟩)
                      have hX9 : BXF 18 o (fun k => w4.heap.size ≤ k ∧ k ≠ w5.heap.size ∧ ¬ (wr.heap.size ≤ k ∧ k < w9.heap.size)) w5.heap.size w9 (.slice ao o.length co) (.slice ap o.length cp) (.slice ac o.length cc) :=
                        (hX.turn (F' := fun k => w4.heap.size ≤ k ∧ k ≠ w5.heap.size ∧ ¬ (wr.heap.size ≤ k ∧ k < w9.heap.size)) (fun k hk hlt => ⟨hk.1, hk.2.1, by omega⟩) (fun h => h.2.1 rfl)).ext hg9
                      have hgo9 := grown_trans hgo hg9
                      have hg49 := grown_trans hg hg9
                      have hct9 := hg9.cell hct2 (by simp)
                      have HL := Lib.hid (And.intro hLl hLs); clear hLl hLs
                      clear hct2 hX hg9 hB hO9
                      go_wp2
                      go_roundw
                      case rel => exact ⟨q + 1, wr.heap.size, w9.heap.size, a9, c9, L, rfl, by go_num, by omega, by omega, by rw [HL.out.1, HB.out.1], HL.out.2, Nat.le_refl _, hA9, hgo9, hg49, hX9⟩
                      case measure => simp [intOf]; omega
                    · have HB := Lib.hid (And.intro hBl hBs); clear hBl hBs
                      go_wp2
                      go_roundw
                      case rel => exact ⟨i + 1, lo2, hi2, aB, cB, B, rfl, by go_num, by omega, HB.out.1, HB.out.2, hhi, hB, hg, hX⟩
                      case measure => simp [intOf]; omega
            · have hlt' : ¬ ((i : Int) < t.length) := by omega
              have hz := HN.out.2.2.2.1 _ (grown_trans hg04 hg)
              clear hA
              obtain ⟨h0, h1, h2, h3', h4⟩ := id hX.box
              obtain ⟨k0, k1, k2, k3, k4⟩ := id hz
              have hZ := hz.all (.slice ao o.length co) (.slice ap o.length cp) (.slice ac o.length cc)
              have hT := grown_set3 wr w.heap.size (.slice ao o.length co) (.slice ap o.length cp) (.slice ac o.length cc)
              obtain ⟨_, z0, z1, z2, _⟩ := id hZ
              have HQ := Lib.hid (And.intro hT hX); clear hT hZ hX
              go_wp2
              refine bodyPost_ret (v := .agg #[.slice ao o.length co, .slice ap o.length cp, .slice ac o.length cc]) (by simp [results, Tryz.results264, go_sem, z0, z1, z2]) rfl ?_
              have hq1 := HN.out.2.2.2.2
              have hq2 := hg04.size
              exact ⟨_, rfl, grown_own (grown_trans hg0 (grown_trans hg04 hg)) HQ.out.1 (fun j hj hlt => by cases hj; omega), (BX.ret (BXF.bx HQ.out.2 hs5 (fun k hk => hk.1)) HQ.out.1 (by omega)).weak (by omega)⟩
end Go.Proofs.YtoakmefajbbggaaGreat
namespace Go.Proofs.YtoakmefajbbggaaGreat
open Go.RowKit
attribute [local go_sem ↓] Go.wp_at_zero Go.wp_at_succ

/-- the drawn presentation is handed back -/
theorem fam_ret {w wX : World} {sb B0 N M B : Nat} {x y z : Value} (hgw : w.grownBy wX (some sb)) (hb : w.heap.size < B) (hsrc : Src B0 wX sb) (hB0 : B0 ≤ w.heap.size) (hP : PresN3 N B wX x y z) (hN : N ≤ M) :
    Mut w (some sb) (DrawR B0 sb (PresQ M w.heap.size)) (.returned (.agg #[x, y, z])) (((wX.setCell ⟨w.heap.size, 0, none⟩ x).setCell ⟨w.heap.size, 1, none⟩ y).setCell ⟨w.heap.size, 2, none⟩ z) := by
  have hT := grown_set3 wX w.heap.size x y z
  obtain ⟨Q, h1, h2⟩ := hP
  exact ⟨_, rfl, grown_own hgw hT (fun j hj hlt => by cases hj; omega), ⟨x, y, z, rfl, Q, h1.mono hN, h2.mono (fun k hk hlt => ⟨by have hk : B ≤ k := hk; show w.heap.size ≤ k; omega, Nat.lt_of_lt_of_le hlt hT.size, hT.block k hlt (fun e => by have hk : B ≤ k := hk; have := Option.some.inj e; omega)⟩)⟩, hsrc.own hT (fun k hk => by cases hk; exact hB0)⟩
/-- a literal list -/
theorem ints_litL (w : World) (L : List Int) (hl : L.length ≤ 1000) : Ints (fun k => k = w.heap.size) (w.alloc (.cells (L.map (Value.int .i64)).toArray 2)) (.slice (some ⟨w.heap.size, 0, none⟩) L.length L.length) L := by
  have h : Own 0 (w.alloc (.cells (L.map (Value.int .i64)).toArray 2)) (.slice (some ⟨w.heap.size, 0, none⟩) L.length L.length) L := by
    have := World.ownsRow_lit (base := 0) (e := 2) (size := 1) w (L.map (Value.int .i64)).toArray L.length (Nat.zero_le _) (by unfold maxLen; omega) (by simp)
    simpa using this
  exact ints_of_own h (by omega) (fun k hk => own_blk hk)
/-- rows of a literal list -/
theorem rows_litL (w : World) (vs : List Value) (R : List (List Int)) (hvl : vs.length = R.length) (hl : R.length ≤ 1000) (h : ∀ i, i < R.length → Ints Any w (gt vs i) (gt R i)) :
    Rows2 Any (w.alloc (.cells vs.toArray 24)) (.slice (some ⟨w.heap.size, 0, none⟩) R.length R.length) R := by
  refine ⟨_, _, rfl, ⟨Nat.le_refl _, by omega, fun h => by cases h⟩, fun i hi => ⟨w.heap.size, 0, gt vs i, rfl, trivial, by simp, ?_, Ints.ext (h i hi) (World.grownBy_alloc _ _ _)⟩⟩
  rw [World.cell?_alloc_at _ _ _ _ rfl]
  simp [gt, hvl, hi]

set_option maxRecDepth 100000 in
set_option maxHeartbeats 16000000 in
theorem l07Family_ok (B0 : Nat) (w : World) (sb : Nat) (hB0 : B0 ≤ w.heap.size) (hs : Src B0 w sb) :
    Calls Tryz.prog 220 #[.pointer (some ⟨sb, 0, none⟩)] w (Mut w (some sb) (DrawR B0 sb (PresQ 18 w.heap.size))) := by
  have hsb := hs.lt
  have hbB := Box3.made w 28 (.slice none 0 0) (.slice none 0 0) (.slice none 0 0)
  have hg0 : Ext w (w.alloc (.cells #[.slice none 0 0, .slice none 0 0, .slice none 0 0] 28)) := World.grownBy_alloc _ _ _
  have hs0 : (w.alloc (.cells #[.slice none 0 0, .slice none 0 0, .slice none 0 0] 28)).heap.size = w.heap.size + 1 := by simp
  have hsW := Lib.hid hs; clear hs
  go_enter Tryz.func220, Tryz.ntmps220
  go_wp2_with fail
  generalize w.alloc (.cells #[.slice none 0 0, .slice none 0 0, .slice none 0 0] 28) = w0 at *
  refine Calls.mono (l01Next_ok B0 w0 sb 9 (hsW.out.ext hg0)) ?_
  rintro e1 w1 ⟨v1, rfl, hg1, x, rfl, hx0, hx1, hs1⟩
  have hb1 := Box3.keep hbB hg1.size (hg1.block _ hbB.1 (fun e => by have := Option.some.inj e; omega))
  have hgw1 := grown_trans (grown_of_ext (some sb) hg0) hg1
  have hw1 : w.heap.size + 1 ≤ w1.heap.size := by have := hg1.size; omega
  have hx := hx1 (by omega)
  have HS1 := Lib.hid hs1
  clear hx0 hx1 hg1 hbB hg0 hs0 hs1
  rcases (show x = 0 ∨ x = 1 ∨ x = 2 ∨ x = 3 ∨ x = 4 ∨ x = 5 ∨ x = 6 ∨ x = 7 ∨ x = 8 by omega) with rfl | rfl | rfl | rfl | rfl | rfl | rfl | rfl | rfl
  all_goals clear hx
  · have hgE := World.grownBy_alloc w1 (.cells #[] 2) (some sb)
    have hOE : Own w1.heap.size (w1.alloc (.cells #[] 2)) (.slice (some ⟨w1.heap.size, 0, none⟩) 0 0) [] := World.ownsRow_lit w1 #[] 0 (Nat.le_refl _) (by decide) rfl
    have hsE := (HS1.out.ext (World.grownBy_alloc w1 (.cells #[] 2) none))
    have HS2 := Lib.hid hsE; clear hsE
    go_wp2_with fail
    generalize w1.alloc (.cells #[] 2) = wE at *
    refine Calls.mono (l01Next_ok B0 wE sb 5 HS2.out) ?_
    rintro e2 w2 ⟨v2, rfl, hg2, k, rfl, hk0, hk1, hs2⟩
    have hk := hk1 (by omega)
    clear hk0 hk1
    have hO2 := hOE.kept hg2 (by simp [Value.ownBlock]; omega)
    have hg12 := grown_trans hgE hg2
    have HS3 := Lib.hid hs2; clear hs2 hgE hOE hg2
    go_wp2_with fail
    go_loopw [3, 4] (fun ov kv wr => ∃ (k : Int) (o : List Int) (v4 : Value), v4 = ov ∧ kv = .int .i64 k ∧ 0 ≤ k ∧ k ≤ 4 ∧ Hid (o.length + k ≤ 4) ∧ w1.grownBy wr (some sb) ∧ Own w1.heap.size wr v4 o ∧ Hid (Src B0 wr sb)) (fun _ kv _ => (intOf kv).toNat)
    case atStart => exact ⟨k, [], _, rfl, rfl, hk.1, by omega, Lib.hid (by simp; omega), hg12, hO2, HS3⟩
    case round =>
      clear hO2 hg12 HS3 hk
      obtain ⟨k, o, v4, rfl, rfl, hk0, hk4, hol, hg, hO, hsr⟩ := hrel
      have hwr := hg.size
      by_cases hkp : 0 < k
      · have hob : ∀ j, v4.ownBlock = some j → w1.heap.size ≤ j := fun j hj => (hO.lt j hj).1
        have hll : o.length ≤ 1000000 := by have := hol.out; omega
        have HO := Lib.hid (And.intro hob hll); clear hob hll
        go_wp2_with fail
        have hgL : Ext wr (wr.alloc (.cells #[.int .i64 2, .int .i64 2, .int .i64 3] 2)) := World.grownBy_alloc _ _ _
        have hL : Ints (fun k => k = wr.heap.size) (wr.alloc (.cells #[.int .i64 2, .int .i64 2, .int .i64 3] 2)) (.slice (some ⟨wr.heap.size, 0, none⟩) 3 3) [2, 2, 3] := ints_litL wr [2, 2, 3] (by simp)
        have hsL : (wr.alloc (.cells #[.int .i64 2, .int .i64 2, .int .i64 3] 2)).heap.size = wr.heap.size + 1 := by simp
        generalize wr.alloc (.cells #[.int .i64 2, .int .i64 2, .int .i64 3] 2) = wL at *
        refine Calls.mono (l01Pick_ok B0 wL sb _ [2, 2, 3] _ (hsr.out.ext hgL) hL (fun k hk => by omega) (by simp) (by simp)) ?_
        rintro e3 w3 ⟨v3, rfl, hg3, i, hi, rfl, hs3⟩
        generalize gt ([2, 2, 3] : List Int) i = m at *
        have hgr3 := grown_trans (grown_of_ext (some sb) hgL) hg3
        have hO3 := hO.kept hgr3 (.inr (fun e => by have := HO.out.1 sb e; omega))
        have hg13 := grown_trans hg hgr3
        have HS4 := Lib.hid hs3; clear hs3 hgL hg3 hL hi hO
        go_wp2_with (first | (at_builtin; refine wp_app_int rfl _ _ rfl w1.heap.size v4 o m rfl w3 hO3 rfl rfl HO.out.2 hg13.size ?_; intro v5 w5 hO5 hg5) | fail)
        have hs5 : Src B0 w5 sb := HS4.out.own hg5 (fun j hj => by have := HO.out.1 j hj; omega)
        have hg15 : w1.grownBy w5 (some sb) := grown_own hg13 hg5 (fun j hj hlt => by have := HO.out.1 j hj; omega)
        have hll : (o ++ [m]).length = o.length + 1 := by simp
        go_roundw
        case rel => exact ⟨k - 1, o ++ [m], v5, rfl, rfl, by omega, by omega, Lib.hid (by have := hol.out; omega), hg15, hO5, Lib.hid hs5⟩
        case measure => simp [intOf]; omega
      · have hoI := hO.ints (show o.length ≤ 9223372036854775807 by have := hol.out; omega)
        have hos := hol.out
        have hsz : o.length ≤ 100 := by omega
        clear hos hO
        go_wp2_with fail
        refine Calls.mono (l07Trivial_ok wr _ o _ hoI hsz) ?_
        rintro e3 w3 ⟨v3, rfl, hg3, vo, vp, vc, rfl, hX3⟩
        have hP3 : PresN3 18 wr.heap.size w3 vo vp vc := ⟨trivP o, trivP_shp o (by have := hol.out; omega), hX3.p3⟩
        obtain ⟨a1, n1, c1, a2, n2, c2, a3, n3, c3, rfl, rfl, rfl⟩ := hP3.shape
        clear hX3
        have hg1x : w1.grownBy w3 (some sb) := grown_trans hg (grown_of_ext (some sb) hg3)
        have hb9 := Box3.keep hb1 hg1x.size (hg1x.block _ hb1.1 (fun e => by have := Option.some.inj e; omega))
        have hgw9 := grown_trans hgw1 hg1x
        obtain ⟨b0, b1, b2, b3, b4⟩ := id hb9
        have hZ := hb9.all (.slice a1 n1 c1) (.slice a2 n2 c2) (.slice a3 n3 c3)
        obtain ⟨-, z0, z1, z2, -⟩ := id hZ
        have HF := Lib.hid (And.intro hgw9 (And.intro hP3 (hsr.out.ext hg3))); clear hZ hgw9 hP3 hb9
        go_wp2_with fail
        refine bodyPost_ret (v := .agg #[.slice a1 n1 c1, .slice a2 n2 c2, .slice a3 n3 c3]) (by simp [results, Tryz.results220, go_sem, z0, z1, z2]) rfl ?_
        exact fam_ret HF.out.1 (B := wr.heap.size) (by omega) HF.out.2.2 hB0 HF.out.2.1 (by omega)
  · skip
    go_wp2_with fail
    have hgL : Ext w1 (w1.alloc (.cells #[.int .i64 1, .int .i64 4, .int .i64 6, .int .i64 8, .int .i64 9, .int .i64 12, .int .i64 5, .int .i64 7, .int .i64 27, .int .i64 25, .int .i64 36] 2)) := World.grownBy_alloc _ _ _
    have hL : Ints (fun k => k = w1.heap.size) (w1.alloc (.cells #[.int .i64 1, .int .i64 4, .int .i64 6, .int .i64 8, .int .i64 9, .int .i64 12, .int .i64 5, .int .i64 7, .int .i64 27, .int .i64 25, .int .i64 36] 2)) (.slice (some ⟨w1.heap.size, 0, none⟩) 11 11) [1, 4, 6, 8, 9, 12, 5, 7, 27, 25, 36] := ints_litL w1 [1, 4, 6, 8, 9, 12, 5, 7, 27, 25, 36] (by simp)
    have hsL : (w1.alloc (.cells #[.int .i64 1, .int .i64 4, .int .i64 6, .int .i64 8, .int .i64 9, .int .i64 12, .int .i64 5, .int .i64 7, .int .i64 27, .int .i64 25, .int .i64 36] 2)).heap.size = w1.heap.size + 1 := by simp
    generalize w1.alloc (.cells #[.int .i64 1, .int .i64 4, .int .i64 6, .int .i64 8, .int .i64 9, .int .i64 12, .int .i64 5, .int .i64 7, .int .i64 27, .int .i64 25, .int .i64 36] 2) = wL at *
    refine Calls.mono (l01Pick_ok B0 wL sb _ [1, 4, 6, 8, 9, 12, 5, 7, 27, 25, 36] _ (HS1.out.ext hgL) hL (fun k hk => by omega) (by simp) (by simp)) ?_
    rintro e2 w2 ⟨v2, rfl, hg2, i, hi, rfl, hs2⟩
    have hm : ∀ y ∈ ([1, 4, 6, 8, 9, 12, 5, 7, 27, 25, 36] : List Int), 1 ≤ y ∧ y ≤ 36 := by simp
    have hmi := hm _ (gtMem hi)
    generalize gt ([1, 4, 6, 8, 9, 12, 5, 7, 27, 25, 36] : List Int) i = m at *
    clear hm hi hL
    have hg12 := grown_trans (grown_of_ext (some sb) hgL) hg2
    have hw2 : w.heap.size + 1 ≤ w2.heap.size := by have := hg12.size; omega
    clear hgL hg2
    have HS2 := Lib.hid hs2; clear hs2
    obtain ⟨m, rfl⟩ := Int.eq_ofNat_of_zero_le (show 0 ≤ m by omega)
    go_wp2_with fail
    refine Calls.mono (CyclicPresentation_ok w2 m (by omega)) ?_
    rintro e3 w3 ⟨v3, rfl, hg3, vo, vp, vc, c, rfl, hP⟩
    obtain ⟨_, _, _, he, hP3⟩ := hP.q
    cases he
    obtain ⟨a1, n1, c1, a2, n2, c2, a3, n3, c3, rfl, rfl, rfl⟩ := hP3.shape
    have hg1x : w1.grownBy w3 (some sb) := grown_trans hg12 (grown_of_ext (some sb) hg3)
    have hb9 := Box3.keep hb1 hg1x.size (hg1x.block _ hb1.1 (fun e => by have := Option.some.inj e; omega))
    have hgw9 := grown_trans hgw1 hg1x
    obtain ⟨b0, b1, b2, b3, b4⟩ := id hb9
    have hgA := World.grownBy_alloc (((w3.setCell ⟨w.heap.size, 0, none⟩ (.slice a1 n1 c1)).setCell ⟨w.heap.size, 1, none⟩ (.slice a2 n2 c2)).setCell ⟨w.heap.size, 2, none⟩ (.slice a3 n3 c3)) (.cells #[.slice a1 n1 c1, .slice a2 n2 c2, .slice a3 n3 c3] 28) none
    have hZ := (hb9.all (.slice a1 n1 c1) (.slice a2 n2 c2) (.slice a3 n3 c3)).ext hgA
    obtain ⟨-, z0, z1, z2, -⟩ := id hZ
    have HF := Lib.hid (And.intro hgw9 (And.intro hP3 (And.intro (HS2.out.ext hg3) hgA))); clear hZ hgw9 hP3 hb9 hgA
    go_wp2_with fail
    refine bodyPost_ret (v := .agg #[.slice a1 n1 c1, .slice a2 n2 c2, .slice a3 n3 c3]) (by simp [results, Tryz.results220, go_sem, z0, z1, z2]) rfl ?_
    obtain ⟨_, he, k1, ⟨q1, q2, q3, k2, Q, k4, k5⟩, k3⟩ := fam_ret (M := 18) HF.out.1 (B := w2.heap.size) (by omega) HF.out.2.2.1 hB0 HF.out.2.1 (by omega)
    cases he
    cases k2
    exact ⟨_, rfl, grown_trans k1 (grown_of_ext (some sb) HF.out.2.2.2), ⟨_, _, _, rfl, Q, k4, k5.ext HF.out.2.2.2⟩, k3.ext HF.out.2.2.2⟩
  focus
    go_wp2_with fail
    have hgL : Ext w1 (w1.alloc (.cells #[.int .i64 3, .int .i64 4, .int .i64 5, .int .i64 6, .int .i64 7, .int .i64 8, .int .i64 9, .int .i64 12] 2)) := World.grownBy_alloc _ _ _
    have hL : Ints (fun k => k = w1.heap.size) (w1.alloc (.cells #[.int .i64 3, .int .i64 4, .int .i64 5, .int .i64 6, .int .i64 7, .int .i64 8, .int .i64 9, .int .i64 12] 2)) (.slice (some ⟨w1.heap.size, 0, none⟩) 8 8) [3, 4, 5, 6, 7, 8, 9, 12] := ints_litL w1 [3, 4, 5, 6, 7, 8, 9, 12] (by simp)
    have hsL : (w1.alloc (.cells #[.int .i64 3, .int .i64 4, .int .i64 5, .int .i64 6, .int .i64 7, .int .i64 8, .int .i64 9, .int .i64 12] 2)).heap.size = w1.heap.size + 1 := by simp
    generalize w1.alloc (.cells #[.int .i64 3, .int .i64 4, .int .i64 5, .int .i64 6, .int .i64 7, .int .i64 8, .int .i64 9, .int .i64 12] 2) = wL at *
    refine Calls.mono (l01Pick_ok B0 wL sb _ [3, 4, 5, 6, 7, 8, 9, 12] _ (HS1.out.ext hgL) hL (fun k hk => by omega) (by simp) (by simp)) ?_
    rintro e2 w2 ⟨v2, rfl, hg2, i, hi, rfl, hs2⟩
    have hm : ∀ y ∈ ([3, 4, 5, 6, 7, 8, 9, 12] : List Int), 3 ≤ y ∧ y ≤ 12 := by simp
    have hmi := hm _ (gtMem hi)
    generalize gt ([3, 4, 5, 6, 7, 8, 9, 12] : List Int) i = m at *
    clear hm hi hL
    have hg12 := grown_trans (grown_of_ext (some sb) hgL) hg2
    have hw2 : w.heap.size + 1 ≤ w2.heap.size := by have := hg12.size; omega
    clear hgL hg2
    have HS2 := Lib.hid hs2; clear hs2
    have hmd : 0 ≤ m / 2 ∧ m / 2 ≤ 6 := by omega
    go_wp2_with fail
    refine Calls.mono (l07Meta_ok w2 2 m (m - 1) 0 (by omega) (by omega) (by omega) (by omega)) ?_
    rintro e3 w3 ⟨v3, rfl, hg3, hP⟩
    obtain ⟨vo, vp, vc, rfl, hP3⟩ := hP.q
    have hg1x : w1.grownBy w3 (some sb) := grown_trans hg12 (grown_of_ext (some sb) hg3)
    have hsr := HS2.out.ext hg3
  rotate_left
  focus
    go_wp2_with fail
    have hgL : Ext w1 (w1.alloc (.cells #[.int .i64 4, .int .i64 6, .int .i64 8, .int .i64 12] 2)) := World.grownBy_alloc _ _ _
    have hL : Ints (fun k => k = w1.heap.size) (w1.alloc (.cells #[.int .i64 4, .int .i64 6, .int .i64 8, .int .i64 12] 2)) (.slice (some ⟨w1.heap.size, 0, none⟩) 4 4) [4, 6, 8, 12] := ints_litL w1 [4, 6, 8, 12] (by simp)
    have hsL : (w1.alloc (.cells #[.int .i64 4, .int .i64 6, .int .i64 8, .int .i64 12] 2)).heap.size = w1.heap.size + 1 := by simp
    generalize w1.alloc (.cells #[.int .i64 4, .int .i64 6, .int .i64 8, .int .i64 12] 2) = wL at *
    refine Calls.mono (l01Pick_ok B0 wL sb _ [4, 6, 8, 12] _ (HS1.out.ext hgL) hL (fun k hk => by omega) (by simp) (by simp)) ?_
    rintro e2 w2 ⟨v2, rfl, hg2, i, hi, rfl, hs2⟩
    have hm : ∀ y ∈ ([4, 6, 8, 12] : List Int), 3 ≤ y ∧ y ≤ 12 := by simp
    have hmi := hm _ (gtMem hi)
    generalize gt ([4, 6, 8, 12] : List Int) i = m at *
    clear hm hi hL
    have hg12 := grown_trans (grown_of_ext (some sb) hgL) hg2
    have hw2 : w.heap.size + 1 ≤ w2.heap.size := by have := hg12.size; omega
    clear hgL hg2
    have HS2 := Lib.hid hs2; clear hs2
    have hmd : 0 ≤ m / 2 ∧ m / 2 ≤ 6 := by omega
    go_wp2_with fail
    refine Calls.mono (l07Meta_ok w2 2 m (m - 1) (m / 2) (by omega) (by omega) (by omega) (by omega)) ?_
    rintro e3 w3 ⟨v3, rfl, hg3, hP⟩
    obtain ⟨vo, vp, vc, rfl, hP3⟩ := hP.q
    have hg1x : w1.grownBy w3 (some sb) := grown_trans hg12 (grown_of_ext (some sb) hg3)
    have hsr := HS2.out.ext hg3
  rotate_left
  focus
    go_wp2_with fail
    refine Calls.mono (l01Next_ok B0 w1 sb 6 HS1.out) ?_
    rintro e2 w2 ⟨v2, rfl, hg12, y, rfl, hy0, hy1, hs2⟩
    have hy := hy1 (by omega)
    have HS2 := Lib.hid hs2
    have hw2 : w.heap.size + 1 ≤ w2.heap.size := by have := hg12.size; omega
    clear hy0 hy1 hs2
    rcases (show y = 0 ∨ y = 1 ∨ y = 2 ∨ y = 3 ∨ y = 4 ∨ y = 5 by omega) with rfl | rfl | rfl | rfl | rfl | rfl
    all_goals clear hy
    focus
      go_wp2_with fail
      refine Calls.mono (l07Meta_ok w2 3 7 2 0 (by omega) (by omega) (by omega) (by omega)) ?_
      rintro e3 w3 ⟨v3, rfl, hg3, hP⟩
      obtain ⟨vo, vp, vc, rfl, hP3⟩ := hP.q
      have hg1x : w1.grownBy w3 (some sb) := grown_trans hg12 (grown_of_ext (some sb) hg3)
      have hsr := HS2.out.ext hg3
    rotate_left
    focus
      go_wp2_with fail
      refine Calls.mono (l07Meta_ok w2 4 5 2 0 (by omega) (by omega) (by omega) (by omega)) ?_
      rintro e3 w3 ⟨v3, rfl, hg3, hP⟩
      obtain ⟨vo, vp, vc, rfl, hP3⟩ := hP.q
      have hg1x : w1.grownBy w3 (some sb) := grown_trans hg12 (grown_of_ext (some sb) hg3)
      have hsr := HS2.out.ext hg3
    rotate_left
    focus
      go_wp2_with fail
      refine Calls.mono (l07Meta_ok w2 2 8 3 0 (by omega) (by omega) (by omega) (by omega)) ?_
      rintro e3 w3 ⟨v3, rfl, hg3, hP⟩
      obtain ⟨vo, vp, vc, rfl, hP3⟩ := hP.q
      have hg1x : w1.grownBy w3 (some sb) := grown_trans hg12 (grown_of_ext (some sb) hg3)
      have hsr := HS2.out.ext hg3
    rotate_left
    focus
      go_wp2_with fail
      refine Calls.mono (l07Meta_ok w2 2 8 5 0 (by omega) (by omega) (by omega) (by omega)) ?_
      rintro e3 w3 ⟨v3, rfl, hg3, hP⟩
      obtain ⟨vo, vp, vc, rfl, hP3⟩ := hP.q
      have hg1x : w1.grownBy w3 (some sb) := grown_trans hg12 (grown_of_ext (some sb) hg3)
      have hsr := HS2.out.ext hg3
    rotate_left
    focus
      go_wp2_with fail
      refine Calls.mono (l07Meta_ok w2 4 4 3 0 (by omega) (by omega) (by omega) (by omega)) ?_
      rintro e3 w3 ⟨v3, rfl, hg3, hP⟩
      obtain ⟨vo, vp, vc, rfl, hP3⟩ := hP.q
      have hg1x : w1.grownBy w3 (some sb) := grown_trans hg12 (grown_of_ext (some sb) hg3)
      have hsr := HS2.out.ext hg3
    rotate_left
    focus
      go_wp2_with fail
      refine Calls.mono (l07Meta_ok w2 3 9 4 0 (by omega) (by omega) (by omega) (by omega)) ?_
      rintro e3 w3 ⟨v3, rfl, hg3, hP⟩
      obtain ⟨vo, vp, vc, rfl, hP3⟩ := hP.q
      have hg1x : w1.grownBy w3 (some sb) := grown_trans hg12 (grown_of_ext (some sb) hg3)
      have hsr := HS2.out.ext hg3
    rotate_left
  rotate_left 6
  focus
    go_wp2_with fail
    have hgL : Ext w1 (w1.alloc (.cells #[.int .i64 2, .int .i64 3, .int .i64 2, .int .i64 3, .int .i64 5] 2)) := World.grownBy_alloc _ _ _
    have hL : Ints (fun k => k = w1.heap.size) (w1.alloc (.cells #[.int .i64 2, .int .i64 3, .int .i64 2, .int .i64 3, .int .i64 5] 2)) (.slice (some ⟨w1.heap.size, 0, none⟩) 5 5) [2, 3, 2, 3, 5] := ints_litL w1 [2, 3, 2, 3, 5] (by simp)
    have hsL : (w1.alloc (.cells #[.int .i64 2, .int .i64 3, .int .i64 2, .int .i64 3, .int .i64 5] 2)).heap.size = w1.heap.size + 1 := by simp
    generalize w1.alloc (.cells #[.int .i64 2, .int .i64 3, .int .i64 2, .int .i64 3, .int .i64 5] 2) = wL at *
    refine Calls.mono (l01Pick_ok B0 wL sb _ [2, 3, 2, 3, 5] _ (HS1.out.ext hgL) hL (fun k hk => by omega) (by simp) (by simp)) ?_
    rintro e2 w2 ⟨v2, rfl, hg2, i, hi, rfl, hs2⟩
    have hm : ∀ y ∈ ([2, 3, 2, 3, 5] : List Int), 2 ≤ y ∧ y ≤ 5 := by simp
    have hmi := hm _ (gtMem hi)
    generalize gt ([2, 3, 2, 3, 5] : List Int) i = m at *
    clear hm hi hL
    have hg12 := grown_trans (grown_of_ext (some sb) hgL) hg2
    have hw2 : w.heap.size + 1 ≤ w2.heap.size := by have := hg12.size; omega
    clear hgL hg2
    have HS2 := Lib.hid hs2; clear hs2
    go_wp2_with fail
    refine Calls.mono (l07Heisenberg_ok B0 w2 sb m (by omega) HS2.out) ?_
    rintro e3 w3 ⟨v3, rfl, hg3, hP, hs3⟩
    obtain ⟨vo, vp, vc, rfl, hP3⟩ := hP.q
    have hg1x : w1.grownBy w3 (some sb) := grown_trans hg12 hg3
    have hsr := hs3
  rotate_left
  focus
    go_wp2_with fail
    refine Calls.mono (l01Next_ok B0 w1 sb 6 HS1.out) ?_
    rintro e2 w2 ⟨v2, rfl, hg12, y, rfl, hy0, hy1, hs2⟩
    have hy := hy1 (by omega)
    have HS2 := Lib.hid hs2
    have hw2 : w.heap.size + 1 ≤ w2.heap.size := by have := hg12.size; omega
    clear hy0 hy1 hs2
    rcases (show y = 0 ∨ y = 1 ∨ y = 2 ∨ y = 3 ∨ y = 4 ∨ y = 5 by omega) with rfl | rfl | rfl | rfl | rfl | rfl
    all_goals clear hy
    focus
      go_wp2_with fail
      have hgL0 : Ext w2 (w2.alloc (.cells #[.int .i64 2, .int .i64 0] 2)) := World.grownBy_alloc _ _ _
      have hL0 : Ints Any (w2.alloc (.cells #[.int .i64 2, .int .i64 0] 2)) (.slice (some ⟨w2.heap.size, 0, none⟩) 2 2) [2, 0] := Ints.sub (ints_litL w2 [2, 0] (by simp)) (fun _ _ _ => trivial)
      have hsL0 : (w2.alloc (.cells #[.int .i64 2, .int .i64 0] 2)).heap.size = w2.heap.size + 1 := by simp
      generalize w2.alloc (.cells #[.int .i64 2, .int .i64 0] 2) = u0 at *
      have hgL1 : Ext u0 (u0.alloc (.cells #[.int .i64 0, .int .i64 2] 2)) := World.grownBy_alloc _ _ _
      have hL1 : Ints Any (u0.alloc (.cells #[.int .i64 0, .int .i64 2] 2)) (.slice (some ⟨u0.heap.size, 0, none⟩) 2 2) [0, 2] := Ints.sub (ints_litL u0 [0, 2] (by simp)) (fun _ _ _ => trivial)
      have hsL1 : (u0.alloc (.cells #[.int .i64 0, .int .i64 2] 2)).heap.size = u0.heap.size + 1 := by simp
      generalize u0.alloc (.cells #[.int .i64 0, .int .i64 2] 2) = u1 at *
      rw [hsL0] at hL1
      have hM0 := Ints.ext (hL0) hgL1
      have hM1 := hL1
      have hrow : ∀ i, i < ([[2, 0], [0, 2]] : List (List Int)).length → Ints Any u1 (gt ([.slice (some ⟨w2.heap.size, 0, none⟩) 2 2, .slice (some ⟨w2.heap.size + 1, 0, none⟩) 2 2] : List Value) i) (gt ([[2, 0], [0, 2]] : List (List Int)) i) := by
        intro i hi
        rcases (show i = 0 ∨ i = 1 by simp at hi; omega) with rfl | rfl
        · exact hM0
        · exact hM1
      have hRr := rows_litL u1 [.slice (some ⟨w2.heap.size, 0, none⟩) 2 2, .slice (some ⟨w2.heap.size + 1, 0, none⟩) 2 2] [[2, 0], [0, 2]] rfl (by simp) hrow
      have hgR := World.grownBy_alloc u1 (.cells #[.slice (some ⟨w2.heap.size, 0, none⟩) 2 2, .slice (some ⟨w2.heap.size + 1, 0, none⟩) 2 2] 24) none
      have hg2R : Ext w2 (u1.alloc (.cells #[.slice (some ⟨w2.heap.size, 0, none⟩) 2 2, .slice (some ⟨w2.heap.size + 1, 0, none⟩) 2 2] 24)) := grown_trans hgL0 (grown_trans hgL1 hgR)
      have hsR : u1.heap.size = w2.heap.size + 2 := by omega
      rw [hsL1, hsL0] at hRr
      refine Calls.mono (l07Affine_ok _ 3 2 _ [[2, 0], [0, 2]] Any hRr (by unfold SmR Sm; simp) (by omega) (by omega) (by simp)) ?_
      rintro e3 w3 ⟨v3, rfl, hg3, hP⟩
      have hP := hP.q.mono (B' := w2.heap.size) (Nat.le_refl _) hg2R.size
      have hg23 : Ext w2 w3 := grown_trans hg2R hg3
      clear hRr hgR hg2R hrow hM0 hL0 hgL0 hsL0 hM1 hL1 hgL1 hsL1
      obtain ⟨vo, vp, vc, rfl, hP3⟩ := hP
      have hg1x : w1.grownBy w3 (some sb) := grown_trans hg12 (grown_of_ext (some sb) hg23)
      have hsr := HS2.out.ext hg23
    rotate_left
    focus
      go_wp2_with fail
      have hgL0 : Ext w2 (w2.alloc (.cells #[.int .i64 0, .int .i64 1] 2)) := World.grownBy_alloc _ _ _
      have hL0 : Ints Any (w2.alloc (.cells #[.int .i64 0, .int .i64 1] 2)) (.slice (some ⟨w2.heap.size, 0, none⟩) 2 2) [0, 1] := Ints.sub (ints_litL w2 [0, 1] (by simp)) (fun _ _ _ => trivial)
      have hsL0 : (w2.alloc (.cells #[.int .i64 0, .int .i64 1] 2)).heap.size = w2.heap.size + 1 := by simp
      generalize w2.alloc (.cells #[.int .i64 0, .int .i64 1] 2) = u0 at *
      have hgL1 : Ext u0 (u0.alloc (.cells #[.int .i64 2, .int .i64 0] 2)) := World.grownBy_alloc _ _ _
      have hL1 : Ints Any (u0.alloc (.cells #[.int .i64 2, .int .i64 0] 2)) (.slice (some ⟨u0.heap.size, 0, none⟩) 2 2) [2, 0] := Ints.sub (ints_litL u0 [2, 0] (by simp)) (fun _ _ _ => trivial)
      have hsL1 : (u0.alloc (.cells #[.int .i64 2, .int .i64 0] 2)).heap.size = u0.heap.size + 1 := by simp
      generalize u0.alloc (.cells #[.int .i64 2, .int .i64 0] 2) = u1 at *
      rw [hsL0] at hL1
      have hM0 := Ints.ext (hL0) hgL1
      have hM1 := hL1
      have hrow : ∀ i, i < ([[0, 1], [2, 0]] : List (List Int)).length → Ints Any u1 (gt ([.slice (some ⟨w2.heap.size, 0, none⟩) 2 2, .slice (some ⟨w2.heap.size + 1, 0, none⟩) 2 2] : List Value) i) (gt ([[0, 1], [2, 0]] : List (List Int)) i) := by
        intro i hi
        rcases (show i = 0 ∨ i = 1 by simp at hi; omega) with rfl | rfl
        · exact hM0
        · exact hM1
      have hRr := rows_litL u1 [.slice (some ⟨w2.heap.size, 0, none⟩) 2 2, .slice (some ⟨w2.heap.size + 1, 0, none⟩) 2 2] [[0, 1], [2, 0]] rfl (by simp) hrow
      have hgR := World.grownBy_alloc u1 (.cells #[.slice (some ⟨w2.heap.size, 0, none⟩) 2 2, .slice (some ⟨w2.heap.size + 1, 0, none⟩) 2 2] 24) none
      have hg2R : Ext w2 (u1.alloc (.cells #[.slice (some ⟨w2.heap.size, 0, none⟩) 2 2, .slice (some ⟨w2.heap.size + 1, 0, none⟩) 2 2] 24)) := grown_trans hgL0 (grown_trans hgL1 hgR)
      have hsR : u1.heap.size = w2.heap.size + 2 := by omega
      rw [hsL1, hsL0] at hRr
      refine Calls.mono (l07Affine_ok _ 3 4 _ [[0, 1], [2, 0]] Any hRr (by unfold SmR Sm; simp) (by omega) (by omega) (by simp)) ?_
      rintro e3 w3 ⟨v3, rfl, hg3, hP⟩
      have hP := hP.q.mono (B' := w2.heap.size) (Nat.le_refl _) hg2R.size
      have hg23 : Ext w2 w3 := grown_trans hg2R hg3
      clear hRr hgR hg2R hrow hM0 hL0 hgL0 hsL0 hM1 hL1 hgL1 hsL1
      obtain ⟨vo, vp, vc, rfl, hP3⟩ := hP
      have hg1x : w1.grownBy w3 (some sb) := grown_trans hg12 (grown_of_ext (some sb) hg23)
      have hsr := HS2.out.ext hg23
    rotate_left
    focus
      go_wp2_with fail
      have hgL0 : Ext w2 (w2.alloc (.cells #[.int .i64 0, .int .i64 1, .int .i64 0] 2)) := World.grownBy_alloc _ _ _
      have hL0 : Ints Any (w2.alloc (.cells #[.int .i64 0, .int .i64 1, .int .i64 0] 2)) (.slice (some ⟨w2.heap.size, 0, none⟩) 3 3) [0, 1, 0] := Ints.sub (ints_litL w2 [0, 1, 0] (by simp)) (fun _ _ _ => trivial)
      have hsL0 : (w2.alloc (.cells #[.int .i64 0, .int .i64 1, .int .i64 0] 2)).heap.size = w2.heap.size + 1 := by simp
      generalize w2.alloc (.cells #[.int .i64 0, .int .i64 1, .int .i64 0] 2) = u0 at *
      have hgL1 : Ext u0 (u0.alloc (.cells #[.int .i64 0, .int .i64 0, .int .i64 1] 2)) := World.grownBy_alloc _ _ _
      have hL1 : Ints Any (u0.alloc (.cells #[.int .i64 0, .int .i64 0, .int .i64 1] 2)) (.slice (some ⟨u0.heap.size, 0, none⟩) 3 3) [0, 0, 1] := Ints.sub (ints_litL u0 [0, 0, 1] (by simp)) (fun _ _ _ => trivial)
      have hsL1 : (u0.alloc (.cells #[.int .i64 0, .int .i64 0, .int .i64 1] 2)).heap.size = u0.heap.size + 1 := by simp
      generalize u0.alloc (.cells #[.int .i64 0, .int .i64 0, .int .i64 1] 2) = u1 at *
      have hgL2 : Ext u1 (u1.alloc (.cells #[.int .i64 1, .int .i64 1, .int .i64 0] 2)) := World.grownBy_alloc _ _ _
      have hL2 : Ints Any (u1.alloc (.cells #[.int .i64 1, .int .i64 1, .int .i64 0] 2)) (.slice (some ⟨u1.heap.size, 0, none⟩) 3 3) [1, 1, 0] := Ints.sub (ints_litL u1 [1, 1, 0] (by simp)) (fun _ _ _ => trivial)
      have hsL2 : (u1.alloc (.cells #[.int .i64 1, .int .i64 1, .int .i64 0] 2)).heap.size = u1.heap.size + 1 := by simp
      generalize u1.alloc (.cells #[.int .i64 1, .int .i64 1, .int .i64 0] 2) = u2 at *
      rw [hsL0] at hL1
      rw [hsL1, hsL0] at hL2
      have hM0 := Ints.ext (Ints.ext (hL0) hgL1) hgL2
      have hM1 := Ints.ext (hL1) hgL2
      have hM2 := hL2
      have hrow : ∀ i, i < ([[0, 1, 0], [0, 0, 1], [1, 1, 0]] : List (List Int)).length → Ints Any u2 (gt ([.slice (some ⟨w2.heap.size, 0, none⟩) 3 3, .slice (some ⟨w2.heap.size + 1, 0, none⟩) 3 3, .slice (some ⟨w2.heap.size + 1 + 1, 0, none⟩) 3 3] : List Value) i) (gt ([[0, 1, 0], [0, 0, 1], [1, 1, 0]] : List (List Int)) i) := by
        intro i hi
        rcases (show i = 0 ∨ i = 1 ∨ i = 2 by simp at hi; omega) with rfl | rfl | rfl
        · exact hM0
        · exact hM1
        · exact hM2
      have hRr := rows_litL u2 [.slice (some ⟨w2.heap.size, 0, none⟩) 3 3, .slice (some ⟨w2.heap.size + 1, 0, none⟩) 3 3, .slice (some ⟨w2.heap.size + 1 + 1, 0, none⟩) 3 3] [[0, 1, 0], [0, 0, 1], [1, 1, 0]] rfl (by simp) hrow
      have hgR := World.grownBy_alloc u2 (.cells #[.slice (some ⟨w2.heap.size, 0, none⟩) 3 3, .slice (some ⟨w2.heap.size + 1, 0, none⟩) 3 3, .slice (some ⟨w2.heap.size + 1 + 1, 0, none⟩) 3 3] 24) none
      have hg2R : Ext w2 (u2.alloc (.cells #[.slice (some ⟨w2.heap.size, 0, none⟩) 3 3, .slice (some ⟨w2.heap.size + 1, 0, none⟩) 3 3, .slice (some ⟨w2.heap.size + 1 + 1, 0, none⟩) 3 3] 24)) := grown_trans hgL0 (grown_trans hgL1 (grown_trans hgL2 hgR))
      have hsR : u2.heap.size = w2.heap.size + 3 := by omega
      rw [hsL2, hsL1, hsL0] at hRr
      refine Calls.mono (l07Affine_ok _ 2 7 _ [[0, 1, 0], [0, 0, 1], [1, 1, 0]] Any hRr (by unfold SmR Sm; simp) (by omega) (by omega) (by simp)) ?_
      rintro e3 w3 ⟨v3, rfl, hg3, hP⟩
      have hP := hP.q.mono (B' := w2.heap.size) (Nat.le_refl _) hg2R.size
      have hg23 : Ext w2 w3 := grown_trans hg2R hg3
      clear hRr hgR hg2R hrow hM0 hL0 hgL0 hsL0 hM1 hL1 hgL1 hsL1 hM2 hL2 hgL2 hsL2
      obtain ⟨vo, vp, vc, rfl, hP3⟩ := hP
      have hg1x : w1.grownBy w3 (some sb) := grown_trans hg12 (grown_of_ext (some sb) hg23)
      have hsr := HS2.out.ext hg23
    rotate_left
    focus
      go_wp2_with fail
      have hgL0 : Ext w2 (w2.alloc (.cells #[.int .i64 1, .int .i64 1, .int .i64 0] 2)) := World.grownBy_alloc _ _ _
      have hL0 : Ints Any (w2.alloc (.cells #[.int .i64 1, .int .i64 1, .int .i64 0] 2)) (.slice (some ⟨w2.heap.size, 0, none⟩) 3 3) [1, 1, 0] := Ints.sub (ints_litL w2 [1, 1, 0] (by simp)) (fun _ _ _ => trivial)
      have hsL0 : (w2.alloc (.cells #[.int .i64 1, .int .i64 1, .int .i64 0] 2)).heap.size = w2.heap.size + 1 := by simp
      generalize w2.alloc (.cells #[.int .i64 1, .int .i64 1, .int .i64 0] 2) = u0 at *
      have hgL1 : Ext u0 (u0.alloc (.cells #[.int .i64 0, .int .i64 1, .int .i64 1] 2)) := World.grownBy_alloc _ _ _
      have hL1 : Ints Any (u0.alloc (.cells #[.int .i64 0, .int .i64 1, .int .i64 1] 2)) (.slice (some ⟨u0.heap.size, 0, none⟩) 3 3) [0, 1, 1] := Ints.sub (ints_litL u0 [0, 1, 1] (by simp)) (fun _ _ _ => trivial)
      have hsL1 : (u0.alloc (.cells #[.int .i64 0, .int .i64 1, .int .i64 1] 2)).heap.size = u0.heap.size + 1 := by simp
      generalize u0.alloc (.cells #[.int .i64 0, .int .i64 1, .int .i64 1] 2) = u1 at *
      have hgL2 : Ext u1 (u1.alloc (.cells #[.int .i64 0, .int .i64 0, .int .i64 1] 2)) := World.grownBy_alloc _ _ _
      have hL2 : Ints Any (u1.alloc (.cells #[.int .i64 0, .int .i64 0, .int .i64 1] 2)) (.slice (some ⟨u1.heap.size, 0, none⟩) 3 3) [0, 0, 1] := Ints.sub (ints_litL u1 [0, 0, 1] (by simp)) (fun _ _ _ => trivial)
      have hsL2 : (u1.alloc (.cells #[.int .i64 0, .int .i64 0, .int .i64 1] 2)).heap.size = u1.heap.size + 1 := by simp
      generalize u1.alloc (.cells #[.int .i64 0, .int .i64 0, .int .i64 1] 2) = u2 at *
      rw [hsL0] at hL1
      rw [hsL1, hsL0] at hL2
      have hM0 := Ints.ext (Ints.ext (hL0) hgL1) hgL2
      have hM1 := Ints.ext (hL1) hgL2
      have hM2 := hL2
      have hrow : ∀ i, i < ([[1, 1, 0], [0, 1, 1], [0, 0, 1]] : List (List Int)).length → Ints Any u2 (gt ([.slice (some ⟨w2.heap.size, 0, none⟩) 3 3, .slice (some ⟨w2.heap.size + 1, 0, none⟩) 3 3, .slice (some ⟨w2.heap.size + 1 + 1, 0, none⟩) 3 3] : List Value) i) (gt ([[1, 1, 0], [0, 1, 1], [0, 0, 1]] : List (List Int)) i) := by
        intro i hi
        rcases (show i = 0 ∨ i = 1 ∨ i = 2 by simp at hi; omega) with rfl | rfl | rfl
        · exact hM0
        · exact hM1
        · exact hM2
      have hRr := rows_litL u2 [.slice (some ⟨w2.heap.size, 0, none⟩) 3 3, .slice (some ⟨w2.heap.size + 1, 0, none⟩) 3 3, .slice (some ⟨w2.heap.size + 1 + 1, 0, none⟩) 3 3] [[1, 1, 0], [0, 1, 1], [0, 0, 1]] rfl (by simp) hrow
      have hgR := World.grownBy_alloc u2 (.cells #[.slice (some ⟨w2.heap.size, 0, none⟩) 3 3, .slice (some ⟨w2.heap.size + 1, 0, none⟩) 3 3, .slice (some ⟨w2.heap.size + 1 + 1, 0, none⟩) 3 3] 24) none
      have hg2R : Ext w2 (u2.alloc (.cells #[.slice (some ⟨w2.heap.size, 0, none⟩) 3 3, .slice (some ⟨w2.heap.size + 1, 0, none⟩) 3 3, .slice (some ⟨w2.heap.size + 1 + 1, 0, none⟩) 3 3] 24)) := grown_trans hgL0 (grown_trans hgL1 (grown_trans hgL2 hgR))
      have hsR : u2.heap.size = w2.heap.size + 3 := by omega
      rw [hsL2, hsL1, hsL0] at hRr
      refine Calls.mono (l07Affine_ok _ 2 4 _ [[1, 1, 0], [0, 1, 1], [0, 0, 1]] Any hRr (by unfold SmR Sm; simp) (by omega) (by omega) (by simp)) ?_
      rintro e3 w3 ⟨v3, rfl, hg3, hP⟩
      have hP := hP.q.mono (B' := w2.heap.size) (Nat.le_refl _) hg2R.size
      have hg23 : Ext w2 w3 := grown_trans hg2R hg3
      clear hRr hgR hg2R hrow hM0 hL0 hgL0 hsL0 hM1 hL1 hgL1 hsL1 hM2 hL2 hgL2 hsL2
      obtain ⟨vo, vp, vc, rfl, hP3⟩ := hP
      have hg1x : w1.grownBy w3 (some sb) := grown_trans hg12 (grown_of_ext (some sb) hg23)
      have hsr := HS2.out.ext hg23
    rotate_left
    focus
      go_wp2_with fail
      have hgL0 : Ext w2 (w2.alloc (.cells #[.int .i64 0, .int .i64 1, .int .i64 0, .int .i64 0] 2)) := World.grownBy_alloc _ _ _
      have hL0 : Ints Any (w2.alloc (.cells #[.int .i64 0, .int .i64 1, .int .i64 0, .int .i64 0] 2)) (.slice (some ⟨w2.heap.size, 0, none⟩) 4 4) [0, 1, 0, 0] := Ints.sub (ints_litL w2 [0, 1, 0, 0] (by simp)) (fun _ _ _ => trivial)
      have hsL0 : (w2.alloc (.cells #[.int .i64 0, .int .i64 1, .int .i64 0, .int .i64 0] 2)).heap.size = w2.heap.size + 1 := by simp
      generalize w2.alloc (.cells #[.int .i64 0, .int .i64 1, .int .i64 0, .int .i64 0] 2) = u0 at *
      have hgL1 : Ext u0 (u0.alloc (.cells #[.int .i64 1, .int .i64 0, .int .i64 0, .int .i64 0] 2)) := World.grownBy_alloc _ _ _
      have hL1 : Ints Any (u0.alloc (.cells #[.int .i64 1, .int .i64 0, .int .i64 0, .int .i64 0] 2)) (.slice (some ⟨u0.heap.size, 0, none⟩) 4 4) [1, 0, 0, 0] := Ints.sub (ints_litL u0 [1, 0, 0, 0] (by simp)) (fun _ _ _ => trivial)
      have hsL1 : (u0.alloc (.cells #[.int .i64 1, .int .i64 0, .int .i64 0, .int .i64 0] 2)).heap.size = u0.heap.size + 1 := by simp
      generalize u0.alloc (.cells #[.int .i64 1, .int .i64 0, .int .i64 0, .int .i64 0] 2) = u1 at *
      have hgL2 : Ext u1 (u1.alloc (.cells #[.int .i64 0, .int .i64 0, .int .i64 0, .int .i64 1] 2)) := World.grownBy_alloc _ _ _
      have hL2 : Ints Any (u1.alloc (.cells #[.int .i64 0, .int .i64 0, .int .i64 0, .int .i64 1] 2)) (.slice (some ⟨u1.heap.size, 0, none⟩) 4 4) [0, 0, 0, 1] := Ints.sub (ints_litL u1 [0, 0, 0, 1] (by simp)) (fun _ _ _ => trivial)
      have hsL2 : (u1.alloc (.cells #[.int .i64 0, .int .i64 0, .int .i64 0, .int .i64 1] 2)).heap.size = u1.heap.size + 1 := by simp
      generalize u1.alloc (.cells #[.int .i64 0, .int .i64 0, .int .i64 0, .int .i64 1] 2) = u2 at *
      have hgL3 : Ext u2 (u2.alloc (.cells #[.int .i64 0, .int .i64 0, .int .i64 1, .int .i64 0] 2)) := World.grownBy_alloc _ _ _
      have hL3 : Ints Any (u2.alloc (.cells #[.int .i64 0, .int .i64 0, .int .i64 1, .int .i64 0] 2)) (.slice (some ⟨u2.heap.size, 0, none⟩) 4 4) [0, 0, 1, 0] := Ints.sub (ints_litL u2 [0, 0, 1, 0] (by simp)) (fun _ _ _ => trivial)
      have hsL3 : (u2.alloc (.cells #[.int .i64 0, .int .i64 0, .int .i64 1, .int .i64 0] 2)).heap.size = u2.heap.size + 1 := by simp
      generalize u2.alloc (.cells #[.int .i64 0, .int .i64 0, .int .i64 1, .int .i64 0] 2) = u3 at *
      rw [hsL0] at hL1
      rw [hsL1, hsL0] at hL2
      rw [hsL2, hsL1, hsL0] at hL3
      have hM0 := Ints.ext (Ints.ext (Ints.ext (hL0) hgL1) hgL2) hgL3
      have hM1 := Ints.ext (Ints.ext (hL1) hgL2) hgL3
      have hM2 := Ints.ext (hL2) hgL3
      have hM3 := hL3
      have hrow : ∀ i, i < ([[0, 1, 0, 0], [1, 0, 0, 0], [0, 0, 0, 1], [0, 0, 1, 0]] : List (List Int)).length → Ints Any u3 (gt ([.slice (some ⟨w2.heap.size, 0, none⟩) 4 4, .slice (some ⟨w2.heap.size + 1, 0, none⟩) 4 4, .slice (some ⟨w2.heap.size + 1 + 1, 0, none⟩) 4 4, .slice (some ⟨w2.heap.size + 1 + 1 + 1, 0, none⟩) 4 4] : List Value) i) (gt ([[0, 1, 0, 0], [1, 0, 0, 0], [0, 0, 0, 1], [0, 0, 1, 0]] : List (List Int)) i) := by
        intro i hi
        rcases (show i = 0 ∨ i = 1 ∨ i = 2 ∨ i = 3 by simp at hi; omega) with rfl | rfl | rfl | rfl
        · exact hM0
        · exact hM1
        · exact hM2
        · exact hM3
      have hRr := rows_litL u3 [.slice (some ⟨w2.heap.size, 0, none⟩) 4 4, .slice (some ⟨w2.heap.size + 1, 0, none⟩) 4 4, .slice (some ⟨w2.heap.size + 1 + 1, 0, none⟩) 4 4, .slice (some ⟨w2.heap.size + 1 + 1 + 1, 0, none⟩) 4 4] [[0, 1, 0, 0], [1, 0, 0, 0], [0, 0, 0, 1], [0, 0, 1, 0]] rfl (by simp) hrow
      have hgR := World.grownBy_alloc u3 (.cells #[.slice (some ⟨w2.heap.size, 0, none⟩) 4 4, .slice (some ⟨w2.heap.size + 1, 0, none⟩) 4 4, .slice (some ⟨w2.heap.size + 1 + 1, 0, none⟩) 4 4, .slice (some ⟨w2.heap.size + 1 + 1 + 1, 0, none⟩) 4 4] 24) none
      have hg2R : Ext w2 (u3.alloc (.cells #[.slice (some ⟨w2.heap.size, 0, none⟩) 4 4, .slice (some ⟨w2.heap.size + 1, 0, none⟩) 4 4, .slice (some ⟨w2.heap.size + 1 + 1, 0, none⟩) 4 4, .slice (some ⟨w2.heap.size + 1 + 1 + 1, 0, none⟩) 4 4] 24)) := grown_trans hgL0 (grown_trans hgL1 (grown_trans hgL2 (grown_trans hgL3 hgR)))
      have hsR : u3.heap.size = w2.heap.size + 4 := by omega
      rw [hsL3, hsL2, hsL1, hsL0] at hRr
      refine Calls.mono (l07Affine_ok _ 2 2 _ [[0, 1, 0, 0], [1, 0, 0, 0], [0, 0, 0, 1], [0, 0, 1, 0]] Any hRr (by unfold SmR Sm; simp) (by omega) (by omega) (by simp)) ?_
      rintro e3 w3 ⟨v3, rfl, hg3, hP⟩
      have hP := hP.q.mono (B' := w2.heap.size) (Nat.le_refl _) hg2R.size
      have hg23 : Ext w2 w3 := grown_trans hg2R hg3
      clear hRr hgR hg2R hrow hM0 hL0 hgL0 hsL0 hM1 hL1 hgL1 hsL1 hM2 hL2 hgL2 hsL2 hM3 hL3 hgL3 hsL3
      obtain ⟨vo, vp, vc, rfl, hP3⟩ := hP
      have hg1x : w1.grownBy w3 (some sb) := grown_trans hg12 (grown_of_ext (some sb) hg23)
      have hsr := HS2.out.ext hg23
    rotate_left
    focus
      go_wp2_with fail
      have hgL0 : Ext w2 (w2.alloc (.cells #[.int .i64 0, .int .i64 1] 2)) := World.grownBy_alloc _ _ _
      have hL0 : Ints Any (w2.alloc (.cells #[.int .i64 0, .int .i64 1] 2)) (.slice (some ⟨w2.heap.size, 0, none⟩) 2 2) [0, 1] := Ints.sub (ints_litL w2 [0, 1] (by simp)) (fun _ _ _ => trivial)
      have hsL0 : (w2.alloc (.cells #[.int .i64 0, .int .i64 1] 2)).heap.size = w2.heap.size + 1 := by simp
      generalize w2.alloc (.cells #[.int .i64 0, .int .i64 1] 2) = u0 at *
      have hgL1 : Ext u0 (u0.alloc (.cells #[.int .i64 4, .int .i64 4] 2)) := World.grownBy_alloc _ _ _
      have hL1 : Ints Any (u0.alloc (.cells #[.int .i64 4, .int .i64 4] 2)) (.slice (some ⟨u0.heap.size, 0, none⟩) 2 2) [4, 4] := Ints.sub (ints_litL u0 [4, 4] (by simp)) (fun _ _ _ => trivial)
      have hsL1 : (u0.alloc (.cells #[.int .i64 4, .int .i64 4] 2)).heap.size = u0.heap.size + 1 := by simp
      generalize u0.alloc (.cells #[.int .i64 4, .int .i64 4] 2) = u1 at *
      rw [hsL0] at hL1
      have hM0 := Ints.ext (hL0) hgL1
      have hM1 := hL1
      have hrow : ∀ i, i < ([[0, 1], [4, 4]] : List (List Int)).length → Ints Any u1 (gt ([.slice (some ⟨w2.heap.size, 0, none⟩) 2 2, .slice (some ⟨w2.heap.size + 1, 0, none⟩) 2 2] : List Value) i) (gt ([[0, 1], [4, 4]] : List (List Int)) i) := by
        intro i hi
        rcases (show i = 0 ∨ i = 1 by simp at hi; omega) with rfl | rfl
        · exact hM0
        · exact hM1
      have hRr := rows_litL u1 [.slice (some ⟨w2.heap.size, 0, none⟩) 2 2, .slice (some ⟨w2.heap.size + 1, 0, none⟩) 2 2] [[0, 1], [4, 4]] rfl (by simp) hrow
      have hgR := World.grownBy_alloc u1 (.cells #[.slice (some ⟨w2.heap.size, 0, none⟩) 2 2, .slice (some ⟨w2.heap.size + 1, 0, none⟩) 2 2] 24) none
      have hg2R : Ext w2 (u1.alloc (.cells #[.slice (some ⟨w2.heap.size, 0, none⟩) 2 2, .slice (some ⟨w2.heap.size + 1, 0, none⟩) 2 2] 24)) := grown_trans hgL0 (grown_trans hgL1 hgR)
      have hsR : u1.heap.size = w2.heap.size + 2 := by omega
      rw [hsL1, hsL0] at hRr
      refine Calls.mono (l07Affine_ok _ 5 3 _ [[0, 1], [4, 4]] Any hRr (by unfold SmR Sm; simp) (by omega) (by omega) (by simp)) ?_
      rintro e3 w3 ⟨v3, rfl, hg3, hP⟩
      have hP := hP.q.mono (B' := w2.heap.size) (Nat.le_refl _) hg2R.size
      have hg23 : Ext w2 w3 := grown_trans hg2R hg3
      clear hRr hgR hg2R hrow hM0 hL0 hgL0 hsL0 hM1 hL1 hgL1 hsL1
      obtain ⟨vo, vp, vc, rfl, hP3⟩ := hP
      have hg1x : w1.grownBy w3 (some sb) := grown_trans hg12 (grown_of_ext (some sb) hg23)
      have hsr := HS2.out.ext hg23
    rotate_left
  rotate_left 6
  focus
    go_wp2_with fail
    refine Calls.mono (l01Next_ok B0 w1 sb 10 HS1.out) ?_
    rintro e2 w2 ⟨v2, rfl, hg12, y, rfl, hy0, hy1, hs2⟩
    have hy := hy1 (by omega)
    have HS2 := Lib.hid hs2
    have hw2 : w.heap.size + 1 ≤ w2.heap.size := by have := hg12.size; omega
    clear hy0 hy1 hs2
    go_wp2_with fail
    refine Calls.mono (l07Table_ok w2 y hy.1 hy.2) ?_
    rintro e3 w3 ⟨v3, rfl, hg3, hP⟩
    obtain ⟨vo, vp, vc, rfl, hP3⟩ := hP
    have hg1x : w1.grownBy w3 (some sb) := grown_trans hg12 (grown_of_ext (some sb) hg3)
    have hsr := HS2.out.ext hg3
  rotate_left
  focus
    go_wp2_with fail
    refine Calls.mono (l01Next_ok B0 w1 sb 10 HS1.out) ?_
    rintro e2 w2 ⟨v2, rfl, hg12, y, rfl, hy0, hy1, hs2⟩
    have hy := hy1 (by omega)
    have HS2 := Lib.hid hs2
    have hw2 : w.heap.size + 1 ≤ w2.heap.size := by have := hg12.size; omega
    clear hy0 hy1 hs2
    go_wp2_with fail
    refine Calls.mono (l07Table_ok w2 y hy.1 hy.2) ?_
    rintro e3 w3 ⟨v3, rfl, hg3, hP⟩
    obtain ⟨vo, vp, vc, rfl, hP3⟩ := hP
    have hg1x : w1.grownBy w3 (some sb) := grown_trans hg12 (grown_of_ext (some sb) hg3)
    have hsr := HS2.out.ext hg3
  rotate_left
  all_goals
    obtain ⟨a1, n1, c1, a2, n2, c2, a3, n3, c3, rfl, rfl, rfl⟩ := hP3.shape
    have hb9 := Box3.keep hb1 hg1x.size (hg1x.block _ hb1.1 (fun e => by have := Option.some.inj e; omega))
    have hgw9 := grown_trans hgw1 hg1x
    obtain ⟨b0, b1, b2, b3, b4⟩ := id hb9
    have hZ := hb9.all (.slice a1 n1 c1) (.slice a2 n2 c2) (.slice a3 n3 c3)
    obtain ⟨-, z0, z1, z2, -⟩ := id hZ
    have HF := Lib.hid (And.intro hgw9 (And.intro hP3 hsr)); clear hZ hgw9 hP3 hb9
    go_wp2_with fail
    refine bodyPost_ret (v := .agg #[.slice a1 n1 c1, .slice a2 n2 c2, .slice a3 n3 c3]) (by simp [results, Tryz.results220, go_sem, z0, z1, z2]) rfl ?_
    exact fam_ret HF.out.1 (B := w2.heap.size) (by omega) HF.out.2.2 hB0 HF.out.2.1 (by omega)

end Go.Proofs.YtoakmefajbbggaaGreat
namespace Go.Proofs.YtoakmefajbbggaaGreat
open Go.RowKit
attribute [local go_sem ↓] Go.wp_at_zero Go.wp_at_succ

theorem l01OwnS_ok (w : World) (v : Value) (l : List Int) (S : Nat → Prop) (hv : Ints S w v l) (hl : l.length ≤ 1048576) :
    Calls Tryz.prog 120 #[v] w (Ret w fun w' r => Own w.heap.size w' r l ∧ ∃ g c, r = .slice (some ⟨g, 0, none⟩) l.length c ∧ w.heap.size ≤ g) := by
  obtain ⟨a, cap, rfl, _, _⟩ := hv.shape
  go_enter Tryz.func120, Tryz.ntmps120
  go_wp2_with (at_builtin; refine wp_app_ints rfl _ _ rfl w.heap.size _ [] rfl (World.ownsRow_lit w #[] 0 (Nat.le_refl _) (by decide) rfl) _ l rfl S (hv.ext (World.grownBy_alloc _ _ _)) (by simp; omega) (by simp) ?_; intro v' w1 ho1 hg1 hn1)
  go_ret
  refine ⟨_, rfl, grown_own (World.grownBy_alloc _ _ _) hg1 (fun j hj hlt => by have := own_blk hj; omega), ho1, ?_⟩
  rcases ho1.v.form with ⟨h1, _⟩ | ⟨g, c, h1, _, h2, _⟩
  · exact absurd (hn1.1 h1).1 (by intro e; cases e)
  · exact ⟨g, c, by rw [h1]; simp, h2⟩

/-- behind the making of the result -/
def BothCut (w0 : World) (o : List Int) (q : Value) (wx : World) : Prop := ∃ pb ao co ap cp ac cc, q = .pointer (some ⟨pb, 0, none⟩) ∧ Ext w0 wx ∧
  BX 40 o w0.heap.size pb wx (.slice ao o.length co) (.slice ap o.length cp) (.slice ac o.length cc)
theorem bothCut_mk {w0 w5 wx : World} {o : List Int} {pb co cp cc : Nat} {ao ap ac : Option Addr} {B : Nat} (hl : o.length ≤ 40) (hX : PresX (From B) w5 (.slice ao o.length co) (.slice ap o.length cp) (.slice ac o.length cc) (trivP o)) (hB : w0.heap.size ≤ B) (hp : w0.heap.size ≤ pb)
    (hne : pb < B ∨ w5.heap.size ≤ pb) (hE : Ext w0 wx) (hg : w5.grownBy wx (some pb)) (hb : Box3 wx pb (.slice ao o.length co) (.slice ap o.length cp) (.slice ac o.length cc)) : BothCut w0 o (.pointer (some ⟨pb, 0, none⟩)) wx :=
  ⟨pb, ao, co, ap, cp, ac, cc, rfl, hE, hp, hb, trivP o, trivP_shp o hl, rfl, hX.mono (fun k hk hlt => by
    have hk' : B ≤ k := hk
    exact ⟨⟨by omega, by omega⟩, Nat.lt_of_lt_of_le hlt hg.size, hg.block k hlt (fun e => by cases e; omega)⟩)⟩

set_option maxRecDepth 100000 in
set_option maxHeartbeats 4000000 in
theorem l07Both_ok (w : World) (pa pb : Value) (A B : Pr) (Sa Sb : Nat → Prop) (ha : PresV Sa w pa A) (hb : PresV Sb w pb B) (hA : Shp 20 A) (hB : Shp 20 B) :
    Calls Tryz.prog 221 #[pa, pb] w (Ret w (PresN 40 w.heap.size)) := by
  obtain ⟨vo, vp, vc, rfl, h3⟩ := ha
  obtain ⟨uo, up, uc, rfl, k3⟩ := hb
  obtain ⟨ao, cao, hv1, _, _⟩ := h3.o.shape
  obtain ⟨ap, cap, hv2, _, _⟩ := Sl.shape h3.p
  obtain ⟨ac, cac, hv3, _, _⟩ := Sl.shape h3.c
  obtain ⟨bo, cbo, hu1, _, _⟩ := k3.o.shape
  obtain ⟨bp, cbp, hu2, _, _⟩ := Sl.shape k3.p
  obtain ⟨bc, cbc, hu3, _, _⟩ := Sl.shape k3.c
  subst hv1 hv2 hv3 hu1 hu2 hu3
  obtain ⟨w0, hw0⟩ : ∃ w0, w0 = ((w.alloc (.cells #[.slice ao A.orders.length cao, .slice ap A.powers.length cap, .slice ac A.conj.length cac] 28)).alloc (.cells #[.slice bo B.orders.length cbo, .slice bp B.powers.length cbp, .slice bc B.conj.length cbc] 28)).alloc (.cells #[.slice none 0 0, .slice none 0 0, .slice none 0 0] 28) := ⟨_, rfl⟩
  have hg0 : Ext w w0 := by rw [hw0]; exact grown_trans (World.grownBy_alloc _ _ _) (grown_trans (World.grownBy_alloc _ _ _) (World.grownBy_alloc _ _ _))
  have hx1 : Box3 w0 w.heap.size (.slice ao A.orders.length cao) (.slice ap A.powers.length cap) (.slice ac A.conj.length cac) := by rw [hw0]; exact ((Box3.made w 28 _ _ _).ext (World.grownBy_alloc _ _ _)).ext (World.grownBy_alloc _ _ _)
  have hx2 : Box3 w0 (w.heap.size + 1) (.slice bo B.orders.length cbo) (.slice bp B.powers.length cbp) (.slice bc B.conj.length cbc) := by
    have h := (Box3.made (w.alloc (.cells #[.slice ao A.orders.length cao, .slice ap A.powers.length cap, .slice ac A.conj.length cac] 28)) 28 (.slice bo B.orders.length cbo) (.slice bp B.powers.length cbp) (.slice bc B.conj.length cbc)).ext (World.grownBy_alloc _ (.cells #[.slice none 0 0, .slice none 0 0, .slice none 0 0] 28) _)
    rw [hw0]; simpa using h
  have hx3 : Box3 w0 (w.heap.size + 1 + 1) (.slice none 0 0) (.slice none 0 0) (.slice none 0 0) := by
    have h := Box3.made ((w.alloc (.cells #[.slice ao A.orders.length cao, .slice ap A.powers.length cap, .slice ac A.conj.length cac] 28)).alloc (.cells #[.slice bo B.orders.length cbo, .slice bp B.powers.length cbp, .slice bc B.conj.length cbc] 28)) 28 (.slice none 0 0) (.slice none 0 0) (.slice none 0 0)
    rw [hw0]; simpa using h
  have hsz : w0.heap.size = w.heap.size + 3 := by rw [hw0]; simp
  have HB := Lib.hid (And.intro hx1 (And.intro hx2 (And.intro hx3 (And.intro hsz (And.intro hA hB))))); clear hx1 hx2 hx3 hsz hA hB
  go_enter Tryz.func221, Tryz.ntmps221
  go_wp2_with fail
  rw [← hw0]
  clear hw0
  obtain ⟨_, f0, f1, f2, _⟩ := id HB.out.1
  obtain ⟨_, g0, g1, g2, _⟩ := id HB.out.2.1
  go_quiet (fail)
  rename_i nq _
  obtain ⟨wq, hwq⟩ : ∃ wq, wq = w0.drewN nq := ⟨_, rfl⟩
  have hgq : Ext w0 wq := by rw [hwq]; exact grown_drewN _ _ _
  rw [← hwq]
  clear hwq f0 f1 f2 g0 g1 g2
  have hgw := grown_trans hg0 hgq
  have h3q := h3.ext hgw
  have k3q := k3.ext hgw
  have hb1 := HB.out.1.ext hgq
  have hb2 := HB.out.2.1.ext hgq
  have hb3 := HB.out.2.2.1.ext hgq
  have hsA := HB.out.2.2.2.2.1
  have hsB := HB.out.2.2.2.2.2
  have hsz := HB.out.2.2.2.1
  have hqs := hgq.size
  clear HB h3 k3
  have hla : A.orders.length ≤ 20 := hsA.n
  have hlb : B.orders.length ≤ 20 := hsB.n
  obtain ⟨o, ho⟩ : ∃ o, o = A.orders ++ B.orders := ⟨_, rfl⟩
  have hol : o.length = A.orders.length + B.orders.length := by rw [ho]; simp
  have ho40 : o.length ≤ 40 := by omega
  have HB := Lib.hid (And.intro hb1 (And.intro hb2 (And.intro hb3 (And.intro hsA (And.intro hsB (And.intro ho (And.intro hol hsz))))))); clear hb1 hb2 hb3 hsA hsB ho hol
  have e0 : ∀ w', Ext wq w' → w'.cell? ⟨w.heap.size, 0, none⟩ = some (.slice ao A.orders.length cao) := fun w' h => (HB.out.1.ext h).2.1
  have e1 : ∀ w', Ext wq w' → w'.cell? ⟨w.heap.size + 1, 0, none⟩ = some (.slice bo B.orders.length cbo) := fun w' h => (HB.out.2.1.ext h).2.1
  go_wp2_with fail
  go_cut [7] (fun qv wx => BothCut wq o qv wx)
  case first =>
    go_region_held3 (fun w' => Ext wq w') (first | exact grown_drew _ _ | assumption | exact grown_trans (by assumption) (World.grownBy_alloc _ _ _) | exact grown_own (by assumption) (grown_set3 _ _ _ _ _) (fun j hj hlt => by cases hj; first | (exact absurd hlt (Nat.lt_irrefl _)) | (have := hgO.size; omega) | (have := hgA8.size; omega) | (have := hgT.size; omega)))
      (first
        | (go_at_call 120; refine Calls.mono (Calls.rel2 (w0 := wq) (by assumption) (l01OwnS_ok _ _ A.orders Sa (Ints.ext h3q.o (by assumption)) (by omega))) ?_; rintro eO wO ⟨vO, rfl, hgO, hgO2, hsO, hOO, gO, cO, rfl, hgOb⟩; (first | (have hQ := Box3.ext (Box3.made _ _ _ _ _) hgO2) | (have hQ := Box3.ext (Box3.made _ _ _ _ _) (grown_trans (grown_drew _ _) hgO2)) | skip); (try obtain ⟨f0, f1, f2, f3, f4⟩ := id hQ))
        | (refine step_app_list rfl _ _ rfl wq.heap.size gO cO A.orders.length A.orders B.orders rfl (by rfl) (by first | exact hOO.weak hsO | exact (hOO.weak hsO).ext0 (World.grownBy_alloc _ _ _)) _ Sb (Ints.ext k3q.o (by assumption)) (by rfl) (by omega) ((show Ext wq _ by assumption).size) ?_; intro v8 w8 hO8 hg8; rw [← HB.out.2.2.2.2.2.1] at hO8; obtain ⟨a8, c8, hv8, _⟩ := (hO8.ints (by omega)).shape; subst hv8; have hOi := Ints.sub (hO8.ints (by omega)) (S' := Any) (fun _ _ _ => trivial); have hgA8 : Ext wq w8 := grown_own (by assumption) hg8 (fun j hj hlt => by cases hj; omega); (first | (have hQ := Box3.keep hQ hg8.size (hg8.block _ hQ.1 (fun e => by cases e; first | omega | (simp [World.drew] at hgOb <;> omega)))) | (have hQ := Box3.keep (Box3.made wO 28 (.slice none 0 0) (.slice none 0 0) (.slice none 0 0)) hg8.size (hg8.block _ (by simp) (fun e => by cases e; exact absurd (show wO.heap.size < wO.heap.size from (hOO.lt _ rfl).2) (Nat.lt_irrefl _)))) | skip); (try obtain ⟨f0, f1, f2, f3, f4⟩ := id hQ))
        | (go_at_call 222; refine Calls.mono (Calls.rel2 (w0 := wq) (by assumption) (l07Trivial_ok _ _ o Any (by first | exact hOi | exact Ints.ext hOi (World.grownBy_alloc _ _ _)) (Nat.le_trans ho40 (by decide)))) ?_; rintro eT wT ⟨vT, rfl, hgT, hgT2, hsT, vo, vp, vc, rfl, hX5⟩; obtain ⟨xo, co, xp, cp, xc, cc, rfl, rfl, rfl⟩ := trivX_shape hX5; (try have hQ := Box3.ext hQ hgT2); (first | (have hQ := Box3.ext (Box3.made _ _ _ _ _) hgT2) | skip); (try obtain ⟨f0, f1, f2, f3, f4⟩ := id hQ)))
    all_goals (try go_wp2_with fail)
    all_goals go_meet
    all_goals
      have hzO := hgO.size
      have hzA := hgA8.size
      have hzT := hgT.size
      first
        | exact bothCut_mk ho40 hX5 hsT (by omega) (.inr (Nat.le_refl _)) (grown_trans (by assumption) (World.grownBy_alloc _ _ _)) (World.grownBy_alloc _ _ _) (Box3.made _ _ _ _ _)
        | exact bothCut_mk ho40 hX5 hsT (by omega) (.inl (by first | omega | (simp; done) | (simp; omega))) (by assumption) (grown_set3 _ _ _ _ _) (hQ.all _ _ _)
    done
  case rest =>
    obtain ⟨rb, xo, co, xp, cp, xc, cc, rfl, hg1, hX⟩ := hcut
    clear e0 e1
    go_wp2
    go_loopw [8] (fun iv wr => ∃ i : Nat, iv = .int .i64 i ∧ i ≤ A.orders.length ∧ Ext wq wr ∧ BX 40 o wq.heap.size rb wr (.slice xo o.length co) (.slice xp o.length cp) (.slice xc o.length cc)) (fun iv _ => A.orders.length - (intOf iv).toNat)
    case atStart => exact ⟨0, rfl, by omega, hg1, hX⟩
    case round =>
      clear hX hg1
      obtain ⟨i, rfl, hi, hg, hX⟩ := hrel
      by_cases hlt : i < A.orders.length
      · have hlt' : (i : Int) < A.orders.length := by omega
        have hsh := HB.out.2.2.2.1
        have hoe := HB.out.2.2.2.2.2.2.1
        have hqz := HB.out.2.2.2.2.2.2.2
        have hip : i < A.powers.length := by rw [hsh.p]; exact hlt
        have hip' : (i : Int) < A.powers.length := by omega
        have hio : ((i : Nat) : Int) < o.length := by omega
        have hK : i = i := rfl
        obtain ⟨g, capg, z, hvg, hgB, hgp, hgl, hcc, hst⟩ := hX.storeP i (by omega)
        obtain ⟨rfl, rfl⟩ : xp = some ⟨g, 0, none⟩ ∧ cp = capg := by cases hvg; exact ⟨rfl, rfl⟩
        clear hvg
        obtain ⟨b2, o2, az, capz, hs1, _, hb2l, hca0, hra⟩ := Rows2.at h3q.p i hip
        have hca := hg.cell hca0 (by simp)
        have hzl := hsh.pv _ (gtMem hip)
        obtain ⟨zr, hzr⟩ : ∃ zr, zr = gt A.powers i := ⟨_, rfl⟩
        rw [← hzr] at hca hra hzl
        clear hzr hca0
        have hbx := HB.out.1.ext hg
        have e1 : ∀ w', Near wr g w' → w'.cell? ⟨rb, 1, none⟩ = some (.slice (some ⟨g, 0, none⟩) o.length cp) := fun w' h => h.cell hX.box.2.2.1 (by simp; omega)
        have e2 : ∀ w', Near wr g w' → w'.cell? ⟨w.heap.size, 1, none⟩ = some (.slice (some ⟨b2, o2, none⟩) A.powers.length cap) := fun w' h => h.cell (by rw [← hs1]; exact hbx.2.2.1) (by simp; omega)
        have e3 : ∀ w', Near wr g w' → w'.cell? ⟨b2, o2 + i, none⟩ = some (.slice az zr.length capz) := fun w' h => h.cell hca (by simp; omega)
        have hcon : ∀ w', Ext wr w' → Calls Tryz.prog 265 #[.int .i64 0, .slice az zr.length capz, .int .i64 B.orders.length] w' (Ret w' fun w'' r => ∃ l, l.length ≤ 40 ∧ Own w'.heap.size w'' r l) := fun w' he =>
          Calls.mono (l07Shift_ok w' 0 _ zr B.orders.length _ (Ints.ext hra (grown_trans hg he)) (by omega)) (fun e w2 ⟨v, h1, h2, h3⟩ => ⟨v, h1, h2, _, by rw [shiftL_len]; omega, h3⟩)
        have HX := Lib.hid (And.intro hX (And.intro hst (And.intro hcc (And.intro hcon (And.intro hsh (And.intro hoe hK)))))); clear hX hst hcc hcon hca hra hzl hbx hsh hoe hs1 hK
        go_wp2
        go_region_held3 (fun w' => Near wr g w') (first | exact Near.of (grown_drew _ _) | exact Near.of (by assumption) | exact Near.store (by assumption) | assumption)
          (first
            | (go_at_call 265; refine Calls.mono (Calls.rel (w0 := wr) (by first | exact grown_drew _ _ | assumption) (HX.out.2.2.2.1 _ (by first | exact grown_drew _ _ | assumption))) ?_; rintro eE wE ⟨vE, rfl, hgE, hsE, lE, hlE, hOE⟩; obtain ⟨aE, cE, hvE, _⟩ := (hOE.ints (Nat.le_trans hlE (by decide))).shape; subst hvE; have hcl := (HX.out.2.2.1 wE hgE).1; have hfr := (HX.out.2.2.1 wE hgE).2))
        have hX5 := HX.out.2.1 wE _ lE hgE (OwnIn.of hOE (Nat.le_trans hlE (by decide)) (fun k hk _ => Nat.le_trans (by assumption) hk)) hlE
        have hgn : Ext wq (wE.setCell ⟨g, i, none⟩ (.slice aE lE.length cE)) := grown_own (grown_trans hg hgE) (grown_set1 _ _ _ _) (fun j hj hlt => by cases hj; omega)
        have hsh := HX.out.2.2.2.2.1
        have hoe := HX.out.2.2.2.2.2.1
        have hic : i < A.conj.length := by rw [hsh.c]; exact hlt
        have hic' : (i : Int) < A.conj.length := by omega
        have hK := HX.out.2.2.2.2.2.2
        obtain ⟨b3, o3, a5, cap5, hs2, _, hb3l, hca0, hra⟩ := Rows3.at h3q.c i hic
        have hrl := hsh.cl i hlt
        have hrv : ∀ v ∈ gt A.conj i, v.length ≤ 20 := fun v hv => hsh.cv _ (gtMem hic) v hv
        obtain ⟨R, hR⟩ : ∃ R, R = gt A.conj i := ⟨_, rfl⟩
        rw [← hR] at hca0 hra hrl hrv
        have HC := Lib.hid (And.intro hrl (And.intro hrv (And.intro hoe (And.intro hK (And.intro hs2 hra))))); clear hrl hrv hoe hK hs2 hra hsh hR HX
        clear hcl hfr e1 e2 e3
        clear hgE hOE hlE hsE hg
        go_wp2
        generalize wE.setCell ⟨g, i, none⟩ (.slice aE lE.length cE) = w7 at *
        go_loopw [9] (fun jv wr => ∃ j : Nat, jv = .int .i64 j ∧ j ≤ R.length ∧ Ext wq wr ∧ BX 40 o wq.heap.size rb wr (.slice xo o.length co) (.slice (some ⟨g, 0, none⟩) o.length cp) (.slice xc o.length cc)) (fun jv _ => R.length - (intOf jv).toNat)
        case atStart => exact ⟨0, rfl, by omega, hgn, hX5⟩
        case round =>
          clear hX5 hgn
          obtain ⟨j, rfl, hj, hg, hX⟩ := hrel
          have hbx := HB.out.1.ext hg
          have hra := HC.out.2.2.2.2.2
          have hs2 := HC.out.2.2.2.2.1
          have d2 := hbx.2.2.2.1
          rw [hs2] at d2
          have d3 := hg.cell hca0 (by simp)
          by_cases hltj : j < R.length
          · have hltj' : (j : Int) < R.length := by omega
            have hrl := HC.out.1
            have hoe := HC.out.2.2.1
            have hK := HC.out.2.2.2.1
            have hjo : j < o.length - 1 - i := by omega
            obtain ⟨gc, capc, b, capb, z2, hvc, hcB, hcp, hcl, hcell, hbB, hbp, hbg, hbl, hcc2, hst2⟩ := hX.storeC i j (by omega) hjo
            obtain ⟨rfl, rfl⟩ : xc = some ⟨gc, 0, none⟩ ∧ cc = capc := by cases hvc; exact ⟨rfl, rfl⟩
            clear hvc
            obtain ⟨b6, o6, a6, cap6, rfl, _, hb6l, hc60, hr6⟩ := Rows2.at hra j hltj
            have hc6 := hg.cell hc60 (by simp)
            have hzl := HC.out.2.1 _ (gtMem hltj)
            obtain ⟨zr, hzr⟩ : ∃ zr, zr = gt R j := ⟨_, rfl⟩
            rw [← hzr] at hc6 hr6 hzl
            clear hzr hc60
            have e1 : ∀ w', Near wr b w' → w'.cell? ⟨rb, 2, none⟩ = some (.slice (some ⟨gc, 0, none⟩) o.length cc) := fun w' h => h.cell hX.box.2.2.2.1 (by simp; omega)
            have e2 : ∀ w', Near wr b w' → w'.cell? ⟨gc, i, none⟩ = some (.slice (some ⟨b, 0, none⟩) (o.length - 1 - i) capb) := fun w' h => h.cell hcell (by simp; omega)
            have e3 : ∀ w', Near wr b w' → w'.cell? ⟨w.heap.size, 2, none⟩ = some (.slice (some ⟨b3, o3, none⟩) A.conj.length cac) := fun w' h => h.cell d2 (by simp; omega)
            have e4 : ∀ w', Near wr b w' → w'.cell? ⟨b3, o3 + i, none⟩ = some (.slice (some ⟨b6, o6, none⟩) R.length cap5) := fun w' h => h.cell d3 (by simp; omega)
            have e5 : ∀ w', Near wr b w' → w'.cell? ⟨b6, o6 + j, none⟩ = some (.slice a6 zr.length cap6) := fun w' h => h.cell hc6 (by simp; omega)
            have hcon : ∀ w', Ext wr w' → Calls Tryz.prog 265 #[.int .i64 0, .slice a6 zr.length cap6, .int .i64 B.orders.length] w' (Ret w' fun w'' r => ∃ l, l.length ≤ 40 ∧ Own w'.heap.size w'' r l) := fun w' he =>
              Calls.mono (l07Shift_ok w' 0 _ zr B.orders.length _ (Ints.ext hr6 (grown_trans hg he)) (by omega)) (fun e w2 ⟨v, h1, h2, h3⟩ => ⟨v, h1, h2, _, by rw [shiftL_len]; omega, h3⟩)
            have hjl : (j : Int) < ((o.length - 1 - i : Nat) : Int) := by omega
            have hiK : (i : Int) < o.length := by omega
            have HY := Lib.hid (And.intro hst2 (And.intro hcc2 hcon)); clear hst2 hcc2 hcon hcell hc6 hr6 hzl hX
            go_wp2
            clear d2 d3
            clear hrl hoe hK hs2 hjo
            go_region_held3 (fun w' => Near wr b w') (first | exact Near.of (grown_drew _ _) | exact Near.of (by assumption) | exact Near.store (by assumption) | assumption)
              (first
                | (go_at_call 265; refine Calls.mono (Calls.rel (w0 := wr) (by first | exact grown_drew _ _ | assumption) (HY.out.2.2 _ (by first | exact grown_drew _ _ | assumption))) ?_; rintro eE wE ⟨vE, rfl, hgE, hsE, lE, hlE, hOE⟩; obtain ⟨aE, cE, hvE, _⟩ := (hOE.ints (Nat.le_trans hlE (by decide))).shape; subst hvE; have hcl := (HY.out.2.1 wE hgE).1; have hfr := (HY.out.2.1 wE hgE).2))
            have hX5 := HY.out.1 wE _ lE hgE (OwnIn.of hOE (Nat.le_trans hlE (by decide)) (fun k hk _ => Nat.le_trans (by assumption) hk)) hlE
            have hgn : Ext wq (wE.setCell ⟨b, j, none⟩ (.slice aE lE.length cE)) := grown_own (grown_trans hg hgE) (grown_set1 _ _ _ _) (fun j hj hlt => by cases hj; omega)
            clear hcl hfr e1 e2 e3 e4 e5
            go_wp2
            go_roundw
            case rel => exact ⟨j + 1, by go_num, by omega, hgn, hX5⟩
            case measure => simp [intOf]; omega
          · have hltj' : ¬ ((j : Int) < R.length) := by omega
            clear hs2
            go_wp2
            go_roundw
            case rel => exact ⟨i + 1, by go_num, by omega, hg, hX⟩
            case measure => simp [intOf]; omega
      · have hlt' : ¬ ((i : Int) < A.orders.length) := by omega
        go_wp2
        have hg1 := hg
        clear hg hi hlt hlt'
        go_loopw [10] (fun iv wr => ∃ i : Nat, iv = .int .i64 i ∧ i ≤ B.orders.length ∧ Ext wq wr ∧ BX 40 o wq.heap.size rb wr (.slice xo o.length co) (.slice xp o.length cp) (.slice xc o.length cc)) (fun iv _ => B.orders.length - (intOf iv).toNat)
        case atStart => exact ⟨0, rfl, by omega, hg1, hX⟩
        case round =>
          clear hX hg1
          obtain ⟨i, rfl, hi, hg, hX⟩ := hrel
          by_cases hlt : i < B.orders.length
          · have hlt' : (i : Int) < B.orders.length := by omega
            have hsh := HB.out.2.2.2.2.1
            have hoe := HB.out.2.2.2.2.2.2.1
            have hqz := HB.out.2.2.2.2.2.2.2
            have hip : i < B.powers.length := by rw [hsh.p]; exact hlt
            have hip' : (i : Int) < B.powers.length := by omega
            obtain ⟨K, hK⟩ : ∃ K, K = (A.orders.length + i) := ⟨_, rfl⟩
            obtain ⟨g, capg, z, hvg, hgB, hgp, hgl, hcc, hst⟩ := hX.storeP K (by omega)
            obtain ⟨rfl, rfl⟩ : xp = some ⟨g, 0, none⟩ ∧ cp = capg := by cases hvg; exact ⟨rfl, rfl⟩
            clear hvg
            obtain ⟨b2, o2, az, capz, hs1, _, hb2l, hca0, hra⟩ := Rows2.at k3q.p i hip
            have hca := hg.cell hca0 (by simp)
            have hzl := hsh.pv _ (gtMem hip)
            obtain ⟨zr, hzr⟩ : ∃ zr, zr = gt B.powers i := ⟨_, rfl⟩
            rw [← hzr] at hca hra hzl
            clear hzr hca0
            have hbx := HB.out.2.1.ext hg
            have e1 : ∀ w', Near wr g w' → w'.cell? ⟨rb, 1, none⟩ = some (.slice (some ⟨g, 0, none⟩) o.length cp) := fun w' h => h.cell hX.box.2.2.1 (by simp; omega)
            have e2 : ∀ w', Near wr g w' → w'.cell? ⟨w.heap.size + 1, 1, none⟩ = some (.slice (some ⟨b2, o2, none⟩) B.powers.length cbp) := fun w' h => h.cell (by rw [← hs1]; exact hbx.2.2.1) (by simp; omega)
            have e3 : ∀ w', Near wr g w' → w'.cell? ⟨b2, o2 + i, none⟩ = some (.slice az zr.length capz) := fun w' h => h.cell hca (by simp; omega)
            have hcon : ∀ w', Ext wr w' → Calls Tryz.prog 265 #[.int .i64 A.orders.length, .slice az zr.length capz, .int .i64 0] w' (Ret w' fun w'' r => ∃ l, l.length ≤ 40 ∧ Own w'.heap.size w'' r l) := fun w' he =>
              Calls.mono (l07Shift_ok w' A.orders.length _ zr 0 _ (Ints.ext hra (grown_trans hg he)) (by omega)) (fun e w2 ⟨v, h1, h2, h3⟩ => ⟨v, h1, h2, _, by rw [shiftL_len]; omega, h3⟩)
            have HX := Lib.hid (And.intro hX (And.intro hst (And.intro hcc (And.intro hcon (And.intro hsh (And.intro hoe hK)))))); clear hX hst hcc hcon hca hra hzl hbx hsh hoe hs1 hK
            go_wp2
            have hw1 := w64_sm2 ((A.orders.length : Int) + i) (K : Int) (by rw [HX.out.2.2.2.2.2.2]; omega) (by omega)
            obtain ⟨q1, q2⟩ := hw1
            have hKo : (K : Int) < o.length := by clear q1 q2; have := HX.out.2.2.2.2.2.2; have := HX.out.2.2.2.2.2.1; omega
            go_region_held3 (fun w' => Near wr g w') (first | exact Near.of (grown_drew _ _) | exact Near.of (by assumption) | exact Near.store (by assumption) | assumption)
              (first
                | (go_at_call 265; refine Calls.mono (Calls.rel (w0 := wr) (by first | exact grown_drew _ _ | assumption) (HX.out.2.2.2.1 _ (by first | exact grown_drew _ _ | assumption))) ?_; rintro eE wE ⟨vE, rfl, hgE, hsE, lE, hlE, hOE⟩; obtain ⟨aE, cE, hvE, _⟩ := (hOE.ints (Nat.le_trans hlE (by decide))).shape; subst hvE; have hcl := (HX.out.2.2.1 wE hgE).1; have hfr := (HX.out.2.2.1 wE hgE).2))
            clear q1 q2
            have hX5 := HX.out.2.1 wE _ lE hgE (OwnIn.of hOE (Nat.le_trans hlE (by decide)) (fun k hk _ => Nat.le_trans (by assumption) hk)) hlE
            have hgn : Ext wq (wE.setCell ⟨g, K, none⟩ (.slice aE lE.length cE)) := grown_own (grown_trans hg hgE) (grown_set1 _ _ _ _) (fun j hj hlt => by cases hj; omega)
            have hsh := HX.out.2.2.2.2.1
            have hoe := HX.out.2.2.2.2.2.1
            have hic : i < B.conj.length := by rw [hsh.c]; exact hlt
            have hic' : (i : Int) < B.conj.length := by omega
            have hK := HX.out.2.2.2.2.2.2
            obtain ⟨b3, o3, a5, cap5, hs2, _, hb3l, hca0, hra⟩ := Rows3.at k3q.c i hic
            have hrl := hsh.cl i hlt
            have hrv : ∀ v ∈ gt B.conj i, v.length ≤ 20 := fun v hv => hsh.cv _ (gtMem hic) v hv
            obtain ⟨R, hR⟩ : ∃ R, R = gt B.conj i := ⟨_, rfl⟩
            rw [← hR] at hca0 hra hrl hrv
            have HC := Lib.hid (And.intro hrl (And.intro hrv (And.intro hoe (And.intro hK (And.intro hs2 hra))))); clear hrl hrv hoe hK hs2 hra hsh hR HX
            clear hcl hfr e1 e2 e3
            clear hgE hOE hlE hsE hg
            go_wp2
            generalize wE.setCell ⟨g, K, none⟩ (.slice aE lE.length cE) = w7 at *
            go_loopw [11] (fun jv wr => ∃ j : Nat, jv = .int .i64 j ∧ j ≤ R.length ∧ Ext wq wr ∧ BX 40 o wq.heap.size rb wr (.slice xo o.length co) (.slice (some ⟨g, 0, none⟩) o.length cp) (.slice xc o.length cc)) (fun jv _ => R.length - (intOf jv).toNat)
            case atStart => exact ⟨0, rfl, by omega, hgn, hX5⟩
            case round =>
              clear hX5 hgn
              obtain ⟨j, rfl, hj, hg, hX⟩ := hrel
              have hbx := HB.out.2.1.ext hg
              have hra := HC.out.2.2.2.2.2
              have hs2 := HC.out.2.2.2.2.1
              have d2 := hbx.2.2.2.1
              rw [hs2] at d2
              have d3 := hg.cell hca0 (by simp)
              by_cases hltj : j < R.length
              · have hltj' : (j : Int) < R.length := by omega
                have hrl := HC.out.1
                have hoe := HC.out.2.2.1
                have hK := HC.out.2.2.2.1
                have hjo : j < o.length - 1 - K := by omega
                obtain ⟨gc, capc, b, capb, z2, hvc, hcB, hcp, hcl, hcell, hbB, hbp, hbg, hbl, hcc2, hst2⟩ := hX.storeC K j (by omega) hjo
                obtain ⟨rfl, rfl⟩ : xc = some ⟨gc, 0, none⟩ ∧ cc = capc := by cases hvc; exact ⟨rfl, rfl⟩
                clear hvc
                obtain ⟨b6, o6, a6, cap6, rfl, _, hb6l, hc60, hr6⟩ := Rows2.at hra j hltj
                have hc6 := hg.cell hc60 (by simp)
                have hzl := HC.out.2.1 _ (gtMem hltj)
                obtain ⟨zr, hzr⟩ : ∃ zr, zr = gt R j := ⟨_, rfl⟩
                rw [← hzr] at hc6 hr6 hzl
                clear hzr hc60
                have e1 : ∀ w', Near wr b w' → w'.cell? ⟨rb, 2, none⟩ = some (.slice (some ⟨gc, 0, none⟩) o.length cc) := fun w' h => h.cell hX.box.2.2.2.1 (by simp; omega)
                have e2 : ∀ w', Near wr b w' → w'.cell? ⟨gc, K, none⟩ = some (.slice (some ⟨b, 0, none⟩) (o.length - 1 - K) capb) := fun w' h => h.cell hcell (by simp; omega)
                have e3 : ∀ w', Near wr b w' → w'.cell? ⟨w.heap.size + 1, 2, none⟩ = some (.slice (some ⟨b3, o3, none⟩) B.conj.length cbc) := fun w' h => h.cell d2 (by simp; omega)
                have e4 : ∀ w', Near wr b w' → w'.cell? ⟨b3, o3 + i, none⟩ = some (.slice (some ⟨b6, o6, none⟩) R.length cap5) := fun w' h => h.cell d3 (by simp; omega)
                have e5 : ∀ w', Near wr b w' → w'.cell? ⟨b6, o6 + j, none⟩ = some (.slice a6 zr.length cap6) := fun w' h => h.cell hc6 (by simp; omega)
                have hcon : ∀ w', Ext wr w' → Calls Tryz.prog 265 #[.int .i64 A.orders.length, .slice a6 zr.length cap6, .int .i64 0] w' (Ret w' fun w'' r => ∃ l, l.length ≤ 40 ∧ Own w'.heap.size w'' r l) := fun w' he =>
                  Calls.mono (l07Shift_ok w' A.orders.length _ zr 0 _ (Ints.ext hr6 (grown_trans hg he)) (by omega)) (fun e w2 ⟨v, h1, h2, h3⟩ => ⟨v, h1, h2, _, by rw [shiftL_len]; omega, h3⟩)
                have hjl : (j : Int) < ((o.length - 1 - K : Nat) : Int) := by omega
                have hiK : (K : Int) < o.length := by omega
                have HY := Lib.hid (And.intro hst2 (And.intro hcc2 hcon)); clear hst2 hcc2 hcon hcell hc6 hr6 hzl hX
                go_wp2
                clear d2 d3
                have hw1 := w64_sm2 ((A.orders.length : Int) + i) (K : Int) (by rw [hK]; omega) (by omega)
                obtain ⟨q1, q2⟩ := hw1
                clear hrl hoe hK hs2 hjo
                go_region_held3 (fun w' => Near wr b w') (first | exact Near.of (grown_drew _ _) | exact Near.of (by assumption) | exact Near.store (by assumption) | assumption)
                  (first
                    | (go_at_call 265; refine Calls.mono (Calls.rel (w0 := wr) (by first | exact grown_drew _ _ | assumption) (HY.out.2.2 _ (by first | exact grown_drew _ _ | assumption))) ?_; rintro eE wE ⟨vE, rfl, hgE, hsE, lE, hlE, hOE⟩; obtain ⟨aE, cE, hvE, _⟩ := (hOE.ints (Nat.le_trans hlE (by decide))).shape; subst hvE; have hcl := (HY.out.2.1 wE hgE).1; have hfr := (HY.out.2.1 wE hgE).2))
                clear q1 q2
                have hX5 := HY.out.1 wE _ lE hgE (OwnIn.of hOE (Nat.le_trans hlE (by decide)) (fun k hk _ => Nat.le_trans (by assumption) hk)) hlE
                have hgn : Ext wq (wE.setCell ⟨b, j, none⟩ (.slice aE lE.length cE)) := grown_own (grown_trans hg hgE) (grown_set1 _ _ _ _) (fun j hj hlt => by cases hj; omega)
                clear hcl hfr e1 e2 e3 e4 e5
                go_wp2
                go_roundw
                case rel => exact ⟨j + 1, by go_num, by omega, hgn, hX5⟩
                case measure => simp [intOf]; omega
              · have hltj' : ¬ ((j : Int) < R.length) := by omega
                clear hs2
                go_wp2
                go_roundw
                case rel => exact ⟨i + 1, by go_num, by omega, hg, hX⟩
                case measure => simp [intOf]; omega
          · have hlt' : ¬ ((i : Int) < B.orders.length) := by omega
            obtain ⟨h0, h1, h2, h3', h4⟩ := id hX.box
            have hz := HB.out.2.2.1.ext hg
            have hqz := HB.out.2.2.2.2.2.2.2
            obtain ⟨k0, k1, k2, k3, k4⟩ := id hz
            have hZ := hz.all (.slice xo o.length co) (.slice xp o.length cp) (.slice xc o.length cc)
            have hT := grown_set3 wr (w.heap.size + 1 + 1) (.slice xo o.length co) (.slice xp o.length cp) (.slice xc o.length cc)
            obtain ⟨_, z0, z1, z2, _⟩ := id hZ
            have HQ := Lib.hid (And.intro hT hX); clear hT hZ hX
            go_wp2
            refine bodyPost_ret (v := .agg #[.slice xo o.length co, .slice xp o.length cp, .slice xc o.length cc]) (by simp [results, Tryz.results221, go_sem, z0, z1, z2]) rfl ?_
            exact ⟨_, rfl, grown_own (grown_trans hgw hg) HQ.out.1 (fun j hj hlt => by cases hj; omega), (HQ.out.2.ret HQ.out.1 (by omega)).weak (by omega)⟩

end Go.Proofs.YtoakmefajbbggaaGreat
