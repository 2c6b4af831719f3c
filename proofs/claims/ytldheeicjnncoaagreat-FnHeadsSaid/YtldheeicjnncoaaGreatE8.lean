/-
  impl.tailOf: the tail of a presentation.
  impl.headOf: the head of a presentation.
  impl.normalTail, IsNormalTail: the tail at an index is normal, by the relations.
  A presentation and a code, as a function hands them back.
  impl.HeadPresentation (printed by gen_wrap.py).
  spec.l08Normal, l08Code, HeadPresentation (printed by gen_shead.py).
  impl.TailPresentation (printed by gen_wrap.py).
  What the program's public subgroup functions answer on subgroups (printed by gen_auxw.py).
  impl.multiplicationTable.
  slices.Index and Contains at []int; impl.otherIndices (printed by gen_fixw2.py).
  impl.project, lift: the exponents of a coset and its representative.
-/
import Derived.Test.YtldheeicjnncoaaGreatE1
import Derived.Test.YtldheeicjnncoaaGreatE2
import Derived.Test.YtldheeicjnncoaaGreatE3
import Derived.Test.YtldheeicjnncoaaGreatE4
import Derived.Test.YtldheeicjnncoaaGreatE5
import Derived.Test.YtldheeicjnncoaaGreatE6
import Derived.Test.YtldheeicjnncoaaGreatE7
namespace Go.Proofs.YtldheeicjnncoaaGreat
open Go.RowKit
attribute [local go_sem ↓] Go.wp_at_zero Go.wp_at_succ

/-- the first rows of a presentation's powers and conjugates -/
def cutP (Q : Pr) (j : Nat) : Pr := ⟨Q.orders, Q.powers.take j, Q.conj.take j⟩
theorem cut_pow {Q : Pr} {j : Nat} (hj : j < Q.powers.length) : Q.powers.take (j + 1) = Q.powers.take j ++ [gt Q.powers j] := take_succ_gt _ j hj
theorem cut_all {Q : Pr} {j : Nat} (h1 : Q.powers.length ≤ j) (h2 : Q.conj.length ≤ j) : cutP Q j = Q := by
  unfold cutP
  rw [List.take_of_length_le h1, List.take_of_length_le h2]

set_option maxRecDepth 100000 in
set_option maxHeartbeats 8000000 in
theorem tailOf_ok (P : Pr) (hP : Valid P) (w : World) (p : Value) (i : Nat) (Sp : Nat → Prop) (hi : i ≤ P.orders.length) (hp : PresP Sp w p P) :
    Calls Tryz.prog 92 #[p, .int .i64 (i : Int)] w (Ret w (PresR w.heap.size (tailP P i))) := by
  obtain ⟨pb, po, rfl⟩ := hp.shape
  have hn6 := hP.n6
  obtain ⟨ao, capo, hco, hoi⟩ := hp.ordAt
  have hg0 : Ext w (w.alloc (.cells #[.slice none 0 0, .slice none 0 0, .slice none 0 0] 28)) := World.grownBy_alloc _ _ _
  have hA0 := Box3.made w 28 (.slice none 0 0) (.slice none 0 0) (.slice none 0 0)
  have hs0 : (w.alloc (.cells #[.slice none 0 0, .slice none 0 0, .slice none 0 0] 28)).heap.size = w.heap.size + 1 := by simp
  have hco0 := hg0.cell hco (by simp)
  have htl := subSl_ints hoi i P.orders.length hi (Nat.le_refl _)
  rw [List.take_length] at htl
  obtain ⟨ta, tc, hsv, _, _⟩ := htl.shape
  rw [hsv, List.length_drop] at htl
  have hrt : ∀ w', (Instr.slice 24 (.slice ao P.orders.length capo) (some (.int .i64 (i : Int))) none none).run Tryz.prog w' = .ok (.slice ta (P.orders.length - i) tc) w' := fun w' => by
    have h := run_tail w' ao P.orders.length capo (i : Int) (by omega) (by omega)
    rw [Int.toNat_natCast, hsv, List.length_drop] at h; exact h
  have hdl : (P.orders.drop i).length ≤ 1000 := by rw [List.length_drop]; omega
  have HT := Lib.hid (And.intro (Ints.ext htl hg0) (And.intro hdl hA0)); clear htl hdl hA0 hsv hco
  go_enter Tryz.func92, Tryz.ntmps92
  go_wp2_with fail
  generalize w.alloc (.cells #[.slice none 0 0, .slice none 0 0, .slice none 0 0] 28) = w0 at *
  have hA00 := HT.out.2.2
  refine Calls.mono (clone_ok w0 _ (P.orders.drop i) _ HT.out.1 (by have := HT.out.2.1; omega)) ?_
  rintro e1 w1 ⟨v1, rfl, hg1, hO1⟩
  clear hrt hco0
  obtain ⟨b1, m1, d1, hv1⟩ : ∃ a n c, v1 = .slice a n c := by obtain ⟨a, c, e, _⟩ := (hO1.ints (by have := HT.out.2.1; omega)).shape; exact ⟨_, _, _, e⟩
  subst hv1
  have hg2 : Ext w1 (w1.alloc (.cells #[.slice b1 m1 d1, .slice none 0 0, .slice none 0 0] 28)) := World.grownBy_alloc _ _ _
  have hs2 : (w1.alloc (.cells #[.slice b1 m1 d1, .slice none 0 0, .slice none 0 0] 28)).heap.size = w1.heap.size + 1 := by simp
  have hB2 := Box3.made w1 28 (.slice b1 m1 d1) (.slice none 0 0) (.slice none 0 0)
  have hs1 := hg1.size
  have hOut : OutP (fun _ => False) (w.heap.size + 1) w1.heap.size (w1.alloc (.cells #[.slice b1 m1 d1, .slice none 0 0, .slice none 0 0] 28)) (.slice b1 m1 d1) (.slice none 0 0) (.slice none 0 0) (cutP (tailP P i) 0) :=
    OutP.ords (B1 := w1.heap.size) (by omega) (by omega) ((hO1.ext0 hg2).weak (by omega)) (fun k hk e => by have := (hO1.lt k hk).2; omega) HT.out.2.1 hB2
  have hgw : Ext w0 (w1.alloc (.cells #[.slice b1 m1 d1, .slice none 0 0, .slice none 0 0] 28)) := grown_trans hg1 hg2
  obtain ⟨qb, hqb⟩ : ∃ qb, qb = w1.heap.size := ⟨_, rfl⟩
  rw [← hqb] at hOut
  have hqw : w.heap.size + 1 ≤ qb := by omega
  have HQ := Lib.hid (And.intro hOut (And.intro hA00 hqb)); clear hOut hA00 hqb hB2 hO1 hs2
  go_wp2
  rw [← HQ.out.2.2]
  have HQ1 := HQ.out.1
  have HQ2 := Lib.hid HQ.out.2.1
  clear HQ
  generalize w1.alloc (.cells #[.slice b1 m1 d1, .slice none 0 0, .slice none 0 0] 28) = w2 at *
  clear hg1 hg2 hs1 HT
  go_loopw [6] (fun kv wr => ∃ (k : Nat) (a1 : Option Addr) (n1 c1 : Nat) (a2 : Option Addr) (n2 c2 : Nat) (a3 : Option Addr) (n3 c3 : Nat), kv = .int .i64 (k : Int) ∧ i ≤ k ∧ k ≤ P.orders.length ∧ Ext w0 wr ∧ OutP (fun _ => False) (w.heap.size + 1) qb wr (.slice a1 n1 c1) (.slice a2 n2 c2) (.slice a3 n3 c3) (cutP (tailP P i) (k - i))) (fun kv _ => P.orders.length - (intOf kv).toNat)
  case atStart => exact ⟨i, _, _, _, _, _, _, _, _, _, rfl, Nat.le_refl _, hi, hgw, by rw [Nat.sub_self]; exact HQ1⟩
  case round =>
    clear HQ1 hgw
    obtain ⟨k, a1, n1, c1, a2, n2, c2, a3, n3, c3, rfl, hik, hkn, hgw, hOut⟩ := hrel
    obtain ⟨j, hj⟩ : ∃ j, j = k - i := ⟨_, rfl⟩
    have hij : i + j = k := by omega
    rw [← hj] at hOut
    have hp0 := hp.ext (grown_trans hg0 hgw)
    obtain ⟨ao2, capo2, hco, _⟩ := hp0.ordAt
    by_cases hlt : k < P.orders.length
    · have hlt' : (k : Int) < P.orders.length := by omega
      obtain ⟨ap, capp, hcp, h3p⟩ := hp0.powAt
      have hpl := hP.pl
      obtain ⟨bp, op, ap2, capp2, rfl, _, _, hcpi, hpii⟩ := Rows2.at h3p k (by omega)
      have hrl : (gt P.powers k).length = P.orders.length := (hP.pv k hlt).1.1
      have htl := subSl_ints hpii i (gt P.powers k).length (by omega) (Nat.le_refl _)
      rw [List.take_length] at htl
      obtain ⟨tb, td, hsv, _, _⟩ := htl.shape
      rw [hsv] at htl
      have hrt : ∀ w', (Instr.slice 24 (.slice ap2 (gt P.powers k).length capp2) (some (.int .i64 (i : Int))) none none).run Tryz.prog w' = .ok (.slice tb ((gt P.powers k).drop i).length td) w' := fun w' => by
        have h := run_tail w' ap2 (gt P.powers k).length capp2 (i : Int) (by omega) (by omega)
        rw [Int.toNat_natCast, hsv] at h; exact h
      have hdl : ((gt P.powers k).drop i).length ≤ 1000 := by rw [List.length_drop]; omega
      have hst : (tailP P i).powers.take (j + 1) = (tailP P i).powers.take j ++ [(gt P.powers k).drop i] := by
        have hl : j < (tailP P i).powers.length := by show j < ((P.powers.drop i).map _).length; rw [List.length_map, List.length_drop]; omega
        rw [cut_pow hl]
        congr 2
        show gt ((P.powers.drop i).map _) j = _
        rw [gt_map _ _ _ (by rw [List.length_drop]; omega)]
        congr 1
        simp [gt, List.getElem?_drop, hij]
      have htk : ((tailP P i).powers.take j).length ≤ 1000000 := by rw [List.length_take]; omega
      obtain ⟨R, hR⟩ : ∃ R, R = (gt P.powers k).drop i := ⟨_, rfl⟩
      obtain ⟨Fo, Fp, Fc, hPt, o1, o2, o3⟩ := hOut.parts
      have e1 : ∀ w', Ext wr w' → w'.cell? ⟨pb, po + 1, none⟩ = some (.slice (some ⟨bp, op, none⟩) P.powers.length capp) := fun w' h => h.cell hcp (by simp)
      have e2 : ∀ w', Ext wr w' → w'.cell? ⟨bp, op + k, none⟩ = some (.slice ap2 (gt P.powers k).length capp2) := fun w' h => h.cell hcpi (by simp)
      have e3 : ∀ w', Ext wr w' → w'.cell? ⟨qb, 1, none⟩ = some (.slice a2 n2 c2) := fun w' h => (hOut.box.ext h).2.2.1
      rw [← hR] at hst htl hrt hdl
      have HR := Lib.hid (And.intro htl (And.intro hdl (And.intro hst htk))); clear htl hdl hst htk hsv hcp hcpi hpii hR hrl
      have f1 := e1 wr.drew (grown_drew _ _)
      have f2 := e2 wr.drew (grown_drew _ _)
      have f3 := e3 wr.drew (grown_drew _ _)
      have b4 : (k : Int) < P.powers.length := by omega
      clear hpl
      go_wp2
      go_cut [] (fun wx => Ext w0 wx ∧ ∃ (g8 : Option Addr) (m8 k8 : Nat), OutP (fun _ => False) (w.heap.size + 1) qb wx (.slice a1 n1 c1) (.slice g8 m8 k8) (.slice a3 n3 c3) ⟨(tailP P i).orders, (tailP P i).powers.take (j + 1), (tailP P i).conj.take j⟩)
      case' rest =>
        clear f1 f2 f3 e1 e2 e3 hrt hOut hPt o1 o2 o3
        obtain ⟨hgx, g8, m8, k8, hOx⟩ := hcut
        obtain ⟨w4, rfl⟩ : ∃ w4 : World, w4 = wc := ⟨_, rfl⟩
        have hp4 := hp.ext (grown_trans hg0 hgx)
        obtain ⟨ac, capc, hcc, h3c⟩ := hp4.conjAt
        have hcl := hP.cl
        obtain ⟨bc, oc, ac2, capc2, rfl, _, _, hcci, hcii⟩ := Rows3.at h3c k (by omega)
        have hkc : (k : Int) < P.conj.length := by omega
        obtain ⟨C, hC⟩ : ∃ C, C = gt P.conj k := ⟨_, rfl⟩
        have hCl : C.length ≤ 6 := by rw [hC, (hP.cv k hlt).1]; omega
        have hCr : ∀ l, l < C.length → (gt C l).length = P.orders.length := fun l hl => by
          rw [hC] at hl ⊢
          exact ((hP.cv k hlt).2 l (by rw [← (hP.cv k hlt).1]; exact hl)).1.1
        have hst3 : (tailP P i).conj.take (j + 1) = (tailP P i).conj.take j ++ [C.map (fun x => x.drop i)] := by
          have hl : j < (tailP P i).conj.length := by show j < ((P.conj.drop i).map _).length; rw [List.length_map, List.length_drop]; omega
          rw [take_succ_gt _ j hl]
          congr 2
          show gt ((P.conj.drop i).map _) j = _
          rw [gt_map _ _ _ (by rw [List.length_drop]; omega), hC]
          congr 1
          simp [gt, List.getElem?_drop, hij]
        have htk3 : ((tailP P i).conj.take j).length ≤ 1000000 := by rw [List.length_take]; omega
        rw [← hC] at hcci hcii
        have HC := Lib.hid (And.intro hcii (And.intro hCr (And.intro hst3 (And.intro htk3 hOx)))); clear hcii hCr hst3 htk3 hOx hC hcl
        go_wp2
        clear hcc hcci
        go_loopw [7, 51] (fun lv jv wr => ∃ (l : Nat) (v7 : Value), v7 = lv ∧ jv = .int .i64 (l : Int) ∧ l ≤ C.length ∧ Ext w4 wr ∧ RowsO w4.heap.size wr v7 ((C.map (fun x => x.drop i)).take l)) (fun _ jv _ => C.length - (intOf jv).toNat)
        case atStart => exact ⟨0, _, rfl, rfl, by omega, Ext.refl _, SlO.nil _ _ _ _⟩
        case round =>
          obtain ⟨l, v7, rfl, rfl, hl, hgl, hO⟩ := hrel
          by_cases hltl : l < C.length
          · have hltl' : (l : Int) < C.length := by omega
            obtain ⟨bd, od, ad2, capd2, rfl, _, _, hcd, hid⟩ := Rows2.at (Rows2.ext HC.out.1 hgl) l hltl
            have hrl := HC.out.2.1 l hltl
            have htl := subSl_ints hid i (gt C l).length (by omega) (Nat.le_refl _)
            rw [List.take_length] at htl
            obtain ⟨tb, td, hsv, _, _⟩ := htl.shape
            rw [hsv] at htl
            have hrt : ∀ w', (Instr.slice 24 (.slice ad2 (gt C l).length capd2) (some (.int .i64 (i : Int))) none none).run Tryz.prog w' = .ok (.slice tb ((gt C l).drop i).length td) w' := fun w' => by
              have h := run_tail w' ad2 (gt C l).length capd2 (i : Int) (by omega) (by omega)
              rw [Int.toNat_natCast, hsv] at h; exact h
            have hdl : ((gt C l).drop i).length ≤ 1000 := by rw [List.length_drop]; omega
            have hstep : (C.map (fun x => x.drop i)).take (l + 1) = (C.map (fun x => x.drop i)).take l ++ [(gt C l).drop i] := by
              rw [take_succ_gt _ l (by rw [List.length_map]; exact hltl), gt_map _ _ _ hltl]
            have htkl : ((C.map (fun x => x.drop i)).take l).length ≤ 1000000 := by rw [List.length_take]; omega
            obtain ⟨R, hR⟩ : ∃ R, R = (gt C l).drop i := ⟨_, rfl⟩
            obtain ⟨N, hN⟩ : ∃ N, N = (gt C l).length := ⟨_, rfl⟩
            rw [← hR] at htl hdl hstep hrt
            rw [← hN] at hrt hcd
            have HR := Lib.hid (And.intro htl (And.intro hdl (And.intro hstep htkl))); clear htl hdl hstep htkl hR hN hrl hsv hid
            go_wp2_with fail
            refine Calls.mono (clone_ok _ _ R _ HR.out.1 (by have := HR.out.2.1; omega)) ?_
            rintro eG wG ⟨vG, rfl, hgG, hOG⟩
            obtain ⟨aG, capG, hvG, _, _⟩ := (hOG.ints (by have := HR.out.2.1; omega)).shape
            subst hvG
            have hYO := OwnIn.of (F := From wr.heap.size) hOG (by have := HR.out.2.1; omega) (fun k h _ => h)
            clear hrt
            go_wp2_with (first | (at_builtin; refine wp_app_row rfl _ _ rfl w4.heap.size wr wG v7 _ ((C.map (fun x => x.drop i)).take l) R rfl hO hgG hYO rfl rfl HR.out.2.2.2 hgl.size ?_; intro v5 w5 hO5 hg5 hg6; have hgw5 := hO.extw hgl (Nat.le_refl _) hg5) | fail)
            go_roundw
            case rel => exact ⟨l + 1, v5, rfl, by go_num, by omega, hgw5, by rw [HR.out.2.2.1]; exact hO5⟩
            case measure => simp [intOf]; omega
          · have hle : l = C.length := by omega
            subst hle
            rw [List.take_of_length_le (by rw [List.length_map]; exact Nat.le_refl _)] at hO
            have hRI : RowsI (From w4.heap.size) wr v7 (C.map (fun x => x.drop i)) := SlI.of hO (by rw [List.length_map]; omega) (fun k h _ => h)
            obtain ⟨a4, n4, c4, rfl, hn4⟩ := SlI.sl hRI
            obtain ⟨Fo, Fp, Fc, hPt, o1, o2, o3⟩ := HC.out.2.2.2.2.parts
            have hB7 := HC.out.2.2.2.2.box.ext hgl
            have HN := Lib.hid hn4; clear hn4 hO
            obtain ⟨f0, f1, f2, f3, f4⟩ := id hB7
            go_wp2_with (first | (at_builtin; refine wp_app_I (rdI rdOwn) 26 (.slice none 0 0) 24 und_rows3 Tryz.infoRows rfl (by decide) rfl _ _ rfl Fc w4 wr _ _ ((tailP P i).conj.take j) (C.map (fun x => x.drop i)) rfl hPt.c hgl hRI rfl rfl HC.out.2.2.2.1 ?_; intro v8 w8 hO8 hg8 hg9; obtain ⟨g9, m9, k9, rfl, hm8⟩ := SlI.sl hO8; clear hm8; have hB8 := HC.out.2.2.2.2.boxed o3 hg8; clear f0 f1 f2 f3 f4; obtain ⟨f0, f1, f2, f3, f4⟩ := id hB8) | fail)
            have hOut9 := HC.out.2.2.2.2.putC hPt hO8 hg8
            rw [← HC.out.2.2.1] at hOut9
            have hgn := HC.out.2.2.2.2.nearE (j := 2) (v' := .slice g9 m9 k9) o3 hg8 (w0 := w0) (by omega) (by omega) hgx
            clear f0 f1 f2 f3 f4
            go_roundw
            case rel => exact ⟨k + 1, _, _, _, _, _, _, _, _, _, by go_num, by omega, by omega, hgn, by rw [show k + 1 - i = j + 1 by omega]; exact hOut9⟩
            case measure => simp [intOf]; omega
      case first =>
        go_region_law (first
          | (go_simp; go_at_call 183; refine Calls.mono (clone_ok _ _ R _ (Ints.ext HR.out.1 (grown_drew _ _)) (by have := HR.out.2.1; omega)) ?_; rintro eG wG ⟨vG, rfl, hgG, hOG⟩; obtain ⟨aG, capG, hvG, _, _⟩ := (hOG.ints (by have := HR.out.2.1; omega)).shape; subst hvG; have hgG2 : Ext wr wG := grown_trans (grown_drew _ _) hgG; have g3 := e3 wG hgG2; have g4 := e3 (wG.alloc (.cells #[.slice aG R.length capG] 24)) (grown_trans hgG2 (World.grownBy_alloc _ _ _)))
          | (refine step_app_I rdOwn 25 (.slice none 0 0) 24 und_rows Tryz.infoRow rfl (by decide) (by rfl) _ _ (by rfl) Fp wr wG _ _ ((tailP P i).powers.take j) R (by rfl) hPt.p hgG2 (OwnIn.of hOG (by have := HR.out.2.1; omega) (fun k h _ => h)) (by rfl) (by rfl) HR.out.2.2.2 ?_; intro v8 w8 hO8 hg8 hg9; obtain ⟨g8, m8, k8, rfl, hm8⟩ := SlI.sl hO8; clear hm8; have hB8 := hOut.boxed o2 hg8; obtain ⟨f80, f81, f82, f83, f84⟩ := id hB8))
        all_goals
          have hsd : wr.heap.size = wr.drew.heap.size := rfl
          have hOut9 := hOut.putP hPt hO8 hg8
          rw [← HR.out.2.2.1] at hOut9
          have hgn := hOut.nearE (j := 1) (v' := .slice g8 m8 k8) o2 hg8 (w0 := w0) (by omega) (by omega) hgw
          clear f1 f2 f3 g3 g4 hrt
          try go_wp2
          go_meet
          exact ⟨hgn, g8, m8, k8, hOut9⟩
    · have hke : j = P.orders.length - i := by omega
      have hpl := hP.pl
      have hcl := hP.cl
      have hall : cutP (tailP P i) j = tailP P i := cut_all (by show ((P.powers.drop i).map _).length ≤ j; rw [List.length_map, List.length_drop]; omega) (by show ((P.conj.drop i).map _).length ≤ j; rw [List.length_map, List.length_drop]; omega)
      rw [hall] at hOut
      have hz := HQ2.out.ext hgw
      obtain ⟨h0, h1, h2, h3, h4⟩ := id hOut.box
      obtain ⟨k0, k1, k2, k3, k4⟩ := id hz
      have hZ := hz.all (.slice a1 n1 c1) (.slice a2 n2 c2) (.slice a3 n3 c3)
      have hT := grown_set3 wr w.heap.size (.slice a1 n1 c1) (.slice a2 n2 c2) (.slice a3 n3 c3)
      obtain ⟨_, z0, z1, z2, _⟩ := id hZ
      have hend : Ret w (PresR w.heap.size (tailP P i)) (.returned (.agg #[.slice a1 n1 c1, .slice a2 n2 c2, .slice a3 n3 c3])) (((wr.setCell ⟨w.heap.size, 0, none⟩ (.slice a1 n1 c1)).setCell ⟨w.heap.size, 1, none⟩ (.slice a2 n2 c2)).setCell ⟨w.heap.size, 2, none⟩ (.slice a3 n3 c3)) :=
        ⟨_, rfl, grown_own (grown_trans hg0 hgw) hT (fun j hj hlt => by cases hj; omega), hOut.ret (by omega) (by omega) hT⟩
      have HE := Lib.hid hend; clear hend hT hZ hall hpl hcl
      go_wp2
      refine bodyPost_ret (v := .agg #[.slice a1 n1 c1, .slice a2 n2 c2, .slice a3 n3 c3]) (by simp [results, Tryz.results92, go_sem, z0, z1, z2]) rfl ?_
      exact HE.out

end Go.Proofs.YtldheeicjnncoaaGreat
namespace Go.Proofs.YtldheeicjnncoaaGreat
open Go.RowKit
attribute [local go_sem ↓] Go.wp_at_zero Go.wp_at_succ

set_option maxRecDepth 100000 in
set_option maxHeartbeats 8000000 in
theorem headOf_ok (P : Pr) (hP : Valid P) (w : World) (p : Value) (i : Nat) (Sp : Nat → Prop) (hi : i ≤ P.orders.length) (hp : PresP Sp w p P) :
    Calls Tryz.prog 83 #[p, .int .i64 (i : Int)] w (Ret w (PresR w.heap.size (headP P i))) := by
  obtain ⟨pb, po, rfl⟩ := hp.shape
  have hn6 := hP.n6
  obtain ⟨ao, capo, hco, hoi⟩ := hp.ordAt
  have hg0 : Ext w (w.alloc (.cells #[.slice none 0 0, .slice none 0 0, .slice none 0 0] 28)) := World.grownBy_alloc _ _ _
  have hA0 := Box3.made w 28 (.slice none 0 0) (.slice none 0 0) (.slice none 0 0)
  have hs0 : (w.alloc (.cells #[.slice none 0 0, .slice none 0 0, .slice none 0 0] 28)).heap.size = w.heap.size + 1 := by simp
  have hco0 := hg0.cell hco (by simp)
  have hcapo : i ≤ capo := by
    obtain ⟨a, c, e, h1, _⟩ := hoi.shape
    cases e; omega
  have htl := head_ints hoi i hi
  have hrt : ∀ w', (Instr.slice 24 (.slice ao P.orders.length capo) none (some (.int .i64 (i : Int))) none).run Tryz.prog w' = .ok (.slice ao i capo) w' := fun w' => by
    have h := run_head w' ao P.orders.length capo (i : Int) (by omega) (by omega)
    rw [Int.toNat_natCast] at h; exact h
  have hdl : (P.orders.take i).length ≤ 1000 := by rw [List.length_take]; omega
  have HT := Lib.hid (And.intro (Ints.ext htl hg0) (And.intro hdl hA0)); clear htl hdl hA0 hco hcapo
  go_enter Tryz.func83, Tryz.ntmps83
  go_wp2_with fail
  generalize w.alloc (.cells #[.slice none 0 0, .slice none 0 0, .slice none 0 0] 28) = w0 at *
  have hA00 := HT.out.2.2
  refine Calls.mono (clone_ok w0 _ (P.orders.take i) _ HT.out.1 (by have := HT.out.2.1; omega)) ?_
  rintro e1 w1 ⟨v1, rfl, hg1, hO1⟩
  clear hrt hco0
  obtain ⟨b1, m1, d1, hv1⟩ : ∃ a n c, v1 = .slice a n c := by obtain ⟨a, c, e, _⟩ := (hO1.ints (by have := HT.out.2.1; omega)).shape; exact ⟨_, _, _, e⟩
  subst hv1
  have hg2 : Ext w1 (w1.alloc (.cells #[.slice b1 m1 d1, .slice none 0 0, .slice none 0 0] 28)) := World.grownBy_alloc _ _ _
  have hs2 : (w1.alloc (.cells #[.slice b1 m1 d1, .slice none 0 0, .slice none 0 0] 28)).heap.size = w1.heap.size + 1 := by simp
  have hB2 := Box3.made w1 28 (.slice b1 m1 d1) (.slice none 0 0) (.slice none 0 0)
  have hs1 := hg1.size
  have hOut : OutP (fun _ => False) (w.heap.size + 1) w1.heap.size (w1.alloc (.cells #[.slice b1 m1 d1, .slice none 0 0, .slice none 0 0] 28)) (.slice b1 m1 d1) (.slice none 0 0) (.slice none 0 0) (cutP (headP P i) 0) :=
    OutP.ords (B1 := w1.heap.size) (by omega) (by omega) ((hO1.ext0 hg2).weak (by omega)) (fun k hk e => by have := (hO1.lt k hk).2; omega) HT.out.2.1 hB2
  have hgw : Ext w0 (w1.alloc (.cells #[.slice b1 m1 d1, .slice none 0 0, .slice none 0 0] 28)) := grown_trans hg1 hg2
  obtain ⟨qb, hqb⟩ : ∃ qb, qb = w1.heap.size := ⟨_, rfl⟩
  rw [← hqb] at hOut
  have hqw : w.heap.size + 1 ≤ qb := by omega
  have HQ := Lib.hid (And.intro hOut (And.intro hA00 hqb)); clear hOut hA00 hqb hB2 hO1 hs2
  go_wp2
  rw [← HQ.out.2.2]
  have HQ1 := HQ.out.1
  have HQ2 := Lib.hid HQ.out.2.1
  clear HQ
  generalize w1.alloc (.cells #[.slice b1 m1 d1, .slice none 0 0, .slice none 0 0] 28) = w2 at *
  clear hg1 hg2 hs1 HT
  go_loopw [19] (fun kv wr => ∃ (k : Nat) (a1 : Option Addr) (n1 c1 : Nat) (a2 : Option Addr) (n2 c2 : Nat) (a3 : Option Addr) (n3 c3 : Nat), kv = .int .i64 (k : Int) ∧ k ≤ i ∧ Ext w0 wr ∧ OutP (fun _ => False) (w.heap.size + 1) qb wr (.slice a1 n1 c1) (.slice a2 n2 c2) (.slice a3 n3 c3) (cutP (headP P i) k)) (fun kv _ => i - (intOf kv).toNat)
  case atStart => exact ⟨0, _, _, _, _, _, _, _, _, _, rfl, Nat.zero_le _, hgw, HQ1⟩
  case round =>
    clear HQ1 hgw
    obtain ⟨k, a1, n1, c1, a2, n2, c2, a3, n3, c3, rfl, hkn, hgw, hOut⟩ := hrel
    have hp0 := hp.ext (grown_trans hg0 hgw)
    obtain ⟨ao2, capo2, hco, _⟩ := hp0.ordAt
    by_cases hlti : k < i
    · have hlt : k < P.orders.length := by omega
      have hlt' : (k : Int) < i := by omega
      obtain ⟨ap, capp, hcp, h3p⟩ := hp0.powAt
      have hpl := hP.pl
      obtain ⟨bp, op, ap2, capp2, rfl, _, _, hcpi, hpii⟩ := Rows2.at h3p k (by omega)
      have hrl : (gt P.powers k).length = P.orders.length := (hP.pv k hlt).1.1
      have hcap2 : i ≤ capp2 := by
        obtain ⟨a, c, e, h1, _⟩ := hpii.shape
        cases e; omega
      have htl := head_ints hpii i (by omega)
      have hrt : ∀ w', (Instr.slice 24 (.slice ap2 (gt P.powers k).length capp2) none (some (.int .i64 (i : Int))) none).run Tryz.prog w' = .ok (.slice ap2 i capp2) w' := fun w' => by
        have h := run_head w' ap2 (gt P.powers k).length capp2 (i : Int) (by omega) (by omega)
        rw [Int.toNat_natCast] at h; exact h
      have hdl : ((gt P.powers k).take i).length ≤ 1000 := by rw [List.length_take]; omega
      have hst : (headP P i).powers.take (k + 1) = (headP P i).powers.take k ++ [(gt P.powers k).take i] := by
        have hl : k < (headP P i).powers.length := by show k < ((P.powers.take i).map _).length; rw [List.length_map, List.length_take]; omega
        rw [cut_pow hl]
        congr 2
        show gt ((P.powers.take i).map _) k = _
        rw [gt_map _ _ _ (by rw [List.length_take]; omega)]
        congr 1
        simp [gt, hlti]
      have htk : ((headP P i).powers.take k).length ≤ 1000000 := by rw [List.length_take]; omega
      obtain ⟨R, hR⟩ : ∃ R, R = (gt P.powers k).take i := ⟨_, rfl⟩
      obtain ⟨Fo, Fp, Fc, hPt, o1, o2, o3⟩ := hOut.parts
      have e1 : ∀ w', Ext wr w' → w'.cell? ⟨pb, po + 1, none⟩ = some (.slice (some ⟨bp, op, none⟩) P.powers.length capp) := fun w' h => h.cell hcp (by simp)
      have e2 : ∀ w', Ext wr w' → w'.cell? ⟨bp, op + k, none⟩ = some (.slice ap2 (gt P.powers k).length capp2) := fun w' h => h.cell hcpi (by simp)
      have e3 : ∀ w', Ext wr w' → w'.cell? ⟨qb, 1, none⟩ = some (.slice a2 n2 c2) := fun w' h => (hOut.box.ext h).2.2.1
      rw [← hR] at hst htl hdl
      have HR := Lib.hid (And.intro htl (And.intro hdl (And.intro hst htk))); clear htl hdl hst htk hcp hcpi hpii hR hrl hcap2
      have f1 := e1 wr.drew (grown_drew _ _)
      have f2 := e2 wr.drew (grown_drew _ _)
      have f3 := e3 wr.drew (grown_drew _ _)
      have b4 : (k : Int) < P.powers.length := by omega
      clear hpl
      go_wp2
      go_cut [] (fun wx => Ext w0 wx ∧ ∃ (g8 : Option Addr) (m8 k8 : Nat), OutP (fun _ => False) (w.heap.size + 1) qb wx (.slice a1 n1 c1) (.slice g8 m8 k8) (.slice a3 n3 c3) ⟨(headP P i).orders, (headP P i).powers.take (k + 1), (headP P i).conj.take k⟩)
      case' rest =>
        clear f1 f2 f3 e1 e2 e3 hrt hOut hPt o1 o2 o3
        obtain ⟨hgx, g8, m8, k8, hOx⟩ := hcut
        obtain ⟨w4, rfl⟩ : ∃ w4 : World, w4 = wc := ⟨_, rfl⟩
        have hp4 := hp.ext (grown_trans hg0 hgx)
        obtain ⟨ac, capc, hcc, h3c⟩ := hp4.conjAt
        have hcl := hP.cl
        obtain ⟨bc, oc, ac2, capc2, rfl, _, _, hcci, hcii⟩ := Rows3.at h3c k (by omega)
        have hkc : (k : Int) < P.conj.length := by omega
        obtain ⟨C, hC⟩ : ∃ C, C = (gt P.conj k).take (i - 1 - k) := ⟨_, rfl⟩
        have hrl0 := (hP.cv k hlt).1
        have hCl : C.length = i - 1 - k := by rw [hC, List.length_take]; omega
        have hCl6 : C.length ≤ 6 := by omega
        have hCg : ∀ l, l < C.length → gt C l = gt (gt P.conj k) l := fun l hl => by
          rw [hC]; simp [gt, show l < i - 1 - k by omega]
        have hCr : ∀ l, l < C.length → (gt C l).length = P.orders.length := fun l hl => by
          rw [hCg l hl]
          exact ((hP.cv k hlt).2 l (by omega)).1.1
        have hst3 : (headP P i).conj.take (k + 1) = (headP P i).conj.take k ++ [C.map (fun x => x.take i)] := by
          have hl : k < (headP P i).conj.length := by show k < ((List.range i).map _).length; rw [List.length_map, List.length_range]; exact hlti
          rw [take_succ_gt _ k hl]
          congr 2
          show gt ((List.range i).map _) k = _
          rw [gt_map _ _ _ (by rw [List.length_range]; exact hlti), hC]
          simp [gt, hlti]
        have hcapc : i - 1 - k ≤ capc2 := by
          obtain ⟨a, c, e, h1, _⟩ := Sl.shape hcii
          cases e; omega
        have hrh : ∀ w', (Instr.slice 25 (.slice ac2 (gt P.conj k).length capc2) none (some (.int .i64 ((i : Int) - 1 - k))) none).run Tryz.prog w' = .ok (.slice ac2 C.length capc2) w' := fun w' => by
          have h := run_head_rows w' ac2 (gt P.conj k).length capc2 ((i : Int) - 1 - k) (by omega) (by omega)
          rw [show ((i : Int) - 1 - k).toNat = C.length by omega] at h; exact h
        have s1 : IntKind.i64.wrap ((i : Int) - 1) = (i : Int) - 1 := IntWalk.i64_in _ (by omega)
        have s2 : IntKind.i64.wrap ((i : Int) - 1 - k) = (i : Int) - 1 - k := IntWalk.i64_in _ (by omega)
        have htk3 : ((headP P i).conj.take k).length ≤ 1000000 := by rw [List.length_take]; omega
        have hCz : C.length ≤ (gt P.conj k).length := by omega
        obtain ⟨NC, hNC⟩ : ∃ NC, NC = (gt P.conj k).length := ⟨_, rfl⟩
        rw [← hNC] at hrh hcci
        have HC := Lib.hid (And.intro hcii (And.intro hCr (And.intro hst3 (And.intro htk3 (And.intro hOx (And.intro hCg hCz)))))); clear hcii hCr hst3 htk3 hOx hC hcl hCg hCz hNC hrl0 hCl
        go_wp2
        clear hcc hcci hrh s1 s2
        go_loopw [7, 50] (fun lv jv wr => ∃ (l : Nat) (v7 : Value), v7 = lv ∧ jv = .int .i64 (l : Int) ∧ l ≤ C.length ∧ Ext w4 wr ∧ RowsO w4.heap.size wr v7 ((C.map (fun x => x.take i)).take l)) (fun _ jv _ => C.length - (intOf jv).toNat)
        case atStart => exact ⟨0, _, rfl, rfl, by omega, Ext.refl _, SlO.nil _ _ _ _⟩
        case round =>
          obtain ⟨l, v7, rfl, rfl, hl, hgl, hO⟩ := hrel
          by_cases hltl : l < C.length
          · have hltl' : (l : Int) < C.length := by omega
            obtain ⟨bd, od, ad2, capd2, rfl, _, _, hcd, hid⟩ := Rows2.at (Rows2.ext HC.out.1 hgl) l (Nat.lt_of_lt_of_le hltl HC.out.2.2.2.2.2.2)
            rw [← HC.out.2.2.2.2.2.1 l hltl] at hcd hid
            have hrl := HC.out.2.1 l hltl
            have hcap3 : i ≤ capd2 := by
              obtain ⟨a, c, e, h1, _⟩ := hid.shape
              cases e; omega
            have htl := head_ints hid i (by omega)
            have hrt : ∀ w', (Instr.slice 24 (.slice ad2 (gt C l).length capd2) none (some (.int .i64 (i : Int))) none).run Tryz.prog w' = .ok (.slice ad2 i capd2) w' := fun w' => by
              have h := run_head w' ad2 (gt C l).length capd2 (i : Int) (by omega) (by omega)
              rw [Int.toNat_natCast] at h; exact h
            have hdl : ((gt C l).take i).length ≤ 1000 := by rw [List.length_take]; omega
            have hstep : (C.map (fun x => x.take i)).take (l + 1) = (C.map (fun x => x.take i)).take l ++ [(gt C l).take i] := by
              rw [take_succ_gt _ l (by rw [List.length_map]; exact hltl), gt_map _ _ _ hltl]
            have htkl : ((C.map (fun x => x.take i)).take l).length ≤ 1000000 := by rw [List.length_take]; omega
            obtain ⟨R, hR⟩ : ∃ R, R = (gt C l).take i := ⟨_, rfl⟩
            obtain ⟨N, hN⟩ : ∃ N, N = (gt C l).length := ⟨_, rfl⟩
            rw [← hR] at htl hdl hstep
            rw [← hN] at hrt hcd
            have HR := Lib.hid (And.intro htl (And.intro hdl (And.intro hstep htkl))); clear htl hdl hstep htkl hR hN hrl hid hcap3
            go_wp2_with fail
            refine Calls.mono (clone_ok _ _ R _ HR.out.1 (by have := HR.out.2.1; omega)) ?_
            rintro eG wG ⟨vG, rfl, hgG, hOG⟩
            obtain ⟨aG, capG, hvG, _, _⟩ := (hOG.ints (by have := HR.out.2.1; omega)).shape
            subst hvG
            have hYO := OwnIn.of (F := From wr.heap.size) hOG (by have := HR.out.2.1; omega) (fun k h _ => h)
            clear hrt
            go_wp2_with (first | (at_builtin; refine wp_app_row rfl _ _ rfl w4.heap.size wr wG v7 _ ((C.map (fun x => x.take i)).take l) R rfl hO hgG hYO rfl rfl HR.out.2.2.2 hgl.size ?_; intro v5 w5 hO5 hg5 hg6; have hgw5 := hO.extw hgl (Nat.le_refl _) hg5) | fail)
            go_roundw
            case rel => exact ⟨l + 1, v5, rfl, by go_num, by omega, hgw5, by rw [HR.out.2.2.1]; exact hO5⟩
            case measure => simp [intOf]; omega
          · have hle : l = C.length := by omega
            subst hle
            rw [List.take_of_length_le (by rw [List.length_map]; exact Nat.le_refl _)] at hO
            have hRI : RowsI (From w4.heap.size) wr v7 (C.map (fun x => x.take i)) := SlI.of hO (by rw [List.length_map]; omega) (fun k h _ => h)
            obtain ⟨a4, n4, c4, rfl, hn4⟩ := SlI.sl hRI
            obtain ⟨Fo, Fp, Fc, hPt, o1, o2, o3⟩ := HC.out.2.2.2.2.1.parts
            have hB7 := HC.out.2.2.2.2.1.box.ext hgl
            have HN := Lib.hid hn4; clear hn4 hO
            obtain ⟨f0, f1, f2, f3, f4⟩ := id hB7
            go_wp2_with (first | (at_builtin; refine wp_app_I (rdI rdOwn) 26 (.slice none 0 0) 24 und_rows3 Tryz.infoRows rfl (by decide) rfl _ _ rfl Fc w4 wr _ _ ((headP P i).conj.take k) (C.map (fun x => x.take i)) rfl hPt.c hgl hRI rfl rfl HC.out.2.2.2.1 ?_; intro v8 w8 hO8 hg8 hg9; obtain ⟨g9, m9, k9, rfl, hm8⟩ := SlI.sl hO8; clear hm8; have hB8 := HC.out.2.2.2.2.1.boxed o3 hg8; clear f0 f1 f2 f3 f4; obtain ⟨f0, f1, f2, f3, f4⟩ := id hB8) | fail)
            have hOut9 := HC.out.2.2.2.2.1.putC hPt hO8 hg8
            rw [← HC.out.2.2.1] at hOut9
            have hgn := HC.out.2.2.2.2.1.nearE (j := 2) (v' := .slice g9 m9 k9) o3 hg8 (w0 := w0) (by omega) (by omega) hgx
            clear f0 f1 f2 f3 f4
            go_roundw
            case rel => exact ⟨k + 1, _, _, _, _, _, _, _, _, _, by go_num, by omega, hgn, hOut9⟩
            case measure => simp [intOf]; omega
      case first =>
        go_region_law (first
          | (go_simp; go_at_call 183; refine Calls.mono (clone_ok _ _ R _ (Ints.ext HR.out.1 (grown_drew _ _)) (by have := HR.out.2.1; omega)) ?_; rintro eG wG ⟨vG, rfl, hgG, hOG⟩; obtain ⟨aG, capG, hvG, _, _⟩ := (hOG.ints (by have := HR.out.2.1; omega)).shape; subst hvG; have hgG2 : Ext wr wG := grown_trans (grown_drew _ _) hgG; have g3 := e3 wG hgG2; have g4 := e3 (wG.alloc (.cells #[.slice aG R.length capG] 24)) (grown_trans hgG2 (World.grownBy_alloc _ _ _)))
          | (refine step_app_I rdOwn 25 (.slice none 0 0) 24 und_rows Tryz.infoRow rfl (by decide) (by rfl) _ _ (by rfl) Fp wr wG _ _ ((headP P i).powers.take k) R (by rfl) hPt.p hgG2 (OwnIn.of hOG (by have := HR.out.2.1; omega) (fun k h _ => h)) (by rfl) (by rfl) HR.out.2.2.2 ?_; intro v8 w8 hO8 hg8 hg9; obtain ⟨g8, m8, k8, rfl, hm8⟩ := SlI.sl hO8; clear hm8; have hB8 := hOut.boxed o2 hg8; obtain ⟨f80, f81, f82, f83, f84⟩ := id hB8))
        all_goals
          have hsd : wr.heap.size = wr.drew.heap.size := rfl
          have hOut9 := hOut.putP hPt hO8 hg8
          rw [← HR.out.2.2.1] at hOut9
          have hgn := hOut.nearE (j := 1) (v' := .slice g8 m8 k8) o2 hg8 (w0 := w0) (by omega) (by omega) hgw
          clear f1 f2 f3 g3 g4 hrt
          try go_wp2
          go_meet
          exact ⟨hgn, g8, m8, k8, hOut9⟩
    · have hke : k = i := by omega
      subst hke
      have hpl := hP.pl
      have hcl := hP.cl
      have hall : cutP (headP P k) k = headP P k := cut_all (by show ((P.powers.take k).map _).length ≤ k; rw [List.length_map, List.length_take]; omega) (by show ((List.range k).map _).length ≤ k; rw [List.length_map, List.length_range]; omega)
      rw [hall] at hOut
      have hz := HQ2.out.ext hgw
      obtain ⟨h0, h1, h2, h3, h4⟩ := id hOut.box
      obtain ⟨k0, k1, k2, k3, k4⟩ := id hz
      have hZ := hz.all (.slice a1 n1 c1) (.slice a2 n2 c2) (.slice a3 n3 c3)
      have hT := grown_set3 wr w.heap.size (.slice a1 n1 c1) (.slice a2 n2 c2) (.slice a3 n3 c3)
      obtain ⟨_, z0, z1, z2, _⟩ := id hZ
      have hend : Ret w (PresR w.heap.size (headP P k)) (.returned (.agg #[.slice a1 n1 c1, .slice a2 n2 c2, .slice a3 n3 c3])) (((wr.setCell ⟨w.heap.size, 0, none⟩ (.slice a1 n1 c1)).setCell ⟨w.heap.size, 1, none⟩ (.slice a2 n2 c2)).setCell ⟨w.heap.size, 2, none⟩ (.slice a3 n3 c3)) :=
        ⟨_, rfl, grown_own (grown_trans hg0 hgw) hT (fun j hj hlt => by cases hj; omega), hOut.ret (by omega) (by omega) hT⟩
      have HE := Lib.hid hend; clear hend hT hZ hall hpl hcl
      go_wp2
      refine bodyPost_ret (v := .agg #[.slice a1 n1 c1, .slice a2 n2 c2, .slice a3 n3 c3]) (by simp [results, Tryz.results83, go_sem, z0, z1, z2]) rfl ?_
      exact HE.out

end Go.Proofs.YtldheeicjnncoaaGreat
namespace Go.Proofs.YtldheeicjnncoaaGreat
open Go.RowKit

theorem zero_take {l : List Int} {i : Nat} (h : i ≤ l.length) : isZeroB (l.take i) = true ↔ ∀ k, k < i → gt l k = 0 := by
  rw [isZeroB_true, List.length_take, Nat.min_eq_left h]
  exact ⟨fun hh k hk => by rw [← gt_take hk]; exact hh k hk, fun hh k hk => by rw [gt_take hk]; exact hh k hk⟩

set_option maxRecDepth 100000 in
set_option maxHeartbeats 2000000 in
theorem normalTail_ok (P : Pr) (hP : Valid P) (w : World) (p : Value) (i : Nat) (Sp : Nat → Prop) (hi : i ≤ P.orders.length) (hp : PresP Sp w p P) :
    Calls Tryz.prog 88 #[p, .int .i64 (i : Int)] w (Ret w fun _ v => ∃ r : Bool, v = .bool r ∧ (r = true ↔ TlN P i)) := by
  obtain ⟨b, off, rfl⟩ := hp.shape
  have hn6 := hP.n6
  go_enter Tryz.func88, Tryz.ntmps88
  go_wp2
  go_loopw [8] (fun hv wr => ∃ h : Nat, hv = .int .i64 (h : Int) ∧ h ≤ i ∧ Ext w wr ∧ Hid (∀ g, g < h → ∀ j, i ≤ j → j < P.orders.length → ∀ k, k < i → gt (gt (gt P.conj g) (j - g - 1)) k = 0)) (fun hv _ => i - (intOf hv).toNat)
  case atStart => exact ⟨0, rfl, by omega, Ext.refl _, Lib.hid fun g hg => by omega⟩
  case round =>
    obtain ⟨h, rfl, hh, hg, hz⟩ := hrel
    obtain ⟨wo, rfl⟩ : ∃ wo : World, wo = wr := ⟨_, rfl⟩
    by_cases hlt : h < i
    · have hlt' : (h : Int) < i := by omega
      go_wp2
      go_loopw [6] (fun jv wr => ∃ j : Nat, jv = .int .i64 (j : Int) ∧ i ≤ j ∧ j ≤ P.orders.length ∧ Ext w wr ∧ Hid (∀ m, i ≤ m → m < j → ∀ k, k < i → gt (gt (gt P.conj h) (m - h - 1)) k = 0)) (fun jv _ => P.orders.length - (intOf jv).toNat)
      case atStart => exact ⟨i, rfl, by omega, hi, hg, Lib.hid fun m h1 h2 => by omega⟩
      case round =>
        clear hg
        obtain ⟨j, rfl, hj, hjn, hg, hz2⟩ := hrel
        have hp0 := hp.ext hg
        obtain ⟨ao, capo, hco, _⟩ := hp0.ordAt
        by_cases hltj : j < P.orders.length
        · have hltj' : (j : Int) < P.orders.length := by omega
          obtain ⟨ac, capc, hcc, h3c⟩ := hp0.conjAt
          have hpcl : P.conj.length = P.orders.length := hP.cl
          obtain ⟨bc, oc, ac2, capc2, rfl, _, _, hcci, hcii⟩ := Rows3.at h3c h (by omega)
          have hcl := (hP.cv h (by omega)).1
          obtain ⟨bd, od, ad2, capd2, rfl, _, _, hcd, hid⟩ := Rows2.at hcii (j - h - 1) (by omega)
          have hrl := ((hP.cv h (by omega)).2 (j - h - 1) (by omega)).1.1
          have hcap : i ≤ capd2 := by
            obtain ⟨a, c, e, h1, _⟩ := hid.shape
            cases e; omega
          have hhd := head_ints hid i (by omega)
          have hzt := zero_take (l := gt (gt P.conj h) (j - h - 1)) (i := i) (by omega)
          have hrh : ∀ w', (Instr.slice 24 (.slice ad2 (gt (gt P.conj h) (j - h - 1)).length capd2) none (some (.int .i64 (i : Int))) none).run Tryz.prog w' = .ok (.slice ad2 i capd2) w' := fun w' => by
            have h := run_head w' ad2 (gt (gt P.conj h) (j - h - 1)).length capd2 (i : Int) (by omega) (by omega)
            rw [Int.toNat_natCast] at h; exact h
          have s1 : IntKind.i64.wrap ((j : Int) - h) = (j : Int) - h := IntWalk.i64_in _ (by omega)
          have s2 : IntKind.i64.wrap ((j : Int) - h - 1) = (j : Int) - h - 1 := IntWalk.i64_in _ (by omega)
          have b1 : (0 : Int) ≤ (j : Int) - h - 1 := by omega
          have b2 : (j : Int) - h - 1 < (gt P.conj h).length := by omega
          have b3 : (h : Int) < P.conj.length := by omega
          have b7 : ((j : Int) - h - 1).toNat = j - h - 1 := by omega
          have HL := Lib.hid (And.intro hhd (And.intro hzt (And.intro hrl (And.intro hcl hpcl)))); clear hhd hzt hrl hcl hpcl
          cases hzb : isZeroB ((gt (gt P.conj h) (j - h - 1)).take i) with
          | false =>
            have HZ := Lib.hid hzb; clear hzb
            go_wp2_with fail
            refine Calls.mono (isZero_ok _ _ _ _ HL.out.1) ?_
            rintro _ _ ⟨rfl, rfl⟩
            rw [HZ.out]
            go_wp2
            go_ret
            refine ⟨_, rfl, hg, false, rfl, ?_⟩
            simp only [Bool.false_eq_true, false_iff]
            intro hT
            have := HL.out.2.1.2 (fun k hk => hT h hlt j hj hltj k hk)
            rw [HZ.out] at this; cases this
          | true =>
            have HZ := Lib.hid hzb; clear hzb
            go_wp2_with fail
            refine Calls.mono (isZero_ok _ _ _ _ HL.out.1) ?_
            rintro _ _ ⟨rfl, rfl⟩
            rw [HZ.out]
            clear hrh s1 s2 b1 b2 b7
            go_wp2
            go_roundw
            case rel => exact ⟨j + 1, by go_num, by omega, by omega, hg, Lib.hid fun m h1 h2 k hk => by
              rcases Nat.lt_succ_iff_lt_or_eq.1 h2 with h3 | h3
              · exact hz2.out m h1 h3 k hk
              · subst h3; exact HL.out.2.1.1 HZ.out k hk⟩
            case measure => simp [intOf]; omega
        · have hje : j = P.orders.length := by omega
          subst hje
          go_wp2
          go_roundw
          case rel => exact ⟨h + 1, by go_num, by omega, hg, Lib.hid fun g hg j h1 h2 k hk => by
            rcases Nat.lt_succ_iff_lt_or_eq.1 hg with h3 | h3
            · exact hz.out g h3 j h1 h2 k hk
            · subst h3; exact hz2.out j h1 h2 k hk⟩
          case measure => simp [intOf]; omega
    · have hie : h = i := by omega
      subst hie
      go_wp2
      go_ret
      exact ⟨_, rfl, hg, true, rfl, by simp only [true_iff]; exact fun g hg j h1 h2 k hk => hz.out g hg j h1 h2 k hk⟩

open Classical in
/-- the code of a group and an index -/
noncomputable def ntC (P : Pr) (i : Int) : Int := if rconsB P = true then (if 0 ≤ i ∧ i ≤ P.orders.length then 0 else 2) else 1
open Classical in
noncomputable def ntV (P : Pr) (i : Int) : Bool := decide (ntC P i = 0 ∧ TlN P i.toNat)
theorem nt_bad {P : Pr} {i : Int} (h : ¬ rconsB P = true) : ntC P i = 1 := by unfold ntC; rw [if_neg h]
theorem nt_rng {P : Pr} {i : Int} (h : rconsB P = true) (h2 : ¬ (0 ≤ i ∧ i ≤ P.orders.length)) : ntC P i = 2 := by unfold ntC; rw [if_pos h, if_neg h2]
theorem nt_ok {P : Pr} {i : Int} (h : rconsB P = true) (h2 : 0 ≤ i ∧ i ≤ P.orders.length) : ntC P i = 0 := by unfold ntC; rw [if_pos h, if_pos h2]
open Classical in
theorem ntV_iff {P : Pr} {i : Int} (h : ntC P i = 0) : ntV P i = true ↔ TlN P i.toNat := by
  unfold ntV
  rw [decide_eq_true_iff]
  exact ⟨fun hh => hh.2, fun hh => ⟨h, hh⟩⟩
open Classical in
theorem ntV_no {P : Pr} {i : Int} (h : ntC P i ≠ 0) : ntV P i = false := by unfold ntV; exact decide_eq_false (fun hh => h hh.1)

set_option maxRecDepth 100000 in
set_option maxHeartbeats 2000000 in
theorem iNTail_ok (P : Pr) (w : World) (pv : Value) (i : Int) (Sp : Nat → Prop) (hpv : PresV Sp w pv P) :
    Calls Tryz.prog 16 #[pv, .int .i64 i] w (Ret w fun _ v => v = .tuple #[.bool (ntV P i), .int .i64 (ntC P i)]) := by
  obtain ⟨vo, vp, vc, rfl, h3⟩ := hpv
  have hp0 := PresP.box h3 28
  have hg0 : Ext w (w.alloc (.cells #[vo, vp, vc] 28)) := World.grownBy_alloc _ _ _
  obtain ⟨vo6, vp6, vc6, _, _, hc0, hc1, hc2, h36⟩ := hp0.at
  simp only [Nat.zero_add] at hc1 hc2
  have hE := isConsistent_ok P (w.alloc (.cells #[vo, vp, vc] 28)) (.agg #[vo6, vp6, vc6]) Any ⟨_, _, _, rfl, h36⟩
  rw [icons_eq] at hE
  go_enter Tryz.func16, Tryz.ntmps16
  go_wp2_with fail
  clear hc0 hc1 hc2
  generalize w.alloc (.cells #[vo, vp, vc] 28) = w0 at *
  refine Calls.mono hE ?_
  rintro e1 w1 ⟨v1, rfl, hg1, rfl⟩
  clear hE
  have hg01 := grown_trans hg0 hg1
  have hp1 := hp0.ext hg1
  cases hr : rconsB P with
  | false =>
    have hc : ntC P i = 1 := nt_bad (by rw [hr]; simp)
    have hv := ntV_no (P := P) (i := i) (by rw [hc]; decide)
    have HC := Lib.hid (And.intro hc hv); clear hc hv
    go_wp2
    go_ret2
    exact ⟨_, rfl, hg01, by rw [HC.out.1, HC.out.2]; rfl⟩
  | true =>
    have G := grp_of_r hr
    have hn6 := G.v.n6
    obtain ⟨ao, capo, hco, _⟩ := hp1.ordAt
    cases hin : inB i 0 P.orders.length with
    | false =>
      have hc : ntC P i = 2 := nt_rng hr (inB_false.1 hin)
      have hv := ntV_no (P := P) (i := i) (by rw [hc]; decide)
      have HC := Lib.hid (And.intro hc hv)
      have HI := Lib.hid hin; clear hc hv hin
      go_wp2_with fail
      refine Calls.mono (inside_ok _ _ _ _) ?_
      rintro _ _ ⟨rfl, rfl⟩
      rw [HI.out]
      go_wp2
      go_ret2
      exact ⟨_, rfl, hg01, by rw [HC.out.1, HC.out.2]; rfl⟩
    | true =>
      have h2 := inB_true.1 hin
      have hc : ntC P i = 0 := nt_ok hr h2
      obtain ⟨k, rfl⟩ := Int.eq_ofNat_of_zero_le h2.1
      have hk : k ≤ P.orders.length := by omega
      have hv : ntV P (k : Int) = true ↔ TlN P k := by
        rw [ntV_iff hc, Int.toNat_natCast]
      have HI := Lib.hid (And.intro hin (And.intro hc hv)); clear hc hv hin h2
      go_wp2_with fail
      refine Calls.mono (inside_ok _ _ _ _) ?_
      rintro _ _ ⟨rfl, rfl⟩
      rw [HI.out.1]
      go_wp2_with fail
      refine Calls.mono (normalTail_ok P G.v w1 _ k Any hk hp1) ?_
      rintro e2 w2 ⟨v2, rfl, hg2, r, rfl, hrr⟩
      have hre : r = ntV P (k : Int) := by rw [Bool.eq_iff_iff, hrr, HI.out.2.2]
      have HR := Lib.hid hre; clear hre hrr
      go_wp2
      go_ret2
      exact ⟨_, rfl, grown_trans hg01 hg2, by rw [HI.out.2.1, ← HR.out]; rfl⟩

end Go.Proofs.YtldheeicjnncoaaGreat
namespace Go.Proofs.YtldheeicjnncoaaGreat
open Go.RowKit

/-- a presentation that can be read, and a code -/
def PC (Q : Pr) (c : Int) (w' : World) (v : Value) : Prop := ∃ (a1 : Option Addr) (n1 c1 : Nat) (a2 : Option Addr) (n2 c2 : Nat) (a3 : Option Addr) (n3 c3 : Nat), v = .tuple #[.agg #[.slice a1 n1 c1, .slice a2 n2 c2, .slice a3 n3 c3], .int .i64 c] ∧ Pres3 Any w' (.slice a1 n1 c1) (.slice a2 n2 c2) (.slice a3 n3 c3) Q
/-- the empty presentation -/
def nilP : Pr := ⟨[], [], []⟩
theorem sl_nil {α : Type} [Inhabited α] (El : World → Value → α → Prop) (w : World) : Sl El Any w (.slice none 0 0) ([] : List α) := ⟨none, 0, rfl, ⟨by simp, by simp, fun _ => rfl⟩, fun i hi => by simp at hi⟩
theorem pres_nil (w : World) : Pres3 Any w (.slice none 0 0) (.slice none 0 0) (.slice none 0 0) nilP := ⟨sl_nil _ w, sl_nil _ w, sl_nil _ w⟩

end Go.Proofs.YtldheeicjnncoaaGreat
namespace Go.Proofs.YtldheeicjnncoaaGreat
open Go.RowKit
attribute [local go_sem ↓] Go.wp_at_zero Go.wp_at_succ

open Classical in
/-- the code of the head -/
noncomputable def hdC (P : Pr) (i : Int) : Int := if ntC P i = 0 then (if TlN P i.toNat then 0 else 5) else ntC P i
open Classical in
noncomputable def hdP (P : Pr) (i : Int) : Pr := if hdC P i = 0 then headP P i.toNat else nilP
theorem hd_bad {P : Pr} {i : Int} (h : ntC P i ≠ 0) : hdC P i = ntC P i ∧ hdP P i = nilP := by
  have e : hdC P i = ntC P i := by unfold hdC; rw [if_neg h]
  exact ⟨e, by unfold hdP; rw [e, if_neg h]⟩
theorem hd_not {P : Pr} {i : Int} (h : ntC P i = 0) (h2 : ¬ TlN P i.toNat) : hdC P i = 5 ∧ hdP P i = nilP := by
  have e : hdC P i = 5 := by unfold hdC; rw [if_pos h, if_neg h2]
  exact ⟨e, by unfold hdP; rw [e]; exact if_neg (by decide)⟩
theorem hd_ok {P : Pr} {i : Int} (h : ntC P i = 0) (h2 : TlN P i.toNat) : hdC P i = 0 ∧ hdP P i = headP P i.toNat := by
  have e : hdC P i = 0 := by unfold hdC; rw [if_pos h, if_pos h2]
  exact ⟨e, by unfold hdP; rw [e]; exact if_pos rfl⟩
theorem nt_zero {P : Pr} {i : Int} (h : ntC P i = 0) : rconsB P = true ∧ 0 ≤ i ∧ i ≤ P.orders.length := by
  by_cases h1 : rconsB P = true
  · by_cases h2 : 0 ≤ i ∧ i ≤ P.orders.length
    · exact ⟨h1, h2⟩
    · rw [nt_rng h1 h2] at h; cases h
  · rw [nt_bad h1] at h; cases h

set_option maxRecDepth 100000 in
set_option maxHeartbeats 4000000 in
theorem iHead_ok (P : Pr) (w : World) (pv : Value) (i : Int) (Sp : Nat → Prop) (hpv : PresV Sp w pv P) :
    Calls Tryz.prog 13 #[pv, .int .i64 i] w (Ret w (PC (hdP P i) (hdC P i))) := by
  obtain ⟨vo, vp, vc, rfl, h3⟩ := hpv
  have hp0 := (PresP.box h3 28).ext (World.grownBy_alloc _ (.cells #[.slice none 0 0, .slice none 0 0, .slice none 0 0] 28) none)
  have hg0 : Ext w ((w.alloc (.cells #[vo, vp, vc] 28)).alloc (.cells #[.slice none 0 0, .slice none 0 0, .slice none 0 0] 28)) := grown_trans (World.grownBy_alloc _ _ _) (World.grownBy_alloc _ _ _)
  have hR := Box3.made (w.alloc (.cells #[vo, vp, vc] 28)) 28 (.slice none 0 0) (.slice none 0 0) (.slice none 0 0)
  have hs1 : (w.alloc (.cells #[vo, vp, vc] 28)).heap.size = w.heap.size + 1 := by simp
  have hs2 : ((w.alloc (.cells #[vo, vp, vc] 28)).alloc (.cells #[.slice none 0 0, .slice none 0 0, .slice none 0 0] 28)).heap.size = w.heap.size + 2 := by simp
  rw [hs1] at hR
  have HRR := Lib.hid hR; clear hR hs1
  obtain ⟨vo6, vp6, vc6, _, _, hc0, hc1, hc2, h36⟩ := hp0.at
  simp only [Nat.zero_add] at hc1 hc2
  have hE := iNTail_ok P ((w.alloc (.cells #[vo, vp, vc] 28)).alloc (.cells #[.slice none 0 0, .slice none 0 0, .slice none 0 0] 28)) (.agg #[vo6, vp6, vc6]) i Any ⟨_, _, _, rfl, h36⟩
  go_enter Tryz.func13, Tryz.ntmps13
  go_wp2_with fail
  clear hc0 hc1 hc2
  generalize ((w.alloc (.cells #[vo, vp, vc] 28)).alloc (.cells #[.slice none 0 0, .slice none 0 0, .slice none 0 0] 28)) = w0 at *
  refine Calls.mono hE ?_
  rintro e1 w1 ⟨v1, rfl, hg1, rfl⟩
  clear hE
  have hsz1 := hg1.size
  by_cases hc : ntC P i = 0
  · obtain ⟨hr, hi0, hin⟩ := nt_zero hc
    have G := grp_of_r hr
    have hiff := ntV_iff hc
    cases hn : ntV P i with
    | false =>
      obtain ⟨h1, h2⟩ := hd_not hc (fun h => by have := hiff.2 h; rw [hn] at this; cases this)
      have HF := Lib.hid (And.intro h2 h1)
      rw [hc]
      clear h1 h2 hn hiff hc hi0 hin
      have hz := HRR.out.ext (hg1)
      obtain ⟨k0, k1, k2, k3, k4⟩ := id hz
      have hZ := hz.all (.slice none 0 0) (.slice none 0 0) (.slice none 0 0)
      have hT := grown_set3 w1 (w.heap.size + 1) (.slice none 0 0) (.slice none 0 0) (.slice none 0 0)
      obtain ⟨_, z0, z1, z2, _⟩ := id hZ
      have hend : Ret w (PC nilP 5) (.returned (.tuple #[.agg #[.slice none 0 0, .slice none 0 0, .slice none 0 0], .int .i64 5])) (((w1.setCell ⟨w.heap.size + 1, 0, none⟩ (.slice none 0 0)).setCell ⟨w.heap.size + 1, 1, none⟩ (.slice none 0 0)).setCell ⟨w.heap.size + 1, 2, none⟩ (.slice none 0 0)) :=
        ⟨_, rfl, grown_own (grown_trans hg0 (hg1)) hT (fun j hj hlt => by cases hj; omega), _, _, _, _, _, _, _, _, _, rfl, pres_nil _⟩
      have HE := Lib.hid hend; clear hend hT hZ
      go_wp2
      refine bodyPost_ret (v := .tuple #[.agg #[.slice none 0 0, .slice none 0 0, .slice none 0 0], .int .i64 5]) (by simp [results, Tryz.results13, go_sem, z0, z1, z2]) rfl ?_
      rw [HF.out.1, HF.out.2]; exact HE.out
    | true =>
      obtain ⟨h1, h2⟩ := hd_ok hc (hiff.1 hn)
      obtain ⟨k, rfl⟩ := Int.eq_ofNat_of_zero_le hi0
      rw [Int.toNat_natCast] at h2
      have HF := Lib.hid (And.intro h2 h1)
      rw [hc]
      have hk : k ≤ P.orders.length := by omega
      clear h1 h2 hn hiff hc
      go_wp2_with fail
      refine Calls.mono (headOf_ok P G.v w1 _ k Any hk (hp0.ext hg1)) ?_
      rintro e9 w9 ⟨v9, rfl, hg9, x9, y9, z9, rfl, hX9⟩
      obtain ⟨a1, n1, c1, hy1⟩ : ∃ a n c, x9 = .slice a n c := by obtain ⟨a, c, e, _⟩ := hX9.p3.o.shape; exact ⟨_, _, _, e⟩
      obtain ⟨a2, n2, c2, hy2⟩ : ∃ a n c, y9 = .slice a n c := by obtain ⟨a, c, e, _⟩ := Sl.shape hX9.p3.p; exact ⟨_, _, _, e⟩
      obtain ⟨a3, n3, c3, hy3⟩ : ∃ a n c, z9 = .slice a n c := by obtain ⟨a, c, e, _⟩ := Sl.shape hX9.p3.c; exact ⟨_, _, _, e⟩
      subst hy1 hy2 hy3
      have hgE : Ext w0 w9 := grown_trans (hg1) hg9
      have hsz : w0.heap.size ≤ w1.heap.size := (hg1).size
      have hz := HRR.out.ext (hgE)
      obtain ⟨k0, k1, k2, k3, k4⟩ := id hz
      have hZ := hz.all (.slice a1 n1 c1) (.slice a2 n2 c2) (.slice a3 n3 c3)
      have hT := grown_set3 w9 (w.heap.size + 1) (.slice a1 n1 c1) (.slice a2 n2 c2) (.slice a3 n3 c3)
      obtain ⟨_, z0, z1, z2, _⟩ := id hZ
      have hend : Ret w (PC (headP P k) 0) (.returned (.tuple #[.agg #[.slice a1 n1 c1, .slice a2 n2 c2, .slice a3 n3 c3], .int .i64 0])) (((w9.setCell ⟨w.heap.size + 1, 0, none⟩ (.slice a1 n1 c1)).setCell ⟨w.heap.size + 1, 1, none⟩ (.slice a2 n2 c2)).setCell ⟨w.heap.size + 1, 2, none⟩ (.slice a3 n3 c3)) :=
        ⟨_, rfl, grown_own (grown_trans hg0 (hgE)) hT (fun j hj hlt => by cases hj; omega), _, _, _, _, _, _, _, _, _, rfl, hX9.p3.mono (frame_of hT (fun k hk _ => ⟨trivial, fun e => by have := Option.some.inj e; have hk : w1.heap.size ≤ k := hk; omega⟩))⟩
      have HE := Lib.hid hend; clear hend hT hZ
      go_wp2
      refine bodyPost_ret (v := .tuple #[.agg #[.slice a1 n1 c1, .slice a2 n2 c2, .slice a3 n3 c3], .int .i64 0]) (by simp [results, Tryz.results13, go_sem, z0, z1, z2]) rfl ?_
      rw [HF.out.1, HF.out.2]; exact HE.out
  · obtain ⟨h1, h2⟩ := hd_bad hc
    have HF := Lib.hid (And.intro h2 h1)
    have hne : (ntC P i != 0) = true := by simp [hc]
    clear h1 h2 hc
    generalize ntC P i = c at *
    have hz := HRR.out.ext (hg1)
    obtain ⟨k0, k1, k2, k3, k4⟩ := id hz
    have hZ := hz.all (.slice none 0 0) (.slice none 0 0) (.slice none 0 0)
    have hT := grown_set3 w1 (w.heap.size + 1) (.slice none 0 0) (.slice none 0 0) (.slice none 0 0)
    obtain ⟨_, z0, z1, z2, _⟩ := id hZ
    have hend : Ret w (PC nilP c) (.returned (.tuple #[.agg #[.slice none 0 0, .slice none 0 0, .slice none 0 0], .int .i64 c])) (((w1.setCell ⟨w.heap.size + 1, 0, none⟩ (.slice none 0 0)).setCell ⟨w.heap.size + 1, 1, none⟩ (.slice none 0 0)).setCell ⟨w.heap.size + 1, 2, none⟩ (.slice none 0 0)) :=
      ⟨_, rfl, grown_own (grown_trans hg0 (hg1)) hT (fun j hj hlt => by cases hj; omega), _, _, _, _, _, _, _, _, _, rfl, pres_nil _⟩
    have HE := Lib.hid hend; clear hend hT hZ
    go_wp2
    refine bodyPost_ret (v := .tuple #[.agg #[.slice none 0 0, .slice none 0 0, .slice none 0 0], .int .i64 c]) (by simp [results, Tryz.results13, go_sem, z0, z1, z2]) rfl ?_
    rw [HF.out.1, HF.out.2]; exact HE.out

end Go.Proofs.YtldheeicjnncoaaGreat
namespace Go.Proofs.YtldheeicjnncoaaGreat
open Go.RowKit
attribute [local go_sem ↓] Go.wp_at_zero Go.wp_at_succ

set_option maxRecDepth 100000 in
set_option maxHeartbeats 2000000 in
theorem sNormT_ok (P : Pr) (hP : Valid P) (w : World) (pv : Value) (i : Nat) (Sp : Nat → Prop) (hi : i ≤ P.orders.length) (hpv : PresV Sp w pv P) :
    Calls Tryz.prog 85 #[pv, .int .i64 (i : Int)] w (Ret w fun _ v => ∃ r : Bool, v = .bool r ∧ (r = true ↔ TlN P i)) := by
  obtain ⟨vo, vp, vc, rfl, h3⟩ := hpv
  have hp := PresP.box h3 28
  have hg0 : Ext w (w.alloc (.cells #[vo, vp, vc] 28)) := World.grownBy_alloc _ _ _
  have hn6 := hP.n6
  go_enter Tryz.func85, Tryz.ntmps85
  go_wp2
  generalize w.alloc (.cells #[vo, vp, vc] 28) = w0 at *
  go_loopw [5] (fun hv wr => ∃ h : Nat, hv = .int .i64 (h : Int) ∧ h ≤ i ∧ Ext w0 wr ∧ Hid (∀ g, g < h → ∀ j, i ≤ j → j < P.orders.length → ∀ k, k < i → gt (gt (gt P.conj g) (j - g - 1)) k = 0)) (fun hv _ => i - (intOf hv).toNat)
  case atStart => exact ⟨0, rfl, by omega, Ext.refl _, Lib.hid fun g hg => by omega⟩
  case round =>
    obtain ⟨h, rfl, hh, hg, hz⟩ := hrel
    obtain ⟨wo, rfl⟩ : ∃ wo : World, wo = wr := ⟨_, rfl⟩
    by_cases hlt : h < i
    · have hlt' : (h : Int) < i := by omega
      go_wp2
      go_loopw [6] (fun jv wr => ∃ j : Nat, jv = .int .i64 (j : Int) ∧ i ≤ j ∧ j ≤ P.orders.length ∧ Ext w0 wr ∧ Hid (∀ m, i ≤ m → m < j → ∀ k, k < i → gt (gt (gt P.conj h) (m - h - 1)) k = 0)) (fun jv _ => P.orders.length - (intOf jv).toNat)
      case atStart => exact ⟨i, rfl, by omega, hi, hg, Lib.hid fun m h1 h2 => by omega⟩
      case round =>
        clear hg
        obtain ⟨j, rfl, hj, hjn, hg, hz2⟩ := hrel
        have hp0 := hp.ext hg
        obtain ⟨ao, capo, hco, _⟩ := hp0.ordAt
        by_cases hltj : j < P.orders.length
        · have hltj' : (j : Int) < P.orders.length := by omega
          obtain ⟨ac, capc, hcc, h3c⟩ := hp0.conjAt
          simp only [Nat.zero_add] at hcc
          have hpcl : P.conj.length = P.orders.length := hP.cl
          obtain ⟨bc, oc, ac2, capc2, rfl, _, _, hcci, hcii⟩ := Rows3.at h3c h (by omega)
          have hcl := (hP.cv h (by omega)).1
          obtain ⟨bd, od, ad2, capd2, rfl, _, _, hcd, hid⟩ := Rows2.at hcii (j - h - 1) (by omega)
          have hrl := ((hP.cv h (by omega)).2 (j - h - 1) (by omega)).1.1
          have hcap : i ≤ capd2 := by
            obtain ⟨a, c, e, h1, _⟩ := hid.shape
            cases e; omega
          have hhd := head_ints hid i (by omega)
          have hzt := zero_take (l := gt (gt P.conj h) (j - h - 1)) (i := i) (by omega)
          have hrh : ∀ w', (Instr.slice 24 (.slice ad2 (gt (gt P.conj h) (j - h - 1)).length capd2) none (some (.int .i64 (i : Int))) none).run Tryz.prog w' = .ok (.slice ad2 i capd2) w' := fun w' => by
            have h := run_head w' ad2 (gt (gt P.conj h) (j - h - 1)).length capd2 (i : Int) (by omega) (by omega)
            rw [Int.toNat_natCast] at h; exact h
          have s1 : IntKind.i64.wrap ((j : Int) - h) = (j : Int) - h := IntWalk.i64_in _ (by omega)
          have s2 : IntKind.i64.wrap ((j : Int) - h - 1) = (j : Int) - h - 1 := IntWalk.i64_in _ (by omega)
          have b1 : (0 : Int) ≤ (j : Int) - h - 1 := by omega
          have b2 : (j : Int) - h - 1 < (gt P.conj h).length := by omega
          have b3 : (h : Int) < P.conj.length := by omega
          have b7 : ((j : Int) - h - 1).toNat = j - h - 1 := by omega
          have HL := Lib.hid (And.intro hhd (And.intro hzt (And.intro hrl (And.intro hcl hpcl)))); clear hhd hzt hrl hcl hpcl
          cases hzb : isZeroB ((gt (gt P.conj h) (j - h - 1)).take i) with
          | false =>
            have HZ := Lib.hid hzb; clear hzb
            go_wp2_with fail
            refine Calls.mono (l01Zero_ok _ _ _ _ HL.out.1) ?_
            rintro _ _ ⟨rfl, rfl⟩
            rw [HZ.out]
            go_wp2
            go_ret
            refine ⟨_, rfl, grown_trans hg0 hg, false, rfl, ?_⟩
            simp only [Bool.false_eq_true, false_iff]
            intro hT
            have := HL.out.2.1.2 (fun k hk => hT h hlt j hj hltj k hk)
            rw [HZ.out] at this; cases this
          | true =>
            have HZ := Lib.hid hzb; clear hzb
            go_wp2_with fail
            refine Calls.mono (l01Zero_ok _ _ _ _ HL.out.1) ?_
            rintro _ _ ⟨rfl, rfl⟩
            rw [HZ.out]
            clear hrh s1 s2 b1 b2 b7
            go_wp2
            go_roundw
            case rel => exact ⟨j + 1, by go_num, by omega, by omega, hg, Lib.hid fun m h1 h2 k hk => by
              rcases Nat.lt_succ_iff_lt_or_eq.1 h2 with h3 | h3
              · exact hz2.out m h1 h3 k hk
              · subst h3; exact HL.out.2.1.1 HZ.out k hk⟩
            case measure => simp [intOf]; omega
        · have hje : j = P.orders.length := by omega
          subst hje
          go_wp2
          go_roundw
          case rel => exact ⟨h + 1, by go_num, by omega, hg, Lib.hid fun g hg j h1 h2 k hk => by
            rcases Nat.lt_succ_iff_lt_or_eq.1 hg with h3 | h3
            · exact hz.out g h3 j h1 h2 k hk
            · subst h3; exact hz2.out j h1 h2 k hk⟩
          case measure => simp [intOf]; omega
    · have hie : h = i := by omega
      subst hie
      go_wp2
      go_ret
      exact ⟨_, rfl, grown_trans hg0 hg, true, rfl, by simp only [true_iff]; exact fun g hg j h1 h2 k hk => hz.out g hg j h1 h2 k hk⟩

set_option maxRecDepth 100000 in
set_option maxHeartbeats 2000000 in
theorem sCodeT_ok (P : Pr) (w : World) (pv : Value) (i : Int) (Sp : Nat → Prop) (hpv : PresV Sp w pv P) :
    Calls Tryz.prog 84 #[pv, .int .i64 i] w (Ret w fun _ v => v = .int .i64 (ntC P i)) := by
  obtain ⟨vo, vp, vc, rfl, h3⟩ := hpv
  have hp0 := PresP.box h3 28
  have hg0 : Ext w (w.alloc (.cells #[vo, vp, vc] 28)) := World.grownBy_alloc _ _ _
  obtain ⟨vo6, vp6, vc6, _, _, hc0, hc1, hc2, h36⟩ := hp0.at
  simp only [Nat.zero_add] at hc1 hc2
  have hE := l08Group_ok P (w.alloc (.cells #[vo, vp, vc] 28)) (.agg #[vo6, vp6, vc6]) Any ⟨_, _, _, rfl, h36⟩
  go_enter Tryz.func84, Tryz.ntmps84
  go_wp2_with fail
  clear hc0 hc1 hc2
  generalize (w.alloc (.cells #[vo, vp, vc] 28)) = w0 at *
  refine Calls.mono hE ?_
  rintro e1 w1 ⟨v1, rfl, hg1, rfl⟩
  clear hE
  have hg01 := grown_trans hg0 hg1
  have hp1 := hp0.ext hg1
  cases hr : rconsB P with
  | false =>
    have hc : ntC P i = 1 := nt_bad (by rw [hr]; simp)
    have HC := Lib.hid hc; clear hc
    go_wp2
    go_ret
    exact ⟨_, rfl, hg01, by rw [HC.out]; rfl⟩
  | true =>
    obtain ⟨ao, capo, hco, _⟩ := hp1.ordAt
    cases hin : inB i 0 P.orders.length with
    | false =>
      have hc : ntC P i = 2 := nt_rng hr (inB_false.1 hin)
      have HC := Lib.hid (And.intro hc hin); clear hc hin
      go_wp2_with fail
      refine Calls.mono (l01In_ok _ _ _ _) ?_
      rintro _ _ ⟨rfl, rfl⟩
      rw [HC.out.2]
      go_wp2
      go_ret
      exact ⟨_, rfl, hg01, by rw [HC.out.1]; rfl⟩
    | true =>
      have hc : ntC P i = 0 := nt_ok hr (inB_true.1 hin)
      have HC := Lib.hid (And.intro hc hin); clear hc hin
      go_wp2_with fail
      refine Calls.mono (l01In_ok _ _ _ _) ?_
      rintro _ _ ⟨rfl, rfl⟩
      rw [HC.out.2]
      go_wp2
      go_ret
      exact ⟨_, rfl, hg01, by rw [HC.out.1]; rfl⟩

set_option maxRecDepth 100000 in
set_option maxHeartbeats 8000000 in
theorem sHead_ok (P : Pr) (w : World) (pv : Value) (ii : Int) (Sp : Nat → Prop) (hpv : PresV Sp w pv P) :
    Calls Tryz.prog 14 #[pv, .int .i64 ii] w (Ret w (PC (hdP P ii) (hdC P ii))) := by
  obtain ⟨vo, vp, vc, rfl, h3⟩ := hpv
  have hp0 := (PresP.box h3 28).ext (World.grownBy_alloc _ (.cells #[.slice none 0 0, .slice none 0 0, .slice none 0 0] 28) none)
  have hgB : Ext w ((w.alloc (.cells #[vo, vp, vc] 28)).alloc (.cells #[.slice none 0 0, .slice none 0 0, .slice none 0 0] 28)) := grown_trans (World.grownBy_alloc _ _ _) (World.grownBy_alloc _ _ _)
  have hR := Box3.made (w.alloc (.cells #[vo, vp, vc] 28)) 28 (.slice none 0 0) (.slice none 0 0) (.slice none 0 0)
  have hs1 : (w.alloc (.cells #[vo, vp, vc] 28)).heap.size = w.heap.size + 1 := by simp
  have hsB : ((w.alloc (.cells #[vo, vp, vc] 28)).alloc (.cells #[.slice none 0 0, .slice none 0 0, .slice none 0 0] 28)).heap.size = w.heap.size + 2 := by simp
  rw [hs1] at hR
  have HRR := Lib.hid hR; clear hR hs1
  obtain ⟨vo6, vp6, vc6, _, _, hc0, hc1, hc2, h36⟩ := hp0.at
  simp only [Nat.zero_add] at hc1 hc2
  have hE := sCodeT_ok P ((w.alloc (.cells #[vo, vp, vc] 28)).alloc (.cells #[.slice none 0 0, .slice none 0 0, .slice none 0 0] 28)) (.agg #[vo6, vp6, vc6]) ii Any ⟨_, _, _, rfl, h36⟩
  have hbx : ∀ w', Ext ((w.alloc (.cells #[vo, vp, vc] 28)).alloc (.cells #[.slice none 0 0, .slice none 0 0, .slice none 0 0] 28)) w' → w'.cell? ⟨w.heap.size, 0, none⟩ = some vo6 ∧ w'.cell? ⟨w.heap.size, 1, none⟩ = some vp6 ∧ w'.cell? ⟨w.heap.size, 2, none⟩ = some vc6 := fun w' h => ⟨h.cell hc0 (by simp), h.cell hc1 (by simp), h.cell hc2 (by simp)⟩
  have HBX := Lib.hid hbx; clear hbx
  go_enter Tryz.func14, Tryz.ntmps14
  go_wp2_with fail
  clear hc0 hc1 hc2
  generalize ((w.alloc (.cells #[vo, vp, vc] 28)).alloc (.cells #[.slice none 0 0, .slice none 0 0, .slice none 0 0] 28)) = wb at *
  refine Calls.mono hE ?_
  rintro e1 w1 ⟨v1, rfl, hg1, rfl⟩
  clear hE
  by_cases hc : ntC P ii = 0
  · obtain ⟨hr, hi0, hin⟩ := nt_zero hc
    have hP := (grp_of_r hr).v
    obtain ⟨i, rfl⟩ := Int.eq_ofNat_of_zero_le hi0
    have hi : i ≤ P.orders.length := by omega
    have hn6 := hP.n6
    rw [hc]
    obtain ⟨q0, q1, q2⟩ := HBX.out w1 hg1
    go_wp2_with fail
    clear q0 q1 q2
    refine Calls.mono (sNormT_ok P hP w1 _ i Any hi ⟨_, _, _, rfl, h36.ext hg1⟩) ?_
    rintro e2 w0 ⟨v2, rfl, hg2, r, rfl, hrr⟩
    have hgw0 := grown_trans hg1 hg2
    have hsz0 := hgw0.size
    have hiT : (i : Int).toNat = i := Int.toNat_natCast i
    cases r with
    | false =>
      obtain ⟨h1, h2⟩ := hd_not hc (fun h => by rw [hiT] at h; have := hrr.2 h; cases this)
      have HF := Lib.hid (And.intro h2 h1)
      clear h1 h2 hrr hc hi0 hin hiT
      have hz := HRR.out.ext (hgw0)
      obtain ⟨k0, k1, k2, k3, k4⟩ := id hz
      have hZ := hz.all (.slice none 0 0) (.slice none 0 0) (.slice none 0 0)
      have hT := grown_set3 w0 (w.heap.size + 1) (.slice none 0 0) (.slice none 0 0) (.slice none 0 0)
      obtain ⟨_, z0, z1, z2, _⟩ := id hZ
      have hend : Ret w (PC nilP 5) (.returned (.tuple #[.agg #[.slice none 0 0, .slice none 0 0, .slice none 0 0], .int .i64 5])) (((w0.setCell ⟨w.heap.size + 1, 0, none⟩ (.slice none 0 0)).setCell ⟨w.heap.size + 1, 1, none⟩ (.slice none 0 0)).setCell ⟨w.heap.size + 1, 2, none⟩ (.slice none 0 0)) :=
        ⟨_, rfl, grown_own (grown_trans hgB (hgw0)) hT (fun j hj hlt => by cases hj; omega), _, _, _, _, _, _, _, _, _, rfl, pres_nil _⟩
      have HE := Lib.hid hend; clear hend hT hZ
      go_wp2
      refine bodyPost_ret (v := .tuple #[.agg #[.slice none 0 0, .slice none 0 0, .slice none 0 0], .int .i64 5]) (by simp [results, Tryz.results14, go_sem, z0, z1, z2]) rfl ?_
      rw [HF.out.1, HF.out.2]; exact HE.out
    | true =>
      obtain ⟨h1, h2⟩ := hd_ok hc (by rw [hiT]; exact hrr.1 rfl)
      rw [hiT] at h2
      have HF := Lib.hid (And.intro h2 h1)
      clear h1 h2 hrr hc hi0 hin hiT
      have hg0 : Ext w w0 := grown_trans hgB hgw0
      have hpB := hp0.ext hgw0
      have hA0 := HRR.out.ext hgw0
      have hsz2 : w.heap.size + 2 ≤ w0.heap.size := by omega
      obtain ⟨ao, capo, hco, hoi⟩ := hpB.ordAt
      clear hp0 HBX HRR h36 hgw0 hg1 hg2 hgB hsB hsz0
      have hcapo : i ≤ capo := by
        obtain ⟨a, c, e, h1, _⟩ := hoi.shape
        cases e; omega
      have htl := head_ints hoi i hi
      have hrt : ∀ w', (Instr.slice 24 (.slice ao P.orders.length capo) none (some (.int .i64 (i : Int))) none).run Tryz.prog w' = .ok (.slice ao i capo) w' := fun w' => by
        have h := run_head w' ao P.orders.length capo (i : Int) (by omega) (by omega)
        rw [Int.toNat_natCast] at h; exact h
      have hdl : (P.orders.take i).length ≤ 1000 := by rw [List.length_take]; omega
      have HT := Lib.hid (And.intro htl (And.intro hdl hA0)); clear htl hdl hA0 hcapo
      go_wp2_with fail
      clear hco
      have hA00 := HT.out.2.2
      refine Calls.mono (l01Own_ok w0 _ (P.orders.take i) _ HT.out.1 (by have := HT.out.2.1; omega)) ?_
      rintro e1 w1 ⟨v1, rfl, hg1, hO1⟩
      clear hrt
      obtain ⟨b1, m1, d1, hv1⟩ : ∃ a n c, v1 = .slice a n c := by obtain ⟨a, c, e, _⟩ := (hO1.ints (by have := HT.out.2.1; omega)).shape; exact ⟨_, _, _, e⟩
      subst hv1
      have hg2 : Ext w1 (w1.alloc (.cells #[.slice b1 m1 d1, .slice none 0 0, .slice none 0 0] 28)) := World.grownBy_alloc _ _ _
      have hs2 : (w1.alloc (.cells #[.slice b1 m1 d1, .slice none 0 0, .slice none 0 0] 28)).heap.size = w1.heap.size + 1 := by simp
      have hB2 := Box3.made w1 28 (.slice b1 m1 d1) (.slice none 0 0) (.slice none 0 0)
      have hs1 := hg1.size
      have hOut : OutP (fun _ => False) w0.heap.size w1.heap.size (w1.alloc (.cells #[.slice b1 m1 d1, .slice none 0 0, .slice none 0 0] 28)) (.slice b1 m1 d1) (.slice none 0 0) (.slice none 0 0) (cutP (headP P i) 0) :=
        OutP.ords (B1 := w1.heap.size) (by omega) (by omega) (hO1.ext0 hg2) (fun k hk e => by have := (hO1.lt k hk).2; omega) HT.out.2.1 hB2
      have hgw : Ext w0 (w1.alloc (.cells #[.slice b1 m1 d1, .slice none 0 0, .slice none 0 0] 28)) := grown_trans hg1 hg2
      obtain ⟨qb, hqb⟩ : ∃ qb, qb = w1.heap.size := ⟨_, rfl⟩
      rw [← hqb] at hOut
      have hqw : w0.heap.size ≤ qb := by omega
      have HQ := Lib.hid (And.intro hOut (And.intro hA00 hqb)); clear hOut hA00 hqb hB2 hO1 hs2
      go_wp2
      rw [← HQ.out.2.2]
      have HQ1 := HQ.out.1
      have HQ2 := Lib.hid HQ.out.2.1
      clear HQ
      generalize w1.alloc (.cells #[.slice b1 m1 d1, .slice none 0 0, .slice none 0 0] 28) = w2 at *
      clear hg1 hg2 hs1 HT
      go_loopw [8] (fun kv wr => ∃ (k : Nat) (a1 : Option Addr) (n1 c1 : Nat) (a2 : Option Addr) (n2 c2 : Nat) (a3 : Option Addr) (n3 c3 : Nat), kv = .int .i64 (k : Int) ∧ k ≤ i ∧ Ext w0 wr ∧ OutP (fun _ => False) w0.heap.size qb wr (.slice a1 n1 c1) (.slice a2 n2 c2) (.slice a3 n3 c3) (cutP (headP P i) k)) (fun kv _ => i - (intOf kv).toNat)
      case atStart => exact ⟨0, _, _, _, _, _, _, _, _, _, rfl, Nat.zero_le _, hgw, HQ1⟩
      case round =>
        clear HQ1 hgw
        obtain ⟨k, a1, n1, c1, a2, n2, c2, a3, n3, c3, rfl, hkn, hgw, hOut⟩ := hrel
        have hp0 := hpB.ext hgw
        obtain ⟨ao2, capo2, hco, _⟩ := hp0.ordAt
        by_cases hlti : k < i
        · have hlt : k < P.orders.length := by omega
          have hlt' : (k : Int) < i := by omega
          obtain ⟨ap, capp, hcp, h3p⟩ := hp0.powAt
          simp only [Nat.zero_add] at hcp
          have hpl := hP.pl
          obtain ⟨bp, op, ap2, capp2, rfl, _, _, hcpi, hpii⟩ := Rows2.at h3p k (by omega)
          have hrl : (gt P.powers k).length = P.orders.length := (hP.pv k hlt).1.1
          have hcap2 : i ≤ capp2 := by
            obtain ⟨a, c, e, h1, _⟩ := hpii.shape
            cases e; omega
          have htl := head_ints hpii i (by omega)
          have hrt : ∀ w', (Instr.slice 24 (.slice ap2 (gt P.powers k).length capp2) none (some (.int .i64 (i : Int))) none).run Tryz.prog w' = .ok (.slice ap2 i capp2) w' := fun w' => by
            have h := run_head w' ap2 (gt P.powers k).length capp2 (i : Int) (by omega) (by omega)
            rw [Int.toNat_natCast] at h; exact h
          have hdl : ((gt P.powers k).take i).length ≤ 1000 := by rw [List.length_take]; omega
          have hst : (headP P i).powers.take (k + 1) = (headP P i).powers.take k ++ [(gt P.powers k).take i] := by
            have hl : k < (headP P i).powers.length := by show k < ((P.powers.take i).map _).length; rw [List.length_map, List.length_take]; omega
            rw [cut_pow hl]
            congr 2
            show gt ((P.powers.take i).map _) k = _
            rw [gt_map _ _ _ (by rw [List.length_take]; omega)]
            congr 1
            simp [gt, hlti]
          have htk : ((headP P i).powers.take k).length ≤ 1000000 := by rw [List.length_take]; omega
          obtain ⟨R, hR⟩ : ∃ R, R = (gt P.powers k).take i := ⟨_, rfl⟩
          obtain ⟨Fo, Fp, Fc, hPt, o1, o2, o3⟩ := hOut.parts
          have e1 : ∀ w', Ext wr w' → w'.cell? ⟨w.heap.size, 1, none⟩ = some (.slice (some ⟨bp, op, none⟩) P.powers.length capp) := fun w' h => h.cell hcp (by simp)
          have e2 : ∀ w', Ext wr w' → w'.cell? ⟨bp, op + k, none⟩ = some (.slice ap2 (gt P.powers k).length capp2) := fun w' h => h.cell hcpi (by simp)
          have e3 : ∀ w', Ext wr w' → w'.cell? ⟨qb, 1, none⟩ = some (.slice a2 n2 c2) := fun w' h => (hOut.box.ext h).2.2.1
          rw [← hR] at hst htl hdl
          have HR := Lib.hid (And.intro htl (And.intro hdl (And.intro hst htk))); clear htl hdl hst htk hcp hcpi hpii hR hrl hcap2
          have f1 := e1 wr.drew (grown_drew _ _)
          have f2 := e2 wr.drew (grown_drew _ _)
          have f3 := e3 wr.drew (grown_drew _ _)
          have b4 : (k : Int) < P.powers.length := by omega
          clear hpl
          go_wp2
          go_cut [] (fun wx => Ext w0 wx ∧ ∃ (g8 : Option Addr) (m8 k8 : Nat), OutP (fun _ => False) w0.heap.size qb wx (.slice a1 n1 c1) (.slice g8 m8 k8) (.slice a3 n3 c3) ⟨(headP P i).orders, (headP P i).powers.take (k + 1), (headP P i).conj.take k⟩)
          case' rest =>
            clear f1 f2 f3 e1 e2 e3 hrt hOut hPt o1 o2 o3
            obtain ⟨hgx, g8, m8, k8, hOx⟩ := hcut
            obtain ⟨w4, rfl⟩ : ∃ w4 : World, w4 = wc := ⟨_, rfl⟩
            have hp4 := hpB.ext hgx
            obtain ⟨ac, capc, hcc, h3c⟩ := hp4.conjAt
            simp only [Nat.zero_add] at hcc
            have hcl := hP.cl
            obtain ⟨bc, oc, ac2, capc2, rfl, _, _, hcci, hcii⟩ := Rows3.at h3c k (by omega)
            have hkc : (k : Int) < P.conj.length := by omega
            obtain ⟨C, hC⟩ : ∃ C, C = (gt P.conj k).take (i - 1 - k) := ⟨_, rfl⟩
            have hrl0 := (hP.cv k hlt).1
            have hCl : C.length = i - 1 - k := by rw [hC, List.length_take]; omega
            have hCl6 : C.length ≤ 6 := by omega
            have hCg : ∀ l, l < C.length → gt C l = gt (gt P.conj k) l := fun l hl => by
              rw [hC]; simp [gt, show l < i - 1 - k by omega]
            have hCr : ∀ l, l < C.length → (gt C l).length = P.orders.length := fun l hl => by
              rw [hCg l hl]
              exact ((hP.cv k hlt).2 l (by omega)).1.1
            have hst3 : (headP P i).conj.take (k + 1) = (headP P i).conj.take k ++ [C.map (fun x => x.take i)] := by
              have hl : k < (headP P i).conj.length := by show k < ((List.range i).map _).length; rw [List.length_map, List.length_range]; exact hlti
              rw [take_succ_gt _ k hl]
              congr 2
              show gt ((List.range i).map _) k = _
              rw [gt_map _ _ _ (by rw [List.length_range]; exact hlti), hC]
              simp [gt, hlti]
            have htk3 : ((headP P i).conj.take k).length ≤ 1000000 := by rw [List.length_take]; omega
            have hCz : C.length ≤ (gt P.conj k).length := by omega
            obtain ⟨NC, hNC⟩ : ∃ NC, NC = (gt P.conj k).length := ⟨_, rfl⟩
            rw [← hNC] at hcci
            have HC := Lib.hid (And.intro hcii (And.intro hCr (And.intro hst3 (And.intro htk3 (And.intro hOx (And.intro hCg hCz)))))); have HCL := Lib.hid hCl; have HNC := Lib.hid hNC; clear hcii hCr hst3 htk3 hOx hC hcl hCg hCz hNC hrl0 hCl
            have d1 : ∀ w', Ext w4 w' → w'.cell? ⟨w.heap.size, 2, none⟩ = some (.slice (some ⟨bc, oc, none⟩) P.conj.length capc) := fun w' h => h.cell hcc (by simp)
            have d2 : ∀ w', Ext w4 w' → w'.cell? ⟨bc, oc + k, none⟩ = some (.slice ac2 NC capc2) := fun w' h => h.cell hcci (by simp)
            have s1 : IntKind.i64.wrap ((i : Int) - 1) = (i : Int) - 1 := IntWalk.i64_in _ (by omega)
            have s2 : IntKind.i64.wrap ((i : Int) - 1 - k) = (i : Int) - 1 - k := IntWalk.i64_in _ (by omega)
            have hrow : Ext w4 (w4.alloc (.cells #[] 24)) := World.grownBy_alloc _ _ _
            have hO7 : RowsO w4.heap.size (w4.alloc (.cells #[] 24)) (.slice (some ⟨w4.heap.size, 0, none⟩) 0 0) ((C.map (fun x => x.take i)).take 0) := ⟨[], fun _ _ => False, rfl, World.ownsRow_lit w4 #[] 0 (Nat.le_refl _) (by decide) rfl, by simp, by simp, by simp⟩
            clear hcc hcci
            go_wp2
            go_loopw [9, 10] (fun lv jv wr => ∃ (l : Nat) (v7 : Value), v7 = lv ∧ jv = .int .i64 (l : Int) ∧ l ≤ C.length ∧ Ext w4 wr ∧ RowsO w4.heap.size wr v7 ((C.map (fun x => x.take i)).take l)) (fun _ jv _ => C.length - (intOf jv).toNat)
            case atStart => exact ⟨0, _, rfl, rfl, by omega, hrow, hO7⟩
            case round =>
              clear hrow hO7
              obtain ⟨l, v7, rfl, rfl, hl, hgl, hO⟩ := hrel
              have r1 := d1 wr hgl
              have r2 := d2 wr hgl
              by_cases hltl : l < C.length
              · have hltl' : (l : Int) < (i : Int) - 1 - k := by have := HCL.out; omega
                have hltn : (l : Int) < NC := by have := HNC.out; have := HC.out.2.2.2.2.2.2; omega
                have hkc2 : (k : Int) < P.conj.length := hkc
                obtain ⟨bd, od, ad2, capd2, rfl, _, _, hcd, hid⟩ := Rows2.at (Rows2.ext HC.out.1 hgl) l (Nat.lt_of_lt_of_le hltl HC.out.2.2.2.2.2.2)
                rw [← HC.out.2.2.2.2.2.1 l hltl] at hcd hid
                have hrl := HC.out.2.1 l hltl
                have hcap3 : i ≤ capd2 := by
                  obtain ⟨a, c, e, h1, _⟩ := hid.shape
                  cases e; omega
                have htl := head_ints hid i (by omega)
                have hrt : ∀ w', (Instr.slice 24 (.slice ad2 (gt C l).length capd2) none (some (.int .i64 (i : Int))) none).run Tryz.prog w' = .ok (.slice ad2 i capd2) w' := fun w' => by
                  have h := run_head w' ad2 (gt C l).length capd2 (i : Int) (by omega) (by omega)
                  rw [Int.toNat_natCast] at h; exact h
                have hdl : ((gt C l).take i).length ≤ 1000 := by rw [List.length_take]; omega
                have hstep : (C.map (fun x => x.take i)).take (l + 1) = (C.map (fun x => x.take i)).take l ++ [(gt C l).take i] := by
                  rw [take_succ_gt _ l (by rw [List.length_map]; exact hltl), gt_map _ _ _ hltl]
                have htkl : ((C.map (fun x => x.take i)).take l).length ≤ 1000000 := by rw [List.length_take]; omega
                obtain ⟨R, hR⟩ : ∃ R, R = (gt C l).take i := ⟨_, rfl⟩
                obtain ⟨N, hN⟩ : ∃ N, N = (gt C l).length := ⟨_, rfl⟩
                rw [← hR] at htl hdl hstep
                rw [← hN] at hrt hcd
                have HR := Lib.hid (And.intro htl (And.intro hdl (And.intro hstep htkl))); clear htl hdl hstep htkl hR hN hrl hid hcap3
                go_wp2_with fail
                clear r1 r2
                refine Calls.mono (l01Own_ok _ _ R _ HR.out.1 (by have := HR.out.2.1; omega)) ?_
                rintro eG wG ⟨vG, rfl, hgG, hOG⟩
                obtain ⟨aG, capG, hvG, _, _⟩ := (hOG.ints (by have := HR.out.2.1; omega)).shape
                subst hvG
                have hYO := OwnIn.of (F := From wr.heap.size) hOG (by have := HR.out.2.1; omega) (fun k h _ => h)
                clear hrt
                go_wp2_with (first | (at_builtin; refine wp_app_row rfl _ _ rfl w4.heap.size wr wG v7 _ ((C.map (fun x => x.take i)).take l) R rfl hO hgG hYO rfl rfl HR.out.2.2.2 hgl.size ?_; intro v5 w5 hO5 hg5 hg6; have hgw5 := hO.extw hgl (Nat.le_refl _) hg5) | fail)
                go_roundw
                case rel => exact ⟨l + 1, v5, rfl, by go_num, by omega, hgw5, by rw [HR.out.2.2.1]; exact hO5⟩
                case measure => simp [intOf]; omega
              · have hle : l = C.length := by omega
                have hnl : ¬ (l : Int) < (i : Int) - 1 - k := by have := HCL.out; omega
                clear r1 r2
                subst hle
                rw [List.take_of_length_le (by rw [List.length_map]; exact Nat.le_refl _)] at hO
                have hRI : RowsI (From w4.heap.size) wr v7 (C.map (fun x => x.take i)) := SlI.of hO (by rw [List.length_map]; omega) (fun k h _ => h)
                obtain ⟨a4, n4, c4, rfl, hn4⟩ := SlI.sl hRI
                obtain ⟨Fo, Fp, Fc, hPt, o1, o2, o3⟩ := HC.out.2.2.2.2.1.parts
                have hB7 := HC.out.2.2.2.2.1.box.ext hgl
                have HN := Lib.hid hn4; clear hn4 hO
                obtain ⟨f0, f1, f2, f3, f4⟩ := id hB7
                go_wp2_with (first | (at_builtin; refine wp_app_I (rdI rdOwn) 26 (.slice none 0 0) 24 und_rows3 Tryz.infoRows rfl (by decide) rfl _ _ rfl Fc w4 wr _ _ ((headP P i).conj.take k) (C.map (fun x => x.take i)) rfl hPt.c hgl hRI rfl rfl HC.out.2.2.2.1 ?_; intro v8 w8 hO8 hg8 hg9; obtain ⟨g9, m9, k9, rfl, hm8⟩ := SlI.sl hO8; clear hm8; have hB8 := HC.out.2.2.2.2.1.boxed o3 hg8; clear f0 f1 f2 f3 f4; obtain ⟨f0, f1, f2, f3, f4⟩ := id hB8) | fail)
                have hOut9 := HC.out.2.2.2.2.1.putC hPt hO8 hg8
                rw [← HC.out.2.2.1] at hOut9
                have hgn := HC.out.2.2.2.2.1.nearE (j := 2) (v' := .slice g9 m9 k9) o3 hg8 (w0 := w0) (by omega) (by omega) hgx
                clear f0 f1 f2 f3 f4
                go_roundw
                case rel => exact ⟨k + 1, _, _, _, _, _, _, _, _, _, by go_num, by omega, hgn, hOut9⟩
                case measure => simp [intOf]; omega
          case first =>
            go_region_law (first
              | (go_simp; go_at_call 86; refine Calls.mono (l01Own_ok _ _ R _ (Ints.ext HR.out.1 (grown_drew _ _)) (by have := HR.out.2.1; omega)) ?_; rintro eG wG ⟨vG, rfl, hgG, hOG⟩; obtain ⟨aG, capG, hvG, _, _⟩ := (hOG.ints (by have := HR.out.2.1; omega)).shape; subst hvG; have hgG2 : Ext wr wG := grown_trans (grown_drew _ _) hgG; have g3 := e3 wG hgG2; have g4 := e3 (wG.alloc (.cells #[.slice aG R.length capG] 24)) (grown_trans hgG2 (World.grownBy_alloc _ _ _)))
              | (refine step_app_I rdOwn 25 (.slice none 0 0) 24 und_rows Tryz.infoRow rfl (by decide) (by rfl) _ _ (by rfl) Fp wr wG _ _ ((headP P i).powers.take k) R (by rfl) hPt.p hgG2 (OwnIn.of hOG (by have := HR.out.2.1; omega) (fun k h _ => h)) (by rfl) (by rfl) HR.out.2.2.2 ?_; intro v8 w8 hO8 hg8 hg9; obtain ⟨g8, m8, k8, rfl, hm8⟩ := SlI.sl hO8; clear hm8; have hB8 := hOut.boxed o2 hg8; obtain ⟨f80, f81, f82, f83, f84⟩ := id hB8))
            all_goals
              have hsd : wr.heap.size = wr.drew.heap.size := rfl
              have hOut9 := hOut.putP hPt hO8 hg8
              rw [← HR.out.2.2.1] at hOut9
              have hgn := hOut.nearE (j := 1) (v' := .slice g8 m8 k8) o2 hg8 (w0 := w0) (by omega) (by omega) hgw
              clear f1 f2 f3 g3 g4 hrt
              try go_wp2
              go_meet
              exact ⟨hgn, g8, m8, k8, hOut9⟩
        · have hke : k = i := by omega
          subst hke
          have hpl := hP.pl
          have hcl := hP.cl
          have hall : cutP (headP P k) k = headP P k := cut_all (by show ((P.powers.take k).map _).length ≤ k; rw [List.length_map, List.length_take]; omega) (by show ((List.range k).map _).length ≤ k; rw [List.length_map, List.length_range]; omega)
          rw [hall] at hOut
          have hz := HQ2.out.ext hgw
          have hpq := hOut.px.p3
          obtain ⟨h0, h1, h2, h3, h4⟩ := id hOut.box
          obtain ⟨k0, k1, k2, k3, k4⟩ := id hz
          have hZ := hz.all (.slice a1 n1 c1) (.slice a2 n2 c2) (.slice a3 n3 c3)
          have hT := grown_set3 wr (w.heap.size + 1) (.slice a1 n1 c1) (.slice a2 n2 c2) (.slice a3 n3 c3)
          obtain ⟨_, z0, z1, z2, _⟩ := id hZ
          have hend : Ret w (PC (headP P k) 0) (.returned (.tuple #[.agg #[.slice a1 n1 c1, .slice a2 n2 c2, .slice a3 n3 c3], .int .i64 0])) (((wr.setCell ⟨w.heap.size + 1, 0, none⟩ (.slice a1 n1 c1)).setCell ⟨w.heap.size + 1, 1, none⟩ (.slice a2 n2 c2)).setCell ⟨w.heap.size + 1, 2, none⟩ (.slice a3 n3 c3)) :=
            ⟨_, rfl, grown_own (grown_trans hg0 hgw) hT (fun j hj hlt => by cases hj; omega), _, _, _, _, _, _, _, _, _, rfl, hpq.mono (frame_of hT (fun b hb _ => ⟨trivial, fun e => by have := Option.some.inj e; have := hb.1; omega⟩))⟩
          have HE := Lib.hid hend; clear hend hT hZ hall hpl hcl
          go_wp2
          refine bodyPost_ret (v := .tuple #[.agg #[.slice a1 n1 c1, .slice a2 n2 c2, .slice a3 n3 c3], .int .i64 0]) (by simp [results, Tryz.results14, go_sem, z0, z1, z2]) rfl ?_
          rw [HF.out.1, HF.out.2]; exact HE.out
  · obtain ⟨h1, h2⟩ := hd_bad hc
    have HF := Lib.hid (And.intro h2 h1)
    have hne : (ntC P ii != 0) = true := by simp [hc]
    clear h1 h2 hc
    generalize ntC P ii = c at *
    have hz := HRR.out.ext (hg1)
    obtain ⟨k0, k1, k2, k3, k4⟩ := id hz
    have hZ := hz.all (.slice none 0 0) (.slice none 0 0) (.slice none 0 0)
    have hT := grown_set3 w1 (w.heap.size + 1) (.slice none 0 0) (.slice none 0 0) (.slice none 0 0)
    obtain ⟨_, z0, z1, z2, _⟩ := id hZ
    have hend : Ret w (PC nilP c) (.returned (.tuple #[.agg #[.slice none 0 0, .slice none 0 0, .slice none 0 0], .int .i64 c])) (((w1.setCell ⟨w.heap.size + 1, 0, none⟩ (.slice none 0 0)).setCell ⟨w.heap.size + 1, 1, none⟩ (.slice none 0 0)).setCell ⟨w.heap.size + 1, 2, none⟩ (.slice none 0 0)) :=
      ⟨_, rfl, grown_own (grown_trans hgB (hg1)) hT (fun j hj hlt => by cases hj; omega), _, _, _, _, _, _, _, _, _, rfl, pres_nil _⟩
    have HE := Lib.hid hend; clear hend hT hZ
    go_wp2
    refine bodyPost_ret (v := .tuple #[.agg #[.slice none 0 0, .slice none 0 0, .slice none 0 0], .int .i64 c]) (by simp [results, Tryz.results14, go_sem, z0, z1, z2]) rfl ?_
    rw [HF.out.1, HF.out.2]; exact HE.out

end Go.Proofs.YtldheeicjnncoaaGreat
namespace Go.Proofs.YtldheeicjnncoaaGreat
open Go.RowKit
attribute [local go_sem ↓] Go.wp_at_zero Go.wp_at_succ

set_option maxRecDepth 100000 in
set_option maxHeartbeats 4000000 in
theorem iTail_ok (P : Pr) (hP : Valid P) (w : World) (pv : Value) (k : Nat) (Sp : Nat → Prop) (hpv : PresV Sp w pv P) (hk : k ≤ P.orders.length) :
    Calls Tryz.prog 19 #[pv, .int .i64 (k : Int)] w (Ret w (PC (tailP P k) 0)) := by
  have hn6 := hP.n6
  obtain ⟨vo, vp, vc, rfl, h3⟩ := hpv
  have hp0 := (PresP.box h3 28).ext (World.grownBy_alloc _ (.cells #[.slice none 0 0, .slice none 0 0, .slice none 0 0] 28) none)
  have hg0 : Ext w ((w.alloc (.cells #[vo, vp, vc] 28)).alloc (.cells #[.slice none 0 0, .slice none 0 0, .slice none 0 0] 28)) := grown_trans (World.grownBy_alloc _ _ _) (World.grownBy_alloc _ _ _)
  have hR := Box3.made (w.alloc (.cells #[vo, vp, vc] 28)) 28 (.slice none 0 0) (.slice none 0 0) (.slice none 0 0)
  have hs1 : (w.alloc (.cells #[vo, vp, vc] 28)).heap.size = w.heap.size + 1 := by simp
  have hs2 : ((w.alloc (.cells #[vo, vp, vc] 28)).alloc (.cells #[.slice none 0 0, .slice none 0 0, .slice none 0 0] 28)).heap.size = w.heap.size + 2 := by simp
  rw [hs1] at hR
  have HRR := Lib.hid hR; clear hR hs1
  obtain ⟨vo6, vp6, vc6, _, _, hc0, hc1, hc2, h36⟩ := hp0.at
  simp only [Nat.zero_add] at hc1 hc2
  obtain ⟨ao, capo, hvo, _, _⟩ := h36.o.shape
  subst hvo
  have hE := isPresentation_ok ((w.alloc (.cells #[vo, vp, vc] 28)).alloc (.cells #[.slice none 0 0, .slice none 0 0, .slice none 0 0] 28)) (.agg #[.slice ao P.orders.length capo, vp6, vc6]) P Any ⟨_, _, _, rfl, h36⟩
  rw [validB_true hP] at hE
  have hb0 : ∀ w', Ext ((w.alloc (.cells #[vo, vp, vc] 28)).alloc (.cells #[.slice none 0 0, .slice none 0 0, .slice none 0 0] 28)) w' → w'.cell? ⟨w.heap.size, 0, none⟩ = some (.slice ao P.orders.length capo) := fun w' h => h.cell hc0 (by simp)
  have HB := Lib.hid hb0; clear hb0
  have hin : inB (k : Int) 0 P.orders.length = true := inB_true.2 (by omega)
  have HIN := Lib.hid hin; clear hin
  go_enter Tryz.func19, Tryz.ntmps19
  go_wp2_with fail
  clear hc0 hc1 hc2
  generalize ((w.alloc (.cells #[vo, vp, vc] 28)).alloc (.cells #[.slice none 0 0, .slice none 0 0, .slice none 0 0] 28)) = w0 at *
  refine Calls.mono hE ?_
  rintro e1 w1 ⟨v1, rfl, hg1, rfl⟩
  clear hE
  have hc0 := HB.out w1 hg1
  go_wp2_with fail
  refine Calls.mono (inside_ok _ _ _ _) ?_
  rintro _ _ ⟨rfl, rfl⟩
  rw [HIN.out]
  clear hc0
  go_wp2_with fail
  refine Calls.mono (tailOf_ok P hP w1 _ k Any hk (hp0.ext hg1)) ?_
  rintro e9 w9 ⟨v9, rfl, hg9, x9, y9, z9, rfl, hX9⟩
  obtain ⟨a1, n1, c1, hy1⟩ : ∃ a n c, x9 = .slice a n c := by obtain ⟨a, c, e, _⟩ := hX9.p3.o.shape; exact ⟨_, _, _, e⟩
  obtain ⟨a2, n2, c2, hy2⟩ : ∃ a n c, y9 = .slice a n c := by obtain ⟨a, c, e, _⟩ := Sl.shape hX9.p3.p; exact ⟨_, _, _, e⟩
  obtain ⟨a3, n3, c3, hy3⟩ : ∃ a n c, z9 = .slice a n c := by obtain ⟨a, c, e, _⟩ := Sl.shape hX9.p3.c; exact ⟨_, _, _, e⟩
  subst hy1 hy2 hy3
  have hgE : Ext w0 w9 := grown_trans (hg1) hg9
  have hsz : w0.heap.size ≤ w1.heap.size := (hg1).size
  have hz := HRR.out.ext (hgE)
  obtain ⟨k0, k1, k2, k3, k4⟩ := id hz
  have hZ := hz.all (.slice a1 n1 c1) (.slice a2 n2 c2) (.slice a3 n3 c3)
  have hT := grown_set3 w9 (w.heap.size + 1) (.slice a1 n1 c1) (.slice a2 n2 c2) (.slice a3 n3 c3)
  obtain ⟨_, z0, z1, z2, _⟩ := id hZ
  have hend : Ret w (PC (tailP P k) 0) (.returned (.tuple #[.agg #[.slice a1 n1 c1, .slice a2 n2 c2, .slice a3 n3 c3], .int .i64 0])) (((w9.setCell ⟨w.heap.size + 1, 0, none⟩ (.slice a1 n1 c1)).setCell ⟨w.heap.size + 1, 1, none⟩ (.slice a2 n2 c2)).setCell ⟨w.heap.size + 1, 2, none⟩ (.slice a3 n3 c3)) :=
    ⟨_, rfl, grown_own (grown_trans hg0 (hgE)) hT (fun j hj hlt => by cases hj; omega), _, _, _, _, _, _, _, _, _, rfl, hX9.p3.mono (frame_of hT (fun k hk _ => ⟨trivial, fun e => by have := Option.some.inj e; have hk : w1.heap.size ≤ k := hk; omega⟩))⟩
  have HE := Lib.hid hend; clear hend hT hZ
  go_wp2
  refine bodyPost_ret (v := .tuple #[.agg #[.slice a1 n1 c1, .slice a2 n2 c2, .slice a3 n3 c3], .int .i64 0]) (by simp [results, Tryz.results19, go_sem, z0, z1, z2]) rfl ?_
  exact HE.out

end Go.Proofs.YtldheeicjnncoaaGreat
namespace Go.Proofs.YtldheeicjnncoaaGreat
open Go.RowKit

set_option maxRecDepth 100000 in
set_option maxHeartbeats 4000000 in
theorem iNormal_ok (P : Pr) (hr : rconsB P = true) (w : World) (pv uv : Value) (U : List (List Int)) (Sp Su : Nat → Prop) (hpv : PresV Sp w pv P) (hu : Rows2 Su w uv U) (hU : SubB P U) :
    Calls Tryz.prog 18 #[pv, uv] w (Ret w fun _ v => ∃ r : Bool, v = .tuple #[.bool r, .int .i64 0] ∧ (r = true ↔ NormG P (gU P U) U)) := by
  have G := grp_of_r hr
  have hn6 := G.v.n6
  obtain ⟨vo, vp, vc, rfl, h3⟩ := hpv
  have hp0 := PresP.box h3 28
  have hg0 : Ext w (w.alloc (.cells #[vo, vp, vc] 28)) := World.grownBy_alloc _ _ _
  have hs0 : (w.alloc (.cells #[vo, vp, vc] 28)).heap.size = w.heap.size + 1 := by simp
  have hu0 := Rows2.ext hu hg0
  obtain ⟨au, capu, rfl, _, _⟩ := Sl.shape hu
  have hg1 : Ext (w.alloc (.cells #[vo, vp, vc] 28)) ((w.alloc (.cells #[vo, vp, vc] 28)).alloc (.cells #[.slice au U.length capu] 25)) := World.grownBy_alloc _ _ _
  have hl := rows3One hu0
  have hcon := areSubgroups_ok P _ _ _ [U] Any Any (hp0.ext hg1) hl
  rw [hs0] at hcon
  clear hl hu
  have hulU : U.length ≤ P.orders.length := G.sub_len hU
  have HH := Lib.hid (And.intro hr (And.intro hU ((trivial : True)))); clear hr hU
  go_enter Tryz.func18, Tryz.ntmps18
  go_wp2_with fail
  refine Calls.mono hcon ?_
  rintro e1 w1 ⟨v1, rfl, hgA, r1, rfl, hr1⟩
  clear hcon
  obtain rfl : r1 = true := hr1.2 (by have := HH.out; simp only [List.mem_cons, List.mem_nil_iff, or_false]; exact ⟨this.1, fun u hu => by subst hu; exact this.2.1⟩)
  clear hr1
  have hg01 := grown_trans hg1 hgA
  have HS := Lib.hid hs0; clear hs0
  generalize hw0 : (w.alloc (.cells #[vo, vp, vc] 28)) = w0 at *
  clear hw0 hg1 hgA
  have hp1 := hp0.ext hg01
  have hu1 := Rows2.ext hu0 hg01
  have hu2 : Rows2 Su w1 (.slice au U.length capu) (cseq P (gU P U)) := by rw [← HH.out.2.1.2]; exact hu1
  have hcn := isNormal_ok P G w1 _ _ (gU P U) Any Su (G.subB HH.out.2.1) hp1 hu2
  have HC := Lib.hid hcn; clear hcn hu2
  go_wp2_with fail
  refine Calls.mono HC.out ?_
  rintro e2 w2 ⟨v2, rfl, hg2, r, rfl, hri⟩
  have hri : r = true ↔ NormG P (gU P U) U := by rw [hri, ← HH.out.2.1.2]
  have HRI := Lib.hid hri; clear hri HC
  go_wp2
  go_ret2
  exact ⟨_, rfl, grown_trans hg0 (grown_trans hg01 hg2), r, rfl, HRI.out⟩

end Go.Proofs.YtldheeicjnncoaaGreat
namespace Go.Proofs.YtldheeicjnncoaaGreat
open Go.RowKit

/-- a row of integers of the call's own reads as a list -/
theorem ints_of_ownV {E base : Nat} {S : Nat → Prop} {w : World} {v : Value} {l : List Int} (h : OwnV base E w v (l.map (Value.int .i64))) (hl : l.length ≤ 9223372036854775807) (hS : ∀ k, v.ownBlock = some k → S k) : Ints S w v l := by
  rcases h.form with ⟨rfl, hn⟩ | ⟨g, cap, rfl, hc, _, hg⟩
  · have : l = [] := by simpa using hn
    subst this
    exact ⟨none, 0, rfl, ⟨by simp, by simp, fun _ => rfl⟩, fun i hi => by simp at hi⟩
  · rw [List.length_map] at h hc hS ⊢
    refine ⟨_, cap, rfl, ⟨hc, hl, fun h => by cases h⟩, fun i hi => ⟨g, 0, .int .i64 (gt l i), rfl, hS g rfl, hg, ?_, rfl⟩⟩
    rw [Nat.zero_add, h.cell i (by simpa using hi), gt_map _ _ _ hi]

end Go.Proofs.YtldheeicjnncoaaGreat
namespace Go.Proofs.YtldheeicjnncoaaGreat
open Go.RowKit

set_option maxRecDepth 100000 in
set_option maxHeartbeats 1000000 in
theorem indexI_ok (l : List Int) (x : Int) (w : World) (v : Value) (S : Nat → Prop) (hv : Ints S w v l) :
    Calls Tryz.prog 331 #[v, .int .i64 x] w (Ret w fun _ r => ∃ k : Int, r = .int .i64 k ∧ (0 ≤ k ↔ x ∈ l)) := by
  obtain ⟨a, c, rfl, _, _⟩ := hv.shape
  have HV := Lib.hid hv; clear hv
  go_enter Tryz.func331, Tryz.ntmps331
  go_wp2
  go_loopw [8] (fun iv wr => ∃ i : Nat, iv = .int .i64 i ∧ i ≤ l.length ∧ Ext w wr ∧ Hid (∀ j, j < i → gt l j ≠ x)) (fun iv _ => l.length - (intOf iv).toNat)
  case atStart => exact ⟨0, by go_num, by omega, Ext.refl _, Lib.hid (fun j hj => by omega)⟩
  case round =>
    obtain ⟨i, rfl, hi, hg, hN⟩ := hrel
    by_cases hlt : i < l.length
    · have hlt' : (i : Int) < l.length := by omega
      obtain ⟨b, o, hab, _, _, hc⟩ := Ints.at HV.out i hlt
      subst hab
      have hcr := hg.cell hc (by simp)
      by_cases he : gt l i = x
      · have hd : x ∈ l := by rw [← he]; exact gt_mem hlt
        rw [he] at hcr
        have HD := Lib.hid hd; clear hd he hc
        go_wp2
        go_ret
        exact ⟨_, rfl, hg, (i : Int), rfl, ⟨fun _ => HD.out, fun _ => by omega⟩⟩
      · have hne : (x == gt l i) = false := by
          have : ¬ x = gt l i := fun e => he e.symm
          simpa using this
        have hN2 : ∀ j, j < i + 1 → gt l j ≠ x := fun j hj => by
          rcases Nat.lt_succ_iff_lt_or_eq.1 hj with h | h
          · exact hN.out j h
          · rw [h]; exact he
        have HN2 := Lib.hid hN2; clear hN2 he hc hN
        generalize gt l i = y at *
        go_wp2
        clear hne
        go_roundw
        case rel => exact ⟨i + 1, by go_num, by omega, hg, HN2⟩
        case measure => simp [intOf]; omega
    · have hie : i = l.length := by omega
      have hd : ¬ x ∈ l := fun h => by
        obtain ⟨j, hj, e⟩ := mem_gt h
        exact hN.out j (by omega) e
      have hnl : ¬ (i : Int) < l.length := by omega
      have HD := Lib.hid hd; clear hd hie hN
      go_wp2
      go_ret
      exact ⟨_, rfl, hg, -1, rfl, ⟨fun h => by omega, fun h => absurd h HD.out⟩⟩

set_option maxRecDepth 100000 in
set_option maxHeartbeats 1000000 in
theorem containsI_ok (l : List Int) (x : Int) (w : World) (v : Value) (S : Nat → Prop) (hv : Ints S w v l) :
    Calls Tryz.prog 282 #[v, .int .i64 x] w (Ret w fun _ r => r = .bool (decide (x ∈ l))) := by
  have hi := indexI_ok l x w v S hv
  obtain ⟨a, c, rfl, _, _⟩ := hv.shape
  go_enter Tryz.func282, Tryz.ntmps282
  go_wp2_with fail
  refine Calls.mono hi ?_
  rintro e1 w1 ⟨v1, rfl, hg1, k, rfl, hk⟩
  have HK := Lib.hid hk; clear hk hi
  go_wp2
  go_ret
  refine ⟨_, rfl, hg1, ?_⟩
  show Value.bool (decide (0 ≤ k)) = _
  rw [decide_eq_decide.2 HK.out]

/-- the indices as cells -/
def idxV (l : List Nat) : List Value := l.map (fun i : Nat => Value.int .i64 (i : Int))
/-- the free ones of the first k indices -/
def frT (U : List (List Int)) (k : Nat) : List Nat := (List.range k).filter (fun i => !(U.map dep).contains i)
theorem frT_yes {U : List (List Int)} {k : Nat} (h : ¬ k ∈ U.map dep) : frT U (k + 1) = frT U k ++ [k] := by
  unfold frT
  rw [List.range_succ, List.filter_append, List.filter_cons_of_pos (by simpa using h), List.filter_nil]
theorem frT_no {U : List (List Int)} {k : Nat} (h : k ∈ U.map dep) : frT U (k + 1) = frT U k := by
  unfold frT
  rw [List.range_succ, List.filter_append, List.filter_cons_of_neg (by simpa using h), List.filter_nil, List.append_nil]
theorem frT_len (U : List (List Int)) (k : Nat) : (frT U k).length ≤ k := by
  unfold frT; exact Nat.le_trans (List.length_filter_le _ _) (by rw [List.length_range]; exact Nat.le_refl _)
theorem depV_map (U : List (List Int)) : depV U = (U.map (fun z => (dep z : Int))).map (Value.int .i64) := by unfold depV; rw [List.map_map]; rfl
theorem dep_mem {U : List (List Int)} {k : Nat} : ((k : Nat) : Int) ∈ U.map (fun z => (dep z : Int)) ↔ k ∈ U.map dep := by
  rw [List.mem_map, List.mem_map]
  constructor
  · rintro ⟨z, hz, e⟩; exact ⟨z, hz, by omega⟩
  · rintro ⟨z, hz, e⟩; exact ⟨z, hz, by rw [e]⟩

set_option maxRecDepth 100000 in
set_option maxHeartbeats 2000000 in
theorem otherIndices_ok (P : Pr) (hn6 : P.orders.length ≤ 6) (w : World) (p uv : Value) (U : List (List Int)) (Sp Su : Nat → Prop) (hp : PresP Sp w p P) (hu : Rows2 Su w uv U) (hU : ∀ z ∈ U, dep z < z.length) (hul : U.length ≤ 6) :
    Calls Tryz.prog 194 #[p, uv] w (Ret w fun w' r => OwnV w.heap.size 3 w' r (idxV (frI P U))) := by
  obtain ⟨pb, po, rfl⟩ := hp.shape
  have hp0 := hp
  obtain ⟨ao, co, hco, hoi⟩ := hp.ordAt
  obtain ⟨au, capu, rfl, _, _⟩ := Sl.shape hu
  go_enter Tryz.func194, Tryz.ntmps194
  go_wp2_with fail
  refine Calls.mono (pivots_ok _ U w Su hu hU (by omega)) ?_
  rintro e1 w1 ⟨v1, rfl, hg1, hO⟩
  have hdl : (depV U).length ≤ 6 := by unfold depV; rw [List.length_map]; exact hul
  rw [depV_map] at hO hdl
  have hI := ints_of_ownV (S := Any) hO (by rw [List.length_map]; rw [List.length_map] at hdl; omega) (fun _ _ => trivial)
  obtain ⟨dv, hdv⟩ : ∃ dv, dv = U.map (fun z => (dep z : Int)) := ⟨_, rfl⟩
  rw [← hdv] at hI
  obtain ⟨da, dc, rfl, _, _⟩ := hI.shape
  have hIx : ∀ w', Ext w1 w' → Ints Any w' (.slice da dv.length dc) dv := fun w' h => Ints.ext hI h
  have HI := Lib.hid (And.intro hdv hIx); clear hdv hIx hI hO hdl
  have hc1 := hg1.cell hco (by simp)
  obtain ⟨N, hN⟩ : ∃ N, N = P.orders.length := ⟨_, rfl⟩
  rw [← hN] at hn6 hc1
  have HN := Lib.hid hN; clear hN
  obtain ⟨wk, rfl⟩ : ∃ wk : World, wk = w1 := ⟨_, rfl⟩
  go_wp2
  go_loopw [6, 15] (fun ov iv wr => ∃ (k : Nat) (v4 : Value), v4 = ov ∧ iv = .int .i64 k ∧ k ≤ N ∧ Ext wk wr ∧ OwnV wk.heap.size 3 wr v4 (idxV (frT U k))) (fun _ iv _ => N - (intOf iv).toNat)
  case atStart => exact ⟨0, _, rfl, rfl, by omega, Ext.refl _, World.ownsRow_nil _ _ _ _⟩
  case round =>
    obtain ⟨k, v4, rfl, rfl, hk, hg, hO⟩ := hrel
    by_cases hlt : k < N
    · have hlt' : (k : Int) < N := by omega
      have hfl := frT_len U k
      have hvl : (idxV (frT U k)).length ≤ 1000000 := by unfold idxV; rw [List.length_map]; omega
      by_cases hm : k ∈ U.map dep
      · have hst := frT_no hm
        have hd : decide (((k : Nat) : Int) ∈ dv) = true := by rw [HI.out.1]; exact decide_eq_true (dep_mem.2 hm)
        have HS := Lib.hid hst; clear hst hm
        go_wp2_with fail
        refine Calls.mono (containsI_ok dv (k : Int) wr _ Any (HI.out.2 wr hg)) ?_
        rintro e2 w2 ⟨v2, rfl, hg2, rfl⟩
        rw [hd]; clear hd
        have hO2 := World.ownsRow.kept hO hg2 (by cases hv : v4.ownBlock <;> simp)
        have hgn := grown_trans hg hg2
        go_wp2
        go_roundw
        case rel => exact ⟨k + 1, v4, rfl, by go_num, by omega, hgn, by rw [HS.out]; exact hO2⟩
        case measure => simp [intOf]; omega
      · have hst : idxV (frT U (k + 1)) = idxV (frT U k) ++ [.int .i64 (k : Int)] := by rw [frT_yes hm]; unfold idxV; rw [List.map_append]; rfl
        have hd : decide (((k : Nat) : Int) ∈ dv) = false := by rw [HI.out.1]; exact decide_eq_false (fun h => hm (dep_mem.1 h))
        have HS := Lib.hid hst; clear hst hm
        go_wp2_with fail
        refine Calls.mono (containsI_ok dv (k : Int) wr _ Any (HI.out.2 wr hg)) ?_
        rintro e2 w2 ⟨v2, rfl, hg2, rfl⟩
        rw [hd]; clear hd
        have hO2 := World.ownsRow.kept hO hg2 (by cases hv : v4.ownBlock <;> simp)
        have hgn := grown_trans hg hg2
        go_wp2_with (first | (at_builtin; refine wp_app_val 170 3 (.int .i64 0) 8 und_intsG Tryz.infoIntG rfl (by decide) rfl _ _ rfl wk.heap.size v4 _ (idxV (frT U k)) rfl w2 hO2 rfl rfl rfl hvl hgn.size ?_; intro v5 w5 hO5 hg5) | fail)
        have hg6 : Ext wk w5 := grown_own hgn hg5 (fun j hj hlt => by have := (hO2.lt j hj).1; omega)
        go_roundw
        case rel => exact ⟨k + 1, v5, rfl, by go_num, by omega, hg6, by rw [HS.out]; exact hO5⟩
        case measure => simp [intOf]; omega
    · have hke : k = N := by omega
      subst hke
      have he : frT U k = frI P U := by unfold frT frI; rw [HN.out]
      have hfl := frT_len U k
      have hsh : ∃ az capz, v4 = .slice az (frT U k).length capz := by
        rcases hO.form with ⟨h1, h2⟩ | ⟨g, cp, h1, _⟩
        · have h3 : (frT U k).length = 0 := by unfold idxV at h2; rw [List.map_eq_nil_iff] at h2; rw [h2]; rfl
          exact ⟨none, 0, by rw [h1, h3]⟩
        · exact ⟨_, _, by rw [h1]; unfold idxV; rw [List.length_map]⟩
      obtain ⟨az, capz, rfl⟩ := hsh
      have hgw := grown_trans hg1 hg
      have hfin : OwnV w.heap.size 3 wr (.slice az (frT U k).length capz) (idxV (frI P U)) := by rw [← he]; exact hO.weak hg1.size
      have HF := Lib.hid hfin; clear hfin he hO
      go_wp2
      go_ret
      exact ⟨_, rfl, hgw, HF.out⟩

end Go.Proofs.YtldheeicjnncoaaGreat
namespace Go.Proofs.YtldheeicjnncoaaGreat
open Go.RowKit

theorem sub_dep {P : Pr} (G : Grp P) {U : List (List Int)} (hU : SubB P U) : SeqOk P U ∧ U.length ≤ 6 ∧ ∀ z ∈ U, dep z < z.length := by
  have h1 := (G.seq_facts (G.subB hU)).1
  rw [← hU.2] at h1
  have h2 := G.sub_len hU
  have h3 := G.v.n6
  exact ⟨h1, by omega, fun z hz => by have := h1.1 z hz; rw [this.1.1]; exact this.2.1⟩
theorem fr_len (P : Pr) (U : List (List Int)) : (frI P U).length ≤ P.orders.length := by
  have := frT_len U P.orders.length
  have e : frT U P.orders.length = frI P U := rfl
  rw [e] at this; exact this
theorem idx_ints {B : Nat} {w : World} {v : Value} {l : List Nat} (h : OwnV B 3 w v (idxV l)) (hl : l.length ≤ 100000) : ∃ a c, v = .slice a l.length c ∧ Ints (From B) w (.slice a l.length c) (l.map (fun i : Nat => (i : Int))) := by
  have e : idxV l = (l.map (fun i : Nat => (i : Int))).map (Value.int .i64) := by unfold idxV; rw [List.map_map]; rfl
  have hI : Ints (From B) w v (l.map (fun i : Nat => (i : Int))) := by
    rw [e] at h
    exact ints_of_ownV h (by rw [List.length_map]; omega) (fun k hk => (h.lt k hk).1)
  obtain ⟨a, c, hv, _, _⟩ := hI.shape
  rw [List.length_map] at hv
  subst hv
  exact ⟨a, c, rfl, hI⟩

set_option maxRecDepth 100000 in
set_option maxHeartbeats 4000000 in
theorem project_ok (P : Pr) (hr : rconsB P = true) (w : World) (p uv xv : Value) (U : List (List Int)) (X : List Int) (Sp Su Sx : Nat → Prop) (hp : PresP Sp w p P) (hu : Rows2 Su w uv U) (hU : SubB P U) (hx : Ints Sx w xv X) (hX : Vec P.orders X) :
    Calls Tryz.prog 129 #[p, uv, xv] w (Ret w fun w' v => Own w.heap.size w' v (prjV P U X)) := by
  have G := grp_of_r hr
  have hn6 := G.v.n6
  obtain ⟨hS, hul, hUz⟩ := sub_dep G hU
  have hfl := fr_len P U
  obtain ⟨pb, po, rfl⟩ := hp.shape
  obtain ⟨au, capu, rfl, _, _⟩ := Sl.shape hu
  obtain ⟨ax, capx, rfl, _, _⟩ := hx.shape
  have HU := Lib.hid (And.intro hU (And.intro hUz hX)); clear hU hUz hX
  go_enter Tryz.func129, Tryz.ntmps129
  go_wp2_with fail
  refine Calls.mono (representative_ok P G w _ _ _ U X Sp Su Sx hp hu hS (by omega) hx HU.out.2.2) ?_
  rintro e1 w1 ⟨v1, rfl, hg1, Y, hO, hR⟩
  have hYe : crV P U X = Y := by
    have e : cseq P (gU P U) = U := HU.out.1.2.symm
    exact cr_ok ⟨⟨hr, HU.out.1⟩, HU.out.2.2⟩ (G.rep_of_to HU.out.1 (by rw [e]; exact hR))
  have hYl : Y.length = P.orders.length := hR.vec.1
  have hYi := hO.ints (by omega)
  obtain ⟨ay, cy, rfl, _, _⟩ := hYi.shape
  have HY := Lib.hid (And.intro hYe (And.intro hYl hYi)); clear hYe hYi hO hR hS
  have hgl : Ext w1 (w1.alloc (.cells #[] 2)) := World.grownBy_alloc _ _ _
  have hol : Own w1.heap.size (w1.alloc (.cells #[] 2)) (.slice (some ⟨w1.heap.size, 0, none⟩) 0 0) [] := World.ownsRow_lit w1 #[] 0 (Nat.le_refl _) (by decide) rfl
  have hg1l := grown_trans hg1 hgl
  go_wp2_with fail
  generalize w1.alloc (.cells #[] 2) = w2 at *
  refine Calls.mono (otherIndices_ok P hn6 w2 _ _ U Sp Su (hp.ext hg1l) (Rows2.ext hu hg1l) HU.out.2.1 hul) ?_
  rintro e3 w3 ⟨iv, rfl, hg3, hV3⟩
  obtain ⟨ai, ci, rfl, hI⟩ := idx_ints hV3 (by omega)
  obtain ⟨m, hm⟩ : ∃ m, m = (frI P U).length := ⟨_, rfl⟩
  have hol3 : Own w.heap.size w3 (.slice (some ⟨w1.heap.size, 0, none⟩) 0 0) [] := (hol.ext0 hg3).weak hg1.size
  have hgw3 := grown_trans hg1l hg3
  have hs1 := hg1.size
  have hs2 : w1.heap.size + 1 ≤ w2.heap.size := by have := hol.lt w1.heap.size rfl; omega
  have hs3 := hg3.size
  have hYi3 := Ints.ext HY.out.2.2 (grown_trans hgl hg3)
  have hYb : Ints (fun k => k < w1.heap.size) w3 (.slice ay Y.length cy) Y := Ints.sub (Ints.mono (Ints.sub HY.out.2.2 (fun k _ hlt => hlt)) (fun k hk hlt => ⟨hk, Nat.lt_of_lt_of_le hlt (grown_trans hgl hg3).size, (grown_trans hgl hg3).block k hlt (by simp)⟩)) (fun k hk _ => hk)
  obtain ⟨lb, hlb⟩ : ∃ lb, lb = w1.heap.size := ⟨_, rfl⟩
  have HI := Lib.hid (And.intro hI (And.intro hm hYb)); clear hI hYi3 hYb hV3 hol
  rw [← hlb] at hol3 HI hs1 hs2
  have HLB := Lib.hid hlb; clear hlb
  rw [← hm] at hfl ⊢
  clear hm hgl hg1l hg3 hg1
  go_wp2
  go_loopw [8, 20] (fun ov kv wr => ∃ (k : Nat) (v8 : Value), v8 = ov ∧ kv = .int .i64 (k : Int) ∧ k ≤ m ∧ w3.grownBy wr (some lb) ∧ (∀ b, v8.ownBlock = some b → b = lb ∨ w3.heap.size ≤ b) ∧ Own w.heap.size wr v8 ((prjV P U X).take k)) (fun _ kv _ => m - (intOf kv).toNat)
  case atStart => exact ⟨0, _, rfl, rfl, by omega, grown_refl _ _, fun b hb => (.inl ((Option.some.inj hb).symm.trans HLB.out.symm)), by have h := hol3; rw [HLB.out] at h; exact h⟩
  case round =>
    clear hol3
    obtain ⟨k, v8, rfl, rfl, hk, hg, hbv, hO⟩ := hrel
    have hgwE : Ext w wr := grown_own hgw3 hg (fun j hj hlt => by have := Option.some.inj hj; omega)
    have hpl : (prjV P U X).length = m := by unfold prjV; rw [List.length_map, HI.out.2.1]
    by_cases hlt : k < m
    · have hlt' : (k : Int) < m := by omega
      have hkl : k < (frI P U).length := by rw [← HI.out.2.1]; exact hlt
      obtain ⟨bi, oi, hai, _, _, hci⟩ := Ints.at (Ints.mono HI.out.1 (frame_of hg (fun k hk _ => ⟨hk, fun e => by have := Option.some.inj e; have hk : w2.heap.size ≤ k := hk; omega⟩))) k (by rw [List.length_map]; exact hkl)
      subst hai
      rw [gt_map _ _ _ hkl] at hci
      have hst : (prjV P U X).take (k + 1) = (prjV P U X).take k ++ [gt Y (gt (frI P U) k)] := by
        rw [take_succ_gt _ k (by rw [hpl]; exact hlt), gt_prj hkl, HY.out.1]
      have hfi := (fr_at hkl).1
      obtain ⟨i, hi⟩ : ∃ i, i = gt (frI P U) k := ⟨_, rfl⟩
      rw [← hi] at hci hst hfi
      have hiY : i < Y.length := by rw [HY.out.2.1]; exact hfi
      obtain ⟨by_, oy, hay, _, _, hcy⟩ := Ints.at (Ints.mono HI.out.2.2 (frame_of hg (fun k hk _ => ⟨hk, fun e => by have := Option.some.inj e; have hk : k < lb := hk; omega⟩))) i hiY
      subst hay
      have hiY' : (i : Int) < Y.length := by omega
      have htl : ((prjV P U X).take k).length ≤ 1000000 := by rw [List.length_take]; omega
      have hsz : w.heap.size ≤ wr.heap.size := by have := hgw3.size; have := hg.size; omega
      obtain ⟨c, hc⟩ : ∃ c, c = gt Y i := ⟨_, rfl⟩
      rw [← hc] at hst hcy
      have HS := Lib.hid (And.intro hst (And.intro htl hsz)); clear hst htl hsz hpl hi hkl hc hfi hiY
      go_wp2_with (first | (at_builtin; refine wp_app_intb rfl _ _ rfl w.heap.size v8 _ c rfl wr hO rfl rfl HS.out.2.1 HS.out.2.2 ?_; intro v9 w9 hO9 hg9 hb9) | fail)
      have hgn : w3.grownBy w9 (some lb) := by
        rcases hv8 : v8.ownBlock with _ | b
        · rw [hv8] at hg9; exact grown_own hg hg9 (fun j hj hlt => by cases hj)
        · rw [hv8] at hg9
          rcases hbv b hv8 with e | e
          · rw [e] at hg9; exact grown_trans hg hg9
          · exact grown_own hg hg9 (fun j hj hlt => by have := Option.some.inj hj; omega)
      have hbn : ∀ b, v9.ownBlock = some b → b = lb ∨ w3.heap.size ≤ b := fun b hb => by
        rcases hb9 with e | e
        · rw [e] at hb; exact hbv b hb
        · exact .inr (Nat.le_trans hg.size (e b hb))
      go_roundw
      case rel => exact ⟨k + 1, v9, rfl, by go_num, by omega, hgn, hbn, by rw [HS.out.1]; exact hO9⟩
      case measure => simp [intOf]; omega
    · have hke : k = m := by omega
      have he : (prjV P U X).take k = prjV P U X := List.take_of_length_le (by omega)
      rw [he] at hO
      go_wp2
      go_ret
      exact ⟨_, rfl, hgwE, hO⟩

end Go.Proofs.YtldheeicjnncoaaGreat
