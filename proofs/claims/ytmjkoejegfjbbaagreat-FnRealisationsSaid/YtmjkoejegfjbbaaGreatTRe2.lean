/-
  spec.l07Relators.
  Bijections, the reference's side: IsBijection, l11After, l11Back, l11Self, l11Eval, l11Sized, l11Reach, l11Is, IsRealisation.
  Drawing: spec.l11Make, l11Draw: lists of numbers, mostly bijections.
  The regular realisation of a group: spec.l11Regular.
  Drawing: spec.DrawIsRealisation.
  impl.IsRealisation.
  Bijections, the reference's side: l11Eval, l11Sized, l11Reach.
  spec.l11Is, IsRealisation.
  Drawing: laws.big, spec.DrawProductSize.
  laws.FnRealisations answers true.
  The rows' arguments: how a presentation that came in, or a list, reads in this claim's words.
  Opening the argument of a row over bytes.
-/
import Derived.Test.YtmjkoejegfjbbaaGreatTRe1
import Derived.Laws.BitsAllLaws
import Derived.Sort.OwnSortedInts
import Derived.Deep.RegionHeld3
import Derived.Deep.CutBlock
import Derived.Carry
import Derived.Deep.Slices
import Derived.ChangeSame
import Derived.ChangeSlices
import Derived.JoinedOf
import Derived.JoinedAt
import Derived.JoinedCond
import Derived.ReadAgain
namespace Go.Proofs.YtmjkoejegfjbbaaGreat
open Go.RowKit
set_option maxRecDepth 100000 in
set_option maxHeartbeats 4000000 in
theorem l07Relators_ok (P : Pr) (hP : Valid P) (w : World) (pv : Value) (Sp : Nat → Prop) (hpv : PresV Sp w pv P) :
  Calls Tryz.prog 138 #[pv] w (Ret w fun w' v => RowsO w.heap.size w' v (relsP P)) := by
 have hn6 := hP.n6
 have hpl : P.powers.length ≤ P.orders.length ∧ P.orders.length ≤ P.powers.length := by have := hP.pl; omega
 have hcl : P.conj.length ≤ P.orders.length ∧ P.orders.length ≤ P.conj.length := by have := hP.cl; omega
 obtain ⟨vo, vp, vc, rfl, h3⟩ := hpv
 obtain ⟨ao, capo, rfl, _, _⟩ := h3.o.shape
 obtain ⟨ap, capp, rfl, _, _⟩ := Sl.shape h3.p
 obtain ⟨ac, capc, rfl, _, _⟩ := Sl.shape h3.c
 have hg0 : Ext w (w.alloc (.cells #[.slice ao P.orders.length capo, .slice ap P.powers.length capp, .slice ac P.conj.length capc] 39)) := World.grownBy_alloc _ _ _
 have hs0 : (w.alloc (.cells #[.slice ao P.orders.length capo, .slice ap P.powers.length capp, .slice ac P.conj.length capc] 39)).heap.size = w.heap.size + 1 := by simp
 have h30 := h3.ext hg0
 obtain ⟨_, hco, hcp, hcc, _⟩ := Box3.made w 39 (.slice ao P.orders.length capo) (.slice ap P.powers.length capp) (.slice ac P.conj.length capc)
 have hoi := h30.o
 have hpi := h30.p
 have hci := h30.c
 have HO := Lib.hid hP.ord7
 go_enter Tryz.func138, Tryz.ntmps138
 go_wp2
 have HS := Lib.hid hs0; clear hs0
 generalize hw0 : w.alloc (.cells #[.slice ao P.orders.length capo, .slice ap P.powers.length capp, .slice ac P.conj.length capc] 39) = w0 at *
 clear hw0
 have hga : Ext w0 (w0.alloc (.cells #[] 36)) := World.grownBy_alloc _ _ _
 go_loopw [3, 5] (fun ov iv wr => ∃ (i : Nat) (v4 : Value), v4 = ov ∧ iv = .int .i64 i ∧ i ≤ P.orders.length ∧ Ext w0 wr ∧ RowsO w0.heap.size wr v4 (relPs P i)) (fun _ iv _ => P.orders.length - (intOf iv).toNat)
 case atStart => exact ⟨0, _, rfl, rfl, by omega, hga, [], fun _ _ => False, rfl, by rw [← HS.out]; exact World.ownsRow_lit w0 #[] 0 (Nat.le_refl _) (by decide) rfl, by simp, by simp, by simp [relPs]⟩
 case round =>
  clear hga
  obtain ⟨i, v4, rfl, rfl, hi, hg, hO⟩ := hrel
  have hrl := relPs_len P i
  obtain ⟨R, hR⟩ : ∃ R, R = relPs P i := ⟨_, rfl⟩
  rw [← hR] at hO hrl
  have hRl := Lib.hid hrl; clear hrl
  by_cases hlt : i < P.orders.length
  ·have hlt' : (i : Int) < P.orders.length := by omega
   obtain ⟨b, off, rfl, _, _, hc⟩ := Ints.at hoi i hlt
   obtain ⟨x, hx⟩ : ∃ x, x = (gt P.orders i).toNat := ⟨_, rfl⟩
   have hx0 := HO.out i hlt
   have hxe : gt P.orders i = (x : Int) := by omega
   have hx7 : 1 ≤ x ∧ x ≤ 1000 := by omega
   rw [hxe] at hc
   have hrel : relPow P i = List.replicate x ((i : Int) + 1) ++ invWord (nWord (gt P.powers i) P.orders.length) := by rw [hx]; rfl
   have hrl2 := relPow_len hP hlt
   have hvw := vec_word hP (hP.pv i hlt).1
   have hvl : (gt P.powers i).length ≤ 6 := by rw [(hP.pv i hlt).1.1]; exact hn6
   have hnx : relPs P (i + 1) = R ++ [relPow P i] := by rw [hR]; rfl
   have HX := Lib.hid (And.intro hrel (And.intro hrl2 (And.intro hvw (And.intro hnx hvl)))); clear hrel hrl2 hvw hnx hx0 hx hxe hR hvl
   have hi1 : (i : Int) < P.powers.length := by omega
   obtain ⟨bp, op, a2, cap2, rfl, _, _, hcpi, hrp⟩ := Rows2.at hpi i (by omega)
   have hwi : IntKind.i64.wrap ((i : Int) + 1) = (i : Int) + 1 := IntWalk.i64_in _ (by omega)
   go_wp2
   obtain ⟨wo, rfl⟩ : ∃ wo : World, wo = wr := ⟨_, rfl⟩
   have hgl : Ext wo (wo.alloc (.cells #[] 2)) := World.grownBy_alloc _ _ _
   go_loopw [6, 7] (fun ov kv wr => ∃ (k : Nat) (v6 : Value), v6 = ov ∧ kv = .int .i64 k ∧ k ≤ x ∧ Ext wo wr ∧ Own wo.heap.size wr v6 (List.replicate k ((i : Int) + 1))) (fun _ kv _ => x - (intOf kv).toNat)
   case atStart => exact ⟨0, _, rfl, rfl, by omega, hgl, World.ownsRow_lit wo #[] 0 (Nat.le_refl _) (by decide) rfl⟩
   case round =>
    clear hgl
    obtain ⟨k, v6, rfl, rfl, hk, hgk, hOk⟩ := hrel
    have hgw := grown_trans hg hgk
    have hb0 := hgw.cell hco (by simp)
    have hbc := hgw.cell hc (by simp)
    by_cases hltk : k < x
    ·have hltk' : (k : Int) < x := by omega
     have hlen : (List.replicate k ((i : Int) + 1)).length ≤ 1000 := by rw [List.length_replicate]; omega
     have HL := Lib.hid hlen; clear hlen
     go_wp2_with (first | (at_builtin; refine wp_app_ints rfl _ _ rfl wo.heap.size v6 _ rfl (hOk.ext0 (World.grownBy_alloc _ _ _)) _ _ rfl Any (ints_lit wr _) (by have := HL.out; simp only [List.length_cons, List.length_nil]; omega) (by have := hgk.size; simp; omega) ?_; intro v5 w5 hO5 hg5 _) | fail)
     have hg5' : wr.grownBy w5 v6.ownBlock := grown_trans (grown_of_ext _ (World.grownBy_alloc _ _ _)) hg5
     have hge : Ext wo w5 := grown_own hgk hg5' (fun b hb hlt => by have := (hOk.lt b hb).1; omega)
     rw [← List.replicate_succ'] at hO5
     clear hOk hg5 hg5' hb0 hbc
     go_roundw
     case rel => exact ⟨k + 1, v5, rfl, by go_num, by omega, hge, hO5⟩
     case measure => simp [intOf]; omega
    ·have hke : k = x := by omega
     subst hke
     have hb1 := hgw.cell hcp (by simp)
     have hbp := hgw.cell hcpi (by simp)
     go_wp2_with fail
     refine Calls.mono (l07Word_ok wr _ (gt P.powers i) Any (Ints.sub (Ints.ext hrp hgw) (fun _ _ _ => trivial)) HX.out.2.2.2.2 HX.out.2.2.1.1) ?_
     rintro eN wN ⟨vN, rfl, hgN, hON⟩
     rw [HX.out.2.2.1.2.1] at hON
     have hNi := hON.ints (by have := HX.out.2.2.1.2.2.1; omega)
     go_wp2_with fail
     refine Calls.mono (l06Invert_ok wN _ (nWord (gt P.powers i) P.orders.length) Any (Ints.sub hNi (fun _ _ _ => trivial)) (by have := HX.out.2.2.1.2.2.1; omega) HX.out.2.2.1.2.2.2) ?_
     rintro eI wI ⟨vI, rfl, hgI, hOI⟩
     have hIi := hOI.ints (by rw [invWord_len]; have := HX.out.2.2.1.2.2.1; omega)
     have hgNI := grown_trans hgN hgI
     have hOl2 := hOk.ext0 hgNI
     have hgwI := grown_trans hgk hgNI
     clear hON hNi hOI hgN hgI hOk hgk hb0 hbc hb1 hbp
     go_wp2_with (first | (at_builtin; refine wp_app_ints rfl _ _ rfl wo.heap.size _ _ rfl hOl2 _ _ rfl _ hIi (by rw [invWord_len, List.length_replicate]; have := HX.out.2.2.1.2.2.1; omega) hgwI.size ?_; intro vL wL hOL hgL _; rw [← HX.out.1] at hOL; have hgwL : Ext wo wL := grown_own hgwI hgL (fun j hj hlt => by have := (hOl2.lt j hj).1; omega); have hYO : OwnIn (From wo.heap.size) wL vL (relPow P i) := OwnIn.of hOL (by have := HX.out.2.1; omega) (fun j h1 _ => h1); obtain ⟨aL, cL, hvL, _, _⟩ := hYO.ints.shape; subst hvL; clear hOL hOl2 hIi hgL hgwI) | (at_builtin; refine wp_app_row rfl _ _ rfl w0.heap.size wo wL _ _ R (relPow P i) rfl hO hgwL hYO rfl rfl (by have := hRl.out; omega) hg.size ?_; intro v5 w5 hO5 hg5 hg5b) | fail)
     have hgw5 : Ext w0 w5 := grown_own hg hg5 (fun j hj hlt => by have := (hO.lt j hj).1; omega)
     rw [← HX.out.2.2.2.1] at hO5
     clear hO hYO hg5 hg5b hgwL
     go_roundw
     case rel => exact ⟨i + 1, v5, rfl, by go_num, by omega, hgw5, hO5⟩
     case measure => simp [intOf]; omega
  ·have hie : i = P.orders.length := by omega
   subst hie
   have hOT : RowsO w0.heap.size wr v4 (relTo P 0) := by rw [hR] at hO; exact hO
   clear hO hR
   go_wp2
   go_loopw [3, 8] (fun ov iv wr => ∃ (i : Nat) (v4 : Value), v4 = ov ∧ iv = .int .i64 i ∧ i ≤ P.orders.length ∧ Ext w0 wr ∧ RowsO w0.heap.size wr v4 (relTo P i)) (fun _ iv _ => P.orders.length - (intOf iv).toNat)
   case atStart => exact ⟨0, _, rfl, rfl, by omega, hg, hOT⟩
   case round =>
    clear hOT hg
    obtain ⟨i, v4, rfl, rfl, hi, hg, hO⟩ := hrel
    have hrl := relTo_len hP i hi
    by_cases hlt : i < P.orders.length
    ·have hlt' : (i : Int) < P.orders.length := by omega
     have hic : (i : Int) < P.conj.length := by omega
     obtain ⟨bc, oc, a2, cap2, rfl, _, _, hcc0, hrc⟩ := Rows3.at hci i (by omega)
     have hcv := hP.cv i hlt
     have hO0 : RowsO w0.heap.size wr v4 (relTo P i ++ relCs P i 0) := by rw [relCs, List.append_nil]; exact hO
     have HCV := Lib.hid hcv; clear hcv hO
     go_wp2
     go_loopw [3, 9] (fun ov jv wr => ∃ (k : Nat) (v4 : Value), v4 = ov ∧ jv = .int .i64 ((i : Int) + 1 + k) ∧ k ≤ P.orders.length - 1 - i ∧ Ext w0 wr ∧ RowsO w0.heap.size wr v4 (relTo P i ++ relCs P i k)) (fun _ jv _ => P.orders.length - (intOf jv).toNat)
     case atStart => exact ⟨0, _, rfl, by go_num, by omega, hg, hO0⟩
     case round =>
      clear hO0 hg
      obtain ⟨k, v4, rfl, rfl, hk, hg, hO⟩ := hrel
      have hlen := HCV.out.1
      have hLL : (relTo P i ++ relCs P i k).length ≤ 100 := by rw [List.length_append, relCs_len]; omega
      obtain ⟨R, hR⟩ : ∃ R, R = relTo P i ++ relCs P i k := ⟨_, rfl⟩
      rw [← hR] at hO hLL
      by_cases hltk : i + 1 + k < P.orders.length
      ·have hltk' : (i : Int) + 1 + k < P.orders.length := by omega
       have hkc : (k : Int) < (gt P.conj i).length := by omega
       obtain ⟨bk, ok, a3, cap3, rfl, _, _, hck0, hrk0⟩ := Rows2.at hrc k (by omega)
       have hgl : Ext wr (wr.alloc (.cells #[.int .i64 (-((i : Int) + 1)), .int .i64 ((i : Int) + k + 2), .int .i64 ((i : Int) + 1)] 2)) := World.grownBy_alloc _ _ _
       have hgwl := grown_trans hg hgl
       have hck := hgwl.cell hck0 (by simp)
       have hcc' := hgwl.cell hcc (by simp)
       have hcci := hgwl.cell hcc0 (by simp)
       have hvk := (HCV.out.2 k (by omega)).1
       have hvw := vec_word hP hvk
       have hrl2 := relCon_len hP (k := k) hlt (by omega)
       have hnx : relTo P i ++ relCs P i (k + 1) = R ++ [relCon P i k] := by rw [hR, relCs, List.append_assoc]
       have hvl : (gt (gt P.conj i) k).length ≤ 6 := by rw [hvk.1]; exact hn6
       have HX := Lib.hid (And.intro hvw (And.intro hrl2 (And.intro hnx (And.intro hLL hvl)))); clear hvw hrl2 hnx hvk hR hlen hLL hvl
       have hw1 : IntKind.i64.wrap ((i : Int) + 1) = (i : Int) + 1 := IntWalk.i64_in _ (by omega)
       have hw2 : IntKind.i64.wrap ((i : Int) + 1 + k + 1) = (i : Int) + k + 2 := by rw [show (i : Int) + 1 + k + 1 = (i : Int) + k + 2 by omega]; exact IntWalk.i64_in _ (by omega)
       have hw3 : IntKind.i64.wrap (-(i : Int)) = -(i : Int) := IntWalk.i64_in _ (by omega)
       have hw4 : IntKind.i64.wrap (-(i : Int) - 1) = -((i : Int) + 1) := by rw [show -(i : Int) - 1 = -((i : Int) + 1) by omega]; exact IntWalk.i64_in _ (by omega)
       have hw5 : IntKind.i64.wrap ((i : Int) + 1 + k - i) = (k : Int) + 1 := by rw [show (i : Int) + 1 + k - i = (k : Int) + 1 by omega]; exact IntWalk.i64_in _ (by omega)
       have hw6 : IntKind.i64.wrap ((k : Int) + 1 - 1) = (k : Int) := by rw [show (k : Int) + 1 - 1 = (k : Int) by omega]; exact IntWalk.i64_in _ (by omega)
       have hOl : Own wr.heap.size (wr.alloc (.cells #[.int .i64 (-((i : Int) + 1)), .int .i64 ((i : Int) + k + 2), .int .i64 ((i : Int) + 1)] 2)) (.slice (some ⟨wr.heap.size, 0, none⟩) 3 3) [-((i : Int) + 1), (i : Int) + k + 2, (i : Int) + 1] := World.ownsRow_lit wr #[.int .i64 (-((i : Int) + 1)), .int .i64 ((i : Int) + k + 2), .int .i64 ((i : Int) + 1)] 3 (Nat.le_refl _) (by decide) rfl
       go_wp2_with fail
       generalize hwl : wr.alloc (.cells #[.int .i64 (-((i : Int) + 1)), .int .i64 ((i : Int) + k + 2), .int .i64 ((i : Int) + 1)] 2) = wl at *
       clear hwl hw1 hw2 hw3 hw4 hw5 hw6 hck hck0 hcc' hcci
       refine Calls.mono (l07Word_ok wl _ (gt (gt P.conj i) k) Any (Ints.sub (Ints.ext hrk0 hgwl) (fun _ _ _ => trivial)) HX.out.2.2.2.2 HX.out.1.1) ?_
       rintro eN wN ⟨vN, rfl, hgN, hON⟩
       rw [HX.out.1.2.1] at hON
       have hNi := hON.ints (by have := HX.out.1.2.2.1; omega)
       go_wp2_with fail
       refine Calls.mono (l06Invert_ok wN _ (nWord (gt (gt P.conj i) k) P.orders.length) Any (Ints.sub hNi (fun _ _ _ => trivial)) (by have := HX.out.1.2.2.1; omega) HX.out.1.2.2.2) ?_
       rintro eI wI ⟨vI, rfl, hgI, hOI⟩
       have hIi := hOI.ints (by rw [invWord_len]; have := HX.out.1.2.2.1; omega)
       have hgNI := grown_trans hgN hgI
       have hOl2 := hOl.ext0 hgNI
       have hgwI := grown_trans hgl hgNI
       clear hON hNi hOI hgN hgI hOl hgl hgwl
       go_wp2_with (first | (at_builtin; refine wp_app_ints rfl _ _ rfl wr.heap.size _ _ rfl hOl2 _ _ rfl _ hIi (by rw [invWord_len]; have := HX.out.1.2.2.1; simp only [List.length_cons, List.length_nil]; omega) hgwI.size ?_; intro vL wL hOL hgL _; have hgwL : Ext wr wL := grown_own hgwI hgL (fun j hj hlt => by have := own_blk hj; omega); have hYO : OwnIn (From wr.heap.size) wL vL (relCon P i k) := OwnIn.of (l := relCon P i k) hOL (by have := HX.out.2.1; omega) (fun j h1 _ => h1); obtain ⟨aL, cL, hvL, _, _⟩ := hYO.ints.shape; subst hvL; clear hOL hOl2 hIi hgL hgwI) | (at_builtin; refine wp_app_row rfl _ _ rfl w0.heap.size wr wL _ _ R (relCon P i k) rfl hO hgwL hYO rfl rfl (by have := HX.out.2.2.2.1; omega) hg.size ?_; intro v5 w5 hO5 hg5 hg5b) | fail)
       have hgw5 : Ext w0 w5 := grown_own hg hg5 (fun j hj hlt => by have := (hO.lt j hj).1; omega)
       rw [← HX.out.2.2.1] at hO5
       clear hO hYO hg5 hg5b hgwL
       go_roundw
       case rel => exact ⟨k + 1, v5, rfl, by go_num, by omega, hgw5, hO5⟩
       case measure => simp [intOf]; omega
      ·have hke : k = P.orders.length - 1 - i := by omega
       have hOn : RowsO w0.heap.size wr v4 (relTo P (i + 1)) := by rw [relTo, hlen, ← hke, ← hR]; exact hO
       have hgt : ¬ (i : Int) + 1 + k < P.orders.length := by omega
       clear hO hR hlen hLL
       go_wp2
       go_roundw
       case rel => exact ⟨i + 1, _, rfl, by go_num, by omega, hg, hOn⟩
       case measure => simp [intOf]; omega
    ·have hie : i = P.orders.length := by omega
     subst hie
     have hfin : RowsO w.heap.size wr v4 (relsP P) := hO.weak (by have := HS.out; omega)
     clear hO
     go_wp2
     go_ret
     exact ⟨_, rfl, grown_trans hg0 hg, hfin⟩
end Go.Proofs.YtmjkoejegfjbbaaGreat
namespace Go.Proofs.YtmjkoejegfjbbaaGreat
open Go.RowKit
open Classical in
set_option maxRecDepth 100000 in
set_option maxHeartbeats 4000000 in
theorem sIsBijection_ok (a : List Int) (hl : a.length ≤ 128) (w : World) (v : Value) (S : Nat → Prop) (hv : Ints S w v a) :
  Calls Tryz.prog 367 #[v] w (Ret w fun _ r => r = .bool (decide (BijL a.length a))) := by
 obtain ⟨av, cap, rfl, _, _⟩ := hv.shape
 obtain ⟨N, hN⟩ : ∃ N, N = a.length := ⟨_, rfl⟩
 have hN2 : N ≤ 128 := by omega
 have HV := Lib.hid (And.intro hv hN); clear hv hl
 rw [← hN]
 clear hN
 have hnb : ¬ (128 : Int) < (N : Int) := by omega
 go_enter Tryz.func367, Tryz.ntmps367
 go_wp2_with (at_make; refine wp_make_bools rfl _ _ rfl w.heap.size N w.heap.size rfl (N : Int) rfl rfl (by omega) (by omega) (Nat.le_refl _) ?_; intro w1 hM1 hg1 hlt1)
 clear hnb
 have hM1 : BOwn w.heap.size w1 (.slice (some ⟨w.heap.size, 0, none⟩) N N) (List.replicate N false) := hM1
 go_loopw [4] (fun iv wr => ∃ (k : Nat) (l : List Bool), iv = .int .i64 (k : Int) ∧ k ≤ N ∧ Ext w wr ∧ BOwn w.heap.size wr (.slice (some ⟨w.heap.size, 0, none⟩) N N) l ∧ Hid (SeenB a k l)) (fun iv _ => N - (intOf iv).toNat)
 case atStart => exact ⟨0, _, rfl, by omega, hg1, hM1, Lib.hid (by rw [HV.out.2]; exact SeenB.zero a)⟩
 case round =>
  clear hM1
  obtain ⟨k, l, rfl, hk, hg, hO, hS⟩ := hrel
  by_cases hlt : k < N
  ·have hlt' : (k : Int) < N := by omega
   have hka : k < a.length := by rw [← HV.out.2]; exact hlt
   obtain ⟨b, off, hab, _, _, hc⟩ := Ints.at (HV.out.1.ext hg) k hka
   subst hab
   obtain ⟨x, hx⟩ : ∃ x, x = gt a k := ⟨_, rfl⟩
   rw [← hx] at hc
   have hww : IntKind.i64.wrap ((N : Int) - 1) = (N : Int) - 1 := IntWalk.i64_in _ (by omega)
   by_cases hr : 0 ≤ x ∧ x < (N : Int)
   ·have hin : inB x 0 ((N : Int) - 1) = true := by unfold inB; simp; omega
    have hll := hS.out.1
    have hcel := hO.cell x.toNat (by rw [hll, ← HV.out.2]; omega)
    have hfr := hO.frozen x.toNat
    have hxN := hr.2
    have hx0 := hr.1
    obtain ⟨s, hs⟩ : ∃ s, s = gt l x.toNat := ⟨_, rfl⟩
    rw [← hs] at hcel
    cases s with
    | true =>
     have hbad : ¬ BijL N a := by
      have h1 : 0 ≤ gt a k ∧ gt a k < a.length := by rw [← hx, ← HV.out.2]; exact hr
      have h2 := SeenB.bad2 hS.out hka h1 (by rw [← hx]; exact hs.symm)
      rw [← HV.out.2] at h2; exact h2
     have HB := Lib.hid hbad; clear hbad hll hs hx hr
     go_wp2_with fail
     refine Calls.mono (l01In_ok _ _ _ _) ?_
     rintro _ _ ⟨rfl, rfl⟩
     rw [hin]
     clear hin hww
     go_wp2
     go_ret
     exact ⟨_, rfl, hg, by rw [decide_eq_false HB.out]; rfl⟩
    | false =>
     have hnx : SeenB a (k + 1) (l.set x.toNat true) := by
      have h1 : 0 ≤ gt a k ∧ gt a k < a.length := by rw [← hx, ← HV.out.2]; exact hr
      have h2 := SeenB.step hS.out h1 (by rw [← hx]; exact hs.symm)
      rw [← hx] at h2; exact h2
     obtain ⟨hO2, hgs⟩ := hO.store x.toNat true
     have hgn : Ext w (wr.setCell ⟨w.heap.size, x.toNat, none⟩ (.bool true)) := grown_own hg hgs (fun j hj hlt => by cases hj; omega)
     have HB := Lib.hid (And.intro hnx (And.intro hO2 hgn)); clear hnx hO2 hgn hgs hll hs hx hr
     go_wp2_with fail
     refine Calls.mono (l01In_ok _ _ _ _) ?_
     rintro _ _ ⟨rfl, rfl⟩
     rw [hin]
     clear hin hww
     go_wp2
     go_roundw
     case rel => exact ⟨k + 1, l.set x.toNat true, by go_num, by omega, HB.out.2.2, HB.out.2.1, Lib.hid HB.out.1⟩
     case measure => simp [intOf]; omega
   ·have hin : inB x 0 ((N : Int) - 1) = false := by unfold inB; simp; omega
    have hbad : ¬ BijL N a := fun hb => hr (by have := hb.2.1 k hlt; rw [hx]; exact this)
    have HB := Lib.hid hbad; clear hbad hx hr
    go_wp2_with fail
    refine Calls.mono (l01In_ok _ _ _ _) ?_
    rintro _ _ ⟨rfl, rfl⟩
    rw [hin]
    clear hin hww
    go_wp2
    go_ret
    exact ⟨_, rfl, hg, by rw [decide_eq_false HB.out]; rfl⟩
  ·have hke : k = N := by omega
   have hfin : BijL N a := by
    have h1 := hS.out
    rw [hke, HV.out.2] at h1
    rw [HV.out.2]; exact h1.done
   have HF := Lib.hid hfin; clear hfin
   go_wp2
   go_ret
   exact ⟨_, rfl, hg, by rw [decide_eq_true HF.out]; rfl⟩
set_option maxRecDepth 100000 in
set_option maxHeartbeats 4000000 in
theorem l11After_ok (a b : List Int) (hl : a.length ≤ 1000) (hab : ∀ t, t < a.length → 0 ≤ gt a t ∧ gt a t < b.length) (w : World) (v u : Value) (S T : Nat → Prop) (hv : Ints S w v a) (hu : Ints T w u b) :
  Calls Tryz.prog 368 #[v, u] w (Ret w fun w' r => Own w.heap.size w' r (aft a b)) := by
 obtain ⟨av, cap, rfl, _, _⟩ := hv.shape
 obtain ⟨bv, capb, rfl, _, _⟩ := hu.shape
 obtain ⟨N, hN⟩ : ∃ N, N = a.length := ⟨_, rfl⟩
 have hN2 : N ≤ 1000 := by omega
 rw [← hN]
 have HV := Lib.hid (And.intro hv (And.intro hu (And.intro hN hab))); clear hv hu hl hN hab
 go_enter Tryz.func368, Tryz.ntmps368
 go_wp2
 go_loopw [5, 6] (fun ov iv wr => ∃ (k : Nat) (v5 : Value), v5 = ov ∧ iv = .int .i64 (k : Int) ∧ k ≤ N ∧ Ext w wr ∧ Own w.heap.size wr v5 ((aft a b).take k)) (fun _ iv _ => N - (intOf iv).toNat)
 case atStart => exact ⟨0, _, rfl, rfl, by omega, World.grownBy_alloc _ _ _, by rw [List.take_zero]; exact own_nil0 (Nat.le_refl _) rfl⟩
 case round =>
  obtain ⟨k, v5, rfl, rfl, hk, hg, hO⟩ := hrel
  by_cases hlt : k < N
  ·have hlt' : (k : Int) < N := by omega
   have hka : k < a.length := by rw [← HV.out.2.2.1]; exact hlt
   obtain ⟨xb, xo, hxa, _, _, hc⟩ := Ints.at (HV.out.1.ext hg) k hka
   subst hxa
   have hr := HV.out.2.2.2 k hka
   obtain ⟨x, hx⟩ : ∃ x, x = (gt a k).toNat := ⟨_, rfl⟩
   have hxi : gt a k = (x : Int) := by omega
   rw [hxi] at hc
   have hxb : x < b.length := by omega
   obtain ⟨yb, yo, hya, _, _, hcy⟩ := Ints.at (HV.out.2.1.ext hg) x hxb
   subst hya
   have hst : (aft a b).take (k + 1) = (aft a b).take k ++ [gt b x] := by rw [take_succ_gt _ k (by rw [aft_len]; exact hka), gt_aft hka, hx]
   have hll : ((aft a b).take k).length ≤ 1000000 := by rw [List.length_take]; omega
   obtain ⟨y, hy⟩ : ∃ y, y = gt b x := ⟨_, rfl⟩
   rw [← hy] at hcy hst
   have hxb' : (x : Int) < b.length := by omega
   have HS := Lib.hid (And.intro hst hll); clear hst hll hx hxi hr hy hxb
   go_wp2_with (first | (at_builtin; refine wp_app_int rfl _ _ rfl w.heap.size v5 ((aft a b).take k) y rfl wr hO rfl rfl HS.out.2 hg.size ?_; intro v6 w6 hO6 hg6) | fail)
   have hgn : Ext w w6 := grown_own hg hg6 (fun j hj hlt => by have := (hO.lt j hj).1; omega)
   go_roundw
   case rel => exact ⟨k + 1, v6, rfl, by go_num, by omega, hgn, by rw [HS.out.1]; exact hO6⟩
   case measure => simp [intOf]; omega
  ·have hke : k = N := by omega
   have hfin : Own w.heap.size wr v5 (aft a b) := by
    have e : (aft a b).take k = aft a b := by rw [hke, HV.out.2.2.1, ← aft_len a b, List.take_length]
    rw [e] at hO; exact hO
   have HF := Lib.hid hfin; clear hfin hO
   go_wp2
   go_ret
   exact ⟨_, rfl, hg, HF.out⟩
set_option maxRecDepth 100000 in
set_option maxHeartbeats 4000000 in
theorem l11Back_ok {N : Nat} {a : List Int} (ha : BijL N a) (hN : N ≤ 1000) (w : World) (v : Value) (S : Nat → Prop) (hv : Ints S w v a) :
  Calls Tryz.prog 369 #[v] w (Ret w fun w' r => Own w.heap.size w' r (bak a)) := by
 obtain ⟨av, cap, rfl, _, _⟩ := hv.shape
 have hla := ha.1
 rw [hla]
 have HV := Lib.hid (And.intro hv (And.intro ha hla)); clear hv ha hla
 go_enter Tryz.func369, Tryz.ntmps369
 go_wp2_with (at_make; refine wp_make_ints rfl _ _ rfl w.heap.size N w.heap.size rfl (N : Int) rfl rfl (by omega) (by omega) (Nat.le_refl _) ?_; intro w1 hO1 hg1 hlt1)
 go_loopw [4] (fun iv wr => ∃ (k : Nat) (l : List Int), iv = .int .i64 (k : Int) ∧ k ≤ N ∧ Ext w wr ∧ Own w.heap.size wr (.slice (some ⟨w.heap.size, 0, none⟩) N N) l ∧ Hid (l.length = N ∧ ∀ s, s < k → gt l (gt a s).toNat = (s : Int))) (fun iv _ => N - (intOf iv).toNat)
 case atStart => exact ⟨0, _, rfl, by omega, hg1, hO1, Lib.hid ⟨List.length_replicate, fun s hs => by omega⟩⟩
 case round =>
  clear hO1 hg1
  obtain ⟨k, l, rfl, hk, hg, hO, hS⟩ := hrel
  by_cases hlt : k < N
  ·have hlt' : (k : Int) < N := by omega
   have hka : k < a.length := by rw [HV.out.2.2]; exact hlt
   obtain ⟨b, off, hab, _, _, hc⟩ := Ints.at (HV.out.1.ext hg) k hka
   subst hab
   have hr := HV.out.2.1.2.1 k hlt
   obtain ⟨x, hx⟩ : ∃ x, x = (gt a k).toNat := ⟨_, rfl⟩
   have hxi : gt a k = (x : Int) := by omega
   rw [hxi] at hc
   have hxN : (x : Int) < N := by omega
   have hcel := hO.cell x (by have := hS.out.1; omega)
   have hfr := hO.frozen x
   obtain ⟨hO2, hgs⟩ := hO.store x (k : Int)
   have hgn : Ext w (wr.setCell ⟨w.heap.size, x, none⟩ (.int .i64 (k : Int))) := grown_own hg hgs (fun j hj hlt => by cases hj; omega)
   have hnx : (l.set x (k : Int)).length = N ∧ ∀ s, s < k + 1 → gt (l.set x (k : Int)) (gt a s).toNat = (s : Int) := by
    refine ⟨by rw [List.length_set]; exact hS.out.1, fun s hs => ?_⟩
    rcases Nat.lt_succ_iff_lt_or_eq.1 hs with h1 | h1
    ·have hsr := HV.out.2.1.2.1 s (by omega)
     have hne : ¬ x = (gt a s).toNat := fun e => by
      have := HV.out.2.1.2.2 s k (by omega) hlt (by omega)
      omega
     rw [gt_set_ne _ _ _ _ hne]; exact hS.out.2 s h1
    ·rw [h1, ← hx, gt_set_eq _ _ _ (by have := hS.out.1; omega)]
   have HB := Lib.hid (And.intro hO2 (And.intro hgn hnx)); clear hO2 hgn hnx hgs hx hxi hr
   generalize gt l x = z at hcel
   go_wp2
   go_roundw
   case rel => exact ⟨k + 1, _, by go_num, by omega, HB.out.2.1, HB.out.1, Lib.hid HB.out.2.2⟩
   case measure => simp [intOf]; omega
  ·have hke : k = N := by omega
   subst hke
   have hfin : l = bak a := bak_of HV.out.2.1 hS.out.1 hS.out.2
   have HF := Lib.hid hfin; clear hfin
   go_wp2
   go_ret
   exact ⟨_, rfl, hg, by rw [← HF.out]; exact hO⟩
set_option maxRecDepth 100000 in
set_option maxHeartbeats 2000000 in
theorem l11Self_ok (N : Nat) (hN : N ≤ 100000) (w : World) :
  Calls Tryz.prog 149 #[.int .i64 (N : Int)] w (Ret w fun w' r => Own w.heap.size w' r (selfL N)) := by
 go_enter Tryz.func149, Tryz.ntmps149
 go_wp2
 go_loopw [3, 4] (fun ov iv wr => ∃ (k : Nat) (v5 : Value), v5 = ov ∧ iv = .int .i64 (k : Int) ∧ k ≤ N ∧ Ext w wr ∧ Own w.heap.size wr v5 (selfL k)) (fun _ iv _ => N - (intOf iv).toNat)
 case atStart => exact ⟨0, _, rfl, rfl, by omega, World.grownBy_alloc _ _ _, own_nil0 (Nat.le_refl _) rfl⟩
 case round =>
  obtain ⟨k, v5, rfl, rfl, hk, hg, hO⟩ := hrel
  by_cases hlt : k < N
  ·have hlt' : (k : Int) < N := by omega
   have hst : selfL (k + 1) = selfL k ++ [(k : Int)] := by unfold selfL; rw [List.range_succ, List.map_append]; rfl
   have hll : (selfL k).length ≤ 1000000 := by rw [selfL_len]; omega
   have HS := Lib.hid (And.intro hst hll); clear hst hll
   go_wp2_with (first | (at_builtin; refine wp_app_int rfl _ _ rfl w.heap.size v5 (selfL k) (k : Int) rfl wr hO rfl rfl HS.out.2 hg.size ?_; intro v6 w6 hO6 hg6) | fail)
   have hgn : Ext w w6 := grown_own hg hg6 (fun j hj hlt => by have := (hO.lt j hj).1; omega)
   go_roundw
   case rel => exact ⟨k + 1, v6, rfl, by go_num, by omega, hgn, by rw [HS.out.1]; exact hO6⟩
   case measure => simp [intOf]; omega
  ·have hke : k = N := by omega
   subst hke
   have hnl : ¬ (k : Int) < (k : Int) := by omega
   go_wp2
   go_ret
   exact ⟨_, rfl, hg, hO⟩
end Go.Proofs.YtmjkoejegfjbbaaGreat
namespace Go.Proofs.YtmjkoejegfjbbaaGreat
open Go.RowKit
set_option maxRecDepth 100000 in
set_option maxHeartbeats 8000000 in
theorem l11Make_ok (B0 : Nat) (w : World) (sb : Nat) (N : Nat) (hN : N ≤ 1000) (hB0 : B0 ≤ w.heap.size) (hs : Src B0 w sb) :
  Calls Tryz.prog 290 #[.pointer (some ⟨sb, 0, none⟩), .int .i64 (N : Int)] w (Mut w (some sb) fun w' v => (∃ l : List Int, l.length = N ∧ Own w.heap.size w' v l) ∧ Src B0 w' sb) := by
 have hsb := hs.lt
 have hga : Ext w (w.alloc (.cells #[] 2)) := World.grownBy_alloc _ _ _
 have hO0 : Own w.heap.size (w.alloc (.cells #[] 2)) (.slice (some ⟨w.heap.size, 0, none⟩) 0 0) [] := own_nil0 (Nat.le_refl _) rfl
 have hs0 := hs.ext hga
 have hgw0 := grown_of_ext (some sb) hga
 have HS0 := Lib.hid (And.intro hO0 (And.intro hs0 hgw0)); clear hO0 hs0 hgw0 hga hs
 go_enter Tryz.func290, Tryz.ntmps290
 go_wp2
 go_loopw [5, 6] (fun ov iv wr => ∃ (t : Nat) (v5 : Value) (l : List Int), v5 = ov ∧ iv = .int .i64 (t : Int) ∧ t ≤ N ∧ w.grownBy wr (some sb) ∧ Own w.heap.size wr v5 l ∧ Hid (l.length = t ∧ Src B0 wr sb)) (fun _ iv _ => N - (intOf iv).toNat)
 case atStart => exact ⟨0, _, [], rfl, rfl, by omega, HS0.out.2.2, HS0.out.1, Lib.hid ⟨rfl, HS0.out.2.1⟩⟩
 case round =>
  clear HS0
  obtain ⟨t, v5, l, rfl, rfl, ht, hg, hO, hL⟩ := hrel
  by_cases hlt : t < N
  ·have hlt' : (t : Int) < N := by omega
   have hnx := l01Next_ok B0 wr sb ((t : Int) + 1) hL.out.2
   have HO := Lib.hid hO; clear hO
   go_wp2_with fail
   refine Calls.mono hnx ?_
   rintro e3 w3 ⟨v3, rfl, hg3, x, rfl, hx1, hx2, hs3⟩
   clear hnx
   obtain ⟨k, hk, hkt⟩ : ∃ k : Nat, x = (k : Int) ∧ k ≤ t := by
    by_cases h1 : (t : Int) + 1 ≤ 1
    ·exact ⟨0, hx1 h1, by omega⟩
    ·have := hx2 (by omega); exact ⟨x.toNat, by omega, by omega⟩
   subst hk
   clear hx1 hx2
   have hgw3 := grown_trans hg hg3
   have hob : ∀ j, v5.ownBlock = some j → w.heap.size ≤ j := fun j hj => (HO.out.lt j hj).1
   have hO3 : Own w.heap.size w3 v5 l := HO.out.kept hg3 (.inr (fun e => by have := hob sb e; omega))
   have hlt3 := hO3.lt
   have hll : l.length = t := hL.out.1
   have hOi : Ints (fun k => k < w3.heap.size) w3 v5 l := ints_of_own hO3 (by omega) (fun k hk => (hO3.lt k hk).2)
   obtain ⟨oa, oc, hve, hoc, _⟩ := hOi.shape
   subst hve
   have hkl : k ≤ l.length := by omega
   have hsh : ∀ w', (Instr.slice 36 (.slice oa l.length oc) none (some (.int .i64 (k : Int))) none).run Tryz.prog w' = .ok (.slice oa k oc) w' := fun w' => by
    have h := run_head w' oa l.length oc (k : Int) (by omega) (by omega)
    rw [Int.toNat_natCast] at h; exact h
   have hst : ∀ w', (Instr.slice 36 (.slice oa l.length oc) (some (.int .i64 (k : Int))) none none).run Tryz.prog w' = .ok (subSl (.slice oa l.length oc) k l.length) w' := fun w' => by
    have h := run_tail w' oa l.length oc (k : Int) (by omega) (by omega)
    rw [Int.toNat_natCast] at h; exact h
   have hhd := head_ints hOi k hkl
   have htl := subSl_ints hOi k l.length hkl (Nat.le_refl _)
   rw [List.take_length] at htl
   obtain ⟨sa, sc, hsv, _, _⟩ := htl.shape
   have htk : (l.take k).length = k := by rw [List.length_take]; omega
   have hown := l01Own_ok w3 (.slice oa k oc) (l.take k) _ hhd (by rw [htk]; omega)
   have HT := Lib.hid (And.intro hO3 (And.intro hs3 (And.intro htl (And.intro hown (And.intro hsv (And.intro hlt3 (And.intro hll htk))))))); clear hO3 hs3 htl hown hsv hlt3 hll htk hOi hhd hob HO
   go_wp2_with fail
   refine Calls.mono HT.out.2.2.2.1 ?_
   rintro e4 w4 ⟨v4, rfl, hg4, hO4⟩
   have hgw4 := grown_trans hgw3 (grown_of_ext (some sb) hg4)
   have hz3 := hgw3.size
   have hO4' : Own w.heap.size w4 v4 (l.take k) := hO4.weak hz3
   have hl4 : (l.take k).length ≤ 1000000 := by rw [HT.out.2.2.2.2.2.2.2]; omega
   have hb4 : ∀ j, v4.ownBlock = some j → w3.heap.size ≤ j := fun j hj => (hO4.lt j hj).1
   have H4 := Lib.hid (And.intro hO4' (And.intro hl4 (And.intro hb4 hgw4.size))); clear hO4' hl4 hb4 hO4 hst
   obtain ⟨dl, hdl⟩ : ∃ dl, dl = (l.drop k).length := ⟨_, rfl⟩
   have hst : ∀ w', (Instr.slice 36 (.slice oa l.length oc) (some (.int .i64 (k : Int))) none none).run Tryz.prog w' = .ok (.slice sa dl sc) w' := fun w' => by
    have h := run_tail w' oa l.length oc (k : Int) (by omega) (by omega)
    rw [Int.toNat_natCast, HT.out.2.2.2.2.1, ← hdl] at h; exact h
   have HST := Lib.hid hst; clear hst hsh
   have htl4 : Ints (fun k => k < w3.heap.size) w4 (.slice sa dl sc) (l.drop k) := by
    have h1 := HT.out.2.2.1
    rw [HT.out.2.2.2.2.1, ← hdl] at h1
    exact Ints.ext h1 hg4
   have hll := HT.out.2.2.2.2.2.2.1
   have htk := HT.out.2.2.2.2.2.2.2
   have hlen2 : (l.take k ++ [(t : Int)]).length + (l.drop k).length ≤ 2147483648 := by
    rw [List.length_append, htk, List.length_drop, List.length_singleton]; omega
   have hlen3 : (l.take k ++ [(t : Int)] ++ l.drop k).length = t + 1 := by
    rw [List.length_append, List.length_append, htk, List.length_drop, List.length_singleton]; omega
   clear hll htk
   have H5 := Lib.hid (And.intro htl4 (And.intro hlen2 hlen3)); clear htl4 hlen2 hlen3 hdl
   go_wp2_with (first
    | (at_builtin; refine wp_app_int rfl _ _ rfl w.heap.size v4 (l.take k) (t : Int) rfl w4 H4.out.1 rfl rfl H4.out.2.1 H4.out.2.2.2 ?_; intro v5n w5 hO5 hg5; have hgw5 : w.grownBy w5 (some sb) := grown_own hgw4 hg5 (fun j hj hlt => by have := H4.out.2.2.1 j hj; omega); have htl5 : Ints Any w5 (.slice sa dl sc) (l.drop k) := Ints.mono H5.out.1 (frame_of hg5 (fun k hk _ => ⟨trivial, fun e => by have := H4.out.2.2.1 k e; have hk : k < w3.heap.size := hk; omega⟩)); have hst := HST.out)
    | (at_builtin; refine wp_app_ints rfl _ _ rfl w.heap.size v5n (l.take k ++ [(t : Int)]) rfl hO5 _ (l.drop k) rfl Any htl5 H5.out.2.1 hgw5.size ?_; intro v6 w6 hO6 hg6 _)
    | fail)
   have hb5 : ∀ j, v5n.ownBlock = some j → w.heap.size ≤ j := fun j hj => (hO5.lt j hj).1
   have hs4 := HT.out.2.1.ext hg4
   have hs5 := hs4.own hg5 (fun j hj => by have := H4.out.2.2.1 j hj; omega)
   have hs6 := hs5.own hg6 (fun j hj => by have := hb5 j hj; omega)
   have hgw6 : w.grownBy w6 (some sb) := grown_own hgw5 hg6 (fun j hj hlt => by have := hb5 j hj; omega)
   clear hst
   go_roundw
   case rel => exact ⟨t + 1, v6, _, rfl, by go_num, by omega, hgw6, hO6, Lib.hid ⟨H5.out.2.2, hs6⟩⟩
   case measure => simp [intOf]; omega
  ·have hte : t = N := by omega
   have hnl : ¬ (t : Int) < N := by omega
   have HF := Lib.hid (And.intro hO hL.out); clear hO hL
   go_wp2
   go_ret
   exact ⟨_, rfl, hg, ⟨l, by rw [HF.out.2.1]; exact hte, HF.out.1⟩, HF.out.2.2⟩
set_option maxRecDepth 100000 in
set_option maxHeartbeats 8000000 in
theorem l11Draw_ok (B0 : Nat) (w : World) (sb : Nat) (N : Nat) (hN : N ≤ 1000) (hB0 : B0 ≤ w.heap.size) (hs : Src B0 w sb) :
  Calls Tryz.prog 148 #[.pointer (some ⟨sb, 0, none⟩), .int .i64 (N : Int)] w (Mut w (some sb) fun w' v => (∃ (l : List Int) (a : Option Addr) (c : Nat), v = .slice a l.length c ∧ l.length ≤ N + 1 ∧ Own w.heap.size w' (.slice a l.length c) l) ∧ Src B0 w' sb) := by
 have hsb := hs.lt
 have hmk := l11Make_ok B0 w sb N hN hB0 hs
 clear hs
 go_enter Tryz.func148, Tryz.ntmps148
 go_wp2_with fail
 refine Calls.mono hmk ?_
 rintro e1 w1 ⟨v1, rfl, hg1, ⟨l, hl, hO⟩, hs1⟩
 clear hmk
 subst hl
 go_wp2_with fail
 refine Calls.mono (l01Next_ok B0 w1 sb 20 hs1) ?_
 rintro e2 w2 ⟨v2, rfl, hg2, x, rfl, -, -, hs2⟩
 have hob : ∀ j, v1.ownBlock = some j → w.heap.size ≤ j := fun j hj => (hO.lt j hj).1
 have hO2 : Own w.heap.size w2 v1 l := hO.kept hg2 (.inr (fun e => by have := hob sb e; omega))
 have hgw2 := grown_trans hg1 hg2
 obtain ⟨a, c, rfl, _, _⟩ := (hO2.ints (by omega)).shape
 have H2 := Lib.hid (And.intro hO2 (And.intro hs2 (And.intro hob hgw2))); clear hO2 hs2 hob hgw2 hO hs1 hg1 hg2
 have hlN : l.length ≤ 1000000 := by omega
 have hend : ∀ (w3 : World), w.grownBy w3 (some sb) → Own w.heap.size w3 (.slice a l.length c) l → Src B0 w3 sb → ∀ (v' : Value) (w5 : World), Own w.heap.size w5 v' (l ++ [0]) → w3.grownBy w5 (Value.slice a l.length c).ownBlock → Mut w (some sb) (fun w' v => (∃ (l' : List Int) (a : Option Addr) (c : Nat), v = .slice a l'.length c ∧ l'.length ≤ l.length + 1 ∧ Own w.heap.size w' (.slice a l'.length c) l') ∧ Src B0 w' sb) (.returned v') w5 := fun w3 hg3 hO3 hs3 v' w5 hO5 hg5 => by
  obtain ⟨a5, c5, rfl, _, _⟩ := (hO5.ints (by rw [List.length_append, List.length_singleton]; omega)).shape
  exact ⟨_, rfl, grown_own hg3 hg5 (fun j hj hlt => by have := (hO3.lt j hj).1; omega), ⟨_, _, _, rfl, by rw [List.length_append, List.length_singleton]; exact Nat.le_refl _, hO5⟩, hs3.own hg5 (fun j hj => by have := (hO3.lt j hj).1; omega)⟩
 have HE := Lib.hid hend; clear hend
 by_cases hx : x = 0
 ·subst hx
  by_cases hl0 : 0 < l.length
  ·have hl0' : (0 : Int) < l.length := by omega
   go_wp2_with fail
   refine Calls.mono (l01Next_ok B0 w2 sb 2 H2.out.2.1) ?_
   rintro e3 w3 ⟨v3, rfl, hg3, y, rfl, -, -, hs3⟩
   have hO3 : Own w.heap.size w3 (.slice a l.length c) l := H2.out.1.kept hg3 (.inr (fun e => by have := H2.out.2.2.1 sb e; omega))
   have hgw3 := grown_trans H2.out.2.2.2 hg3
   have hz3 := hgw3.size
   have H3 := Lib.hid (And.intro hO3 (And.intro hs3 hgw3)); clear hO3 hs3 hgw3 hg3
   by_cases hy : y = 0
   ·subst hy
    obtain ⟨g, cap, hve, hbg, hlt3⟩ := H3.out.1.form hl0
    cases hve
    have hcl := H3.out.1.cell (l.length - 1) (by omega)
    obtain ⟨z, hz⟩ : ∃ z, z = gt l (l.length - 1) := ⟨_, rfl⟩
    rw [← hz] at hcl
    have hix : (l.length : Int) - 1 = ((l.length - 1 : Nat) : Int) := by omega
    obtain ⟨q, hq⟩ : ∃ q, q = l.length - 1 := ⟨_, rfl⟩
    rw [← hq] at hcl hix
    have hql : (q : Int) < l.length := by omega
    have hga : Ext w3 (w3.alloc (.cells #[.int .i64 (l.length : Int), .int .i64 (-1), .int .i64 z] 2)) := World.grownBy_alloc _ _ _
    have hLi := (own_lit3 w3 (l.length : Int) (-1) z (Nat.le_refl _)).ints
    have hpk := l01Pick_ok B0 _ sb _ [(l.length : Int), -1, z] (From w3.heap.size) (H3.out.2.1.ext hga) hLi (fun k hk => by have hk : w3.heap.size ≤ k := hk; omega) (by simp) (by simp)
    have HP := Lib.hid (And.intro hpk hga); clear hpk hga hLi hz hq
    go_wp2_with fail
    refine Calls.mono HP.out.1 ?_
    rintro e4 w4 ⟨v4, rfl, hg4, i, -, rfl, hs4⟩
    obtain ⟨u, hu⟩ : ∃ u, u = gt [(l.length : Int), -1, z] i := ⟨_, rfl⟩
    rw [← hu]
    clear hu
    have hO4 : Own w.heap.size w4 (.slice (some ⟨g, 0, none⟩) l.length c) l := (H3.out.1.ext0 HP.out.2).kept hg4 (.inr (fun e => by have e : g = sb := Option.some.inj e; omega))
    have hgw4 := grown_trans (grown_trans H3.out.2.2 (grown_of_ext (some sb) HP.out.2)) hg4
    have hcel := hO4.cell 0 hl0
    have hfr := hO4.frozen 0
    obtain ⟨hO5, hgs⟩ := hO4.store 0 u
    have hgw5 : w.grownBy (w4.setCell ⟨g, 0, none⟩ (.int .i64 u)) (some sb) := grown_own hgw4 hgs (fun j hj hlt => by cases hj; omega)
    have hs5 := hs4.own hgs (fun j hj => by cases hj; omega)
    have hls : (l.set 0 u).length = l.length := List.length_set
    have H5 := Lib.hid (And.intro hO5 (And.intro hgw5 (And.intro hs5 hls))); clear hO5 hgs hgw5 hs5 hO4 hgw4 hs4 hg4 hls
    generalize gt l 0 = z0 at hcel
    clear hcl hix hql
    go_wp2
    go_ret
    exact ⟨_, rfl, H5.out.2.1, ⟨l.set 0 u, some ⟨g, 0, none⟩, c, by rw [H5.out.2.2.2]; rfl, by rw [H5.out.2.2.2]; omega, by rw [H5.out.2.2.2]; exact H5.out.1⟩, H5.out.2.2.1⟩
   ·have hyb : (y == 0) = false := by simp [hy]
    clear hy
    go_wp2_with (first
     | (at_builtin; refine wp_app_int rfl _ _ rfl w.heap.size (.slice a l.length c) l 0 rfl w3 H3.out.1 rfl rfl hlN hz3 ?_; intro v5 w5 hO5 hg5)
     | fail)
    go_ret
    exact HE.out w3 H3.out.2.2 H3.out.1 H3.out.2.1 v5 w5 hO5 hg5
  ·have hl0' : ¬ (0 : Int) < l.length := by omega
   have hz2 := H2.out.2.2.2.size
   go_wp2_with (first
    | (at_builtin; refine wp_app_int rfl _ _ rfl w.heap.size (.slice a l.length c) l 0 rfl w2 H2.out.1 rfl rfl hlN hz2 ?_; intro v5 w5 hO5 hg5)
    | fail)
   go_ret
   exact HE.out w2 H2.out.2.2.2 H2.out.1 H2.out.2.1 v5 w5 hO5 hg5
 ·have hxb : (x == 0) = false := by simp [hx]
  clear hx
  go_wp2
  go_ret
  exact ⟨_, rfl, H2.out.2.2.2, ⟨l, a, c, rfl, by omega, H2.out.1⟩, H2.out.2.1⟩
end Go.Proofs.YtmjkoejegfjbbaaGreat
namespace Go.Proofs.YtmjkoejegfjbbaaGreat
open Go.RowKit
def rgR (P : Pr) (i : Nat) : List Int := (List.range (ordP P).toNat).map (fun t : Nat => num P (rMul P (elAt P (t : Int)) (unitV P.orders.length i)))
def rgL (P : Pr) : List (List Int) := (List.range P.orders.length).map (rgR P)
theorem rgR_len (P : Pr) (i : Nat) : (rgR P i).length = (ordP P).toNat := by unfold rgR; rw [List.length_map, List.length_range]
theorem rgL_len (P : Pr) : (rgL P).length = P.orders.length := by unfold rgL; rw [List.length_map, List.length_range]
theorem gt_rgL {P : Pr} {i : Nat} (h : i < P.orders.length) : gt (rgL P) i = rgR P i := by
 unfold rgL
 rw [gt_map _ _ _ (by rw [List.length_range]; exact h), gt_range h]
theorem gt_rgR {P : Pr} {i t : Nat} (h : t < (ordP P).toNat) : gt (rgR P i) t = num P (rMul P (elAt P (t : Int)) (unitV P.orders.length i)) := by
 unfold rgR
 rw [gt_map _ _ _ (by rw [List.length_range]; exact h), gt_range h]
set_option maxRecDepth 100000 in
set_option maxHeartbeats 8000000 in
theorem l11Regular_ok (P : Pr) (G : Grp P) (w : World) (pv : Value) (Sp : Nat → Prop) (hpv : PresV Sp w pv P) :
  Calls Tryz.prog 146 #[pv] w (Ret w fun w' v => RowsO w.heap.size w' v (rgL P)) := by
 have hP := G.v
 have hn6 := hP.n6
 have h729 := hP.le729
 have hop := hP.ordP_pos
 obtain ⟨vo, vp, vc, rfl, h3⟩ := hpv
 have hp0 := PresP.box h3 39
 have hg0 : Ext w (w.alloc (.cells #[vo, vp, vc] 39)) := World.grownBy_alloc _ _ _
 have hs0 : w.heap.size + 1 = (w.alloc (.cells #[vo, vp, vc] 39)).heap.size := by simp
 have HS0 := Lib.hid hs0; clear hs0
 obtain ⟨vo6, vp6, vc6, _, _, hc0, hc1, hc2, h36⟩ := hp0.at
 simp only [Nat.zero_add] at hc1 hc2
 obtain ⟨ao, co, hvo, _, _⟩ := h36.o.shape
 subst hvo
 have hbx : ∀ w', Ext (w.alloc (.cells #[vo, vp, vc] 39)) w' → w'.cell? ⟨w.heap.size, 0, none⟩ = some (.slice ao P.orders.length co) ∧ w'.cell? ⟨w.heap.size, 1, none⟩ = some vp6 ∧ w'.cell? ⟨w.heap.size, 2, none⟩ = some vc6 := fun w' h => ⟨h.cell hc0 (by simp), h.cell hc1 (by simp), h.cell hc2 (by simp)⟩
 have hpx : ∀ w', Ext (w.alloc (.cells #[vo, vp, vc] 39)) w' → PresV Any w' (.agg #[.slice ao P.orders.length co, vp6, vc6]) P := fun w' h => ⟨_, _, _, rfl, Pres3.ext h36 h⟩
 obtain ⟨N, hN⟩ : ∃ N, N = (ordP P).toNat := ⟨_, rfl⟩
 have hNo : ordP P = (N : Int) := by omega
 have hN729 : N ≤ 729 := by have : ordP P ≤ 729 := h729; omega
 have hor : ∀ w', Ext (w.alloc (.cells #[vo, vp, vc] 39)) w' → Calls Tryz.prog 145 #[.agg #[.slice ao P.orders.length co, vp6, vc6]] w' (Ret w' fun _ v => v = .int .i64 (N : Int)) := fun w' h => by rw [← hNo]; exact l10Order_ok w' _ P Any hP (hpx w' h)
 have hat : ∀ w', Ext (w.alloc (.cells #[vo, vp, vc] 39)) w' → ∀ t : Nat, t < N → Calls Tryz.prog 288 #[.agg #[.slice ao P.orders.length co, vp6, vc6], .int .i64 (t : Int)] w' (Ret w' fun w'' v => Own w'.heap.size w'' v (elAt P (t : Int))) := fun w' h t ht => l10At_ok P hP w' _ (t : Int) Any (hpx w' h) (by omega) (by omega)
 have hmul : ∀ w', Ext (w.alloc (.cells #[vo, vp, vc] 39)) w' → ∀ (x y : List Int) (xv yv : Value), Vec P.orders x → Vec P.orders y → Ints Any w' xv x → Ints Any w' yv y → Calls Tryz.prog 211 #[.agg #[.slice ao P.orders.length co, vp6, vc6], xv, yv] w' (Ret w' fun w'' v => Own w'.heap.size w'' v (rMul P x y)) := fun w' h x y xv yv hx hy hxv hyv => l08Mul_ok P hP w' _ xv yv x y Any Any Any (hpx w' h) hxv hyv hx hy
 have hnum : ∀ w', Ext (w.alloc (.cells #[vo, vp, vc] 39)) w' → ∀ (x : List Int) (xv : Value), Vec P.orders x → Ints Any w' xv x → Calls Tryz.prog 287 #[.agg #[.slice ao P.orders.length co, vp6, vc6], xv] w' (Ret w' fun _ v => v = .int .i64 (num P x)) := fun w' h x xv hx hxv => l10Number_ok P hP w' _ xv x Any Any (hpx w' h) hxv hx
 have heV : ∀ t : Nat, Vec P.orders (elAt P (t : Int)) := fun t => elAt_vec hP _ (by omega)
 have hrl : ∀ i, (rgR P i).length = N := fun i => by rw [rgR_len, hN]
 have hrt : ∀ i t, t < N → (rgR P i).take (t + 1) = (rgR P i).take t ++ [num P (rMul P (elAt P (t : Int)) (unitV P.orders.length i))] := fun i t ht => by rw [take_succ_gt _ t (by rw [hrl]; exact ht), gt_rgR (by rw [← hN]; exact ht)]
 have hLt : ∀ i, i < P.orders.length → (rgL P).take (i + 1) = (rgL P).take i ++ [rgR P i] := fun i hi => by rw [take_succ_gt _ i (by rw [rgL_len]; exact hi), gt_rgL hi]
 have HB := Lib.hid (And.intro hbx (And.intro hor (And.intro hat (And.intro hmul (And.intro hnum (And.intro heV (And.intro hrl (And.intro hrt hLt)))))))); clear hbx hor hat hmul hnum heV hrl hrt hLt hpx hp0 h36 hN hNo hop h729
 go_enter Tryz.func146, Tryz.ntmps146
 go_wp2
 clear hc0 hc1 hc2
 generalize hw0 : w.alloc (.cells #[vo, vp, vc] 39) = w0 at *
 clear hw0
 go_loopw [3, 4] (fun ov iv wr => ∃ (i : Nat) (v5 : Value), v5 = ov ∧ iv = .int .i64 (i : Int) ∧ i ≤ P.orders.length ∧ Ext w0 wr ∧ RowsO w0.heap.size wr v5 ((rgL P).take i)) (fun _ iv _ => P.orders.length - (intOf iv).toNat)
 case atStart => exact ⟨0, _, rfl, rfl, by omega, World.grownBy_alloc _ _ _, by rw [List.take_zero, HS0.out]; exact ⟨[], fun _ _ => False, rfl, World.ownsRow_lit w0 #[] 0 (Nat.le_refl _) (by decide) rfl, by simp, by simp, by simp⟩⟩
 case round =>
  obtain ⟨i, v5, rfl, rfl, hi, hg, hA⟩ := hrel
  obtain ⟨wo, rfl⟩ : ∃ wo : World, wo = wr := ⟨_, rfl⟩
  obtain ⟨c0_, c1_, c2_⟩ := HB.out.1 wo hg
  by_cases hlt : i < P.orders.length
  ·have hlt' : (i : Int) < P.orders.length := by omega
   have HA := Lib.hid hA; clear hA
   go_wp2_with fail
   clear c0_ c1_ c2_
   refine Calls.mono (l07Unit_ok P.orders.length i wo hlt (by omega)) ?_
   rintro e3 w3 ⟨gv, rfl, hg3, hgO⟩
   have hgV := unitV_vec hP i
   have hgi := hgO.ints (by rw [hgV.1]; omega)
   obtain ⟨ga, gc, rfl, _, _⟩ := hgi.shape
   obtain ⟨gl, hgl⟩ : ∃ gl, gl = (unitV P.orders.length i).length := ⟨_, rfl⟩
   rw [← hgl]
   have hgx : ∀ w', Ext w3 w' → Ints Any w' (.slice ga gl gc) (unitV P.orders.length i) := fun w' h => by rw [hgl]; exact Ints.ext hgi h
   have hg03 := grown_trans hg hg3
   have HG := Lib.hid (And.intro hgx hgV); clear hgx hgi hgO hgV hgl
   go_wp2
   go_loopw [6, 7] (fun rv tv wr => ∃ (t : Nat) (v6 : Value), v6 = rv ∧ tv = .int .i64 (t : Int) ∧ t ≤ N ∧ Ext w3 wr ∧ Own w3.heap.size wr v6 ((rgR P i).take t)) (fun _ tv _ => N - (intOf tv).toNat)
   case atStart => exact ⟨0, _, rfl, rfl, by omega, World.grownBy_alloc _ _ _, by rw [List.take_zero]; exact own_nil0 (Nat.le_refl _) rfl⟩
   case round =>
    obtain ⟨t, v6, rfl, rfl, ht, hgt, hR⟩ := hrel
    have hgw := grown_trans hg03 hgt
    obtain ⟨c0_, c1_, c2_⟩ := HB.out.1 wr hgw
    go_wp2_with fail
    clear c0_ c1_ c2_
    refine Calls.mono (HB.out.2.1 wr hgw) ?_
    rintro e5 w5 ⟨v7, rfl, hg5, rfl⟩
    have hg05 := grown_trans hgw hg5
    have hg35 := grown_trans hgt hg5
    have hR5 := hR.ext0 hg5
    by_cases htl : t < N
    ·have htl' : (t : Int) < N := by omega
     have hst := HB.out.2.2.2.2.2.2.2.1 i t htl
     have hmV := G.mulV (HB.out.2.2.2.2.2.1 t) HG.out.2
     obtain ⟨c, hc⟩ : ∃ c : Int, c = num P (rMul P (elAt P (t : Int)) (unitV P.orders.length i)) := ⟨_, rfl⟩
     rw [← hc] at hst
     have hll : ((rgR P i).take t).length ≤ 1000000 := by rw [List.length_take]; omega
     have HX := Lib.hid (And.intro hst (And.intro hmV (And.intro hc hll))); clear hst hmV hc hll
     have e1 : ∀ w', Ext w3 w' → w'.cell? ⟨w.heap.size, 0, none⟩ = some (.slice ao P.orders.length co) := fun w' h => (HB.out.1 w' (grown_trans hg03 h)).1
     have e2 : ∀ w', Ext w3 w' → w'.cell? ⟨w.heap.size, 1, none⟩ = some vp6 := fun w' h => (HB.out.1 w' (grown_trans hg03 h)).2.1
     have e3 : ∀ w', Ext w3 w' → w'.cell? ⟨w.heap.size, 2, none⟩ = some vc6 := fun w' h => (HB.out.1 w' (grown_trans hg03 h)).2.2
     go_wp2
     go_region_held3 (fun w' => Ext w3 w') (first | exact grown_trans hg35 (grown_drew _ _) | assumption | exact grown_trans hgD (World.grownBy_alloc _ _ _))
      (first
       | (go_at_call 287; refine Calls.mono (Calls.rel2 (w0 := w3) (by assumption) (HB.out.2.2.2.2.1 _ (grown_trans hg03 (by assumption)) _ _ HX.out.2.1 hMi)) ?_; rintro eD wD ⟨vD, rfl, hgD, hgD2, _, hvD⟩; rw [← HX.out.2.2.1] at hvD; subst hvD)
       | (go_at_call 211; refine Calls.mono (Calls.rel2 (w0 := w3) (by assumption) (HB.out.2.2.2.1 _ (grown_trans hg03 (by assumption)) _ _ _ _ (HB.out.2.2.2.2.2.1 t) HG.out.2 hEi (HG.out.1 _ (by assumption)))) ?_; rintro eC wC ⟨vC, rfl, hgC, hgC2, _, hM⟩; have hMi := hM.ints (by rw [HX.out.2.1.1]; omega); obtain ⟨am, cm, hvM, _, _⟩ := hMi.shape; subst hvM)
       | (go_at_call 288; refine Calls.mono (Calls.rel2 (w0 := w3) (by assumption) (HB.out.2.2.1 _ (grown_trans hg03 (by assumption)) t htl)) ?_; rintro eE wE ⟨vE, rfl, hgE, hgE2, _, hEO⟩; have hEi := hEO.ints (by rw [(HB.out.2.2.2.2.2.1 t).1]; omega); obtain ⟨ae, ce, hvE, _, _⟩ := hEi.shape; subst hvE)
       | (refine step_app_int rfl _ _ rfl w3.heap.size _ ((rgR P i).take t) c rfl wD (hR5.ext0 (grown_trans (grown_drew _ _) (grown_trans hgE2 (grown_trans hgC2 hgD2)))) rfl rfl HX.out.2.2.2 hgD.size ?_; intro v8 w8 hO8 hg8; have hgn8 : Ext w3 w8 := grown_own hgD hg8 (fun j hj hlt => by have := (hR.lt j hj).1; omega)))
     clear e1 e2 e3
     rw [← HX.out.1] at hO8
     go_wp2
     go_roundw
     case rel => exact ⟨t + 1, v8, rfl, by go_num, by omega, hgn8, hO8⟩
     case measure => simp [intOf]; omega
    ·have hte : t = N := by omega
     have hRf : Own w3.heap.size w5 v6 (rgR P i) := by
      have e : (rgR P i).take t = rgR P i := by rw [hte, ← HB.out.2.2.2.2.2.2.1 i, List.take_length]
      rw [e] at hR5; exact hR5
     obtain ⟨ra, rc, rfl, _, _⟩ := (hRf.ints (by rw [HB.out.2.2.2.2.2.2.1 i]; omega)).shape
     obtain ⟨rn, hrn⟩ : ∃ rn, rn = (rgR P i).length := ⟨_, rfl⟩
     rw [← hrn] at hRf ⊢
     have hRI : OwnIn (From wo.heap.size) w5 (.slice ra rn rc) (rgR P i) := OwnIn.of hRf (by rw [HB.out.2.2.2.2.2.2.1 i]; omega) (fun k h1 _ => by have := hg3.size; show wo.heap.size ≤ k; omega)
     have hg45 : Ext wo w5 := grown_trans hg3 hg35
     have hll : ((rgL P).take i).length ≤ 1000000 := by rw [List.length_take]; omega
     have hst := HB.out.2.2.2.2.2.2.2.2 i hlt
     have HX := Lib.hid (And.intro hRI (And.intro hll (And.intro hst hg.size))); clear hRI hll hst hRf hR5 hR hrn
     have hnl : ¬ (t : Int) < (N : Int) := by omega
     go_wp2_with (first | (at_builtin; refine wp_app_row rfl _ _ rfl w0.heap.size wo w5 v5 _ ((rgL P).take i) (rgR P i) rfl HA.out hg45 HX.out.1 rfl rfl HX.out.2.1 HX.out.2.2.2 ?_; intro v8 w8 hO8 hg8 _) | fail)
     have hgn8 : Ext w0 w8 := grown_own hg hg8 (fun j hj hlt => by have := (HA.out.lt j hj).1; omega)
     rw [← HX.out.2.2.1] at hO8
     go_roundw
     case rel => exact ⟨i + 1, v8, rfl, by go_num, by omega, hgn8, hO8⟩
     case measure => simp [intOf]; omega
  ·have hie : i = P.orders.length := by omega
   have hfin : RowsO w.heap.size wo v5 (rgL P) := by
    have e : (rgL P).take i = rgL P := by rw [hie, ← rgL_len P, List.take_length]
    rw [e] at hA; exact hA.weak hg0.size
   have HF := Lib.hid hfin; clear hfin hA
   have hnl : ¬ (i : Int) < P.orders.length := by omega
   go_wp2
   go_ret
   exact ⟨_, rfl, grown_trans hg0 hg, HF.out⟩
end Go.Proofs.YtmjkoejegfjbbaaGreat
namespace Go.Proofs.YtmjkoejegfjbbaaGreat
open Go.RowKit
attribute [local go_sem ↓] Go.wp_at_zero Go.wp_at_succ
/-! ### a list of rows of the call's own: the rows may lie anywhere behind B -/
def RV (B : Nat) (w : World) (v : Value) (L : List (List Int)) : Prop := ∃ vs : List Value, vs.length = L.length ∧ OwnV B 36 w v vs ∧ ∀ i, i < L.length → Ints (fun k => B ≤ k ∧ v.ownBlock ≠ some k) w (gt vs i) (gt L i)
theorem RV.of {B : Nat} {w : World} {v : Value} {L : List (List Int)} (h : RowsO B w v L) : RV B w v L := by
 obtain ⟨vs, G, h1, h2, h3, _, h5⟩ := h
 exact ⟨vs, h1, h2, fun i hi => Ints.sub (h5 i hi).ints (fun k hk _ => ⟨(h3 i k hi hk).1, (h3 i k hi hk).2.1⟩)⟩
theorem RV.moved {B r : Nat} {w w' : World} {v : Value} {L : List (List Int)} (h : RV B w v L) (hg : w.grownBy w' (some r)) (hr : r < B) : RV B w' v L := by
 obtain ⟨vs, h1, h2, h3⟩ := h
 exact ⟨vs, h1, h2.kept hg (.inr (fun e => by have := (h2.lt r e).1; omega)), fun i hi => Ints.mono (h3 i hi) (frame_of hg (fun k hk _ => ⟨hk, fun e => by have := Option.some.inj e; have := hk.1; omega⟩))⟩
theorem RV.ext {B : Nat} {w w' : World} {v : Value} {L : List (List Int)} (h : RV B w v L) (hg : Ext w w') : RV B w' v L := by
 obtain ⟨vs, h1, h2, h3⟩ := h
 exact ⟨vs, h1, h2.kept hg (by cases hv : v.ownBlock <;> simp), fun i hi => Ints.ext (h3 i hi) hg⟩
theorem RV.rows {B : Nat} {w : World} {v : Value} {L : List (List Int)} (h : RV B w v L) (hl : L.length ≤ 1000000) : Rows2 (From B) w v L := by
 obtain ⟨vs, h1, h2, h3⟩ := h
 rcases h2.form with ⟨rfl, hn⟩ | ⟨g, cap, rfl, hc, hB, hg⟩
 ·have hL : L = [] := List.eq_nil_of_length_eq_zero (by rw [← h1, hn]; rfl)
  subst hL
  exact ⟨none, 0, rfl, ⟨by simp, by simp, fun _ => rfl⟩, fun i hi => by simp at hi⟩
 ·refine ⟨_, cap, by rw [h1], ⟨by omega, by omega, fun h => by cases h⟩, fun i hi => ⟨g, 0, gt vs i, rfl, hB, hg, ?_, Ints.sub (h3 i hi) (fun k hk _ => hk.1)⟩⟩
  rw [Nat.zero_add]; exact h2.cell i (by omega)
theorem RV.form {B : Nat} {w : World} {v : Value} {L : List (List Int)} (h : RV B w v L) (hl : 0 < L.length) : ∃ g cap, v = .slice (some ⟨g, 0, none⟩) L.length cap ∧ B ≤ g ∧ g < w.heap.size := by
 obtain ⟨vs, h1, h2, h3⟩ := h
 rcases h2.form with ⟨_, hn⟩ | ⟨g, cap, rfl, hc, hB, hg⟩
 ·rw [hn] at h1; simp at h1; omega
 ·exact ⟨g, cap, by rw [h1], hB, hg⟩
theorem RV.low {B B' : Nat} {w : World} {v : Value} {L : List (List Int)} (h : RV B w v L) (hB : B' ≤ B) : RV B' w v L := by
 obtain ⟨vs, h1, h2, h3⟩ := h
 refine ⟨vs, h1, ⟨h2.1, ?_⟩, fun i hi => Ints.sub (h3 i hi) (fun k hk _ => ⟨by omega, hk.2⟩)⟩
 rcases h2.2 with h | ⟨g, cap, cur, hv, hg, r⟩
 ·exact .inl h
 ·exact .inr ⟨g, cap, cur, hv, by omega, r⟩
theorem rgL_le {P : Pr} (h : ordP P ≤ 36) : ∀ b ∈ rgL P, b.length ≤ 1000 := by
 intro b hb
 unfold rgL at hb
 obtain ⟨i, _, rfl⟩ := List.mem_map.1 hb
 rw [rgR_len]; omega
theorem RV.store {B g n cap : Nat} {w : World} {L : List (List Int)} {u : Value} {y : List Int} (h : RV B w (.slice (some ⟨g, 0, none⟩) n cap) L) (hu : Ints (fun k => B ≤ k ∧ some g ≠ some k) w u y) (j : Nat) :
  RV B (w.setCell ⟨g, j, none⟩ u) (.slice (some ⟨g, 0, none⟩) n cap) (L.set j y) ∧ w.grownBy (w.setCell ⟨g, j, none⟩ u) (some g) ∧ w.frozen? ⟨g, j, none⟩ = false ∧ (j < L.length → ∃ z, w.cell? ⟨g, j, none⟩ = some z) := by
 obtain ⟨vs, h1, h2, h3⟩ := h
 have hn : n = vs.length := by
  obtain ⟨_, ⟨h, _⟩ | ⟨_, _, _, h, _⟩⟩ := h2 <;> cases h; rfl
 have hcell := fun (hj : j < L.length) => h2.cell j (by omega)
 subst hn
 have hfr := World.ownsRow.frozenAt h2 j
 obtain ⟨k1, k2⟩ := World.ownsRow.stored h2 j u
 refine ⟨⟨vs.set j u, by rw [List.length_set, List.length_set]; exact h1, ?_, fun i hi => ?_⟩, k2, hfr, fun hj => ⟨_, hcell hj⟩⟩
 ·unfold OwnV; rw [List.length_set]; exact k1
 ·rw [List.length_set] at hi
  have hmv : ∀ {x : Value} {l : List Int}, Ints (fun k => B ≤ k ∧ some g ≠ some k) w x l → Ints (fun k => B ≤ k ∧ some g ≠ some k) (w.setCell ⟨g, j, none⟩ u) x l := fun hx => Ints.mono hx (frame_of k2 (fun k hk _ => ⟨hk, hk.2⟩))
  by_cases e : j = i
  ·subst e
   rw [gt_set_eq _ _ _ (by omega), gt_set_eq _ _ _ hi]; exact hmv hu
  ·rw [gt_set_ne _ _ _ _ e, gt_set_ne _ _ _ _ e]; exact hmv (h3 i hi)
def RealD (B : Nat) (w' : World) (v : Value) : Prop := ∃ vo vp vc lv P, v = .tuple #[.agg #[vo, vp, vc], lv] ∧ P.orders.length ≤ 7 ∧ Pres3 (From B) w' vo vp vc P ∧ ∃ L : List (List Int), L.length ≤ 100 ∧ (∀ b ∈ L, b.length ≤ 100000) ∧ Rows2 (From B) w' lv L
def RealCut (B0 sb pb rb : Nat) (w wS wx : World) : Prop := ∃ a1 n1 c1 a2 n2 c2 a3 n3 c3 Q, Q.orders.length ≤ 7 ∧ Pres3 (fun k => wS.heap.size ≤ k ∧ k ≠ pb) wx (.slice a1 n1 c1) (.slice a2 n2 c2) (.slice a3 n3 c3) Q ∧ Box3 wx pb (.slice a1 n1 c1) (.slice a2 n2 c2) (.slice a3 n3 c3) ∧ Box3 wx rb (.slice none 0 0) (.slice none 0 0) (.slice none 0 0) ∧ Src B0 wx sb ∧ Ext w wx ∧ wS.heap.size ≤ wx.heap.size
structure RealSt (B0 sb pb B S0 : Nat) (w : World) (v1 v2 v3 : Value) (Q : Pr) (wx : World) (v6 : Value) (L : List (List Int)) : Prop where
 pos : w.heap.size < sb ∧ sb < B0 ∧ B0 ≤ S0 ∧ S0 ≤ pb ∧ pb < B ∧ B ≤ wx.heap.size
 q : Pres3 (fun k => (S0 ≤ k ∧ k ≠ pb) ∧ k < B) wx v1 v2 v3 Q
 bq : Box3 wx pb v1 v2 v3
 br : Box3 wx w.heap.size (.slice none 0 0) (.slice none 0 0) (.slice none 0 0)
 s : Src B0 wx sb
 g : Ext w wx
 rv : RV B wx v6 L
 len : L.length ≤ 100
 row : ∀ b ∈ L, b.length ≤ 100000
 ql : Q.orders.length ≤ 7
theorem RealSt.moved {B0 sb pb B S0 : Nat} {w : World} {v1 v2 v3 : Value} {Q : Pr} {wx wy : World} {v6 : Value} {L : List (List Int)} (h : RealSt B0 sb pb B S0 w v1 v2 v3 Q wx v6 L) (hg : wx.grownBy wy (some sb)) (hs : Src B0 wy sb) : RealSt B0 sb pb B S0 w v1 v2 v3 Q wy v6 L := by
 obtain ⟨p1, p2, p3, p4, p5, p6⟩ := h.pos
 have hz := hg.size
 exact ⟨⟨p1, p2, p3, p4, p5, by omega⟩, h.q.mono (frame_of hg (fun k hk _ => ⟨hk, fun e => by have := Option.some.inj e; have := hk.1.1; omega⟩)), h.bq.moved hg (by omega), h.br.moved hg (by omega), hs, grown_own h.g hg (fun j hj hlt => by have := Option.some.inj hj; omega), h.rv.moved hg (by omega), h.len, h.row, h.ql⟩
theorem RealSt.ext {B0 sb pb B S0 : Nat} {w : World} {v1 v2 v3 : Value} {Q : Pr} {wx wy : World} {v6 : Value} {L : List (List Int)} (h : RealSt B0 sb pb B S0 w v1 v2 v3 Q wx v6 L) (hg : Ext wx wy) : RealSt B0 sb pb B S0 w v1 v2 v3 Q wy v6 L :=
 h.moved (grown_of_ext _ hg) (h.s.ext hg)
theorem RealSt.put {B0 sb pb B S0 : Nat} {w : World} {v1 v2 v3 : Value} {Q : Pr} {wx : World} {g n cap : Nat} {L : List (List Int)} (h : RealSt B0 sb pb B S0 w v1 v2 v3 Q wx (.slice (some ⟨g, 0, none⟩) n cap) L) {u : Value} {y : List Int} (hu : Ints (fun k => B ≤ k ∧ some g ≠ some k) wx u y) (hy : y.length ≤ 100000) {j : Nat} (hj : j < L.length) : RealSt B0 sb pb B S0 w v1 v2 v3 Q (wx.setCell ⟨g, j, none⟩ u) (.slice (some ⟨g, 0, none⟩) n cap) (L.set j y) := by
 obtain ⟨p1, p2, p3, p4, p5, p6⟩ := h.pos
 obtain ⟨h1, h2, -, -⟩ := h.rv.store hu j
 obtain ⟨g', cap', e, hB, -⟩ := h.rv.form (by omega)
 cases e
 have hz := h2.size
 refine ⟨⟨p1, p2, p3, p4, p5, by omega⟩, h.q.mono (frame_of h2 (fun k hk _ => ⟨hk, fun e => by have := Option.some.inj e; have := hk.2; omega⟩)), h.bq.moved h2 (by omega), h.br.moved h2 (by omega), h.s.own h2 (fun k hk => by have := Option.some.inj hk; omega), grown_own h.g h2 (fun j hj hlt => by have := Option.some.inj hj; have := h.g.size; omega), h1, by rw [List.length_set]; exact h.len, fun b hb => ?_, h.ql⟩
 rcases List.mem_or_eq_of_mem_set hb with hb | rfl
 ·exact h.row b hb
 ·exact hy
theorem RV.row {B g n cap : Nat} {w : World} {L : List (List Int)} (h : RV B w (.slice (some ⟨g, 0, none⟩) n cap) L) {i : Nat} (hi : i < L.length) : ∃ a c, w.cell? ⟨g, i, none⟩ = some (.slice a (gt L i).length c) ∧ Ints (fun k => B ≤ k ∧ some g ≠ some k) w (.slice a (gt L i).length c) (gt L i) := by
 obtain ⟨vs, h1, h2, h3⟩ := h
 have hc := h2.cell i (by omega)
 have hI := h3 i hi
 obtain ⟨a, c, e, _⟩ := hI.shape
 rw [e] at hI
 exact ⟨a, c, by rw [hc, e], hI⟩
theorem RealSt.fin {B0 sb pb B S0 : Nat} {w : World} {v1 v2 v3 : Value} {Q : Pr} {wx : World} {v6 : Value} {L : List (List Int)} (h : RealSt B0 sb pb B S0 w v1 v2 v3 Q wx v6 L) {vo vp vc : Value} {Q2 : Pr} (hP : Pres3 (fun k => w.heap.size < k) wx vo vp vc Q2) (hl : Q2.orders.length ≤ 7) : Ret w (RealD w.heap.size) (.returned (.tuple #[.agg #[vo, vp, vc], v6])) (((wx.setCell ⟨w.heap.size, 0, none⟩ vo).setCell ⟨w.heap.size, 1, none⟩ vp).setCell ⟨w.heap.size, 2, none⟩ vc) := by
 have hT := grown_set3 wx w.heap.size vo vp vc
 obtain ⟨p1, p2, p3, p4, p5, p6⟩ := h.pos
 exact ⟨_, rfl, grown_own h.g hT (fun j hj hlt => by have := Option.some.inj hj; omega), vo, vp, vc, v6, Q2, rfl, hl, hP.mono (frame_of hT (fun k hk _ => ⟨Nat.le_of_lt hk, fun e => by have := Option.some.inj e; have hk : w.heap.size < k := hk; omega⟩)), L, h.len, h.row, ((h.rv.moved hT (by omega)).low (by omega)).rows (by have := h.len; omega)⟩
set_option maxRecDepth 100000 in
set_option maxHeartbeats 16000000 in
theorem DrawIsRealisation_ok (w : World) (cv : Value) (bs : List Int) (S : Nat → Prop) (hb : Bytes S w cv bs) :
  Calls Tryz.prog 36 #[cv] w (Ret w (RealD w.heap.size)) := by
 obtain ⟨a, cap, rfl, _, _⟩ := Sl.shape hb
 have hbB := Box3.made w 39 (.slice none 0 0) (.slice none 0 0) (.slice none 0 0)
 have hg0 : Ext w (w.alloc (.cells #[.slice none 0 0, .slice none 0 0, .slice none 0 0] 39)) := World.grownBy_alloc _ _ _
 have hs0 : (w.alloc (.cells #[.slice none 0 0, .slice none 0 0, .slice none 0 0] 39)).heap.size = w.heap.size + 1 := by simp
 have hb0 := Bytes.ext hb hg0
 go_enter Tryz.func36, Tryz.ntmps36
 go_wp2_with fail
 generalize w.alloc (.cells #[.slice none 0 0, .slice none 0 0, .slice none 0 0] 39) = w0 at *
 have hs00 : w.heap.size + 1 ≤ w0.heap.size := by omega
 clear hs0
 refine Calls.mono (l01From_ok w0 _ bs S hb0) ?_
 rintro e0 wS ⟨v0, rfl, hgS, rfl, hsS⟩
 have hzS : w0.heap.size + 1 ≤ wS.heap.size := by have := hsS.lt; omega
 have hbS := hbB.ext hgS
 obtain ⟨sb, hsb⟩ : ∃ sb, sb = w0.heap.size := ⟨_, rfl⟩
 rw [← hsb] at hsS
 have hsb1 : w.heap.size + 1 ≤ sb ∧ sb + 1 ≤ wS.heap.size := by omega
 have hgw0 := grown_trans hg0 hgS
 have HSB := Lib.hid hsb
 clear hbB hb0 hg0 hgS hzS hs00 hb
 go_wp2_with fail
 rw [← HSB.out]
 refine Calls.mono (l07DrawL_ok (sb + 1) wS sb 36 (by omega) (by rw [HSB.out]; rw [HSB.out] at hsS; exact hsS)) ?_
 rintro e1 w1 ⟨v1, rfl, hg1, ⟨vo, vp, vc, Q, rfl, hQl, hQ, -⟩, hs1⟩
 clear hsb hsS
 obtain ⟨a1, n1, c1, hy1⟩ : ∃ a n c, vo = .slice a n c := by obtain ⟨a, c, e, _⟩ := hQ.o.shape; exact ⟨_, _, _, e⟩
 obtain ⟨a2, n2, c2, hy2⟩ : ∃ a n c, vp = .slice a n c := by obtain ⟨a, c, e, _⟩ := Sl.shape hQ.p; exact ⟨_, _, _, e⟩
 obtain ⟨a3, n3, c3, hy3⟩ : ∃ a n c, vc = .slice a n c := by obtain ⟨a, c, e, _⟩ := Sl.shape hQ.c; exact ⟨_, _, _, e⟩
 subst hy1 hy2 hy3
 have hgq : Ext w1 (w1.alloc (.cells #[.slice a1 n1 c1, .slice a2 n2 c2, .slice a3 n3 c3] 39)) := World.grownBy_alloc _ _ _
 have hbQ := Box3.made w1 39 (.slice a1 n1 c1) (.slice a2 n2 c2) (.slice a3 n3 c3)
 obtain ⟨pb, hpb⟩ : ∃ pb, pb = w1.heap.size := ⟨_, rfl⟩
 rw [← hpb] at hbQ
 have hs1' := hg1.size
 have hQ2 : Pres3 (fun k => wS.heap.size ≤ k ∧ k ≠ pb) (w1.alloc (.cells #[.slice a1 n1 c1, .slice a2 n2 c2, .slice a3 n3 c3] 39)) (.slice a1 n1 c1) (.slice a2 n2 c2) (.slice a3 n3 c3) Q := hQ.mono (fun k hk hlt => ⟨⟨hk, by omega⟩, Nat.lt_of_lt_of_le hlt hgq.size, hgq.block k hlt (by simp)⟩)
 have hb1 := hbS.moved hg1 (by omega)
 have hb2 := hb1.ext hgq
 have hs2 := hs1.ext hgq
 have hgw2 : Ext w (w1.alloc (.cells #[.slice a1 n1 c1, .slice a2 n2 c2, .slice a3 n3 c3] 39)) := grown_trans (grown_own hgw0 hg1 (fun j hj hlt => by have := Option.some.inj hj; omega)) hgq
 have hzq : w1.heap.size ≤ (w1.alloc (.cells #[.slice a1 n1 c1, .slice a2 n2 c2, .slice a3 n3 c3] 39)).heap.size := hgq.size
 have HP := Lib.hid hpb
 have HQ := Lib.hid (And.intro hQ2 (And.intro hbQ (And.intro hb2 (And.intro hs2 (And.intro hgw2 hQl))))); clear hQ hQ2 hs2 hs1 hg1 hbS hb1 hgq hgw2 hQl hbQ hb2
 go_wp2_with fail
 rw [← HP.out]
 generalize w1.alloc (.cells #[.slice a1 n1 c1, .slice a2 n2 c2, .slice a3 n3 c3] 39) = w2 at *
 have hpw : wS.heap.size ≤ pb := by omega
 have hz2 : wS.heap.size ≤ w2.heap.size := by omega
 clear hpb HP
 refine Calls.mono (l01Next_ok (sb + 1) w2 sb 20 HQ.out.2.2.2.1) ?_
 rintro e3 w3 ⟨v3, rfl, hg3, x, rfl, -, -, hs3⟩
 have hz3 := hg3.size
 have H3 : RealCut (sb + 1) sb pb w.heap.size w wS w3 := ⟨_, _, _, _, _, _, _, _, _, Q, HQ.out.2.2.2.2.2, HQ.out.1.mono (fun k hk hlt => ⟨hk, Nat.lt_of_lt_of_le hlt hg3.size, hg3.block k hlt (fun e => by have := Option.some.inj e; have := hk.1; omega)⟩), HQ.out.2.1.moved hg3 (by omega), HQ.out.2.2.1.moved hg3 (by omega), hs3, grown_own HQ.out.2.2.2.2.1 hg3 (fun j hj hlt => by have := Option.some.inj hj; omega), by omega⟩
 have HC := Lib.hid H3; clear H3 hs3 hg3 HQ
 go_upto_if 15 with fail
 go_cut [] (fun wx => RealCut (sb + 1) sb pb w.heap.size w wS wx)
 case' rest =>
  clear HC hz3 hz2 a1 n1 c1 a2 n2 c2 a3 n3 c3
  obtain ⟨a1, n1, c1, a2, n2, c2, a3, n3, c3, Q, hQl, hQ, hbQ, hbR, hsx, hgx, hzx⟩ := hcut
  go_upto_region 6 with fail
  have hgA : Ext wc (wc.alloc (.cells #[] 36)) := World.grownBy_alloc _ _ _
  have hLA : RV wc.heap.size (wc.alloc (.cells #[] 36)) (.slice (some ⟨wc.heap.size, 0, none⟩) 0 0) [] := ⟨[], rfl, World.ownsRow_lit wc #[] 0 (Nat.le_refl _) (by decide) rfl, fun i hi => absurd hi (by simp)⟩
  have hQA : Pres3 (fun k => (wS.heap.size ≤ k ∧ k ≠ pb) ∧ k < wc.heap.size) (wc.alloc (.cells #[] 36)) (.slice a1 n1 c1) (.slice a2 n2 c2) (.slice a3 n3 c3) Q := hQ.mono (fun k hk hlt => ⟨⟨hk, hlt⟩, Nat.lt_of_lt_of_le hlt hgA.size, hgA.block k hlt (by simp)⟩)
  have hpB := hbQ.1
  have hbA := hbQ.ext hgA
  have hrA := hbR.ext hgA
  have hsA := hsx.ext hgA
  have hg5 := grown_trans hgx hgA
  have hz5 := hgA.size
  obtain ⟨B, hB⟩ : ∃ B, B = wc.heap.size := ⟨_, rfl⟩
  rw [← hB]
  rw [← hB] at hLA hQA hz5 hzx hpB
  generalize wc.alloc (.cells #[] 36) = w5 at *
  clear hQ hbQ hbR hsx hgx hgA hB
  have HF := Lib.hid (And.intro hQA (And.intro hbA (And.intro hrA (And.intro hsA (And.intro hg5 (And.intro hLA hQl)))))); clear hQA hbA hrA hsA hg5 hLA hQl
  go_cut [25] (fun b wx => ∃ r, b = .bool r ∧ (r = true → rconsB Q = true ∧ ordP Q ≤ 36) ∧ Ext w5 wx)
  case' rest =>
   obtain ⟨r, rfl, hr, hg6⟩ := hcut
   go_upto_if 25 with fail
   go_cut [6] (fun v6 wx => Ext w5 wx ∧ ∃ L : List (List Int), L.length ≤ 100 ∧ (∀ b ∈ L, b.length ≤ 1000) ∧ RV B wx v6 L)
   case' rest =>
    clear hr hg6
    obtain ⟨hg6, L, hL1, hL2, hL⟩ := hcut
    have h0 : RealSt (sb + 1) sb pb B wS.heap.size w (.slice a1 n1 c1) (.slice a2 n2 c2) (.slice a3 n3 c3) Q wc u6 L := ⟨⟨by omega, by omega, by omega, by omega, hpB, Nat.le_trans hz5 hg6.size⟩, HF.out.1.ext hg6, HF.out.2.1.ext hg6, HF.out.2.2.1.ext hg6, HF.out.2.2.2.1.ext hg6, grown_trans HF.out.2.2.2.2.1 hg6, hL, hL1, (fun b hb => Nat.le_trans (hL2 b hb) (by omega)), HF.out.2.2.2.2.2.2⟩
    have hu6 : ∃ a c, u6 = .slice a L.length c := by
     by_cases h : 0 < L.length
     ·obtain ⟨g, c, e, _⟩ := hL.form h; exact ⟨_, _, e⟩
     ·obtain ⟨a, c, e, _⟩ := Sl.shape (hL.rows (by omega)); exact ⟨_, _, e⟩
    obtain ⟨a6, c6, rfl⟩ := hu6
    have H0 := Lib.hid (And.intro h0 hL2); clear h0 hL2 hL HF hg6 hz5 hzx hpB hpw hzq hs1' HSB hgw0 hsb1
    go_wp2_with fail
    refine Calls.mono (l01Next_ok (sb + 1) wc sb 6 H0.out.1.s) ?_
    rintro e7 w7 ⟨v7, rfl, hg7, x, rfl, -, hx1, hs7⟩
    have hx := hx1 (by omega)
    have H7 := Lib.hid (And.intro (H0.out.1.moved hg7 hs7) H0.out.2); clear hx1 H0 hg7 hs7
    go_upto_block 0 with fail
    go_cut [7, 8] (fun i8 r8 wx => ∃ L', RealSt (sb + 1) sb pb B wS.heap.size w (.slice a1 n1 c1) (.slice a2 n2 c2) (.slice a3 n3 c3) Q wx (.slice a6 L.length c6) L')
    case' rest =>
     obtain ⟨L', hX⟩ := hcut
     obtain ⟨q0, q1, q2, q3, q4⟩ := id hX.bq
     obtain ⟨r0, r1, r2, r3, r4⟩ := id hX.br
     have hZ := hX.br.all (.slice a1 n1 c1) (.slice a2 n2 c2) (.slice a3 n3 c3)
     obtain ⟨-, z0, z1, z2, -⟩ := id hZ
     have hend := hX.fin (hX.q.mono (fun k hk hlt => ⟨(by have := hX.pos; have := hk.1.1; omega : w.heap.size < k), hlt, rfl⟩)) hX.ql
     have HE := Lib.hid hend; clear hend hX hZ H7
     go_wp2_with fail
     refine bodyPost_ret (v := .tuple #[.agg #[.slice a1 n1 c1, .slice a2 n2 c2, .slice a3 n3 c3], .slice a6 L.length c6]) (by simp [results, Tryz.results36, go_sem, z0, z1, z2]) rfl ?_
     exact HE.out
    rcases (show x = 0 ∨ x = 1 ∨ x = 2 ∨ x = 3 ∨ x = 4 ∨ x = 5 by omega) with rfl | rfl | rfl | rfl | rfl | rfl
    all_goals clear hx
    ·obtain ⟨q0, q1, q2, q3, q4⟩ := id H7.out.1.bq
     go_wp2_with fail
     refine Calls.mono (sIsPresentation_ok w7 _ Q _ ⟨_, _, _, rfl, H7.out.1.q⟩) ?_
     rintro e8 w8 ⟨v8, rfl, hg8, rfl⟩
     have h8 := H7.out.1.ext hg8
     clear q0 q1 q2 q3 q4 hg8
     cases hv : validB Q with
     | false =>
      have H8 := Lib.hid h8; clear h8
      go_wp2_with fail
      go_meet
      exact ⟨_, H8.out⟩
     | true =>
      have hV : Valid Q := by
       classical
       have hvd : validB Q = true ↔ Valid Q := by unfold validB; rw [decide_eq_true_eq]
       exact hvd.1 hv
      obtain ⟨q0, q1, q2, q3, q4⟩ := id h8.bq
      have H8 := Lib.hid h8; clear h8 hv
      go_wp2_with fail
      refine Calls.mono (l07Turn_ok (sb + 1) w8 sb _ Q _ (by have := H8.out.pos; omega) H8.out.s ⟨_, _, _, rfl, H8.out.q⟩ hV) ?_
      rintro e9 w9 ⟨v9, rfl, hg9, ⟨vo, vp, vc, Q2, rfl, hl2, hP2⟩, hs9⟩
      obtain ⟨b1, m1, d1, hy1⟩ : ∃ a n c, vo = .slice a n c := by obtain ⟨a, c, e, _⟩ := hP2.o.shape; exact ⟨_, _, _, e⟩
      obtain ⟨b2, m2, d2, hy2⟩ : ∃ a n c, vp = .slice a n c := by obtain ⟨a, c, e, _⟩ := Sl.shape hP2.p; exact ⟨_, _, _, e⟩
      obtain ⟨b3, m3, d3, hy3⟩ : ∃ a n c, vc = .slice a n c := by obtain ⟨a, c, e, _⟩ := Sl.shape hP2.c; exact ⟨_, _, _, e⟩
      subst hy1 hy2 hy3
      have h9 := H8.out.moved hg9 hs9
      obtain ⟨r0, r1, r2, r3, r4⟩ := id h9.br
      have hZ := h9.br.all (.slice b1 m1 d1) (.slice b2 m2 d2) (.slice b3 m3 d3)
      obtain ⟨-, z0, z1, z2, -⟩ := id hZ
      have hend := h9.fin (hP2.mono (fun k hk hlt => ⟨(by have := H8.out.pos; have hk : w8.heap.size ≤ k := hk; omega : w.heap.size < k), hlt, rfl⟩)) hl2
      have HE := Lib.hid hend; clear hend h9 hZ H7 H8 hP2 hg9 hs9 q0 q1 q2 q3 q4
      go_wp2_with fail
      refine bodyPost_ret (v := .tuple #[.agg #[.slice b1 m1 d1, .slice b2 m2 d2, .slice b3 m3 d3], .slice a6 L.length c6]) (by simp [results, Tryz.results36, go_sem, z0, z1, z2]) rfl ?_
      exact HE.out
    ·go_wp2_with fail
     go_loopw [7] (fun iv wr => ∃ (k : Nat) (L' : List (List Int)), iv = .int .i64 (k : Int) ∧ k ≤ L.length ∧ Hid (L'.length = L.length ∧ RealSt (sb + 1) sb pb B wS.heap.size w (.slice a1 n1 c1) (.slice a2 n2 c2) (.slice a3 n3 c3) Q wr (.slice a6 L.length c6) L' ∧ ∀ i, k ≤ i → i < L.length → (gt L' i).length ≤ 1000)) (fun iv _ => L.length - (intOf iv).toNat)
     case atStart => exact ⟨0, L, rfl, by omega, Lib.hid ⟨rfl, H7.out.1, fun i _ hi => H7.out.2 _ (gtMem hi)⟩⟩
     case round =>
      obtain ⟨k, L', rfl, hk, hh⟩ := hrel
      by_cases hlt : k < L.length
      ·have hlt' : (k : Int) < L.length := by omega
       obtain ⟨g, c0, hv0, hBg, hgl⟩ := hh.out.2.1.rv.form (by rw [hh.out.1]; omega)
       obtain ⟨rfl, rfl⟩ : a6 = some ⟨g, 0, none⟩ ∧ c6 = c0 := by rw [hh.out.1] at hv0; cases hv0; exact ⟨rfl, rfl⟩
       clear hv0
       obtain ⟨ar, cr, hcr, -⟩ := hh.out.2.1.rv.row (i := k) (by rw [hh.out.1]; exact hlt)
       obtain ⟨N, hN⟩ : ∃ N, N = (gt L' k).length := ⟨_, rfl⟩
       rw [← hN] at hcr
       have hN1 : N ≤ 1000 := by rw [hN]; exact hh.out.2.2 k (Nat.le_refl _) hlt
       clear hN
       go_wp2_with fail
       refine Calls.mono (l11Draw_ok (sb + 1) wr sb N hN1 (by have := hh.out.2.1.pos; omega) hh.out.2.1.s) ?_
       rintro e8 w8 ⟨v8, rfl, hg8, ⟨y, ya, yc, rfl, hy, hO⟩, hs8⟩
       have h8 := hh.out.2.1.moved hg8 hs8
       have hu : Ints (fun k => B ≤ k ∧ some g ≠ some k) w8 (.slice ya y.length yc) y := ints_of_own hO (by omega) (fun k hk => by
        have := (hO.lt k hk).1; have := hh.out.2.1.pos
        exact ⟨by omega, fun e => by have := Option.some.inj e; omega⟩)
       obtain ⟨-, -, hf8, hc8⟩ := h8.rv.store hu k
       obtain ⟨z8, hc8⟩ := hc8 (by rw [hh.out.1]; exact hlt)
       have h9 := h8.put hu (by omega) (j := k) (by rw [hh.out.1]; exact hlt)
       have H9 := Lib.hid h9; clear h9 h8 hu hO hg8 hs8 hcr
       go_wp2_with fail
       go_roundw
       case rel => exact ⟨k + 1, L'.set k y, by go_num, by omega, Lib.hid ⟨by rw [List.length_set]; exact hh.out.1, H9.out, fun i h1 h2 => by rw [gt_set_ne _ _ _ _ (by omega)]; exact hh.out.2.2 i (by omega) h2⟩⟩
       case measure => simp [intOf]; omega
      ·have hke : k = L.length := by omega
       subst hke
       have hnl : ¬ (L.length : Int) < (L.length : Int) := by omega
       go_wp2_with fail
       go_meet
       exact ⟨L', hh.out.2.1⟩
    ·by_cases hl0 : 0 < L.length
     ·have hlI : (0 : Int) < L.length := by omega
      obtain ⟨g, c0, hv0, hBg, hgl⟩ := H7.out.1.rv.form hl0
      obtain ⟨rfl, rfl⟩ : a6 = some ⟨g, 0, none⟩ ∧ c6 = c0 := by cases hv0; exact ⟨rfl, rfl⟩
      clear hv0
      obtain ⟨ar, cr, hc0, -⟩ := H7.out.1.rv.row (i := 0) hl0
      obtain ⟨N, hN⟩ : ∃ N, N = (gt L 0).length := ⟨_, rfl⟩
      rw [← hN] at hc0
      have hN1 : N ≤ 1000 := by rw [hN]; exact H7.out.2 _ (gtMem hl0)
      clear hN
      have hsg : sb < g := by have := H7.out.1.pos; omega
      have hst := H7.out.1.ext (grown_drew w7 none)
      have hcd : w7.drew.cell? ⟨g, 0, none⟩ = some (.slice ar N cr) := hc0
      go_wp2_with fail
      refine wp_region_held_drew (S := fun _ => True) (by kernel_rfl) trivial (fun hHeld => ?_)
      refine tk 0 ?_
      refine tk 1 ?_
      refine tk 2 ?_
      refine tk 3 ?_
      refine tk 5 ?_
      refine tk 6 ?_
      refine rd2 4 7 (fun Kc hKc => ?_) (fun Kc hKc => ?_)
      focus
       go_simp
       go_at_call 144
       refine Calls.mono (l01Next_ok (sb + 1) w7.drew sb _ hst.s) ?_
       rintro e8 w8 ⟨v8, rfl, hg8, y, rfl, hy0, hy1, hs8⟩
       obtain ⟨m, rfl, hm⟩ : ∃ m : Nat, y = (m : Int) ∧ m < L.length := by
        rcases (show L.length = 1 ∨ 1 < (L.length : Int) by omega) with h | h
        ·exact ⟨0, hy0 (by omega), hl0⟩
        ·have := hy1 h; exact ⟨y.toNat, by omega, by omega⟩
       have hmI : (m : Int) < L.length := by omega
       have h8 := hst.moved hg8 hs8
       clear hy0 hy1 hs8
       go_wp2_with fail
       refine ko hKc trivial (fun hHeld => ?_)
       clear hKc Kc
       have c8 : w8.cell? ⟨g, 0, none⟩ = some (.slice ar N cr) := hg8.cell hcd (by simp; omega)
       have hz8 : w7.heap.size ≤ w8.heap.size := hg8.size
       refine rd1 7 (fun Kc hKc => ?_)
       go_simp
       refine ko hKc trivial (fun hHeld => ?_)
       clear hKc Kc
       refine tk 8 ?_
       refine rd1 9 (fun Kc hKc => ?_)
       go_simp
       go_at_call 149
       refine Calls.mono (l11Self_ok N (by omega) w8) ?_
       rintro e9 w9 ⟨v9, rfl, hg9, hO9d⟩
       have h9 := h8.ext hg9
       have hO9 : Own w7.heap.size w9 v9 (selfL N) := hO9d.weak hz8
       go_wp2_with fail
       refine ko hKc trivial (fun hHeld => ?_)
       clear hKc Kc
       obtain ⟨ya, yc, hy9, _⟩ := (hO9.ints (by rw [selfL_len]; omega)).shape
       subst hy9
       have hu : Ints (fun k => B ≤ k ∧ some g ≠ some k) w9 (.slice ya (selfL N).length yc) (selfL N) := ints_of_own hO9 (by rw [selfL_len]; omega) (fun k hk => by
        have := (hO9.lt k hk).1
        exact ⟨by omega, fun e => by have := Option.some.inj e; omega⟩)
       obtain ⟨-, -, hf9, hc9⟩ := h9.rv.store hu m
       obtain ⟨z9, hc9⟩ := hc9 hm
       have h10 := h9.put hu (by rw [selfL_len]; omega) (j := m) hm
       refine tk 10 ?_
       refine rd1 11 (fun Kc hKc => ?_)
       go_simp
       refine ko hKc trivial (fun hHeld => ?_)
       clear hKc Kc
       refine wpAnyH_done (by kernel_rfl) ?_ _
       have H10 := Lib.hid h10; clear h10 hu hst h8 h9
       go_wp2_with fail
       go_meet
       exact ⟨_, H10.out⟩
      focus
       go_simp
       refine ko hKc trivial (fun hHeld => ?_)
       clear hKc Kc
       refine tk 8 ?_
       refine rd1 4 (fun Kc hKc => ?_)
       focus
        go_simp
        go_at_call 144
        refine Calls.mono (l01Next_ok (sb + 1) w7.drew sb _ hst.s) ?_
        rintro e8 w8 ⟨v8, rfl, hg8, y, rfl, hy0, hy1, hs8⟩
        obtain ⟨m, rfl, hm⟩ : ∃ m : Nat, y = (m : Int) ∧ m < L.length := by
         rcases (show L.length = 1 ∨ 1 < (L.length : Int) by omega) with h | h
         ·exact ⟨0, hy0 (by omega), hl0⟩
         ·have := hy1 h; exact ⟨y.toNat, by omega, by omega⟩
        have hmI : (m : Int) < L.length := by omega
        have h8 := hst.moved hg8 hs8
        clear hy0 hy1 hs8
        go_wp2_with fail
        refine ko hKc trivial (fun hHeld => ?_)
        clear hKc Kc
        have hz8 : w7.heap.size ≤ w8.heap.size := hg8.size
        refine rd1 9 (fun Kc hKc => ?_)
        go_simp
        go_at_call 149
        refine Calls.mono (l11Self_ok N (by omega) w8) ?_
        rintro e9 w9 ⟨v9, rfl, hg9, hO9d⟩
        have h9 := h8.ext hg9
        have hO9 : Own w7.heap.size w9 v9 (selfL N) := hO9d.weak hz8
        go_wp2_with fail
        refine ko hKc trivial (fun hHeld => ?_)
        clear hKc Kc
        obtain ⟨ya, yc, hy9, _⟩ := (hO9.ints (by rw [selfL_len]; omega)).shape
        subst hy9
        have hu : Ints (fun k => B ≤ k ∧ some g ≠ some k) w9 (.slice ya (selfL N).length yc) (selfL N) := ints_of_own hO9 (by rw [selfL_len]; omega) (fun k hk => by
         have := (hO9.lt k hk).1
         exact ⟨by omega, fun e => by have := Option.some.inj e; omega⟩)
        obtain ⟨-, -, hf9, hc9⟩ := h9.rv.store hu m
        obtain ⟨z9, hc9⟩ := hc9 hm
        have h10 := h9.put hu (by rw [selfL_len]; omega) (j := m) hm
        refine tk 10 ?_
        refine rd1 11 (fun Kc hKc => ?_)
        go_simp
        refine ko hKc trivial (fun hHeld => ?_)
        clear hKc Kc
        refine wpAnyH_done (by kernel_rfl) ?_ _
        have H10 := Lib.hid h10; clear h10 hu hst h8 h9
        go_wp2_with fail
        go_meet
        exact ⟨_, H10.out⟩
     ·have hlI : ¬ (0 : Int) < L.length := by omega
      go_wp2_with fail
      go_meet
      exact ⟨_, H7.out.1⟩
    ·by_cases hl1 : 1 < L.length
     ·have hlI : (1 : Int) < L.length := by omega
      have hlI0 : (0 : Int) < L.length := by omega
      obtain ⟨g, c0, hv0, hBg, hgl⟩ := H7.out.1.rv.form (by omega)
      obtain ⟨rfl, rfl⟩ : a6 = some ⟨g, 0, none⟩ ∧ c6 = c0 := by cases hv0; exact ⟨rfl, rfl⟩
      clear hv0
      obtain ⟨ar0, cr0, hc0, hi0⟩ := H7.out.1.rv.row (i := 0) (by omega)
      obtain ⟨ar1, cr1, hc1, hi1⟩ := H7.out.1.rv.row (i := 1) hl1
      have h8 := H7.out.1.put hi1 (by have := H7.out.2 _ (gtMem hl1); omega) (j := 0) (by omega)
      obtain ⟨-, hg1, hf0, -⟩ := H7.out.1.rv.store hi1 0
      have hi0' := Ints.mono hi0 (frame_of hg1 (fun k hk _ => ⟨hk, hk.2⟩))
      have h9 := h8.put hi0' (by have := H7.out.2 _ (gtMem (show 0 < L.length by omega)); omega) (j := 1) (by rw [List.length_set]; exact hl1)
      obtain ⟨-, -, hf1, hz1⟩ := h8.rv.store hi0' 1
      obtain ⟨z1, hz1⟩ := hz1 (by rw [List.length_set]; exact hl1)
      have H9 := Lib.hid h9; clear h8 h9 hi0' hg1 hi0 hi1
      go_wp2_with fail
      go_meet
      exact ⟨_, H9.out⟩
     ·have hlI : ¬ (1 : Int) < L.length := by omega
      go_wp2_with fail
      go_meet
      exact ⟨_, H7.out.1⟩
    ·go_wp2_with fail
     go_meet
     exact ⟨_, H7.out.1⟩
    ·go_wp2_with fail
     go_meet
     exact ⟨_, H7.out.1⟩
   cases r with
   | false =>
    go_wp2_with fail
    go_meet
    exact ⟨hg6, [], by simp, by simp, HF.out.2.2.2.2.2.1.ext hg6⟩
   | true =>
    obtain ⟨hr1, hr2⟩ := hr rfl
    have G := grp_of_r hr1
    have hQ6 := HF.out.1.ext hg6
    obtain ⟨b0, b1, b2, b3, b4⟩ := id (HF.out.2.1.ext hg6)
    have HQ6 := Lib.hid (And.intro hQ6 hr2); clear hQ6 hr2 hr
    go_wp2_with fail
    refine Calls.mono (l11Regular_ok Q G _ _ _ ⟨_, _, _, rfl, HQ6.out.1⟩) ?_
    rintro e7 w7 ⟨v7, rfl, hg7, hR7⟩
    have HR7 := Lib.hid hR7; clear hR7 b0 b1 b2 b3 b4
    go_wp2_with fail
    go_meet
    exact ⟨grown_trans hg6 hg7, rgL Q, by rw [rgL_len]; have := HF.out.2.2.2.2.2.2; omega, rgL_le HQ6.out.2, (RV.of HR7.out).low (Nat.le_trans hz5 hg6.size)⟩
  obtain ⟨b0, b1, b2, b3, b4⟩ := id HF.out.2.1
  go_wp2_with fail
  refine Calls.mono (l08Group_ok Q w5 _ _ ⟨_, _, _, rfl, HF.out.1⟩) ?_
  rintro e6 w6 ⟨v6, rfl, hg6, rfl⟩
  have hb6 := HF.out.2.1.ext hg6
  have hQ6 := HF.out.1.ext hg6
  clear b0 b1 b2 b3 b4
  obtain ⟨b0, b1, b2, b3, b4⟩ := id hb6
  have HQ6 := Lib.hid hQ6; clear hQ6 hb6
  cases hr : rconsB Q with
  | false =>
   go_wp2_with fail
   go_meet
   exact ⟨false, rfl, (fun h => absurd h (by simp)), hg6⟩
  | true =>
   have G := grp_of_r hr
   go_wp2_with fail
   refine Calls.mono (l10Order_ok w6 _ Q _ G.v ⟨_, _, _, rfl, HQ6.out⟩) ?_
   rintro e7 w7 ⟨v7, rfl, hg7, rfl⟩
   clear b0 b1 b2 b3 b4
   go_wp2_with fail
   go_meet
   exact ⟨_, rfl, (fun h => ⟨hr, by simpa using h⟩), grown_trans hg6 hg7⟩
 obtain ⟨a1', n1', c1', a2', n2', c2', a3', n3', c3', Q', hQl', hQ', hbQ', hbR', hsx', hgx', hzx'⟩ := id HC.out
 have hpq := hbQ'.1
 have H0 := Lib.hid (And.intro hQ' (And.intro hsx' (And.intro hgx' (And.intro hbR' hbQ')))); clear hQ' hsx' hgx' hbR' hbQ'
 by_cases hx : x = 0
 ·subst hx
  go_wp2_with fail
  refine Calls.mono (l07DrawL_ok (sb + 1) w3 sb 243 (by omega) H0.out.2.1) ?_
  rintro e4 w4 ⟨v4, rfl, hg4, ⟨vo, vp, vc, Q4, rfl, hQl4, hQ4, -⟩, hs4⟩
  obtain ⟨b1, m1, d1, hy1⟩ : ∃ a n c, vo = .slice a n c := by obtain ⟨a, c, e, _⟩ := hQ4.o.shape; exact ⟨_, _, _, e⟩
  obtain ⟨b2, m2, d2, hy2⟩ : ∃ a n c, vp = .slice a n c := by obtain ⟨a, c, e, _⟩ := Sl.shape hQ4.p; exact ⟨_, _, _, e⟩
  obtain ⟨b3, m3, d3, hy3⟩ : ∃ a n c, vc = .slice a n c := by obtain ⟨a, c, e, _⟩ := Sl.shape hQ4.c; exact ⟨_, _, _, e⟩
  subst hy1 hy2 hy3
  have hb4 := H0.out.2.2.2.2.moved hg4 (by omega)
  have hr4 := H0.out.2.2.2.1.moved hg4 (by omega)
  obtain ⟨q0, q1, q2, q3, q4⟩ := id hb4
  have hZ := hb4.all (.slice b1 m1 d1) (.slice b2 m2 d2) (.slice b3 m3 d3)
  have hT := grown_set3 w4 pb (.slice b1 m1 d1) (.slice b2 m2 d2) (.slice b3 m3 d3)
  have hz4 := hg4.size
  have hz5 := hT.size
  have hE : RealCut (sb + 1) sb pb w.heap.size w wS (((w4.setCell ⟨pb, 0, none⟩ (.slice b1 m1 d1)).setCell ⟨pb, 1, none⟩ (.slice b2 m2 d2)).setCell ⟨pb, 2, none⟩ (.slice b3 m3 d3)) :=
   ⟨_, _, _, _, _, _, _, _, _, Q4, hQl4, hQ4.mono (frame_of hT (fun k hk _ => ⟨⟨by have hk : w3.heap.size ≤ k := hk; omega, by have hk : w3.heap.size ≤ k := hk; omega⟩, fun e => by have := Option.some.inj e; have hk : w3.heap.size ≤ k := hk; omega⟩)), hZ, hr4.moved hT (by omega), hs4.own hT (fun k hk => by have := Option.some.inj hk; omega), grown_own (grown_own H0.out.2.2.1 hg4 (fun j hj hlt => by have := Option.some.inj hj; omega)) hT (fun j hj hlt => by have := Option.some.inj hj; have := H0.out.2.2.1.size; omega), by omega⟩
  have HE := Lib.hid hE; clear hE hT hZ hb4 hr4 hQ4 hg4 hs4
  go_wp2_with fail
  go_meet
  exact HE.out
 ·have hxb : (x == 0) = false := by simp; exact hx
  clear hx
  go_wp2_with fail
  go_meet
  exact HC.out
end Go.Proofs.YtmjkoejegfjbbaaGreat
namespace Go.Proofs.YtmjkoejegfjbbaaGreat
open Go.RowKit
theorem own_one0 {B : Nat} {w : World} (hB : B ≤ w.heap.size) (y : Int) : Own B (w.alloc (.cells #[.int .i64 y] 2)) (.slice (some ⟨w.heap.size, 0, none⟩) 1 1) [y] := World.ownsRow_lit w #[.int .i64 y] 1 hB (by decide) rfl
open Classical in
set_option maxRecDepth 100000 in
set_option maxHeartbeats 16000000 in
theorem iReal_ok (P : Pr) (w : World) (pv lv : Value) (L : List (List Int)) (hLl : L.length ≤ 1000) (hLr : ∀ b ∈ L, b.length ≤ 1000000) (Sp Sl_ : Nat → Prop) (hpv : PresV Sp w pv P) (hlv : Rows2 Sl_ w lv L) :
  Calls Tryz.prog 37 #[pv, lv] w (Ret w fun _ v => v = .tuple #[.bool (reB P L), .int .i64 (reC P)]) := by
 have hvd : validB P = true ↔ Valid P := by unfold validB; rw [decide_eq_true_eq]
 obtain ⟨vo, vp, vc, rfl, h3⟩ := hpv
 have hp0 := PresP.box h3 39
 have hg0 : Ext w (w.alloc (.cells #[vo, vp, vc] 39)) := World.grownBy_alloc _ _ _
 have hl0 := Rows2.ext hlv hg0
 obtain ⟨al, capl, rfl, _, _⟩ := Sl.shape hlv
 obtain ⟨vo6, vp6, vc6, _, _, hc0, hc1, hc2, h36⟩ := hp0.at
 simp only [Nat.zero_add] at hc1 hc2
 obtain ⟨ao, co, hvo, _, _⟩ := h36.o.shape
 subst hvo
 have hbx : ∀ w', Ext (w.alloc (.cells #[vo, vp, vc] 39)) w' → w'.cell? ⟨w.heap.size, 0, none⟩ = some (.slice ao P.orders.length co) ∧ w'.cell? ⟨w.heap.size, 1, none⟩ = some vp6 ∧ w'.cell? ⟨w.heap.size, 2, none⟩ = some vc6 := fun w' h => ⟨h.cell hc0 (by simp), h.cell hc1 (by simp), h.cell hc2 (by simp)⟩
 have hpx : ∀ w', Ext (w.alloc (.cells #[vo, vp, vc] 39)) w' → PresV Any w' (.agg #[.slice ao P.orders.length co, vp6, vc6]) P := fun w' h => ⟨_, _, _, rfl, Pres3.ext h36 h⟩
 have hipr := isPresentation_ok (w.alloc (.cells #[vo, vp, vc] 39)) (.agg #[.slice ao P.orders.length co, vp6, vc6]) P Any (hpx _ (Ext.refl _))
 have hppx : ∀ w', Ext (w.alloc (.cells #[vo, vp, vc] 39)) w' → PresP Any w' (.pointer (some ⟨w.heap.size, 0, none⟩)) P := fun w' h => hp0.ext h
 have HB := Lib.hid (And.intro hbx (And.intro hpx (And.intro hppx (And.intro hvd hLr)))); clear hbx hpx hppx hvd hp0 hlv h36 hLr
 go_enter Tryz.func37, Tryz.ntmps37
 go_wp2_with fail
 clear hc0 hc1 hc2
 generalize hw0 : w.alloc (.cells #[vo, vp, vc] 39) = w0 at *
 clear hw0
 refine Calls.mono hipr ?_
 rintro e1 w1 ⟨v1, rfl, hg1, rfl⟩
 clear hipr
 cases hv : validB P with
 | false =>
  obtain ⟨hc, hb⟩ := re_inv hv L
  have HC := Lib.hid (And.intro hc hb); clear hc hb hv
  go_wp2
  go_ret2
  exact ⟨_, rfl, grown_trans hg0 hg1, by rw [HC.out.1, HC.out.2]; rfl⟩
 | true =>
  have hP := HB.out.2.2.2.1.1 hv
  have hop := hP.ordP_pos
  have h729 : ordP P ≤ 729 := hP.le729
  have hn6 := hP.n6
  have HVV := Lib.hid hv; clear hv
  go_wp2_with fail
  refine Calls.mono (orderOf_ok w1 _ P Any hP (HB.out.2.2.1 w1 hg1)) ?_
  rintro _ _ ⟨rfl, rfl⟩
  by_cases hbig : 128 < ordP P
  ·obtain ⟨hc, hb⟩ := re_big HVV.out hbig L
   have HC := Lib.hid (And.intro hc hb); clear hc hb
   obtain ⟨op, hope⟩ : ∃ op, op = ordP P := ⟨_, rfl⟩
   rw [← hope] at hbig ⊢
   clear hope hop h729
   go_wp2
   go_ret2
   exact ⟨_, rfl, grown_trans hg0 hg1, by rw [HC.out.1, HC.out.2]; rfl⟩
  obtain ⟨N, hN⟩ : ∃ N, N = (ordP P).toNat := ⟨_, rfl⟩
  have hNo : ordP P = (N : Int) := by omega
  have hN128 : N ≤ 128 := by omega
  have hN0 : 0 < N := by omega
  have hno : ∀ h3 : ¬ RealB P L, reC P = 0 ∧ reB P L = false := fun h3 => re_no HVV.out hbig h3
  have hyes : ∀ h3 : RealB P L, reC P = 0 ∧ reB P L = true := fun h3 => re_yes HVV.out hbig h3
  have hre : RealB P L ↔ L.length = P.orders.length ∧ (∀ b ∈ L, BijL N b) ∧ (∀ w ∈ relsP P, evB N L w w.length = selfL N) ∧ ∀ t, t < N → Rch L t := by rw [hN]; exact Iff.rfl
  have HR := Lib.hid (And.intro hno (And.intro hyes hre)); clear hno hyes hre
  rw [hNo]
  have hbig' : ¬ (128 : Int) < (N : Int) := by omega
  clear hbig hN hNo hop h729
  obtain ⟨c0_, c1_, c2_⟩ := HB.out.1 w1 hg1
  have hll : ∀ w', Ext w1 w' → Rows2 Sl_ w' (.slice al L.length capl) L := fun w' h => Rows2.ext hl0 (grown_trans hg1 h)
  have HL := Lib.hid hll; clear hll hl0
  by_cases hlen : L.length = P.orders.length
  case neg =>
   have hn : ¬ RealB P L := fun h => hlen (HR.out.2.2.1 h).1
   obtain ⟨hc, hb⟩ := HR.out.1 hn
   have HC := Lib.hid (And.intro hc hb); clear hc hb hn
   have hne : ((L.length : Int) != (P.orders.length : Int)) = true := by simp; omega
   clear hlen
   go_wp2
   go_ret2
   exact ⟨_, rfl, grown_trans hg0 hg1, by rw [HC.out.1, HC.out.2]; rfl⟩
  have hne : ((L.length : Int) != (P.orders.length : Int)) = false := by simp; omega
  have HLE := Lib.hid hlen; clear hlen
  go_wp2
  clear c0_ c1_ c2_ hne hbig'
  go_loopw [33] (fun iv wr => ∃ k : Nat, iv = .int .i64 (k : Int) ∧ k ≤ L.length ∧ Ext w1 wr ∧ Hid (∀ j, j < k → BijL N (gt L j))) (fun iv _ => L.length - (intOf iv).toNat)
  case atStart => exact ⟨0, rfl, by omega, Ext.refl _, Lib.hid (fun j hj => by omega)⟩
  case round =>
   obtain ⟨k, rfl, hk, hg, hS⟩ := hrel
   have hgw := grown_trans hg0 (grown_trans hg1 hg)
   by_cases hlt : k < L.length
   ·have hlt' : (k : Int) < L.length := by omega
    obtain ⟨rb, ro, ra, rc, hab, _, _, hcr, hri⟩ := Rows2.at (HL.out wr hg) k hlt
    subst hab
    have hbl := HB.out.2.2.2.2 _ (gtMem hlt)
    have hbad : ¬ BijL N (gt L k) → ¬ RealB P L := fun h hR => h ((HR.out.2.2.1 hR).2.1 _ (gtMem hlt))
    have hnext : BijL N (gt L k) → ∀ j, j < k + 1 → BijL N (gt L j) := fun h j hj => by
     rcases Nat.lt_succ_iff_lt_or_eq.1 hj with h1 | h1
     ·exact hS.out j h1
     ·rw [h1]; exact h
    obtain ⟨b, hb⟩ : ∃ b, b = gt L k := ⟨_, rfl⟩
    rw [← hb] at hcr hri hbl hbad hnext
    have hcon := isBijection_ok b hbl wr _ _ hri
    by_cases hbn : b.length = N
    ·have hne : ((b.length : Int) != (N : Int)) = false := by simp; omega
     by_cases hB : BijL N b
     ·have hd : decide (BijL b.length b) = true := decide_eq_true (by rw [hbn]; exact hB)
      have HN := Lib.hid (And.intro (hnext hB) (And.intro hcon hd)); clear hnext hcon hB hbad hri hb hbn hbl hd
      go_wp2_with fail
      refine Calls.mono HN.out.2.1 ?_
      rintro e6 w6 ⟨v6, rfl, hg6, rfl⟩
      rw [HN.out.2.2]
      have hgn := grown_trans hg hg6
      go_wp2
      go_roundw
      case rel => exact ⟨k + 1, by go_num, by omega, hgn, Lib.hid HN.out.1⟩
      case measure => simp [intOf]; omega
     ·obtain ⟨hc, hb2⟩ := HR.out.1 (hbad hB)
      have hd : decide (BijL b.length b) = false := decide_eq_false (by rw [hbn]; exact hB)
      have HN := Lib.hid (And.intro (And.intro hc hb2) (And.intro hcon hd)); clear hnext hcon hB hbad hri hb hbn hbl hc hb2 hd
      go_wp2_with fail
      refine Calls.mono HN.out.2.1 ?_
      rintro e6 w6 ⟨v6, rfl, hg6, rfl⟩
      rw [HN.out.2.2]
      go_wp2
      go_ret2
      exact ⟨_, rfl, grown_trans hgw hg6, by rw [HN.out.1.1, HN.out.1.2]; rfl⟩
    ·have hne : ((b.length : Int) != (N : Int)) = true := by simp; omega
     obtain ⟨hc, hb2⟩ := HR.out.1 (hbad (fun h => hbn h.1))
     have HN := Lib.hid (And.intro hc hb2); clear hnext hcon hbad hri hb hbn hbl hc hb2
     go_wp2
     go_ret2
     exact ⟨_, rfl, hgw, by rw [HN.out.1, HN.out.2]; rfl⟩
   ·have hke : k = L.length := by omega
    have hLB : ∀ b ∈ L, BijL N b := fun b hb => by
     obtain ⟨j, hj, rfl⟩ := mem_gt hb
     exact hS.out j (by omega)
    have HLB := Lib.hid hLB; clear hLB hS hke
    have hnl : ¬ (k : Int) < L.length := by omega
    obtain ⟨w2, rfl⟩ : ∃ w2 : World, w2 = wr := ⟨_, rfl⟩
    have hg2 := grown_trans hg1 hg
    obtain ⟨c0_, c1_, c2_⟩ := HB.out.1 w2 hg2
    go_wp2_with fail
    clear c0_ c1_ c2_ hnl
    refine Calls.mono (relators_ok P hP w2 _ Any (HB.out.2.1 w2 hg2)) ?_
    rintro e3 w3 ⟨v3, rfl, hg3, qa, qn, qc, rfl, hO3⟩
    have hwr : ∀ x ∈ relsP P, WordN L.length x := fun x hx => by rw [HLE.out]; exact relsP_word hP x hx
    have hrl : (relsP P).length ≤ 1000 := by
     have := relTo_len hP P.orders.length (Nat.le_refl _)
     show (relTo P P.orders.length).length ≤ 1000
     omega
    obtain ⟨R, hR⟩ : ∃ R, R = relsP P := ⟨_, rfl⟩
    rw [← hR] at hO3 hwr hrl
    have hRr := RowsD.rows (SlO.toD hO3 (by omega))
    have hqn : qn = R.length := by obtain ⟨a, c, e, _⟩ := Sl.shape hRr; cases e; rfl
    subst hqn
    have hRx : ∀ w', Ext w3 w' → Rows2 Any w' (.slice qa R.length qc) R := fun w' h => Rows2.sub (Rows2.ext hRr h) (fun _ _ _ => trivial)
    have hg03 := grown_trans hg2 hg3
    have hgl3 := grown_trans hg hg3
    have HRR := Lib.hid (And.intro hR (And.intro hwr hRx)); clear hR hwr hRx hRr hO3 hg3
    clear hk hlt hg hgw
    go_wp2
    go_loopw [54] (fun iv wr => ∃ k : Nat, iv = .int .i64 (k : Int) ∧ k ≤ R.length ∧ Ext w3 wr ∧ Hid (∀ j, j < k → evB N L (gt R j) (gt R j).length = selfL N)) (fun iv _ => R.length - (intOf iv).toNat)
    case atStart => exact ⟨0, rfl, by omega, Ext.refl _, Lib.hid (fun j hj => by omega)⟩
    case round =>
     obtain ⟨k, rfl, hk, hg, hS⟩ := hrel
     have hg0r := grown_trans hg03 hg
     have hglr := grown_trans hgl3 hg
     have hgw := grown_trans hg0 hg0r
     by_cases hlt : k < R.length
     ·have hlt' : (k : Int) < R.length := by omega
      obtain ⟨rb, ro, ra, rc, hab, _, _, hcr, hri⟩ := Rows2.at (HRR.out.2.2 wr hg) k hlt
      subst hab
      have hwd := HRR.out.2.1 _ (gtMem hlt)
      have hbad : ¬ evB N L (gt R k) (gt R k).length = selfL N → ¬ RealB P L := fun h hRb => h ((HR.out.2.2.1 hRb).2.2.1 _ (by rw [← HRR.out.1]; exact gtMem hlt))
      have hnext : evB N L (gt R k) (gt R k).length = selfL N → ∀ j, j < k + 1 → evB N L (gt R j) (gt R j).length = selfL N := fun h j hj => by
       rcases Nat.lt_succ_iff_lt_or_eq.1 hj with h1 | h1
       ·exact hS.out j h1
       ·rw [h1]; exact h
      obtain ⟨W, hW⟩ : ∃ W, W = gt R k := ⟨_, rfl⟩
      rw [← hW] at hcr hri hwd hbad hnext
      have hcw := composeWord_ok HLB.out (by omega : N ≤ 1000) hLl hwd wr _ _ _ _ hri (HL.out wr hglr)
      have hEb := evB_bij HLB.out hwd W.length (Nat.le_refl _)
      obtain ⟨E, hE⟩ : ∃ E, E = evB N L W W.length := ⟨_, rfl⟩
      rw [← hE] at hcw hEb hbad hnext
      have HW := Lib.hid (And.intro hbad (And.intro hnext (And.intro hEb hcw))); clear hbad hnext hEb hcw hri hwd hW hE hS
      go_wp2_with fail
      refine Calls.mono HW.out.2.2.2 ?_
      rintro e5 w5 ⟨v5, rfl, hg5, hO5⟩
      have hEi := hO5.ints (by rw [HW.out.2.2.1.1]; omega)
      obtain ⟨ea, ec, rfl, _, _⟩ := hEi.shape
      have hEl := HW.out.2.2.1.1
      rw [hEl]
      have hEx : ∀ t, t < N → ∃ b o, ea = some ⟨b, o, none⟩ ∧ w5.cell? ⟨b, o + t, none⟩ = some (.int .i64 (gt E t)) := fun t ht => by
       obtain ⟨b, o, h1, _, _, h2⟩ := Ints.at hEi t (by rw [hEl]; exact ht)
       exact ⟨b, o, h1, h2⟩
      have HE := Lib.hid (And.intro hEx hEl); clear hEx hEl hEi hO5 hcr
      have hgn := grown_trans hg hg5
      have hgw5 := grown_trans hgw hg5
      go_wp2
      go_loopw [63] (fun tv wq => wq = w5 ∧ ∃ t : Nat, tv = .int .i64 (t : Int) ∧ t ≤ N ∧ Hid (∀ s, s < t → gt E s = (s : Int))) (fun tv _ => N - (intOf tv).toNat)
      case atStart => exact ⟨by simp, 0, rfl, by omega, Lib.hid (fun s hs => by omega)⟩
      case round =>
       obtain ⟨rfl, t, rfl, ht, hT⟩ := hrel
       by_cases htl : t < N
       ·have htl' : (t : Int) < N := by omega
        obtain ⟨eb, eo, hea, hce⟩ := HE.out.1 t htl
        subst hea
        by_cases hx : gt E t = (t : Int)
        ·have hnx : ∀ s, s < t + 1 → gt E s = (s : Int) := fun s hs => by
          rcases Nat.lt_succ_iff_lt_or_eq.1 hs with h1 | h1
          ·exact hT.out s h1
          ·rw [h1]; exact hx
         rw [hx] at hce
         have HN := Lib.hid hnx; clear hnx hx hT
         have hnn : ((t : Int) != (t : Int)) = false := by simp
         go_wp2
         go_roundw
         case rel => exact ⟨by simp, t + 1, by go_num, by omega, Lib.hid HN.out⟩
         case measure => simp [intOf]; omega
        ·obtain ⟨hc, hb2⟩ := HR.out.1 (HW.out.1 (fun e => hx (by rw [e]; exact gt_selfL htl)))
         have HN := Lib.hid (And.intro hc hb2); clear hc hb2 hT
         obtain ⟨y, hy⟩ : ∃ y, y = gt E t := ⟨_, rfl⟩
         rw [← hy] at hce hx
         have hnn : (y != (t : Int)) = true := by simpa using hx
         clear hy hx
         go_wp2
         go_ret2
         exact ⟨_, rfl, hgw5, by rw [HN.out.1, HN.out.2]; rfl⟩
       ·have hte : t = N := by omega
        have hEe : E = selfL N := by
         apply ext_gt
         ·rw [HE.out.2, selfL_len]
         ·intro s hs
          have hs : s < N := by rw [← HE.out.2]; exact hs
          rw [gt_selfL hs]; exact hT.out s (by omega)
        have HN := Lib.hid (HW.out.2.1 hEe); clear hEe hT
        have hnl : ¬ (t : Int) < N := by omega
        go_wp2
        go_roundw
        case rel => exact ⟨k + 1, by go_num, by omega, hgn, Lib.hid HN.out⟩
        case measure => simp [intOf]; omega
     ·have hke : k = R.length := by omega
      have hrelB : ∀ x ∈ relsP P, evB N L x x.length = selfL N := fun x hx => by
       rw [← HRR.out.1] at hx
       obtain ⟨j, hj, rfl⟩ := mem_gt hx
       exact hS.out j (by omega)
      have hfin : (∀ t, t < N → Rch L t) ↔ RealB P L := by
       rw [HR.out.2.2]
       exact ⟨fun h => ⟨HLE.out, HLB.out, hrelB, h⟩, fun h => h.2.2.2⟩
      have HF := Lib.hid hfin; clear hfin hrelB hS
      have hnl : ¬ (k : Int) < R.length := by omega
      obtain ⟨w4, rfl⟩ : ∃ w4 : World, w4 = wr := ⟨_, rfl⟩
      clear hk hlt hke hg hrl
      go_wp2
      clear hnl
      go_loopw [15, 16] (fun rv iv wr => ∃ (i : Nat) (v5 : Value) (rl : List Int), v5 = rv ∧ iv = .int .i64 (i : Int) ∧ i ≤ N ∧ Ext w4 wr ∧ Own w4.heap.size wr v5 rl ∧ Hid (RchInv N L rl i 0)) (fun _ iv _ => N - (intOf iv).toNat)
      case atStart => exact ⟨0, _, [0], rfl, rfl, by omega, World.grownBy_alloc _ _ _, own_one0 (Nat.le_refl _) 0, Lib.hid (RchInv.start hN0 L)⟩
      case round =>
       obtain ⟨i, v5, rl, rfl, rfl, hi, hg, hO, hS⟩ := hrel
       have hrl := hS.out.len
       have hile := hS.out.le
       have hri := hO.ints (by omega)
       obtain ⟨ra, rc, rfl, _, _⟩ := hri.shape
       have hgwr := grown_trans hgw hg
       by_cases hlt : i < rl.length
       ·have hlt' : (i : Int) < rl.length := by omega
        have HO := Lib.hid hO; clear hO hri
        go_wp2
        go_loopw [15, 82] (fun rv kv wq => ∃ (k : Nat) (v6 : Value) (rl2 : List Int), v6 = rv ∧ kv = .int .i64 (k : Int) ∧ k ≤ L.length ∧ Ext w4 wq ∧ Own w4.heap.size wq v6 rl2 ∧ Hid (RchInv N L rl2 i k ∧ i < rl2.length)) (fun _ kv _ => L.length - (intOf kv).toNat)
        case atStart => exact ⟨0, _, rl, rfl, rfl, by omega, hg, HO.out, Lib.hid ⟨hS.out, hlt⟩⟩
        case round =>
         clear hrl hile hlt hlt' HO hg hgwr
         obtain ⟨k, v6, rl2, rfl, rfl, hk, hg, hO, hT⟩ := hrel
         have hrl := hT.out.1.len
         have hilt := hT.out.2
         have hri := hO.ints (by omega)
         obtain ⟨qa2, qc2, rfl, _, _⟩ := hri.shape
         by_cases hkl : k < L.length
         ·have hkl' : (k : Int) < L.length := by omega
          obtain ⟨rb, ro, ra3, rc3, hab, _, _, hcr, hrow⟩ := Rows2.at (HL.out wr (grown_trans hglr hg)) k hkl
          subst hab
          obtain ⟨xb, xo, hxa, _, _, hcx⟩ := Ints.at hri i hilt
          subst hxa
          have hbb := HLB.out _ (gtMem hkl)
          have hxr := hT.out.1.rg _ (gtMem hilt)
          have hno := hT.out.1.no (k := k)
          have hye := hT.out.1.yes hilt hkl hbb
          obtain ⟨x, hx⟩ : ∃ x : Nat, x = (gt rl2 i).toNat := ⟨_, rfl⟩
          have hxi : gt rl2 i = (x : Int) := by omega
          rw [hxi] at hcx hxr
          rw [← hx] at hno hye
          obtain ⟨b, hb⟩ : ∃ b, b = gt L k := ⟨_, rfl⟩
          rw [← hb] at hcr hrow hbb hno hye
          have hxN : x < N := by omega
          obtain ⟨yb, yo, hya, _, _, hcy⟩ := Ints.at hrow x (by rw [hbb.1]; exact hxN)
          subst hya
          obtain ⟨y, hy⟩ : ∃ y, y = gt b x := ⟨_, rfl⟩
          rw [← hy] at hcy hno hye
          have hbl : b.length = N := hbb.1
          rw [hbl] at hcr
          have hxb' : (x : Int) < N := by omega
          have hilt' : (i : Int) < rl2.length := by omega
          have hcon := containsJ_ok rl2 y wr _ Any hri
          have hll : rl2.length ≤ 1000000 := by omega
          have HX := Lib.hid (And.intro hcon (And.intro hno (And.intro hye hll))); clear hcon hno hye hri hrow hbb hxr hx hxi hb hbl hy hxN
          have HO := Lib.hid hO; clear hO
          clear hrl
          by_cases hm : y ∈ rl2
          ·have hd : decide (y ∈ rl2) = true := decide_eq_true hm
           have HM := Lib.hid (HX.out.2.1 hm)
           have HD := Lib.hid hd; clear hd hm
           go_wp2_with fail
           refine Calls.mono HX.out.1 ?_
           rintro e6 w6 ⟨v6, rfl, hg6, rfl⟩
           rw [HD.out]
           have hgn := grown_trans hg hg6
           have hOn := HO.out.ext0 hg6
           go_wp2
           go_roundw
           case rel => exact ⟨k + 1, _, rl2, rfl, by go_num, by omega, hgn, hOn, Lib.hid ⟨HM.out, hilt⟩⟩
           case measure => simp [intOf]; omega
          ·have hd : decide (y ∈ rl2) = false := decide_eq_false hm
           have HM := Lib.hid (HX.out.2.2.1 hm)
           have HD := Lib.hid hd; clear hd hm
           go_wp2_with fail
           refine Calls.mono HX.out.1 ?_
           rintro e6 w6 ⟨v6, rfl, hg6, rfl⟩
           rw [HD.out]
           have hgn := grown_trans hg hg6
           have hOn := HO.out.ext0 hg6
           have hcx := hg6.cell hcx (by simp)
           have hcr := hg6.cell hcr (by simp)
           have hcy := hg6.cell hcy (by simp)
           go_wp2_with (first | (at_builtin; refine wp_app_int rfl _ _ rfl w4.heap.size _ rl2 y rfl w6 hOn rfl rfl HX.out.2.2.2 hgn.size ?_; intro v7 w7 hO7 hg7) | fail)
           have hgn7 : Ext w4 w7 := grown_own hgn hg7 (fun j hj hlt => by have := (hOn.lt j hj).1; omega)
           go_roundw
           case rel => exact ⟨k + 1, v7, rl2 ++ [y], rfl, by go_num, by omega, hgn7, hO7, Lib.hid ⟨HM.out, by rw [List.length_append]; omega⟩⟩
           case measure => simp [intOf]; omega
         ·have hke : k = L.length := by omega
          have hnx := hT.out.1
          rw [hke] at hnx
          have hnx := hnx.next hilt
          have hle2 := hnx.le
          have HN := Lib.hid hnx; clear hnx hT hri
          have hnl : ¬ (k : Int) < L.length := by omega
          go_wp2
          go_roundw
          case rel => exact ⟨i + 1, _, rl2, rfl, by go_num, by omega, hg, hO, Lib.hid HN.out⟩
          case measure => simp [intOf]; omega
       ·have hie : i = rl.length := by omega
        have hd := hS.out
        rw [hie] at hd
        have hdone := hd.done.trans HF.out
        have HD := Lib.hid hdone; clear hd hdone hS hri
        have hnl : ¬ (i : Int) < rl.length := by omega
        obtain ⟨q, hq⟩ : ∃ q, q = rl.length := ⟨_, rfl⟩
        rw [← hq] at HD hnl ⊢
        clear hq hO hlt hie hrl hile
        by_cases hqn : q = N
        ·obtain ⟨hc, hb2⟩ := HR.out.2.1 (HD.out.1 hqn)
         have HC := Lib.hid (And.intro hc hb2); clear hc hb2
         subst hqn
         go_wp2
         go_ret2
         exact ⟨_, rfl, hgwr, by rw [HC.out.1, HC.out.2]; simp⟩
        ·obtain ⟨hc, hb2⟩ := HR.out.1 (fun h => hqn (HD.out.2 h))
         have HC := Lib.hid (And.intro hc hb2); clear hc hb2
         have hqb : ((q : Int) == (N : Int)) = false := by simp; omega
         clear hqn
         go_wp2
         go_ret2
         exact ⟨_, rfl, hgwr, by rw [HC.out.1, HC.out.2]; rfl⟩
end Go.Proofs.YtmjkoejegfjbbaaGreat
namespace Go.Proofs.YtmjkoejegfjbbaaGreat
open Go.RowKit
set_option maxRecDepth 100000 in
set_option maxHeartbeats 8000000 in
theorem l11Eval_ok {N : Nat} {L : List (List Int)} (hL : ∀ b ∈ L, BijL N b) (hN : N ≤ 1000) (hLl : L.length ≤ 1000) {W : List Int} (hW : WordN L.length W) (w : World) (wv lv : Value) (S T : Nat → Prop) (hwv : Ints S w wv W) (hlv : Rows2 T w lv L) :
  Calls Tryz.prog 297 #[wv, lv, .int .i64 (N : Int)] w (Ret w fun w' r => Own w.heap.size w' r (evB N L W W.length)) := by
 obtain ⟨av, cap, rfl, _, _⟩ := hwv.shape
 obtain ⟨bv, capb, rfl, _, _⟩ := Sl.shape hlv
 have HV := Lib.hid (And.intro hwv (And.intro hlv (And.intro hL hW))); clear hwv hlv hL hW
 obtain ⟨M, hM⟩ : ∃ M, M = W.length := ⟨_, rfl⟩
 rw [← hM]
 have HM := Lib.hid hM; clear hM
 go_enter Tryz.func297, Tryz.ntmps297
 go_wp2_with fail
 refine Calls.mono (l11Self_ok N (by omega) w) ?_
 rintro e1 w1 ⟨v1, rfl, hg1, hO1⟩
 have hO0 : Own w.heap.size w1 v1 (evB N L W 0) := hO1
 clear hO1
 go_wp2
 go_loopw [7, 8] (fun ov jv wr => ∃ (j : Nat) (v5 : Value), v5 = ov ∧ jv = .int .i64 (j : Int) ∧ j ≤ M ∧ Ext w wr ∧ Own w.heap.size wr v5 (evB N L W j)) (fun _ jv _ => M - (intOf jv).toNat)
 case atStart => exact ⟨0, _, rfl, rfl, by omega, hg1, hO0⟩
 case round =>
  clear hO0 hg1
  obtain ⟨j, v5, rfl, rfl, hj, hg, hO⟩ := hrel
  by_cases hlt : j < M
  ·have hlt' : (j : Int) < M := by omega
   have hjW : j < W.length := by rw [← HM.out]; exact hlt
   obtain ⟨xb, xo, hxa, _, _, hc⟩ := Ints.at (HV.out.1.ext hg) j hjW
   subst hxa
   have hwl := HV.out.2.2.2 _ (gtMem hjW)
   have hEb := evB_bij HV.out.2.2.1 HV.out.2.2.2 j (by omega)
   have hst : evB N L W (j + 1) = aft (evB N L W j) (lwB L (gt W j)) := rfl
   obtain ⟨x, hx⟩ : ∃ x, x = gt W j := ⟨_, rfl⟩
   rw [← hx] at hc hwl hst
   have hEi := hO.ints (by rw [hEb.1]; omega)
   obtain ⟨ea, ec, rfl, _, _⟩ := hEi.shape
   obtain ⟨q, hq⟩ : ∃ q : Nat, q = (if x < 0 then (-x - 1).toNat else (x - 1).toNat) := ⟨_, rfl⟩
   have hqL : q < L.length := by rw [hq]; split <;> omega
   have hqL' : (q : Int) < L.length := by omega
   have hq0 : (0 : Int) ≤ (q : Int) := by omega
   obtain ⟨rb, ro, ra, rc, hab, _, _, hcr, hri⟩ := Rows2.at (Rows2.ext HV.out.2.1 hg) q hqL
   subst hab
   have hbb := HV.out.2.2.1 _ (gtMem hqL)
   have hlw : lwB L x = (if x < 0 then bak (gt L q) else gt L q) := by
    unfold lwB
    by_cases h0 : x < 0
    ·rw [if_pos h0, if_pos h0, hq, if_pos h0]
    ·rw [if_neg h0, if_neg h0, hq, if_neg h0]
   rw [hlw] at hst
   obtain ⟨b, hb⟩ : ∃ b, b = gt L q := ⟨_, rfl⟩
   rw [← hb] at hcr hri hbb hst
   have HB := Lib.hid (And.intro hEb (And.intro hEi (And.intro hbb (And.intro hri (And.intro hst hqL))))); clear hEb hEi hbb hri hst hqL hx hlw hb hO
   obtain ⟨bl, hbl⟩ : ∃ bl, bl = b.length := ⟨_, rfl⟩
   rw [← hbl] at hcr
   obtain ⟨el, hel⟩ : ∃ el, el = (evB N L W j).length := ⟨_, rfl⟩
   rw [← hel]
   have HL2 := Lib.hid (And.intro hbl hel); clear hbl hel
   by_cases h0 : x < 0
   ·have hst := HB.out.2.2.2.2.1
    rw [if_pos h0] at hst
    have HS := Lib.hid hst; clear hst
    rw [if_pos h0] at hq
    have hxq : -x - 1 = (q : Int) := by omega
    have hxg : ¬ (0 : Int) < x := by omega
    have hxw : IntKind.i64.wrap (-x) = -x := IntWalk.i64_in _ (by omega)
    clear hq h0 hwl
    go_wp2_with fail
    refine Calls.mono (l11Back_ok HB.out.2.2.1 hN wr _ Any (by rw [HL2.out.1]; exact Ints.sub HB.out.2.2.2.1 (fun _ _ _ => trivial))) ?_
    rintro e6 w6 ⟨v6, rfl, hg6, hO6⟩
    have hkb := HB.out.2.2.1.bak
    have h6i := hO6.ints (by rw [hkb.1]; omega)
    have hg06 := grown_trans hg hg6
    have HK := Lib.hid (And.intro hkb h6i); clear hkb h6i hO6 hcr
    go_wp2_with fail
    refine Calls.mono (l11After_ok (evB N L W j) (bak b) (by rw [HB.out.1.1]; exact hN) (fun t ht => by rw [HK.out.1.1]; exact HB.out.1.2.1 t (by rw [← HB.out.1.1]; exact ht)) w6 _ _ Any Any (by rw [HL2.out.2]; exact Ints.ext HB.out.2.1 hg6) HK.out.2) ?_
    rintro e7 w7 ⟨v7, rfl, hg7, hO7⟩
    have hgn := grown_trans hg06 hg7
    have hOn : Own w.heap.size w7 v7 (evB N L W (j + 1)) := by rw [HS.out]; exact hO7.weak hg06.size
    clear hO7
    go_wp2
    go_roundw
    case rel => exact ⟨j + 1, v7, rfl, by go_num, by omega, hgn, hOn⟩
    case measure => simp [intOf]; omega
   ·have hst := HB.out.2.2.2.2.1
    rw [if_neg h0] at hst
    have HS := Lib.hid hst; clear hst
    rw [if_neg h0] at hq
    have hxq : x - 1 = (q : Int) := by omega
    have hxg : (0 : Int) < x := by omega
    clear hq h0 hwl
    go_wp2_with fail
    refine Calls.mono (l11After_ok (evB N L W j) b (by rw [HB.out.1.1]; exact hN) (fun t ht => by rw [HB.out.2.2.1.1]; exact HB.out.1.2.1 t (by rw [← HB.out.1.1]; exact ht)) wr _ _ Any Any (by rw [HL2.out.2]; exact HB.out.2.1) (by rw [HL2.out.1]; exact Ints.sub HB.out.2.2.2.1 (fun _ _ _ => trivial))) ?_
    rintro e7 w7 ⟨v7, rfl, hg7, hO7⟩
    have hgn := grown_trans hg hg7
    have hOn : Own w.heap.size w7 v7 (evB N L W (j + 1)) := by rw [HS.out]; exact hO7.weak hg.size
    clear hO7 hcr
    go_wp2
    go_roundw
    case rel => exact ⟨j + 1, v7, rfl, by go_num, by omega, hgn, hOn⟩
    case measure => simp [intOf]; omega
  ·have hjm : j = M := by omega
   have hfin : Own w.heap.size wr v5 (evB N L W M) := by rw [← hjm]; exact hO
   have HF := Lib.hid hfin; clear hfin hO
   have hnl : ¬ (j : Int) < M := by omega
   go_wp2
   go_ret
   refine ⟨_, rfl, hg, ?_⟩
   show Own w.heap.size wr v5 (evB N L W M)
   exact HF.out
open Classical in
set_option maxRecDepth 100000 in
set_option maxHeartbeats 4000000 in
theorem l11Sized_ok {N : Nat} (hN : N ≤ 128) (L : List (List Int)) (hLl : L.length ≤ 1000) (w : World) (lv : Value) (T : Nat → Prop) (hlv : Rows2 T w lv L) :
  Calls Tryz.prog 295 #[lv, .int .i64 (N : Int)] w (Ret w fun _ r => r = .bool (decide (∀ b ∈ L, BijL N b))) := by
 obtain ⟨bv, capb, rfl, _, _⟩ := Sl.shape hlv
 have HL := Lib.hid hlv; clear hlv
 go_enter Tryz.func295, Tryz.ntmps295
 go_wp2
 go_loopw [5] (fun iv wr => ∃ k : Nat, iv = .int .i64 (k : Int) ∧ k ≤ L.length ∧ Ext w wr ∧ Hid (∀ j, j < k → BijL N (gt L j))) (fun iv _ => L.length - (intOf iv).toNat)
 case atStart => exact ⟨0, rfl, by omega, Ext.refl _, Lib.hid (fun j hj => by omega)⟩
 case round =>
  obtain ⟨k, rfl, hk, hg, hS⟩ := hrel
  by_cases hlt : k < L.length
  ·have hlt' : (k : Int) < L.length := by omega
   obtain ⟨rb, ro, ra, rc, hab, _, _, hcr, hri⟩ := Rows2.at (Rows2.ext HL.out hg) k hlt
   subst hab
   have hbad : ¬ BijL N (gt L k) → decide (∀ b ∈ L, BijL N b) = false := fun h => decide_eq_false (fun hh => h (hh _ (gtMem hlt)))
   have hnext : BijL N (gt L k) → ∀ j, j < k + 1 → BijL N (gt L j) := fun h j hj => by
    rcases Nat.lt_succ_iff_lt_or_eq.1 hj with h1 | h1
    ·exact hS.out j h1
    ·rw [h1]; exact h
   obtain ⟨b, hb⟩ : ∃ b, b = gt L k := ⟨_, rfl⟩
   rw [← hb] at hcr hri hbad hnext
   by_cases hbn : b.length = N
   ·have hne : ((b.length : Int) != (N : Int)) = false := by simp; omega
    have hcon := sIsBijection_ok b (by omega) wr _ _ hri
    by_cases hB : BijL N b
    ·have hd : decide (BijL b.length b) = true := decide_eq_true (by rw [hbn]; exact hB)
     have HN := Lib.hid (And.intro (hnext hB) (And.intro hcon hd)); clear hnext hcon hB hbad hri hb hbn hd
     go_wp2_with fail
     refine Calls.mono HN.out.2.1 ?_
     rintro e6 w6 ⟨v6, rfl, hg6, rfl⟩
     rw [HN.out.2.2]
     have hgn := grown_trans hg hg6
     go_wp2
     go_roundw
     case rel => exact ⟨k + 1, by go_num, by omega, hgn, Lib.hid HN.out.1⟩
     case measure => simp [intOf]; omega
    ·have hd : decide (BijL b.length b) = false := decide_eq_false (by rw [hbn]; exact hB)
     have HN := Lib.hid (And.intro (hbad hB) (And.intro hcon hd)); clear hnext hcon hB hbad hri hb hbn hd
     go_wp2_with fail
     refine Calls.mono HN.out.2.1 ?_
     rintro e6 w6 ⟨v6, rfl, hg6, rfl⟩
     rw [HN.out.2.2]
     go_wp2
     go_ret
     exact ⟨_, rfl, grown_trans hg hg6, by rw [HN.out.1]; rfl⟩
   ·have hne : ((b.length : Int) != (N : Int)) = true := by simp; omega
    have HN := Lib.hid (hbad (fun h => hbn h.1)); clear hnext hbad hri hb hbn
    go_wp2
    go_ret
    exact ⟨_, rfl, hg, by rw [HN.out]; rfl⟩
  ·have hke : k = L.length := by omega
   have hd : decide (∀ b ∈ L, BijL N b) = true := decide_eq_true (fun b hb => by
    obtain ⟨j, hj, rfl⟩ := mem_gt hb
    exact hS.out j (by omega))
   have HN := Lib.hid hd; clear hd hS hke
   have hnl : ¬ (k : Int) < L.length := by omega
   go_wp2
   go_ret
   exact ⟨_, rfl, hg, by rw [HN.out]; rfl⟩
def SeenR (N : Nat) (rl : List Int) (l : List Bool) : Prop := l.length = N ∧ ∀ j, j < N → (gt l j = true ↔ (j : Int) ∈ rl)
theorem SeenR.start {N : Nat} (_hN : 0 < N) : SeenR N [0] ((List.replicate N false).set 0 true) := by
 refine ⟨by rw [List.length_set, List.length_replicate], fun j hj => ?_⟩
 by_cases h : j = 0
 ·subst h
  rw [gt_set_eq _ _ _ (by rw [List.length_replicate]; exact hj)]
  simp
 ·rw [gt_set_ne _ _ _ _ (by omega)]
  have : gt (List.replicate N false) j = false := by simp [gt, hj]
  rw [this]
  constructor
  ·intro h; cases h
  ·intro h2; have := List.mem_singleton.1 h2; omega
theorem SeenR.step {N : Nat} {rl : List Int} {l : List Bool} (h : SeenR N rl l) {y : Nat} (_hy : y < N) : SeenR N (rl ++ [(y : Int)]) (l.set y true) := by
 refine ⟨by rw [List.length_set]; exact h.1, fun j hj => ?_⟩
 by_cases e : y = j
 ·subst e
  rw [gt_set_eq _ _ _ (by rw [h.1]; exact hj)]
  simp
 ·rw [gt_set_ne _ _ _ _ e, h.2 j hj, List.mem_append, List.mem_singleton]
  constructor
  ·exact .inl
  ·rintro (h1 | h1)
   ·exact h1
   ·omega
set_option maxRecDepth 100000 in
set_option maxHeartbeats 8000000 in
theorem l11Reach_ok {N : Nat} (hN0 : 0 < N) (hN : N ≤ 128) {L : List (List Int)} (hLl : L.length ≤ 1000) (hL : ∀ b ∈ L, BijL N b) (w : World) (lv : Value) (T : Nat → Prop) (hlv : Rows2 T w lv L) :
  Calls Tryz.prog 298 #[lv, .int .i64 (N : Int)] w (Ret w fun _ r => ∃ q : Nat, r = .int .i64 (q : Int) ∧ (q = N ↔ ∀ t, t < N → Rch L t)) := by
 obtain ⟨bv, capb, rfl, _, _⟩ := Sl.shape hlv
 have HL := Lib.hid (And.intro hlv hL); clear hlv hL
 have hN0' : (0 : Int) < N := by omega
 go_enter Tryz.func298, Tryz.ntmps298
 go_wp2_with (at_make; refine wp_make_bools rfl _ _ rfl w.heap.size N w.heap.size rfl (N : Int) rfl rfl (by omega) (by omega) (Nat.le_refl _) ?_; intro w1 hM1 hg1 hlt1; have hcel := hM1.cell 0 (by rw [List.length_replicate]; omega); have hfr := hM1.frozen 0)
 obtain ⟨hM2, hgs⟩ := hM1.store 0 true
 have hg2 : Ext w (w1.setCell ⟨w.heap.size, 0, none⟩ (.bool true)) := grown_own hg1 hgs (fun j hj hlt => by cases hj; omega)
 have hz2 : w.heap.size + 1 ≤ (w1.setCell ⟨w.heap.size, 0, none⟩ (.bool true)).heap.size := by
  have : (w1.setCell ⟨w.heap.size, 0, none⟩ (.bool true)).heap.size = w1.heap.size := by simp [World.setCell]
  omega
 have hM2 : BOwn w.heap.size (w1.setCell ⟨w.heap.size, 0, none⟩ (.bool true)) (.slice (some ⟨w.heap.size, 0, none⟩) N N) ((List.replicate N false).set 0 true) := hM2
 have hzz : (w1.setCell ⟨w.heap.size, 0, none⟩ (.bool true)).heap.size = w1.heap.size := by simp [World.setCell]
 clear hM1 hgs hcel hfr hg1 hlt1
 generalize w1.setCell ⟨w.heap.size, 0, none⟩ (.bool true) = w2 at *
 have hga : Ext w2 (w2.alloc (.cells #[.int .i64 0] 2)) := World.grownBy_alloc _ _ _
 have hO3 : Own (w.heap.size + 1) (w2.alloc (.cells #[.int .i64 0] 2)) (.slice (some ⟨w2.heap.size, 0, none⟩) 1 1) [0] := own_one0 hz2 0
 rw [hzz] at hO3
 clear hzz
 have hM3 := hM2.ext0 hga
 have hg3 := grown_trans hg2 hga
 clear hM2 hga hg2
 go_loopw [6, 7] (fun rv iv wr => ∃ (i : Nat) (v5 : Value) (rl : List Int) (l : List Bool), v5 = rv ∧ iv = .int .i64 (i : Int) ∧ i ≤ N ∧ Ext w wr ∧ Own (w.heap.size + 1) wr v5 rl ∧ BOwn w.heap.size wr (.slice (some ⟨w.heap.size, 0, none⟩) N N) l ∧ Hid (RchInv N L rl i 0 ∧ SeenR N rl l)) (fun _ iv _ => N - (intOf iv).toNat)
 case atStart => exact ⟨0, _, [0], _, rfl, rfl, by omega, hg3, hO3, hM3, Lib.hid ⟨RchInv.start hN0 L, SeenR.start hN0⟩⟩
 case round =>
  clear hO3 hM3 hg3
  obtain ⟨i, v5, rl, l, rfl, rfl, hi, hg, hO, hM, hS⟩ := hrel
  have hrl := hS.out.1.len
  have hile := hS.out.1.le
  have hri := hO.ints (by omega)
  obtain ⟨ra, rc, rfl, _, _⟩ := hri.shape
  by_cases hlt : i < rl.length
  ·have hlt' : (i : Int) < rl.length := by omega
   have HO := Lib.hid (And.intro hO hM); clear hO hM hri
   go_wp2
   go_loopw [6, 8] (fun rv kv wq => ∃ (k : Nat) (v6 : Value) (rl2 : List Int) (l2 : List Bool), v6 = rv ∧ kv = .int .i64 (k : Int) ∧ k ≤ L.length ∧ Ext w wq ∧ Own (w.heap.size + 1) wq v6 rl2 ∧ BOwn w.heap.size wq (.slice (some ⟨w.heap.size, 0, none⟩) N N) l2 ∧ Hid (RchInv N L rl2 i k ∧ SeenR N rl2 l2 ∧ i < rl2.length)) (fun _ kv _ => L.length - (intOf kv).toNat)
   case atStart => exact ⟨0, _, rl, l, rfl, rfl, by omega, hg, HO.out.1, HO.out.2, Lib.hid ⟨hS.out.1, hS.out.2, hlt⟩⟩
   case round =>
    clear hrl hile hlt hlt' HO hg
    obtain ⟨k, v6, rl2, l2, rfl, rfl, hk, hg, hO, hM, hT⟩ := hrel
    have hrl := hT.out.1.len
    have hilt := hT.out.2.2
    have hri := hO.ints (by omega)
    obtain ⟨qa2, qc2, rfl, _, _⟩ := hri.shape
    by_cases hkl : k < L.length
    ·have hkl' : (k : Int) < L.length := by omega
     obtain ⟨rb, ro, ra3, rc3, hab, _, _, hcr, hrow⟩ := Rows2.at (Rows2.ext HL.out.1 hg) k hkl
     subst hab
     obtain ⟨xb, xo, hxa, _, _, hcx⟩ := Ints.at hri i hilt
     subst hxa
     have hbb := HL.out.2 _ (gtMem hkl)
     have hxr := hT.out.1.rg _ (gtMem hilt)
     have hno := hT.out.1.no (k := k)
     have hye := hT.out.1.yes hilt hkl hbb
     obtain ⟨x, hx⟩ : ∃ x : Nat, x = (gt rl2 i).toNat := ⟨_, rfl⟩
     have hxi : gt rl2 i = (x : Int) := by omega
     rw [hxi] at hcx hxr
     rw [← hx] at hno hye
     obtain ⟨b, hb⟩ : ∃ b, b = gt L k := ⟨_, rfl⟩
     rw [← hb] at hcr hrow hbb hno hye
     have hxN : x < N := by omega
     obtain ⟨yb, yo, hya, _, _, hcy⟩ := Ints.at hrow x (by rw [hbb.1]; exact hxN)
     subst hya
     have hyr := hbb.2.1 x hxN
     obtain ⟨y, hy⟩ : ∃ y : Nat, y = (gt b x).toNat := ⟨_, rfl⟩
     have hyi : gt b x = (y : Int) := by omega
     rw [hyi] at hcy hno hye hyr
     have hbl : b.length = N := hbb.1
     rw [hbl] at hcr
     have hxb' : (x : Int) < N := by omega
     have hyN : y < N := by omega
     have hyN' : (y : Int) < N := by omega
     have hilt' : (i : Int) < rl2.length := by omega
     have hll : rl2.length ≤ 1000000 := by omega
     have hsn := hT.out.2.1.2 y hyN
     have hcel := hM.cell y (by rw [hT.out.2.1.1]; exact hyN)
     have hfr := hM.frozen y
     obtain ⟨s, hs⟩ : ∃ s, s = gt l2 y := ⟨_, rfl⟩
     rw [← hs] at hcel hsn
     cases s with
     | true =>
      have hnx := hno (hsn.1 rfl)
      have HX := Lib.hid (And.intro hnx hT.out.2); clear hnx hno hye hri hrow hbb hxr hx hxi hb hbl hy hyi hyr hxN hsn hs hyN
      have HO := Lib.hid (And.intro hO hM); clear hO hM
      clear hrl
      go_wp2
      go_quiet (fail)
      have hq : Ext wr (wr.drewN nq) := grown_drewN _ _ _
      have hcel2 := hq.cell hcel (by simp)
      go_wp2
      go_roundw
      case rel => exact ⟨k + 1, _, rl2, l2, rfl, by go_num, by omega, grown_trans hg hq, HO.out.1.ext0 hq, HO.out.2.ext0 hq, Lib.hid ⟨HX.out.1, HX.out.2⟩⟩
      case measure => simp [intOf]; omega
     | false =>
      have hnm : ¬ (y : Int) ∈ rl2 := fun h => by have := hsn.2 h; cases this
      have HX := Lib.hid (And.intro (hye hnm) (And.intro (hT.out.2.1.step hyN) hll)); clear hno hye hri hrow hbb hxr hx hxi hb hbl hy hyi hyr hxN hsn hs hnm hll
      have HO := Lib.hid (And.intro hO hM); clear hO hM
      clear hrl
      go_wp2
      go_quiet (fail)
      have hq : Ext wr (wr.drewN nq) := grown_drewN _ _ _
      have hcel2 := hq.cell hcel (by simp)
      have hfr2 : (wr.drewN nq).frozen? ⟨w.heap.size, y, none⟩ = false := (HO.out.2.ext0 hq).frozen y
      obtain ⟨hM7, hgs⟩ := (HO.out.2.ext0 hq).store y true
      have hg7 : Ext w ((wr.drewN nq).setCell ⟨w.heap.size, y, none⟩ (.bool true)) := grown_own (grown_trans hg hq) hgs (fun j hj hlt => by cases hj; omega)
      have hO7 : Own (w.heap.size + 1) ((wr.drewN nq).setCell ⟨w.heap.size, y, none⟩ (.bool true)) _ rl2 := (HO.out.1.ext0 hq).kept hgs (.inr (fun e => by have := (HO.out.1.lt w.heap.size e).1; omega))
      have hz7 : w.heap.size + 1 ≤ ((wr.drewN nq).setCell ⟨w.heap.size, y, none⟩ (.bool true)).heap.size := by
       have h1 := hgs.size
       have h2 := hq.size
       have h3 := (HO.out.2.lt w.heap.size rfl).2
       omega
      have hs7 : ((wr.drewN nq).setCell ⟨w.heap.size, y, none⟩ (.bool true)).heap.size = wr.heap.size := by simp [World.setCell, go_sem]
      have H7 := Lib.hid (And.intro hM7 (And.intro hg7 (And.intro hO7 (And.intro hz7 hs7)))); clear hM7 hgs hg7 hO7 hz7 hs7
      go_wp2_with (first | (at_builtin; refine wp_app_int rfl _ _ rfl (w.heap.size + 1) _ rl2 (y : Int) rfl ((wr.drewN nq).setCell ⟨w.heap.size, y, none⟩ (.bool true)) H7.out.2.2.1 rfl (by rw [H7.out.2.2.2.2]; rfl) HX.out.2.2 H7.out.2.2.2.1 ?_; intro v8 w8 hO8 hg8) | fail)
      have hgn8 : Ext w w8 := grown_own H7.out.2.1 hg8 (fun j hj hlt => by have := (H7.out.2.2.1.lt j hj).1; omega)
      have hM8 : BOwn w.heap.size w8 (.slice (some ⟨w.heap.size, 0, none⟩) N N) (l2.set y true) := H7.out.1.kept hg8 (.inr (fun e => by have := (H7.out.2.2.1.lt w.heap.size e.symm).1; omega))
      go_roundw
      case rel => exact ⟨k + 1, v8, rl2 ++ [(y : Int)], l2.set y true, rfl, by go_num, by omega, hgn8, hO8, hM8, Lib.hid ⟨HX.out.1, HX.out.2.1, by rw [List.length_append]; omega⟩⟩
      case measure => simp [intOf]; omega
    ·have hke : k = L.length := by omega
     have hnx := hT.out.1
     rw [hke] at hnx
     have hnx := hnx.next hilt
     have hle2 := hnx.le
     have HN := Lib.hid (And.intro hnx hT.out.2.1); clear hnx hT hri
     have hnl : ¬ (k : Int) < L.length := by omega
     go_wp2
     go_roundw
     case rel => exact ⟨i + 1, _, rl2, l2, rfl, by go_num, by omega, hg, hO, hM, Lib.hid HN.out⟩
     case measure => simp [intOf]; omega
  ·have hie : i = rl.length := by omega
   have hd := hS.out.1
   rw [hie] at hd
   have HD := Lib.hid hd.done; clear hd hS hri
   have hnl : ¬ (i : Int) < rl.length := by omega
   obtain ⟨q, hq⟩ : ∃ q, q = rl.length := ⟨_, rfl⟩
   rw [← hq] at HD hnl ⊢
   clear hq hO hlt hie hrl hile hM
   go_wp2
   go_ret
   exact ⟨_, rfl, hg, q, rfl, HD.out⟩
end Go.Proofs.YtmjkoejegfjbbaaGreat
namespace Go.Proofs.YtmjkoejegfjbbaaGreat
open Go.RowKit
open Classical in
set_option maxRecDepth 100000 in
set_option maxHeartbeats 8000000 in
theorem l11Is_ok (P : Pr) (hP : Valid P) (h128 : ordP P ≤ 128) (w : World) (pv lv : Value) (L : List (List Int)) (hLl : L.length ≤ 1000) (Sp Sl_ : Nat → Prop) (hpv : PresV Sp w pv P) (hlv : Rows2 Sl_ w lv L) :
  Calls Tryz.prog 155 #[pv, lv] w (Ret w fun _ v => v = .bool (decide (RealB P L))) := by
 obtain ⟨vo, vp, vc, rfl, h3⟩ := hpv
 have hop := hP.ordP_pos
 have hn6 := hP.n6
 have hp0 := PresP.box h3 39
 have hg0 : Ext w (w.alloc (.cells #[vo, vp, vc] 39)) := World.grownBy_alloc _ _ _
 have hl0 := Rows2.ext hlv hg0
 obtain ⟨al, capl, rfl, _, _⟩ := Sl.shape hlv
 obtain ⟨vo6, vp6, vc6, _, _, hc0, hc1, hc2, h36⟩ := hp0.at
 simp only [Nat.zero_add] at hc1 hc2
 obtain ⟨ao, co, hvo, _, _⟩ := h36.o.shape
 subst hvo
 have hbx : ∀ w', Ext (w.alloc (.cells #[vo, vp, vc] 39)) w' → w'.cell? ⟨w.heap.size, 0, none⟩ = some (.slice ao P.orders.length co) ∧ w'.cell? ⟨w.heap.size, 1, none⟩ = some vp6 ∧ w'.cell? ⟨w.heap.size, 2, none⟩ = some vc6 := fun w' h => ⟨h.cell hc0 (by simp), h.cell hc1 (by simp), h.cell hc2 (by simp)⟩
 have hpx : ∀ w', Ext (w.alloc (.cells #[vo, vp, vc] 39)) w' → PresV Any w' (.agg #[.slice ao P.orders.length co, vp6, vc6]) P := fun w' h => ⟨_, _, _, rfl, Pres3.ext h36 h⟩
 have hor := l10Order_ok (w.alloc (.cells #[vo, vp, vc] 39)) (.agg #[.slice ao P.orders.length co, vp6, vc6]) P Any hP (hpx _ (Ext.refl _))
 obtain ⟨N, hN⟩ : ∃ N, N = (ordP P).toNat := ⟨_, rfl⟩
 have hNo : ordP P = (N : Int) := by omega
 have hN128 : N ≤ 128 := by omega
 have hN0 : 0 < N := by omega
 have hre : RealB P L ↔ L.length = P.orders.length ∧ (∀ b ∈ L, BijL N b) ∧ (∀ w ∈ relsP P, evB N L w w.length = selfL N) ∧ ∀ t, t < N → Rch L t := by rw [hN]; exact Iff.rfl
 rw [hNo] at hor
 have HB := Lib.hid (And.intro hbx (And.intro hpx (And.intro hl0 hre))); clear hbx hpx hp0 hlv h36 hl0 hre hN hNo h128 hop
 go_enter Tryz.func155, Tryz.ntmps155
 go_wp2_with fail
 clear hc0 hc1 hc2
 generalize hw0 : w.alloc (.cells #[vo, vp, vc] 39) = w0 at *
 clear hw0
 refine Calls.mono hor ?_
 rintro e1 w1 ⟨v1, rfl, hg1, rfl⟩
 clear hor
 obtain ⟨c0_, c1_, c2_⟩ := HB.out.1 w1 hg1
 by_cases hlen : L.length = P.orders.length
 case neg =>
  have hn : ¬ RealB P L := fun h => hlen (HB.out.2.2.2.1 h).1
  have HC := Lib.hid (decide_eq_false hn); clear hn
  have hne : ((L.length : Int) != (P.orders.length : Int)) = true := by simp; omega
  clear hlen
  go_wp2
  go_ret
  exact ⟨_, rfl, grown_trans hg0 hg1, by rw [HC.out]; rfl⟩
 have hne : ((L.length : Int) != (P.orders.length : Int)) = false := by simp; omega
 have HLE := Lib.hid hlen; clear hlen
 have hsz := l11Sized_ok hN128 L hLl w1 (.slice al L.length capl) Sl_ (Rows2.ext HB.out.2.2.1 hg1)
 go_wp2_with fail
 clear c0_ c1_ c2_ hne
 refine Calls.mono hsz ?_
 rintro e2 w2 ⟨v2, rfl, hg2, rfl⟩
 clear hsz
 have hg02 := grown_trans hg1 hg2
 by_cases hLB : ∀ b ∈ L, BijL N b
 case neg =>
  have hn : ¬ RealB P L := fun h => hLB (HB.out.2.2.2.1 h).2.1
  have HC := Lib.hid (decide_eq_false hn); clear hn
  rw [decide_eq_false hLB]
  clear hLB
  go_wp2
  go_ret
  exact ⟨_, rfl, grown_trans hg0 hg02, by rw [HC.out]; rfl⟩
 rw [decide_eq_true hLB]
 have HLB := Lib.hid hLB; clear hLB
 obtain ⟨c0_, c1_, c2_⟩ := HB.out.1 w2 hg02
 go_wp2_with fail
 clear c0_ c1_ c2_
 refine Calls.mono (l07Relators_ok P hP w2 _ Any (HB.out.2.1 w2 hg02)) ?_
 rintro e3 w3 ⟨v3, rfl, hg3, hO3⟩
 have hwr : ∀ x ∈ relsP P, WordN L.length x := fun x hx => by rw [HLE.out]; exact relsP_word hP x hx
 have hrl : (relsP P).length ≤ 1000 := by
  have := relTo_len hP P.orders.length (Nat.le_refl _)
  show (relTo P P.orders.length).length ≤ 1000
  omega
 obtain ⟨R, hR⟩ : ∃ R, R = relsP P := ⟨_, rfl⟩
 rw [← hR] at hO3 hwr hrl
 have hRr := RowsD.rows (SlO.toD hO3 (by omega))
 obtain ⟨qa, qc, rfl, _, _⟩ := Sl.shape hRr
 have hRx : ∀ w', Ext w3 w' → Rows2 Any w' (.slice qa R.length qc) R := fun w' h => Rows2.sub (Rows2.ext hRr h) (fun _ _ _ => trivial)
 have hg03 := grown_trans hg02 hg3
 have hLx : ∀ w', Ext w3 w' → Rows2 Sl_ w' (.slice al L.length capl) L := fun w' h => Rows2.ext HB.out.2.2.1 (grown_trans hg03 h)
 have HRR := Lib.hid (And.intro hR (And.intro hwr (And.intro hRx hLx))); clear hR hwr hRx hRr hO3 hg3 hLx
 go_wp2
 go_loopw [7] (fun iv wr => ∃ k : Nat, iv = .int .i64 (k : Int) ∧ k ≤ R.length ∧ Ext w3 wr ∧ Hid (∀ j, j < k → evB N L (gt R j) (gt R j).length = selfL N)) (fun iv _ => R.length - (intOf iv).toNat)
 case atStart => exact ⟨0, rfl, by omega, Ext.refl _, Lib.hid (fun j hj => by omega)⟩
 case round =>
  obtain ⟨k, rfl, hk, hg, hS⟩ := hrel
  have hgw := grown_trans hg0 (grown_trans hg03 hg)
  by_cases hlt : k < R.length
  ·have hlt' : (k : Int) < R.length := by omega
   obtain ⟨rb, ro, ra, rc, hab, _, _, hcr, hri⟩ := Rows2.at (HRR.out.2.2.1 wr hg) k hlt
   subst hab
   have hwd := HRR.out.2.1 _ (gtMem hlt)
   have hbad : ¬ evB N L (gt R k) (gt R k).length = selfL N → decide (RealB P L) = false := fun h => decide_eq_false (fun hRb => h ((HB.out.2.2.2.1 hRb).2.2.1 _ (by rw [← HRR.out.1]; exact gtMem hlt)))
   have hnext : evB N L (gt R k) (gt R k).length = selfL N → ∀ j, j < k + 1 → evB N L (gt R j) (gt R j).length = selfL N := fun h j hj => by
    rcases Nat.lt_succ_iff_lt_or_eq.1 hj with h1 | h1
    ·exact hS.out j h1
    ·rw [h1]; exact h
   obtain ⟨W, hW⟩ : ∃ W, W = gt R k := ⟨_, rfl⟩
   rw [← hW] at hcr hri hwd hbad hnext
   have hcw := l11Eval_ok HLB.out (by omega : N ≤ 1000) hLl hwd wr _ _ _ _ hri (HRR.out.2.2.2 wr hg)
   have hEb := evB_bij HLB.out hwd W.length (Nat.le_refl _)
   obtain ⟨E, hE⟩ : ∃ E, E = evB N L W W.length := ⟨_, rfl⟩
   rw [← hE] at hcw hEb hbad hnext
   have HW := Lib.hid (And.intro hbad (And.intro hnext (And.intro hEb hcw))); clear hbad hnext hEb hcw hri hwd hW hE hS
   go_wp2_with fail
   refine Calls.mono HW.out.2.2.2 ?_
   rintro e5 w5 ⟨v5, rfl, hg5, hO5⟩
   have hEi := hO5.ints (by rw [HW.out.2.2.1.1]; omega)
   have hgn5 := grown_trans hg hg5
   have HE := Lib.hid hEi; clear hEi hO5 hcr
   go_wp2_with fail
   refine Calls.mono (l11Self_ok N (by omega) w5) ?_
   rintro e6 w6 ⟨v6, rfl, hg6, hO6⟩
   have hgn6 := grown_trans hgn5 hg6
   have hSi := hO6.ints (by rw [selfL_len]; omega)
   have HSi := Lib.hid hSi; clear hSi hO6
   go_wp2_with fail
   refine Calls.mono (l01Same_ok v5 v6 E (selfL N) w6 Any Any (Ints.ext HE.out hg6) HSi.out) ?_
   rintro e7 w7 ⟨v7, rfl, hg7, rfl⟩
   have hgn7 := grown_trans hgn6 hg7
   have hgw7 := grown_trans hg0 (grown_trans hg03 hgn7)
   by_cases hx : E = selfL N
   ·rw [eqB_true.2 hx]
    have HN := Lib.hid (HW.out.2.1 hx); clear hx
    go_wp2
    go_roundw
    case rel => exact ⟨k + 1, by go_num, by omega, hgn7, Lib.hid HN.out⟩
    case measure => simp [intOf]; omega
   ·rw [eqB_false.2 hx]
    have HN := Lib.hid (HW.out.1 hx); clear hx
    go_wp2
    go_ret
    exact ⟨_, rfl, hgw7, by rw [HN.out]; rfl⟩
  ·have hke : k = R.length := by omega
   have hrelB : ∀ x ∈ relsP P, evB N L x x.length = selfL N := fun x hx => by
    rw [← HRR.out.1] at hx
    obtain ⟨j, hj, rfl⟩ := mem_gt hx
    exact hS.out j (by omega)
   have hfin : (∀ t, t < N → Rch L t) ↔ RealB P L := by
    rw [HB.out.2.2.2]
    exact ⟨fun h => ⟨HLE.out, HLB.out, hrelB, h⟩, fun h => h.2.2.2⟩
   have HF := Lib.hid hfin; clear hfin hrelB hS
   have hnl : ¬ (k : Int) < R.length := by omega
   go_wp2_with fail
   refine Calls.mono (l11Reach_ok hN0 hN128 hLl HLB.out wr _ _ (HRR.out.2.2.2 wr hg)) ?_
   rintro e5 w5 ⟨v5, rfl, hg5, q, rfl, hq⟩
   have hgw5 := grown_trans hgw hg5
   have HQ := Lib.hid (hq.trans HF.out); clear hq
   clear hnl hke hlt hk
   by_cases hqn : q = N
   ·have hd := decide_eq_true (HQ.out.1 hqn)
    have HC := Lib.hid hd; clear hd
    subst hqn
    go_wp2
    go_ret
    exact ⟨_, rfl, hgw5, by rw [HC.out]; simp⟩
   ·have hd := decide_eq_false (fun h => hqn (HQ.out.2 h))
    have HC := Lib.hid hd; clear hd
    have hqb : ((q : Int) == (N : Int)) = false := by simp; omega
    clear hqn
    go_wp2
    go_ret
    exact ⟨_, rfl, hgw5, by rw [HC.out]; rfl⟩
open Classical in
set_option maxRecDepth 100000 in
set_option maxHeartbeats 4000000 in
theorem sReal_ok (P : Pr) (w : World) (pv lv : Value) (L : List (List Int)) (hLl : L.length ≤ 1000) (Sp Sl_ : Nat → Prop) (hpv : PresV Sp w pv P) (hlv : Rows2 Sl_ w lv L) :
  Calls Tryz.prog 38 #[pv, lv] w (Ret w fun _ v => v = .tuple #[.bool (reB P L), .int .i64 (reC P)]) := by
 have hvd : validB P = true ↔ Valid P := by unfold validB; rw [decide_eq_true_eq]
 obtain ⟨vo, vp, vc, rfl, h3⟩ := hpv
 have hp0 := PresP.box h3 39
 have hg0 : Ext w (w.alloc (.cells #[vo, vp, vc] 39)) := World.grownBy_alloc _ _ _
 have hl0 := Rows2.ext hlv hg0
 obtain ⟨al, capl, rfl, _, _⟩ := Sl.shape hlv
 obtain ⟨vo6, vp6, vc6, _, _, hc0, hc1, hc2, h36⟩ := hp0.at
 simp only [Nat.zero_add] at hc1 hc2
 have hbx : ∀ w', Ext (w.alloc (.cells #[vo, vp, vc] 39)) w' → w'.cell? ⟨w.heap.size, 0, none⟩ = some vo6 ∧ w'.cell? ⟨w.heap.size, 1, none⟩ = some vp6 ∧ w'.cell? ⟨w.heap.size, 2, none⟩ = some vc6 := fun w' h => ⟨h.cell hc0 (by simp), h.cell hc1 (by simp), h.cell hc2 (by simp)⟩
 have hpx : ∀ w', Ext (w.alloc (.cells #[vo, vp, vc] 39)) w' → PresV Any w' (.agg #[vo6, vp6, vc6]) P := fun w' h => ⟨_, _, _, rfl, Pres3.ext h36 h⟩
 have hipr := sIsPresentation_ok (w.alloc (.cells #[vo, vp, vc] 39)) (.agg #[vo6, vp6, vc6]) P Any (hpx _ (Ext.refl _))
 have HB := Lib.hid (And.intro hbx (And.intro hpx (And.intro hl0 hvd))); clear hbx hpx hp0 hlv h36 hl0 hvd
 go_enter Tryz.func38, Tryz.ntmps38
 go_wp2_with fail
 clear hc0 hc1 hc2
 generalize hw0 : w.alloc (.cells #[vo, vp, vc] 39) = w0 at *
 clear hw0
 refine Calls.mono hipr ?_
 rintro e1 w1 ⟨v1, rfl, hg1, rfl⟩
 clear hipr
 obtain ⟨c0_, c1_, c2_⟩ := HB.out.1 w1 hg1
 cases hv : validB P with
 | false =>
  obtain ⟨hc, hb⟩ := re_inv hv L
  have HC := Lib.hid (And.intro hc hb); clear hc hb hv
  go_wp2
  go_ret2
  exact ⟨_, rfl, grown_trans hg0 hg1, by rw [HC.out.1, HC.out.2]; rfl⟩
 | true =>
  have hP := HB.out.2.2.2.1 hv
  have hop := hP.ordP_pos
  have h729 : ordP P ≤ 729 := hP.le729
  have HVV := Lib.hid hv; clear hv
  go_wp2_with fail
  clear c0_ c1_ c2_
  refine Calls.mono (l10Order_ok w1 _ P Any hP (HB.out.2.1 w1 hg1)) ?_
  rintro e2 w2 ⟨v2, rfl, hg2, rfl⟩
  have hg02 := grown_trans hg1 hg2
  obtain ⟨c0_, c1_, c2_⟩ := HB.out.1 w2 hg02
  by_cases hbig : 128 < ordP P
  ·obtain ⟨hc, hb⟩ := re_big HVV.out hbig L
   have HC := Lib.hid (And.intro hc hb); clear hc hb
   obtain ⟨op, hope⟩ : ∃ op, op = ordP P := ⟨_, rfl⟩
   rw [← hope] at hbig ⊢
   clear hope hop h729
   go_wp2
   go_ret2
   exact ⟨_, rfl, grown_trans hg0 hg02, by rw [HC.out.1, HC.out.2]; rfl⟩
  ·have his := l11Is_ok P hP (by omega) w2 (.agg #[vo6, vp6, vc6]) (.slice al L.length capl) L hLl Any Sl_ (HB.out.2.1 w2 hg02) (Rows2.ext HB.out.2.2.1 hg02)
   have hres : reC P = 0 ∧ reB P L = decide (RealB P L) := by
    by_cases h : RealB P L
    ·rw [decide_eq_true h]; exact re_yes HVV.out hbig h
    ·rw [decide_eq_false h]; exact re_no HVV.out hbig h
   have HC := Lib.hid (And.intro hres his); clear hres his
   obtain ⟨op, hope⟩ : ∃ op, op = ordP P := ⟨_, rfl⟩
   rw [← hope] at hbig ⊢
   clear hope hop h729
   go_wp2_with fail
   clear c0_ c1_ c2_
   refine Calls.mono HC.out.2 ?_
   rintro e3 w3 ⟨v3, rfl, hg3, rfl⟩
   go_wp2
   go_ret2
   exact ⟨_, rfl, grown_trans hg0 (grown_trans hg02 hg3), by rw [HC.out.1.1, HC.out.1.2]; rfl⟩
end Go.Proofs.YtmjkoejegfjbbaaGreat
namespace Go.Proofs.YtmjkoejegfjbbaaGreat
open Go.RowKit
attribute [local go_sem ↓] Go.wp_at_zero Go.wp_at_succ
theorem big_ok (w : World) (cv : Value) (bs : List Int) (S : Nat → Prop) (hb : Bytes S w cv bs) :
  Calls Tryz.prog 14 #[cv] w fun e w' => e = .returned (.bool (decide (4096 < bs.length))) ∧ w = w' := by
 obtain ⟨a, cap, rfl, _, hlen⟩ := Sl.shape hb
 go_enter Tryz.func14, Tryz.ntmps14
 by_cases h : 4096 < bs.length
 ·have hi : (4096 : Int) < (bs.length : Nat) := by omega
  go_wp2
  go_ret
  exact ⟨ret_b (by simp [h]), rfl⟩
 ·have hi : ¬ (4096 : Int) < (bs.length : Nat) := by omega
  go_wp2
  go_ret
  exact ⟨ret_b (by simp), rfl⟩
end Go.Proofs.YtmjkoejegfjbbaaGreat
namespace Go.Proofs.YtmjkoejegfjbbaaGreat
open Go.RowKit
attribute [local go_sem ↓] Go.wp_at_zero Go.wp_at_succ
set_option maxRecDepth 100000 in
set_option maxHeartbeats 8000000 in
theorem lawRe_ok (w : World) (cv : Value) (bs : List Int) (S : Nat → Prop) (hb : Bytes S w cv bs) :
  Calls Tryz.prog 5 #[cv] w (Ret w fun _ v => v = .bool true) := by
 obtain ⟨ca, cc, rfl, _, _⟩ := Sl.shape hb
 go_enter Tryz.func5, Tryz.ntmps5
 go_wp2_with fail
 refine Calls.mono (big_ok w _ bs S hb) ?_
 rintro _ _ ⟨rfl, rfl⟩
 by_cases hbg : 4096 < bs.length
 ·have hd : decide (4096 < bs.length) = true := by simp [hbg]
  rw [hd]
  go_wp2
  go_ret
  exact ⟨_, rfl, grown_refl _ _, rfl⟩
 have hbl : bs.length ≤ 4096 := by omega
 have hd : decide (4096 < bs.length) = false := by simp [hbg]
 rw [hd]; clear hd hbg
 go_wp2_with fail
 refine Calls.mono (DrawIsRealisation_ok w _ bs S hb) ?_
 rintro e1 w1 ⟨v1, rfl, hg1, vo, vp, vc, lv, P, rfl, hPl, hP, L, hLl, hLr, hL⟩
 obtain ⟨a1, n1, c1, hy1⟩ : ∃ a n c, vo = .slice a n c := by obtain ⟨a, c, e, _⟩ := hP.o.shape; exact ⟨_, _, _, e⟩
 obtain ⟨a2, n2, c2, hy2⟩ : ∃ a n c, vp = .slice a n c := by obtain ⟨a, c, e, _⟩ := Sl.shape hP.p; exact ⟨_, _, _, e⟩
 obtain ⟨a3, n3, c3, hy3⟩ : ∃ a n c, vc = .slice a n c := by obtain ⟨a, c, e, _⟩ := Sl.shape hP.c; exact ⟨_, _, _, e⟩
 subst hy1 hy2 hy3
 obtain ⟨ra, rc, rfl, _⟩ := Sl.shape hL
 have hgX : Ext w1 (w1.alloc (.cells #[.slice a1 n1 c1, .slice a2 n2 c2, .slice a3 n3 c3] 39)) := World.grownBy_alloc _ _ _
 have hX := Box3.made w1 39 (.slice a1 n1 c1) (.slice a2 n2 c2) (.slice a3 n3 c3)
 have hPX := hP.ext hgX
 have hLX := Rows2.ext hL hgX
 have hgw := grown_trans hg1 hgX
 obtain ⟨ln, hln⟩ : ∃ ln, ln = L.length := ⟨_, rfl⟩
 rw [← hln] at hLX ⊢
 have HA0 := Lib.hid (And.intro hPX (And.intro hLX (And.intro hgw (And.intro hLl (And.intro hLr hln))))); clear hPX hLX hgw hgX hP hL hg1 hb hLl hLr hln
 obtain ⟨pb, hpb⟩ : ∃ pb, pb = w1.heap.size := ⟨_, rfl⟩
 rw [← hpb] at hX
 have HP := Lib.hid hpb; clear hpb
 go_wp2_with fail
 rw [← HP.out]
 generalize w1.alloc (.cells #[.slice a1 n1 c1, .slice a2 n2 c2, .slice a3 n3 c3] 39) = w2 at *
 clear HP
 have hall : ∀ w', Ext w2 w' → Box3 w' pb (.slice a1 n1 c1) (.slice a2 n2 c2) (.slice a3 n3 c3) ∧ PresV (From w.heap.size) w' (.agg #[.slice a1 n1 c1, .slice a2 n2 c2, .slice a3 n3 c3]) P ∧ Rows2 (From w.heap.size) w' (.slice ra ln rc) L :=
  fun w' h => ⟨hX.ext h, ⟨_, _, _, rfl, HA0.out.1.ext h⟩, Rows2.ext HA0.out.2.1 h⟩
 have HA := Lib.hid hall; clear hall hX
 have hgw := grown_refl w2 none
 obtain ⟨b0_, b1_, b2_, b3_, _⟩ := id (HA.out w2 hgw).1
 go_wp2_with fail
 clear b0_ b1_ b2_ b3_
 refine Calls.mono (iReal_ok P w2 _ _ L (by have := HA0.out.2.2.2.1; omega) (fun b hb => by have := HA0.out.2.2.2.2.1 b hb; omega) _ _ (HA.out w2 hgw).2.1 (HA.out w2 hgw).2.2) ?_
 rintro e3 w3 ⟨v3, rfl, hg3, rfl⟩
 replace hgw := grown_trans hgw hg3
 clear hg3
 obtain ⟨rc_, hrc⟩ : ∃ r, r = reC P := ⟨_, rfl⟩
 obtain ⟨rb_, hrb⟩ : ∃ r, r = reB P L := ⟨_, rfl⟩
 rw [← hrc, ← hrb]
 obtain ⟨b0_, b1_, b2_, b3_, _⟩ := id (HA.out w3 hgw).1
 have HR := Lib.hid (And.intro hrc hrb); clear hrc hrb
 go_wp2_with fail
 clear b0_ b1_ b2_ b3_
 refine Calls.mono (sReal_ok P w3 _ _ L (by have := HA0.out.2.2.2.1; omega) _ _ (HA.out w3 hgw).2.1 (HA.out w3 hgw).2.2) ?_
 rintro e4 w4 ⟨v4, rfl, hg4, rfl⟩
 replace hgw := grown_trans hgw hg4
 clear hg4
 rw [← HR.out.1, ← HR.out.2]
 cases rb_ with
 | false =>
  go_wp2_with fail
  try go_wp2
  go_ret
  exact ⟨_, rfl, grown_trans HA0.out.2.2.1 hgw, rfl⟩
 | true =>
  obtain ⟨hv, h128, hRB⟩ := reB_true HR.out.2.symm
  have hV : Valid P := by
   classical
   have hvd : validB P = true ↔ Valid P := by unfold validB; rw [decide_eq_true_eq]
   exact hvd.1 hv
  have hcon : iconsB P = true := by rw [icons_eq]; exact real_of hV hRB
  have hop := hV.ordP_pos
  have hN128 : (ordP P).toNat ≤ 128 := by omega
  have HB := Lib.hid (And.intro hRB (And.intro hcon hN128)); clear hRB hcon hN128 hV hv h128 hop
  go_wp2_with fail
  try go_wp2
  go_loopw [9] (fun iv wr => ∃ k : Nat, iv = .int .i64 (k : Int) ∧ k ≤ ln ∧ Ext w4 wr) (fun iv _ => ln - (intOf iv).toNat)
  case atStart => exact ⟨0, rfl, by omega, grown_refl _ _⟩
  case round =>
   obtain ⟨k, rfl, hk, hgr⟩ := hrel
   have hgwr := grown_trans hgw hgr
   have hln100 : ln ≤ 100 := by rw [HA0.out.2.2.2.2.2]; exact HA0.out.2.2.2.1
   by_cases hlt : k < ln
   ·have hlt' : (k : Int) < ln := by omega
    have hkL : k < L.length := by rw [← HA0.out.2.2.2.2.2]; exact hlt
    obtain ⟨rb, ro, ax, capx, hab, _, _, hcx, hx⟩ := Rows2.at (HA.out wr hgwr).2.2 k hkL
    subst hab
    have hij := IsBijection_ok HB.out.2.2 (HB.out.1.2.1 _ (gtMem hkL)) wr _ _ hx
    obtain ⟨gl, hgl⟩ : ∃ gl, gl = (gt L k).length := ⟨_, rfl⟩
    rw [← hgl] at hcx hij
    have HIJ := Lib.hid hij; clear hij hx hgl hkL
    go_wp2_with fail
    refine Calls.mono HIJ.out ?_
    rintro e5 w5 ⟨v5, rfl, hg5, rfl⟩
    clear hcx
    go_wp2_with fail
    go_roundw
    case rel => exact ⟨k + 1, by go_num, by omega, grown_trans hgr hg5⟩
    case measure => simp [intOf]; omega
   ·have hke : k = ln := by omega
    subst hke
    have hnl : ¬ (k : Int) < (k : Int) := by omega
    obtain ⟨b0_, b1_, b2_, b3_, _⟩ := id (HA.out wr hgwr).1
    go_wp2_with fail
    clear b0_ b1_ b2_ b3_
    refine Calls.mono (isConsistent_ok P wr _ _ (HA.out wr hgwr).2.1) ?_
    rintro e5 w5 ⟨v5, rfl, hg5, rfl⟩
    rw [HB.out.2.1]
    go_wp2
    go_ret
    exact ⟨_, rfl, grown_trans HA0.out.2.2.1 (grown_trans hgwr hg5), rfl⟩
end Go.Proofs.YtmjkoejegfjbbaaGreat
namespace Go.Proofs.YtmjkoejegfjbbaaGreat
open Go.RowKit Go.ChangeShapes Go.WideShapes Go.Deep
section
variable {H : Type} {enc : TypeId × Value → H} {W : World} {sp : Nat → Bool}
theorem open_sl {α : Type} [Inhabited α] {El : World → Value → α → Prop} {t e : TypeId} (ht : Tryz.prog.underlying t = some (.slice e)) (hc : Tryz.prog.cellsOf e = 1)
  (hEl : ∀ n c x, DataW.trod enc Tryz.prog W 0 sp true n e [c] = some x → ∃ y, El W c y) {fuel : Nat} {c : Value} {x : DataW H × List MemPlace} (h : DataW.trod enc Tryz.prog W 0 sp true fuel t [c] = some x) :
  ∃ xs : List α, Sl El Any W c xs := by
 rcases open_slice1 ht hc h with ⟨hcs, _⟩ | ⟨a, len, cap, m, n, V, D, Pl, hcs, _, hl, hm, hmm, _, hx⟩
 ·cases hcs
  exact ⟨[], none, 0, rfl, ⟨by simp, by simp, fun _ => rfl⟩, fun i hi => by simp at hi⟩
 ·cases hcs
  have hlm : len ≤ m := by rw [hmm]; split <;> omega
  obtain ⟨Z, hZ⟩ := choose_lt (α := α) (n := len) (p := fun i y => El W (V i) y) (fun i hi => hEl n (V i) _ (hx i (by omega)).2)
  refine ⟨(List.range len).map Z, some a, cap, by simp, ⟨by simpa using hl, by simp; unfold maxLen at hm; omega, fun h => by cases h⟩, fun i hi => ?_⟩
  simp only [List.length_map, List.length_range] at hi
  obtain ⟨h1, h2⟩ := hx i (by omega)
  obtain ⟨b, off, spot⟩ := a
  have hs : spot = none := by
   have h0 := (hx 0 (by omega)).1
   exact World.cell?_spot (by simpa [Addr.add] using h0)
  subst hs
  have hcell : W.cell? ⟨b, off + i, none⟩ = some (V i) := by
   have e : (⟨b, off, none⟩ : Addr).add i = ⟨b, off + i, none⟩ := by
    unfold Addr.add; split
    ·rename_i h; subst h; rfl
    ·rfl
   rw [← e]; exact h1
  refine ⟨b, off, V i, rfl, trivial, World.block_lt_of_cell? W _ hcell, hcell, ?_⟩
  have : gt ((List.range len).map Z) i = Z i := by simp [gt, hi]
  rw [this]; exact hZ i hi
end
end Go.Proofs.YtmjkoejegfjbbaaGreat
namespace Go.Proofs.YtmjkoejegfjbbaaGreat
open Go.RowKit Go.ChangeShapes Go.WideShapes Go.ChangeAt
theorem ownB : ownKnob Tryz.prog.godebug = none := by kernel_rfl
theorem laidOutP : laidOutB Tryz.prog = true := by kernel_rfl
theorem und_u8 : Tryz.prog.underlying 5 = some (.int .u8) := by kernel_rfl
theorem und_bytesB : Tryz.prog.underlying 22 = some (.slice 5) := by kernel_rfl
theorem cells_u8 : Tryz.prog.cellsOf 5 = 1 := by kernel_rfl
theorem open_u8 {H : Type} {enc : TypeId × Value → H} {W : World} {sp : Nat → Bool} {n : Nat} {c : Value} {x : DataW H × List MemPlace} (h : DataW.trod enc Tryz.prog W 0 sp true n 5 [c] = some x) : ∃ y, ByteEl W c y := by
 cases n with
 | zero => simp [DataW.trod] at h
 | succ n =>
  unfold DataW.trod at h
  rw [und_u8] at h
  cases c <;> simp at h
  rename_i k z
  obtain ⟨⟨rfl, hz⟩, _⟩ := h
  have hz2 : 0 ≤ z ∧ z ≤ 255 := by
   have h2 := hz
   simp [Lit.wf, IntKind.min, IntKind.max, IntKind.signed, IntKind.bits] at h2
   omega
  exact ⟨z, rfl, hz2⟩
theorem open_bytes {H : Type} {enc : TypeId × Value → H} {W : World} {sp : Nat → Bool} {n : Nat} {c : Value} {x : DataW H × List MemPlace} (h : DataW.trod enc Tryz.prog W 0 sp true n 22 [c] = some x) : ∃ l, Bytes Any W c l :=
 open_sl (El := ByteEl) und_bytesB cells_u8 (fun _ _ _ h => open_u8 h) h
end Go.Proofs.YtmjkoejegfjbbaaGreat
