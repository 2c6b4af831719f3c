/-
  spec.l07Relators.
-/
import Derived.Test.YtchbegeklckgnaaGreatSRelsW
namespace Go.Proofs.YtchbegeklckgnaaGreat
open Go.RowKit

set_option maxRecDepth 100000 in
set_option maxHeartbeats 4000000 in
theorem l07Relators_ok (P : Pr) (hP : Valid P) (w : World) (pv : Value) (Sp : Nat → Prop) (hpv : PresV Sp w pv P) :
    Calls Tryz.prog 140 #[pv] w (Ret w fun w' v => RowsO w.heap.size w' v (relsP P)) := by
  have hn6 := hP.n6
  have hpl : P.powers.length ≤ P.orders.length ∧ P.orders.length ≤ P.powers.length := by have := hP.pl; omega
  have hcl : P.conj.length ≤ P.orders.length ∧ P.orders.length ≤ P.conj.length := by have := hP.cl; omega
  obtain ⟨vo, vp, vc, rfl, h3⟩ := hpv
  obtain ⟨ao, capo, rfl, _, _⟩ := h3.o.shape
  obtain ⟨ap, capp, rfl, _, _⟩ := Sl.shape h3.p
  obtain ⟨ac, capc, rfl, _, _⟩ := Sl.shape h3.c
  have hg0 : Ext w (w.alloc (.cells #[.slice ao P.orders.length capo, .slice ap P.powers.length capp, .slice ac P.conj.length capc] 32)) := World.grownBy_alloc _ _ _
  have hs0 : (w.alloc (.cells #[.slice ao P.orders.length capo, .slice ap P.powers.length capp, .slice ac P.conj.length capc] 32)).heap.size = w.heap.size + 1 := by simp
  have h30 := h3.ext hg0
  obtain ⟨_, hco, hcp, hcc, _⟩ := Box3.made w 32 (.slice ao P.orders.length capo) (.slice ap P.powers.length capp) (.slice ac P.conj.length capc)
  have hoi := h30.o
  have hpi := h30.p
  have hci := h30.c
  have HO := Lib.hid hP.ord7
  go_enter Tryz.func140, Tryz.ntmps140
  go_wp2
  have HS := Lib.hid hs0; clear hs0
  generalize hw0 : w.alloc (.cells #[.slice ao P.orders.length capo, .slice ap P.powers.length capp, .slice ac P.conj.length capc] 32) = w0 at *
  clear hw0
  have hga : Ext w0 (w0.alloc (.cells #[] 22)) := World.grownBy_alloc _ _ _
  go_loopw [3, 5] (fun ov iv wr => ∃ (i : Nat) (v4 : Value), v4 = ov ∧ iv = .int .i64 i ∧ i ≤ P.orders.length ∧ Ext w0 wr ∧ RowsO w0.heap.size wr v4 (relPs P i)) (fun _ iv _ => P.orders.length - (intOf iv).toNat)
  case atStart => exact ⟨0, _, rfl, rfl, by omega, hga, [], fun _ _ => False, rfl, by rw [← HS.out]; exact World.ownsRow_lit w0 #[] 0 (Nat.le_refl _) (by decide) rfl, by simp, by simp, by simp [relPs]⟩
  case round =>
    clear hga
    obtain ⟨i, v4, rfl, rfl, hi, hg, hO⟩ := hrel
    have hrl := relPs_len P i
    obtain ⟨R, hR⟩ : ∃ R, R = relPs P i := ⟨_, rfl⟩
    rw [← hR] at hO hrl
    have hRl := Lib.hid hrl; clear hrl
    by_cases hlt : i < P.orders.length
    · have hlt' : (i : Int) < P.orders.length := by omega
      obtain ⟨b, off, rfl, _, _, hc⟩ := Ints.at hoi i hlt
      obtain ⟨x, hx⟩ : ∃ x, x = (gt P.orders i).toNat := ⟨_, rfl⟩
      have hx0 := HO.out i hlt
      have hxe : gt P.orders i = (x : Int) := by omega
      have hx7 : 1 ≤ x ∧ x ≤ 1000 := by omega
      rw [hxe] at hc
      have hrel : relPow P i = List.replicate x ((i : Int) + 1) ++ invWord (nWord (gt P.powers i) P.orders.length) := by rw [hx]; rfl
      have hrl2 := relPow_len hP hlt
      have hvw := vec_word hP (hP.pv i hlt).1
      have hvl : (gt P.powers i).length ≤ 6 := by rw [(hP.pv i hlt).1.1]; exact hn6
      have hnx : relPs P (i + 1) = R ++ [relPow P i] := by rw [hR]; rfl
      have HX := Lib.hid (And.intro hrel (And.intro hrl2 (And.intro hvw (And.intro hnx hvl)))); clear hrel hrl2 hvw hnx hx0 hx hxe hR hvl
      have hi1 : (i : Int) < P.powers.length := by omega
      obtain ⟨bp, op, a2, cap2, rfl, _, _, hcpi, hrp⟩ := Rows2.at hpi i (by omega)
      have hwi : IntKind.i64.wrap ((i : Int) + 1) = (i : Int) + 1 := IntWalk.i64_in _ (by omega)
      go_wp2
      obtain ⟨wo, rfl⟩ : ∃ wo : World, wo = wr := ⟨_, rfl⟩
      have hgl : Ext wo (wo.alloc (.cells #[] 2)) := World.grownBy_alloc _ _ _
      go_loopw [6, 7] (fun ov kv wr => ∃ (k : Nat) (v6 : Value), v6 = ov ∧ kv = .int .i64 k ∧ k ≤ x ∧ Ext wo wr ∧ Own wo.heap.size wr v6 (List.replicate k ((i : Int) + 1))) (fun _ kv _ => x - (intOf kv).toNat)
      case atStart => exact ⟨0, _, rfl, rfl, by omega, hgl, World.ownsRow_lit wo #[] 0 (Nat.le_refl _) (by decide) rfl⟩
      case round =>
        clear hgl
        obtain ⟨k, v6, rfl, rfl, hk, hgk, hOk⟩ := hrel
        have hgw := grown_trans hg hgk
        have hb0 := hgw.cell hco (by simp)
        have hbc := hgw.cell hc (by simp)
        by_cases hltk : k < x
        · have hltk' : (k : Int) < x := by omega
          have hlen : (List.replicate k ((i : Int) + 1)).length ≤ 1000 := by rw [List.length_replicate]; omega
          have HL := Lib.hid hlen; clear hlen
          go_wp2_with (first | (at_builtin; refine wp_app_ints rfl _ _ rfl wo.heap.size v6 _ rfl (hOk.ext0 (World.grownBy_alloc _ _ _)) _ _ rfl Any (ints_lit wr _) (by have := HL.out; simp only [List.length_cons, List.length_nil]; omega) (by have := hgk.size; simp; omega) ?_; intro v5 w5 hO5 hg5 _) | fail)
          have hg5' : wr.grownBy w5 v6.ownBlock := grown_trans (grown_of_ext _ (World.grownBy_alloc _ _ _)) hg5
          have hge : Ext wo w5 := grown_own hgk hg5' (fun b hb hlt => by have := (hOk.lt b hb).1; omega)
          rw [← List.replicate_succ'] at hO5
          clear hOk hg5 hg5' hb0 hbc
          go_roundw
          case rel => exact ⟨k + 1, v5, rfl, by go_num, by omega, hge, hO5⟩
          case measure => simp [intOf]; omega
        · have hke : k = x := by omega
          subst hke
          have hb1 := hgw.cell hcp (by simp)
          have hbp := hgw.cell hcpi (by simp)
          go_wp2_with fail
          refine Calls.mono (l07Word_ok wr _ (gt P.powers i) Any (Ints.sub (Ints.ext hrp hgw) (fun _ _ _ => trivial)) HX.out.2.2.2.2 HX.out.2.2.1.1) ?_
          rintro eN wN ⟨vN, rfl, hgN, hON⟩
          rw [HX.out.2.2.1.2.1] at hON
          have hNi := hON.ints (by have := HX.out.2.2.1.2.2.1; omega)
          go_wp2_with fail
          refine Calls.mono (l06Invert_ok wN _ (nWord (gt P.powers i) P.orders.length) Any (Ints.sub hNi (fun _ _ _ => trivial)) (by have := HX.out.2.2.1.2.2.1; omega) HX.out.2.2.1.2.2.2) ?_
          rintro eI wI ⟨vI, rfl, hgI, hOI⟩
          have hIi := hOI.ints (by rw [invWord_len]; have := HX.out.2.2.1.2.2.1; omega)
          have hgNI := grown_trans hgN hgI
          have hOl2 := hOk.ext0 hgNI
          have hgwI := grown_trans hgk hgNI
          clear hON hNi hOI hgN hgI hOk hgk hb0 hbc hb1 hbp
          go_wp2_with (first | (at_builtin; refine wp_app_ints rfl _ _ rfl wo.heap.size _ _ rfl hOl2 _ _ rfl _ hIi (by rw [invWord_len, List.length_replicate]; have := HX.out.2.2.1.2.2.1; omega) hgwI.size ?_; intro vL wL hOL hgL _; rw [← HX.out.1] at hOL; have hgwL : Ext wo wL := grown_own hgwI hgL (fun j hj hlt => by have := (hOl2.lt j hj).1; omega); have hYO : OwnIn (From wo.heap.size) wL vL (relPow P i) := OwnIn.of hOL (by have := HX.out.2.1; omega) (fun j h1 _ => h1); obtain ⟨aL, cL, hvL, _, _⟩ := hYO.ints.shape; subst hvL; clear hOL hOl2 hIi hgL hgwI) | (at_builtin; refine wp_app_row rfl _ _ rfl w0.heap.size wo wL _ _ R (relPow P i) rfl hO hgwL hYO rfl rfl (by have := hRl.out; omega) hg.size ?_; intro v5 w5 hO5 hg5 hg5b) | fail)
          have hgw5 : Ext w0 w5 := grown_own hg hg5 (fun j hj hlt => by have := (hO.lt j hj).1; omega)
          rw [← HX.out.2.2.2.1] at hO5
          clear hO hYO hg5 hg5b hgwL
          go_roundw
          case rel => exact ⟨i + 1, v5, rfl, by go_num, by omega, hgw5, hO5⟩
          case measure => simp [intOf]; omega
    · have hie : i = P.orders.length := by omega
      subst hie
      have hOT : RowsO w0.heap.size wr v4 (relTo P 0) := by rw [hR] at hO; exact hO
      clear hO hR
      go_wp2
      go_loopw [3, 8] (fun ov iv wr => ∃ (i : Nat) (v4 : Value), v4 = ov ∧ iv = .int .i64 i ∧ i ≤ P.orders.length ∧ Ext w0 wr ∧ RowsO w0.heap.size wr v4 (relTo P i)) (fun _ iv _ => P.orders.length - (intOf iv).toNat)
      case atStart => exact ⟨0, _, rfl, rfl, by omega, hg, hOT⟩
      case round =>
        clear hOT hg
        obtain ⟨i, v4, rfl, rfl, hi, hg, hO⟩ := hrel
        have hrl := relTo_len hP i hi
        by_cases hlt : i < P.orders.length
        · have hlt' : (i : Int) < P.orders.length := by omega
          have hic : (i : Int) < P.conj.length := by omega
          obtain ⟨bc, oc, a2, cap2, rfl, _, _, hcc0, hrc⟩ := Rows3.at hci i (by omega)
          have hcv := hP.cv i hlt
          have hO0 : RowsO w0.heap.size wr v4 (relTo P i ++ relCs P i 0) := by rw [relCs, List.append_nil]; exact hO
          have HCV := Lib.hid hcv; clear hcv hO
          go_wp2
          go_loopw [3, 9] (fun ov jv wr => ∃ (k : Nat) (v4 : Value), v4 = ov ∧ jv = .int .i64 ((i : Int) + 1 + k) ∧ k ≤ P.orders.length - 1 - i ∧ Ext w0 wr ∧ RowsO w0.heap.size wr v4 (relTo P i ++ relCs P i k)) (fun _ jv _ => P.orders.length - (intOf jv).toNat)
          case atStart => exact ⟨0, _, rfl, by go_num, by omega, hg, hO0⟩
          case round =>
            clear hO0 hg
            obtain ⟨k, v4, rfl, rfl, hk, hg, hO⟩ := hrel
            have hlen := HCV.out.1
            have hLL : (relTo P i ++ relCs P i k).length ≤ 100 := by rw [List.length_append, relCs_len]; omega
            obtain ⟨R, hR⟩ : ∃ R, R = relTo P i ++ relCs P i k := ⟨_, rfl⟩
            rw [← hR] at hO hLL
            by_cases hltk : i + 1 + k < P.orders.length
            · have hltk' : (i : Int) + 1 + k < P.orders.length := by omega
              have hkc : (k : Int) < (gt P.conj i).length := by omega
              obtain ⟨bk, ok, a3, cap3, rfl, _, _, hck0, hrk0⟩ := Rows2.at hrc k (by omega)
              have hgl : Ext wr (wr.alloc (.cells #[.int .i64 (-((i : Int) + 1)), .int .i64 ((i : Int) + k + 2), .int .i64 ((i : Int) + 1)] 2)) := World.grownBy_alloc _ _ _
              have hgwl := grown_trans hg hgl
              have hck := hgwl.cell hck0 (by simp)
              have hcc' := hgwl.cell hcc (by simp)
              have hcci := hgwl.cell hcc0 (by simp)
              have hvk := (HCV.out.2 k (by omega)).1
              have hvw := vec_word hP hvk
              have hrl2 := relCon_len hP (k := k) hlt (by omega)
              have hnx : relTo P i ++ relCs P i (k + 1) = R ++ [relCon P i k] := by rw [hR, relCs, List.append_assoc]
              have hvl : (gt (gt P.conj i) k).length ≤ 6 := by rw [hvk.1]; exact hn6
              have HX := Lib.hid (And.intro hvw (And.intro hrl2 (And.intro hnx (And.intro hLL hvl)))); clear hvw hrl2 hnx hvk hR hlen hLL hvl
              have hw1 : IntKind.i64.wrap ((i : Int) + 1) = (i : Int) + 1 := IntWalk.i64_in _ (by omega)
              have hw2 : IntKind.i64.wrap ((i : Int) + 1 + k + 1) = (i : Int) + k + 2 := by rw [show (i : Int) + 1 + k + 1 = (i : Int) + k + 2 by omega]; exact IntWalk.i64_in _ (by omega)
              have hw3 : IntKind.i64.wrap (-(i : Int)) = -(i : Int) := IntWalk.i64_in _ (by omega)
              have hw4 : IntKind.i64.wrap (-(i : Int) - 1) = -((i : Int) + 1) := by rw [show -(i : Int) - 1 = -((i : Int) + 1) by omega]; exact IntWalk.i64_in _ (by omega)
              have hw5 : IntKind.i64.wrap ((i : Int) + 1 + k - i) = (k : Int) + 1 := by rw [show (i : Int) + 1 + k - i = (k : Int) + 1 by omega]; exact IntWalk.i64_in _ (by omega)
              have hw6 : IntKind.i64.wrap ((k : Int) + 1 - 1) = (k : Int) := by rw [show (k : Int) + 1 - 1 = (k : Int) by omega]; exact IntWalk.i64_in _ (by omega)
              have hOl : Own wr.heap.size (wr.alloc (.cells #[.int .i64 (-((i : Int) + 1)), .int .i64 ((i : Int) + k + 2), .int .i64 ((i : Int) + 1)] 2)) (.slice (some ⟨wr.heap.size, 0, none⟩) 3 3) [-((i : Int) + 1), (i : Int) + k + 2, (i : Int) + 1] := World.ownsRow_lit wr #[.int .i64 (-((i : Int) + 1)), .int .i64 ((i : Int) + k + 2), .int .i64 ((i : Int) + 1)] 3 (Nat.le_refl _) (by decide) rfl
              go_wp2_with fail
              generalize hwl : wr.alloc (.cells #[.int .i64 (-((i : Int) + 1)), .int .i64 ((i : Int) + k + 2), .int .i64 ((i : Int) + 1)] 2) = wl at *
              clear hwl hw1 hw2 hw3 hw4 hw5 hw6 hck hck0 hcc' hcci
              refine Calls.mono (l07Word_ok wl _ (gt (gt P.conj i) k) Any (Ints.sub (Ints.ext hrk0 hgwl) (fun _ _ _ => trivial)) HX.out.2.2.2.2 HX.out.1.1) ?_
              rintro eN wN ⟨vN, rfl, hgN, hON⟩
              rw [HX.out.1.2.1] at hON
              have hNi := hON.ints (by have := HX.out.1.2.2.1; omega)
              go_wp2_with fail
              refine Calls.mono (l06Invert_ok wN _ (nWord (gt (gt P.conj i) k) P.orders.length) Any (Ints.sub hNi (fun _ _ _ => trivial)) (by have := HX.out.1.2.2.1; omega) HX.out.1.2.2.2) ?_
              rintro eI wI ⟨vI, rfl, hgI, hOI⟩
              have hIi := hOI.ints (by rw [invWord_len]; have := HX.out.1.2.2.1; omega)
              have hgNI := grown_trans hgN hgI
              have hOl2 := hOl.ext0 hgNI
              have hgwI := grown_trans hgl hgNI
              clear hON hNi hOI hgN hgI hOl hgl hgwl
              go_wp2_with (first | (at_builtin; refine wp_app_ints rfl _ _ rfl wr.heap.size _ _ rfl hOl2 _ _ rfl _ hIi (by rw [invWord_len]; have := HX.out.1.2.2.1; simp only [List.length_cons, List.length_nil]; omega) hgwI.size ?_; intro vL wL hOL hgL _; have hgwL : Ext wr wL := grown_own hgwI hgL (fun j hj hlt => by have := own_blk hj; omega); have hYO : OwnIn (From wr.heap.size) wL vL (relCon P i k) := OwnIn.of (l := relCon P i k) hOL (by have := HX.out.2.1; omega) (fun j h1 _ => h1); obtain ⟨aL, cL, hvL, _, _⟩ := hYO.ints.shape; subst hvL; clear hOL hOl2 hIi hgL hgwI) | (at_builtin; refine wp_app_row rfl _ _ rfl w0.heap.size wr wL _ _ R (relCon P i k) rfl hO hgwL hYO rfl rfl (by have := HX.out.2.2.2.1; omega) hg.size ?_; intro v5 w5 hO5 hg5 hg5b) | fail)
              have hgw5 : Ext w0 w5 := grown_own hg hg5 (fun j hj hlt => by have := (hO.lt j hj).1; omega)
              rw [← HX.out.2.2.1] at hO5
              clear hO hYO hg5 hg5b hgwL
              go_roundw
              case rel => exact ⟨k + 1, v5, rfl, by go_num, by omega, hgw5, hO5⟩
              case measure => simp [intOf]; omega
            · have hke : k = P.orders.length - 1 - i := by omega
              have hOn : RowsO w0.heap.size wr v4 (relTo P (i + 1)) := by rw [relTo, hlen, ← hke, ← hR]; exact hO
              have hgt : ¬ (i : Int) + 1 + k < P.orders.length := by omega
              clear hO hR hlen hLL
              go_wp2
              go_roundw
              case rel => exact ⟨i + 1, _, rfl, by go_num, by omega, hg, hOn⟩
              case measure => simp [intOf]; omega
        · have hie : i = P.orders.length := by omega
          subst hie
          have hfin : RowsO w.heap.size wr v4 (relsP P) := hO.weak (by have := HS.out; omega)
          clear hO
          go_wp2
          go_ret
          exact ⟨_, rfl, grown_trans hg0 hg, hfin⟩

end Go.Proofs.YtchbegeklckgnaaGreat
