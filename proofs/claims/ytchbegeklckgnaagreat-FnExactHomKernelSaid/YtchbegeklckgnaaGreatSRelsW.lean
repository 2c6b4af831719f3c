/-
  impl.PresentationRelators.
-/
import Derived.Test.YtchbegeklckgnaaGreatSRepeatI
import Derived.Test.YtchbegeklckgnaaGreatSAppMany
import Derived.Test.YtchbegeklckgnaaGreatK8
namespace Go.Proofs.YtchbegeklckgnaaGreat
open Go.RowKit

/-- append of a list of integers onto a list of the call's own, in a region that draws -/
theorem step_app_list {ops : Array Oper} {o : Oper} {a : Act} {K : Act → World → Prop} {Q : Exit → Act → World → Prop} {Ex : Prop} {w : World} (hgd : o.guard = none) (s x : Operand)
    (ho : o.op = Op.call { callee := Callee.builtin Builtin.append, args := #[s, x], argTypes := #[22, 22] }) (B g cap n : Nat) (l m : List Int) (hn0 : l.length = n) (hs : a.eval s = .slice (some ⟨g, 0, none⟩) n cap)
    (hown : Own B w (.slice (some ⟨g, 0, none⟩) n cap) l) (v : Value) (S : Nat → Prop) (hv : Ints S w v m) (hx : a.eval x = v) (hlen : l.length + m.length ≤ 1000000) (hbase : B ≤ w.heap.size)
    (h : ∀ v' w', Own B w' v' (l ++ m) → w.grownBy w' (some g) → K (a.put o.dst v') w') :
    if Region.wanted o (yielded ops a.tmps) = true then Oper.wp Tryz.prog o a w K Q else Ex := by
  subst hn0
  obtain ⟨sa, c, rfl, ⟨_, _, hn⟩, hc⟩ := hv
  have hl : (l.map (Value.int .i64)).length = l.length := List.length_map ..
  refine step_app_many 22 2 (.int .i64 0) 8 und_ints Tryz.infoInt rfl (by decide) hgd s x ho B g cap (l.map (Value.int .i64)) (by rw [hl]; exact hs) (by have := hown.v; rw [hl]; exact this) sa m.length c (m.map (Value.int .i64)) hx (by simp) hn (fun j hj => ?_) (fun u hu => ?_) (by rw [hl]; exact hlen) hbase (fun v' w' k1 k2 => ?_)
  · obtain ⟨b, off, u, h1, _, _, h2, h3⟩ := hc j hj
    exact ⟨b, off, h1, by rw [h2, h3]; simp [gt, hj]⟩
  · simp at hu
    obtain ⟨x, _, rfl⟩ := hu; rfl
  · exact h v' w' (Own.of (by rw [List.map_append]; exact k1)) k2

theorem vec_word {P : Pr} (hP : Valid P) {e : List Int} (h : Vec P.orders e) : (∀ i, i < e.length → 0 ≤ gt e i ∧ gt e i ≤ 7) ∧ (nWord e e.length = nWord e P.orders.length) ∧ (nWord e P.orders.length).length ≤ 42 ∧
    (∀ i, i < (nWord e P.orders.length).length → -1000 ≤ gt (nWord e P.orders.length) i ∧ gt (nWord e P.orders.length) i ≤ 1000) := by
  have hn6 := hP.n6
  have h1 : ∀ i, i < e.length → 0 ≤ gt e i ∧ gt e i ≤ 7 := fun i hi => by
    have h2 := h.2 i (by rw [← h.1]; exact hi)
    have h3 := hP.ord7 i (by rw [← h.1]; exact hi)
    omega
  refine ⟨h1, by rw [h.1], ?_, fun i hi => ?_⟩
  · have := nWord_len (e := e) (fun i => by
      by_cases hi : i < e.length
      · exact (h1 i hi).2
      · rw [gt_big (by omega)]; decide) P.orders.length
    omega
  · have := WordN.nWord e P.orders.length (Nat.le_refl _) _ (gtMem hi)
    omega

theorem relPow_len {P : Pr} (hP : Valid P) {i : Nat} (hi : i < P.orders.length) : (relPow P i).length ≤ 50 := by
  have h1 := (vec_word hP (hP.pv i hi).1).2.2.1
  have h2 := hP.ord7 i hi
  unfold relPow
  rw [List.length_append, List.length_replicate, invWord_len]; omega
theorem relCon_len {P : Pr} (hP : Valid P) {i k : Nat} (hi : i < P.orders.length) (hk : k < P.orders.length - 1 - i) : (relCon P i k).length ≤ 50 := by
  have h1 := (vec_word hP ((hP.cv i hi).2 k hk).1).2.2.1
  unfold relCon
  rw [List.length_append, invWord_len]; simp; omega
theorem relTo_len {P : Pr} (hP : Valid P) : ∀ i, i ≤ P.orders.length → (relTo P i).length ≤ P.orders.length + 6 * i
  | 0, _ => by rw [relTo, relPs_len]; omega
  | i + 1, h => by
    have h1 := relTo_len hP i (by omega)
    have h2 := (hP.cv i (by omega)).1
    have := hP.n6
    rw [relTo, List.length_append, relCs_len]; omega

set_option maxRecDepth 100000 in
set_option maxHeartbeats 4000000 in
theorem relators_ok (P : Pr) (hP : Valid P) (w : World) (pv : Value) (Sp : Nat → Prop) (hpv : PresV Sp w pv P) :
    Calls Tryz.prog 99 #[pv] w (Ret w fun w' v => ∃ a n c, v = .tuple #[.slice a n c, .int .i64 0] ∧ RowsO w.heap.size w' (.slice a n c) (relsP P)) := by
  have hn6 := hP.n6
  have hpl : P.powers.length ≤ P.orders.length ∧ P.orders.length ≤ P.powers.length := by have := hP.pl; omega
  have hcl : P.conj.length ≤ P.orders.length ∧ P.orders.length ≤ P.conj.length := by have := hP.cl; omega
  obtain ⟨vo, vp, vc, rfl, h3⟩ := hpv
  obtain ⟨ao, capo, rfl, _, _⟩ := h3.o.shape
  obtain ⟨ap, capp, rfl, _, _⟩ := Sl.shape h3.p
  obtain ⟨ac, capc, rfl, _, _⟩ := Sl.shape h3.c
  have hg0 : Ext w (w.alloc (.cells #[.slice ao P.orders.length capo, .slice ap P.powers.length capp, .slice ac P.conj.length capc] 32)) := World.grownBy_alloc _ _ _
  have hs0 : (w.alloc (.cells #[.slice ao P.orders.length capo, .slice ap P.powers.length capp, .slice ac P.conj.length capc] 32)).heap.size = w.heap.size + 1 := by simp
  have h30 := h3.ext hg0
  obtain ⟨_, hco, hcp, hcc, _⟩ := Box3.made w 32 (.slice ao P.orders.length capo) (.slice ap P.powers.length capp) (.slice ac P.conj.length capc)
  have hpr := isPresentation_ok (w.alloc (.cells #[.slice ao P.orders.length capo, .slice ap P.powers.length capp, .slice ac P.conj.length capc] 32)) (.agg #[.slice ao P.orders.length capo, .slice ap P.powers.length capp, .slice ac P.conj.length capc]) P Sp ⟨_, _, _, rfl, h30⟩
  rw [validB_true hP] at hpr
  have hoi := h30.o
  have hpi := h30.p
  have hci := h30.c
  have HO := Lib.hid hP.ord7
  go_enter Tryz.func99, Tryz.ntmps99
  go_wp2_with fail
  refine Calls.mono hpr ?_
  rintro e1 w1 ⟨v1, rfl, hg1, rfl⟩
  clear hpr
  generalize hw0 : w.alloc (.cells #[.slice ao P.orders.length capo, .slice ap P.powers.length capp, .slice ac P.conj.length capc] 32) = w0 at *
  clear hw0
  have hc0 := hg1.cell hco (by simp)
  have HS := Lib.hid hs0; clear hs0
  have hs1 : w.heap.size ≤ w1.heap.size := by have := HS.out; have := hg1.size; omega
  go_wp2
  clear hc0
  go_loopw [4, 18] (fun ov iv wr => ∃ (i : Nat) (v4 : Value), v4 = ov ∧ iv = .int .i64 i ∧ i ≤ P.orders.length ∧ Ext w1 wr ∧ RowsO w1.heap.size wr v4 (relPs P i)) (fun _ iv _ => P.orders.length - (intOf iv).toNat)
  case atStart => exact ⟨0, _, rfl, rfl, by omega, Ext.refl _, SlO.nil _ _ _ _⟩
  case round =>
    obtain ⟨i, v4, rfl, rfl, hi, hg, hO⟩ := hrel
    have hgw := grown_trans hg1 hg
    have hrl := relPs_len P i
    obtain ⟨R, hR⟩ : ∃ R, R = relPs P i := ⟨_, rfl⟩
    rw [← hR] at hO hrl
    obtain ⟨a4, cap4, hv4, _, _⟩ := SlD.shape (hO.toD (by omega))
    subst hv4
    have hRl := Lib.hid hrl; clear hrl
    by_cases hlt : i < P.orders.length
    · have hlt' : (i : Int) < P.orders.length := by omega
      obtain ⟨b, off, rfl, _, _, hc⟩ := Ints.at (hoi.ext hgw) i hlt
      obtain ⟨x, hx⟩ : ∃ x, x = (gt P.orders i).toNat := ⟨_, rfl⟩
      have hx0 := HO.out i hlt
      have hxe : gt P.orders i = (x : Int) := by omega
      have hx7 : 1 ≤ x ∧ x ≤ 1000 := by omega
      rw [hxe] at hc
      have hrel : relPow P i = List.replicate x ((i : Int) + 1) ++ invWord (nWord (gt P.powers i) P.orders.length) := by rw [hx]; rfl
      have hrl2 := relPow_len hP hlt
      have hvw := vec_word hP (hP.pv i hlt).1
      have hnx : relPs P (i + 1) = R ++ [relPow P i] := by rw [hR]; rfl
      have HX := Lib.hid (And.intro hrel (And.intro hrl2 (And.intro hvw hnx))); clear hrel hrl2 hvw hnx hx0 hx hxe hR
      have hi1 : (i : Int) < P.powers.length := by omega
      obtain ⟨bp, op, a2, cap2, rfl, _, _, hcpi, hrp⟩ := Rows2.at hpi i (by omega)
      have e1 : ∀ w', Ext w1 w' → w'.cell? ⟨w.heap.size, 1, none⟩ = some (.slice (some ⟨bp, op, none⟩) P.powers.length capp) := fun w' h => (grown_trans hg1 h).cell hcp (by simp)
      have e2 : ∀ w', Ext w1 w' → w'.cell? ⟨bp, op + i, none⟩ = some (.slice a2 (gt P.powers i).length cap2) := fun w' h => (grown_trans hg1 h).cell hcpi (by simp)
      have hrr := Ints.ext hrp hgw
      have hwi : IntKind.i64.wrap ((i : Int) + 1) = (i : Int) + 1 := IntWalk.i64_in _ (by omega)
      go_wp2
      have hgl : Ext wr (wr.alloc (.cells #[.int .i64 ((i : Int) + 1)] 2)).drew := grown_trans (World.grownBy_alloc _ _ _) (grown_drew _ _)
      have hlit := Ints.ext (ints_lit wr ((i : Int) + 1)) (grown_drew (wr.alloc (.cells #[.int .i64 ((i : Int) + 1)] 2)) none)
      go_region_held3 (fun w' => Ext w1 w') (first | exact grown_trans hg (grown_drew _ _) | exact grown_trans hg (by assumption) | exact hgw5 | exact grown_trans hg (grown_trans hgwL (World.grownBy_alloc _ _ _)))
        (first
          | (go_at_call 146; refine Calls.mono (Calls.rel2 (w0 := wr) (by assumption) (repeatI_ok _ _ ((i : Int) + 1) x Any (by first | exact hlit | exact Ints.ext hlit (by assumption) | exact Ints.ext hlit (grown_trans hgN2 hgI2)) hx7)) ?_; rintro eR wR ⟨vR, rfl, hgR, hgR2, hsR, hOR⟩; obtain ⟨gR, cR, hvR, _, _⟩ := hOR.form (by rw [List.length_replicate]; omega); rw [List.length_replicate] at hvR; subst hvR)
          | (go_at_call 148; refine Calls.mono (Calls.rel2 (w0 := wr) (by assumption) (normalWord_ok _ _ (gt P.powers i) Any (Ints.sub (Ints.ext hrr (by assumption)) (fun _ _ _ => trivial)) (by have := HX.out.2.2.1.1; rw [(hP.pv i hlt).1.1]; exact hn6) HX.out.2.2.1.1)) ?_; rintro eN wN ⟨vN, rfl, hgN, hgN2, hsN, hON⟩; rw [HX.out.2.2.1.2.1] at hON; have hNi := hON.ints (by have := HX.out.2.2.1.2.2.1; omega))
          | (go_at_call 147; refine Calls.mono (Calls.rel2 (w0 := wr) (by assumption) (invertWord_ok _ _ (nWord (gt P.powers i) P.orders.length) Any (by first | exact Ints.sub hNi (fun _ _ _ => trivial) | exact Ints.sub (Ints.ext hNi (by assumption)) (fun _ _ _ => trivial)) (by have := HX.out.2.2.1.2.2.1; omega) HX.out.2.2.1.2.2.2)) ?_; rintro eI wI ⟨vI, rfl, hgI, hgI2, hsI, hOI⟩; have hIi := hOI.ints (by rw [invWord_len]; have := HX.out.2.2.1.2.2.1; omega))
          | (refine step_app_list rfl _ _ rfl wr.heap.size gR cR x (List.replicate x ((i : Int) + 1)) (invWord (nWord (gt P.powers i) P.orders.length)) (List.length_replicate ..) rfl (by first | exact hOR.weak hsR | exact (hOR.weak hsR).ext0 (by assumption) | exact (hOR.weak hsR).ext0 (grown_trans hgN2 hgI2)) _ Any (by first | exact Ints.sub hIi (fun _ _ _ => trivial) | exact Ints.sub (Ints.ext hIi (by assumption)) (fun _ _ _ => trivial)) rfl (by rw [List.length_replicate, invWord_len]; have := HX.out.2.2.1.2.2.1; omega) (by first | exact hgI.size | exact hgR.size) ?_
             intro vL wL hOL hgL
             rw [← HX.out.1] at hOL
             have hYO : OwnIn (From wr.heap.size) wL vL (relPow P i) := OwnIn.of hOL (by have := HX.out.2.1; omega) (fun j h1 _ => h1)
             have hgwL : Ext wr wL := by
               have hgb : wr.heap.size ≤ gR := by have := (hOR.lt gR rfl).1; omega
               first | exact grown_own hgI hgL (fun j hj hlt => by cases hj; omega) | exact grown_own hgR hgL (fun j hj hlt => by cases hj; omega)
             obtain ⟨aL, cL, hvL, _, _⟩ := hYO.ints.shape
             subst hvL)
          | (refine step_app_row rfl _ _ rfl w1.heap.size wr wL _ _ R (relPow P i) rfl hO hgwL hYO rfl rfl (by have := hRl.out; omega) hg.size ?_; intro v5 w5 hO5 hg5 hg5b; have hgw5 : Ext w1 w5 := grown_own hg hg5 (fun j hj hlt => by have := (hO.lt j hj).1; omega)))
      rw [← HX.out.2.2.2] at hO5
      clear e1 e2 hgl hlit hO hc
      go_wp2
      go_roundw
      case rel => exact ⟨i + 1, v5, rfl, by go_num, by omega, hgw5, hO5⟩
      case measure => simp [intOf]; omega
    · have hie : i = P.orders.length := by omega
      subst hie
      have hOT : RowsO w1.heap.size wr (.slice a4 R.length cap4) (relTo P 0) := by rw [hR] at hO ⊢; exact hO
      have hc0 := hgw.cell hco (by simp)
      clear hO hR
      go_wp2
      clear hc0
      go_loopw [4, 43] (fun ov iv wr => ∃ (i : Nat) (v4 : Value), v4 = ov ∧ iv = .int .i64 i ∧ i ≤ P.orders.length ∧ Ext w1 wr ∧ RowsO w1.heap.size wr v4 (relTo P i)) (fun _ iv _ => P.orders.length - (intOf iv).toNat)
      case atStart => exact ⟨0, _, rfl, rfl, by omega, hg, hOT⟩
      case round =>
        clear hOT hg hgw
        obtain ⟨i, v4, rfl, rfl, hi, hg, hO⟩ := hrel
        have hgw := grown_trans hg1 hg
        have hrl := relTo_len hP i hi
        by_cases hlt : i < P.orders.length
        · have hlt' : (i : Int) < P.orders.length := by omega
          have hic : (i : Int) < P.conj.length := by omega
          have hcc' := hgw.cell hcc (by simp)
          obtain ⟨bc, oc, a2, cap2, rfl, _, _, hcc0, hrc⟩ := Rows3.at hci i (by omega)
          have hcci := hgw.cell hcc0 (by simp)
          have hcv := hP.cv i hlt
          have hO0 : RowsO w1.heap.size wr v4 (relTo P i ++ relCs P i 0) := by rw [relCs, List.append_nil]; exact hO
          have HCV := Lib.hid hcv; clear hcv hO
          go_wp2
          clear hcc' hcci
          go_loopw [4, 52] (fun ov kv wr => ∃ (k : Nat) (v4 : Value), v4 = ov ∧ kv = .int .i64 k ∧ k ≤ (gt P.conj i).length ∧ Ext w1 wr ∧ RowsO w1.heap.size wr v4 (relTo P i ++ relCs P i k)) (fun _ kv _ => (gt P.conj i).length - (intOf kv).toNat)
          case atStart => exact ⟨0, _, rfl, rfl, by omega, hg, hO0⟩
          case round =>
            clear hO0
            clear hg hgw
            obtain ⟨k, v4, rfl, rfl, hk, hg, hO⟩ := hrel
            have hgw := grown_trans hg1 hg
            have hlen := HCV.out.1
            have hLL : (relTo P i ++ relCs P i k).length ≤ 100 := by rw [List.length_append, relCs_len]; omega
            obtain ⟨R, hR⟩ : ∃ R, R = relTo P i ++ relCs P i k := ⟨_, rfl⟩
            rw [← hR] at hO hLL
            obtain ⟨a4, cap4, hv4, _, _⟩ := SlD.shape (hO.toD (by omega))
            subst hv4
            by_cases hltk : k < (gt P.conj i).length
            · have hltk' : (k : Int) < (gt P.conj i).length := by omega
              obtain ⟨bk, ok, a3, cap3, rfl, _, _, hck0, hrk0⟩ := Rows2.at hrc k hltk
              have hck := hgw.cell hck0 (by simp)
              have hvk := (HCV.out.2 k (by omega)).1
              have hvw := vec_word hP hvk
              have hrl2 := relCon_len hP (k := k) hlt (by omega)
              have hik : i + k + 1 < P.orders.length := by omega
              have hnx : relTo P i ++ relCs P i (k + 1) = R ++ [relCon P i k] := by rw [hR, relCs, List.append_assoc]
              have hvl : (gt (gt P.conj i) k).length ≤ 6 := by rw [hvk.1]; exact hn6
              have HX := Lib.hid (And.intro hvw (And.intro hrl2 (And.intro hnx (And.intro hLL hvl)))); clear hvw hrl2 hnx hvk hR hlen hLL hvl
              have hw1 : IntKind.i64.wrap ((i : Int) + 1) = (i : Int) + 1 := IntWalk.i64_in _ (by omega)
              have hw2 : IntKind.i64.wrap ((i : Int) + k) = (i : Int) + k := IntWalk.i64_in _ (by omega)
              have hw3 : IntKind.i64.wrap ((i : Int) + k + 2) = (i : Int) + k + 2 := IntWalk.i64_in _ (by omega)
              have hw4 : IntKind.i64.wrap (-((i : Int) + 1)) = -((i : Int) + 1) := IntWalk.i64_in _ (by omega)
              go_wp2_with fail
              have hgl : Ext wr (wr.alloc (.cells #[.int .i64 (-((i : Int) + 1)), .int .i64 ((i : Int) + k + 2), .int .i64 ((i : Int) + 1)] 2)) := World.grownBy_alloc _ _ _
              have hOl : Own wr.heap.size (wr.alloc (.cells #[.int .i64 (-((i : Int) + 1)), .int .i64 ((i : Int) + k + 2), .int .i64 ((i : Int) + 1)] 2)) (.slice (some ⟨wr.heap.size, 0, none⟩) 3 3) [-((i : Int) + 1), (i : Int) + k + 2, (i : Int) + 1] := World.ownsRow_lit wr #[.int .i64 (-((i : Int) + 1)), .int .i64 ((i : Int) + k + 2), .int .i64 ((i : Int) + 1)] 3 (Nat.le_refl _) (by decide) rfl
              generalize hwl : wr.alloc (.cells #[.int .i64 (-((i : Int) + 1)), .int .i64 ((i : Int) + k + 2), .int .i64 ((i : Int) + 1)] 2) = wl at *
              clear hwl hw1 hw2 hw3 hw4 hck hck0
              refine Calls.mono (normalWord_ok wl _ (gt (gt P.conj i) k) Any (Ints.sub (Ints.ext hrk0 (grown_trans hgw hgl)) (fun _ _ _ => trivial)) HX.out.2.2.2.2 HX.out.1.1) ?_
              rintro eN wN ⟨vN, rfl, hgN, hON⟩
              rw [HX.out.1.2.1] at hON
              have hNi := hON.ints (by have := HX.out.1.2.2.1; omega)
              go_wp2_with fail
              refine Calls.mono (invertWord_ok wN _ (nWord (gt (gt P.conj i) k) P.orders.length) Any (Ints.sub hNi (fun _ _ _ => trivial)) (by have := HX.out.1.2.2.1; omega) HX.out.1.2.2.2) ?_
              rintro eI wI ⟨vI, rfl, hgI, hOI⟩
              have hIi := hOI.ints (by rw [invWord_len]; have := HX.out.1.2.2.1; omega)
              have hgNI := grown_trans hgN hgI
              have hOl2 := hOl.ext0 hgNI
              have hgwI := grown_trans hgl hgNI
              clear hON hNi hOI hgN hgI hOl hgl
              go_wp2_with (first | (at_builtin; refine wp_app_ints rfl _ _ rfl wr.heap.size _ _ rfl hOl2 _ _ rfl _ hIi (by rw [invWord_len]; have := HX.out.1.2.2.1; simp only [List.length_cons, List.length_nil]; omega) hgwI.size ?_; intro vL wL hOL hgL _; have hgwL : Ext wr wL := grown_own hgwI hgL (fun j hj hlt => by have := own_blk hj; omega); have hYO : OwnIn (From wr.heap.size) wL vL (relCon P i k) := OwnIn.of (l := relCon P i k) hOL (by have := HX.out.2.1; omega) (fun j h1 _ => h1); obtain ⟨aL, cL, hvL, _, _⟩ := hYO.ints.shape; subst hvL; clear hOL hOl2 hIi hgL hgwI) | (at_builtin; refine wp_app_row rfl _ _ rfl w1.heap.size wr wL _ _ R (relCon P i k) rfl hO hgwL hYO rfl rfl (by have := HX.out.2.2.2.1; omega) hg.size ?_; intro v5 w5 hO5 hg5 hg5b) | fail)
              have hgw5 : Ext w1 w5 := grown_own hg hg5 (fun j hj hlt => by have := (hO.lt j hj).1; omega)
              rw [← HX.out.2.2.1] at hO5
              clear hO hYO hg5 hg5b hgwL
              go_roundw
              case rel => exact ⟨k + 1, v5, rfl, by go_num, by omega, hgw5, hO5⟩
              case measure => simp [intOf]; omega
            · have hke : k = (gt P.conj i).length := by omega
              subst hke
              have hOn : RowsO w1.heap.size wr (.slice a4 R.length cap4) (relTo P (i + 1)) := by rw [relTo, ← hR]; exact hO
              clear hO hR hlen hLL
              go_wp2
              go_roundw
              case rel => exact ⟨i + 1, _, rfl, by go_num, by omega, hg, hOn⟩
              case measure => simp [intOf]; omega
        · have hie : i = P.orders.length := by omega
          subst hie
          have hfin : RowsO w.heap.size wr v4 (relsP P) := hO.weak (by omega)
          obtain ⟨az, capz, hvz, _, _⟩ := SlD.shape (hO.toD (by omega))
          subst hvz
          clear hO
          go_wp2
          go_ret2
          exact ⟨_, rfl, grown_trans hg0 hgw, _, _, _, rfl, hfin⟩

end Go.Proofs.YtchbegeklckgnaaGreat
