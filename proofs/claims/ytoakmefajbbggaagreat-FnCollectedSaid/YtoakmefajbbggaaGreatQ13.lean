/-
  Drawing: laws.big, spec.DrawProductSize.
  impl.areElements.
  The library's sort at [][]int64, laid from the shelf.
  The program's homomorphisms: impl.evaluate, respects.
  impl.wordFits, impl.EvaluateBijections, on a word that fits and on bijections.
  impl.ElementNumber and impl.EvaluateWord, on elements and on a word that fits.
  laws.likeInts, like29, like39: whether two lists are alike (printed by gen_like.py).
  laws.roll, below, draw9: numbers that follow from the bytes.
  laws.roll and below: the dice's bytes lie in a set of blocks (printed by gen_rollx.py).
  laws.unit9 and units9 (from the first index on).
  append of a list of integers; and where the new row lies.
  laws.FnCollected answers true (printed by gen_lcw.py).
  The rows' arguments: how a presentation that came in, or a list, reads in this claim's words.
  Opening the argument of a row over bytes.
  laws.FnCollected holds: whatever the bytes, the law answers true and the bytes read as they did. No condition. (Printed by gen_rowb.py.)
-/
import Derived.Test.YtoakmefajbbggaaGreatQ1
import Derived.Test.YtoakmefajbbggaaGreatQ11
import Derived.Test.YtoakmefajbbggaaGreatQ12
import Derived.Test.YtoakmefajbbggaaGreatQ3
import Derived.Test.YtoakmefajbbggaaGreatQ4
import Derived.Test.YtoakmefajbbggaaGreatQ5
import Derived.Test.YtoakmefajbbggaaGreatQ6
import Derived.Test.YtoakmefajbbggaaGreatQ7
import Derived.Shelf.Lay
import Derived.Laws.BitsAllLaws
import Derived.StillTailTactics
import Derived.Carry
import Derived.Deep.Slices
import Derived.ChangeSame
import Derived.ChangeSlices
import Derived.JoinedOf
import Derived.JoinedAt
import Derived.JoinedCond
import Derived.ReadAgain
namespace Go.Proofs.YtoakmefajbbggaaGreat
open Go.RowKit
attribute [local go_sem ↓] Go.wp_at_zero Go.wp_at_succ

theorem big_ok (w : World) (cv : Value) (bs : List Int) (S : Nat → Prop) (hb : Bytes S w cv bs) :
    Calls Tryz.prog 7 #[cv] w fun e w' => e = .returned (.bool (decide (4096 < bs.length))) ∧ w = w' := by
  obtain ⟨a, cap, rfl, _, hlen⟩ := Sl.shape hb
  go_enter Tryz.func7, Tryz.ntmps7
  by_cases h : 4096 < bs.length
  · have hi : (4096 : Int) < (bs.length : Nat) := by omega
    go_wp2
    go_ret
    exact ⟨ret_b (by simp [h]), rfl⟩
  · have hi : ¬ (4096 : Int) < (bs.length : Nat) := by omega
    go_wp2
    go_ret
    exact ⟨ret_b (by simp), rfl⟩

end Go.Proofs.YtoakmefajbbggaaGreat
namespace Go.Proofs.YtoakmefajbbggaaGreat
open Go.RowKit

set_option maxRecDepth 100000 in
set_option maxHeartbeats 2000000 in
theorem areElements_ok (Q : Pr) (w : World) (p lv : Value) (L : List (List Int)) (Sp Sl' : Nat → Prop) (hp : PresP Sp w p Q) (hl : Rows2 Sl' w lv L) :
    Calls Tryz.prog 62 #[p, lv] w (Ret w fun _ v => ∃ r : Bool, v = .bool r ∧ (r = true ↔ rconsB Q = true ∧ ∀ x ∈ L, Vec Q.orders x)) := by
  obtain ⟨pb, po, rfl⟩ := hp.shape
  obtain ⟨al, capl, rfl, _, _⟩ := Sl.shape hl
  obtain ⟨vo, vp, vc, _, _, hc0, hc1, hc2, h3⟩ := hp.at
  obtain ⟨ao, capo, rfl, _, _⟩ := h3.o.shape
  obtain ⟨ap, capp, rfl, _, _⟩ := Sl.shape h3.p
  obtain ⟨ac, capc, rfl, _, _⟩ := Sl.shape h3.c
  have hcon := isConsistent_ok Q w (.agg #[.slice ao Q.orders.length capo, .slice ap Q.powers.length capp, .slice ac Q.conj.length capc]) Sp ⟨_, _, _, rfl, h3⟩
  rw [icons_eq] at hcon
  go_enter Tryz.func62, Tryz.ntmps62
  go_wp2_with fail
  refine Calls.mono hcon ?_
  rintro e1 w1 ⟨v, rfl, hg1, rfl⟩
  clear hcon
  cases hq : rconsB Q with
  | false =>
    have HQ := Lib.hid hq; clear hq
    go_wp2
    go_ret
    exact ⟨_, rfl, hg1, false, rfl, by simp only [Bool.false_eq_true, false_iff]; rintro ⟨h, _⟩; rw [HQ.out] at h; cases h⟩
  | true =>
    have G := grp_of_r hq
    have hn6 := G.v.n6
    have HQ := Lib.hid hq; clear hq hc0 hc1 hc2
    go_wp2
    go_loopw [14] (fun jv wr => ∃ j : Nat, jv = .int .i64 j ∧ j ≤ L.length ∧ Ext w wr ∧ Hid (∀ l, l < j → Vec Q.orders (gt L l))) (fun jv _ => L.length - (intOf jv).toNat)
    case atStart => exact ⟨0, rfl, by omega, hg1, Lib.hid (fun j h => by omega)⟩
    case round =>
      obtain ⟨j, rfl, hj, hg, hV⟩ := hrel
      by_cases hjl : j < L.length
      · have hjl' : (j : Int) < L.length := by omega
        obtain ⟨b3, off3, a3, cap3, rfl, _, _, hc3, hr3⟩ := Rows2.at (Rows2.ext hl hg) j hjl
        have hex := isExponents_ok wr _ _ Q (gt L j) Sp Sl' (hp.ext hg) hr3 (fun i hi => by have := G.v.ord7 i hi; omega)
        cases hb : expB Q.orders (gt L j) with
        | true =>
          rw [hb] at hex
          have HB := Lib.hid (expB_vec.1 hb); clear hb
          go_wp2_with fail
          refine Calls.mono hex ?_
          rintro eE wE ⟨rfl, rfl⟩
          clear hex
          go_wp2
          go_roundw
          case rel => exact ⟨j + 1, by go_num, by omega, hg, Lib.hid (fun l hl => by
            rcases Nat.lt_succ_iff_lt_or_eq.1 hl with h | h
            · exact hV.out l h
            · rw [h]; exact HB.out)⟩
          case measure => simp [intOf]; omega
        | false =>
          rw [hb] at hex
          have hno : ¬ ∀ x ∈ L, Vec Q.orders x := fun h => by
            have := expB_vec.2 (h _ (gtMem hjl))
            rw [hb] at this; cases this
          have HB := Lib.hid hno; clear hb hno
          go_wp2_with fail
          refine Calls.mono hex ?_
          rintro eE wE ⟨rfl, rfl⟩
          clear hex
          go_wp2
          go_ret
          exact ⟨_, rfl, hg, false, rfl, by simp only [Bool.false_eq_true, false_iff]; rintro ⟨_, h⟩; exact HB.out h⟩
      · have hke : j = L.length := by omega
        subst hke
        go_wp2
        go_ret
        exact ⟨_, rfl, hg, true, rfl, by
          simp only [true_iff]
          refine ⟨HQ.out, fun x hx => ?_⟩
          obtain ⟨l, hl, rfl⟩ := List.getElem_of_mem hx
          rw [← gt_eq L l hl]; exact hV.out l hl⟩

end Go.Proofs.YtoakmefajbbggaaGreat
namespace Go.Proofs.YtoakmefajbbggaaGreat
open Go.RowKit
end Go.Proofs.YtoakmefajbbggaaGreat
namespace Go.Proofs.YtoakmefajbbggaaGreat
open Go.RowKit

set_option maxRecDepth 100000 in
set_option maxHeartbeats 2000000 in
theorem evaluate_ok (Q : Pr) (G : Grp Q) (w : World) (p wv iv : Value) (W : List Int) (Is : List (List Int)) (Sp Sw Si : Nat → Prop) (hp : PresP Sp w p Q) (hw : Ints Sw w wv W) (hi : Rows2 Si w iv Is) (hI : ∀ x ∈ Is, Vec Q.orders x)
    (hW : WordN Is.length W) (hWl : W.length ≤ 1000) (hIl : Is.length ≤ 6) :
    Calls Tryz.prog 64 #[p, wv, iv] w (Ret w fun w' v => Own w.heap.size w' v (evalTo Q Is W W.length)) := by
  have hP := G.v
  have hn6 := hP.n6
  obtain ⟨pb, po, rfl⟩ := hp.shape
  obtain ⟨ao, capo, hco, hoi⟩ := hp.ordAt
  obtain ⟨aw, capw, rfl, _, _⟩ := hw.shape
  obtain ⟨ai, capi, rfl, _, _⟩ := Sl.shape hi
  have HW := Lib.hid (And.intro hI hW); clear hI hW
  go_enter Tryz.func64, Tryz.ntmps64
  go_wp2_with (first | (at_make; refine wp_make_ints rfl _ _ rfl w.heap.size Q.orders.length w.heap.size rfl _ rfl rfl rfl (by omega) (Nat.le_refl _) ?_; intro w1 ho1 hg1 hlt1) | fail)
  clear hco
  generalize Value.slice (some ⟨w.heap.size, 0, none⟩) Q.orders.length Q.orders.length = r at *
  go_loopw [19] (fun iv wr => ∃ k : Nat, iv = .int .i64 k ∧ k ≤ W.length ∧ Ext w wr ∧ Own w.heap.size wr r (evalTo Q Is W k)) (fun iv _ => W.length - (intOf iv).toNat)
  case atStart => exact ⟨0, rfl, by omega, hg1, ho1⟩
  case round =>
    clear ho1
    obtain ⟨k, rfl, hk, hg, hO⟩ := hrel
    have hE := G.eval_vec HW.out.1 HW.out.2 k hk
    by_cases hlt : k < W.length
    · have hlt' : (k : Int) < W.length := by omega
      obtain ⟨bw, ow, rfl, _, _, hcw⟩ := Ints.at (hw.ext hg) k hlt
      obtain ⟨l, hl⟩ : ∃ l, l = gt W k := ⟨_, rfl⟩
      rw [← hl] at hcw
      have hb := HW.out.2 l (by rw [hl]; exact gtMem hlt)
      obtain ⟨E, hEd⟩ : ∃ E, E = evalTo Q Is W k := ⟨_, rfl⟩
      rw [← hEd] at hO hE
      by_cases hneg : l < 0
      · obtain ⟨t, ht⟩ : ∃ t : Nat, t = (-l - 1).toNat := ⟨_, rfl⟩
        have hti : t < Is.length := by omega
        have htl : -l = (t : Int) + 1 := by omega
        have hxV := HW.out.1 _ (gtMem hti)
        have hst : evalTo Q Is W (k + 1) = rMul Q E (rInv Q (gt Is t)) := by rw [evalTo, ← hl, if_pos hneg, ← ht, hEd]
        have hiV := G.invV hxV
        have hiE := G.iInv_eq hxV
        have htv := G.tv_eq hE hiV
        have habs := abs_ok l wr (by omega)
        rw [if_pos hneg, htl] at habs
        have hti' : (t : Int) < Is.length := by omega
        have hwr : IntKind.i64.wrap ((t : Int) + 1 - 1) = (t : Int) := by rw [show (t : Int) + 1 - 1 = t by omega]; exact IntWalk.i64_in _ (by omega)
        obtain ⟨bx, ox, a2, cap2, rfl, _, _, hcx, hrx⟩ := Rows2.at (Rows2.ext hi hg) t hti
        have HX := Lib.hid (And.intro hxV (And.intro hst (And.intro hiV (And.intro hiE (And.intro htv hE))))); clear hxV hst hiV hiE htv hE hEd hl ht htl
        go_wp2_with fail
        refine Calls.mono habs ?_
        rintro e2 w2 ⟨rfl, rfl⟩
        clear habs
        go_wp2_with fail
        refine Calls.mono (invert_ok Q hP wr _ _ (gt Is t) Sp Si (hp.ext hg) hrx HX.out.1) ?_
        rintro e3 w3 ⟨v3, rfl, hg3, hO3⟩
        rw [HX.out.2.2.2.1] at hO3
        have hOw := hO.ext0 hg3
        have hg03 := grown_trans hg hg3
        have hlen : (rInv Q (gt Is t)).length ≤ 6 := by rw [HX.out.2.2.1.1]; exact hn6
        have hx3 : Ints (Off r.ownBlock) w3 v3 (rInv Q (gt Is t)) := ints_of_own hO3 (by omega) (fun j hj e => by have h1 := (hO3.lt j hj).1; have h2 := (hO.lt j e).2; omega)
        clear hO3 hcw hcx
        go_wp2_with fail
        refine Calls.mono (timesVector_ok Q hP w.heap.size w3 _ r v3 E _ (hp.mono (off_of hOw (Nat.le_refl _) hg03)) hOw HX.out.2.2.2.2.2 hx3 HX.out.2.2.1) ?_
        rintro e4 w4 ⟨v4, rfl, hg4, rfl, hR4⟩
        have hg04 := mut_ext hg03 hOw (Nat.le_refl _) hg4
        rw [HX.out.2.2.2.2.1, ← HX.out.2.1] at hR4
        clear hO hOw hx3 hlen
        go_wp2
        go_roundw
        case rel => exact ⟨k + 1, by go_num, by omega, hg04, hR4⟩
        case measure => simp [intOf]; omega
      · obtain ⟨t, ht⟩ : ∃ t : Nat, t = (l - 1).toNat := ⟨_, rfl⟩
        have hti : t < Is.length := by omega
        have htl : l = (t : Int) + 1 := by omega
        have hxV := HW.out.1 _ (gtMem hti)
        have hst : evalTo Q Is W (k + 1) = rMul Q E (gt Is t) := by rw [evalTo, ← hl, if_neg hneg, ← ht, hEd]
        have htv := G.tv_eq hE hxV
        have habs := abs_ok l wr (by omega)
        rw [if_neg hneg] at habs
        have hti' : (t : Int) < Is.length := by omega
        have hwr : IntKind.i64.wrap (l - 1) = (t : Int) := by rw [htl, show (t : Int) + 1 - 1 = t by omega]; exact IntWalk.i64_in _ (by omega)
        obtain ⟨bx, ox, a2, cap2, rfl, _, _, hcx, hrx⟩ := Rows2.at hi t hti
        have HX := Lib.hid (And.intro hxV (And.intro hst (And.intro htv hE))); clear hxV hst htv hE hEd hl ht htl
        have hcx := hg.cell hcx (by simp)
        go_wp2_with fail
        refine Calls.mono habs ?_
        rintro e2 w2 ⟨rfl, rfl⟩
        clear habs
        go_wp2_with fail
        refine Calls.mono (timesVector_ok Q hP w.heap.size wr _ r _ E _ (hp.mono (off_of hO (Nat.le_refl _) hg)) hO HX.out.2.2.2 (hrx.mono (off_of hO (Nat.le_refl _) hg)) HX.out.1) ?_
        rintro e4 w4 ⟨v4, rfl, hg4, rfl, hR4⟩
        have hg04 := mut_ext hg hO (Nat.le_refl _) hg4
        rw [HX.out.2.2.1, ← HX.out.2.1] at hR4
        clear hO hcw hcx
        go_wp2
        go_roundw
        case rel => exact ⟨k + 1, by go_num, by omega, hg04, hR4⟩
        case measure => simp [intOf]; omega
    · have hie : k = W.length := by omega
      subst hie
      go_wp2
      go_ret
      exact ⟨_, rfl, hg, hO⟩

end Go.Proofs.YtoakmefajbbggaaGreat
namespace Go.Proofs.YtoakmefajbbggaaGreat
open Go.RowKit

set_option maxRecDepth 100000 in
set_option maxHeartbeats 2000000 in
theorem wordFits_ok {n : Nat} (hn : n ≤ 1000) {W : List Int} (hW : WordN n W) (hl : W.length ≤ 64) (w : World) (v : Value) (S : Nat → Prop) (hv : Ints S w v W) :
    Calls Tryz.prog 63 #[.int .i64 (n : Int), v] w (Ret w fun _ r => r = .bool true) := by
  obtain ⟨av, cap, rfl, _, _⟩ := hv.shape
  obtain ⟨N, hN⟩ : ∃ N, N = W.length := ⟨_, rfl⟩
  rw [← hN] at hv hl ⊢
  have HV := Lib.hid (And.intro hv (And.intro hW hN)); clear hv hW hN
  go_enter Tryz.func63, Tryz.ntmps63
  go_wp2
  go_loopw [9] (fun iv wr => ∃ k : Nat, iv = .int .i64 (k : Int) ∧ k ≤ N ∧ Ext w wr) (fun iv _ => N - (intOf iv).toNat)
  case atStart => exact ⟨0, rfl, by omega, grown_refl _ _⟩
  case round =>
    obtain ⟨k, rfl, hk, hg⟩ := hrel
    by_cases hlt : k < N
    · have hlt' : (k : Int) < N := by omega
      have hkW : k < W.length := by rw [← HV.out.2.2]; exact hlt
      obtain ⟨b, off, hav, _, _, hc⟩ := Ints.at (Ints.ext HV.out.1 hg) k hkW
      subst hav
      have hx := HV.out.2.1 _ (gtMem hkW)
      generalize gt W k = x at *
      have hx0 : (x == 0) = false := by simp; omega
      have hin : inB x (-(n : Int)) n = true := by unfold inB; simp; omega
      have hneg : wrap64 (-(n : Int)) = -(n : Int) := IntWalk.wrap64_in _ (by omega)
      have hneg2 : IntKind.i64.wrap (-(n : Int)) = -(n : Int) := IntWalk.i64_in _ (by omega)
      have HI := Lib.hid hin; clear hin
      clear hkW hx
      go_wp2_with fail
      refine Calls.mono (inside_ok _ _ _ _) ?_
      rintro _ _ ⟨rfl, rfl⟩
      rw [HI.out]
      go_wp2
      go_roundw
      case rel => exact ⟨k + 1, by go_num, by omega, hg⟩
      case measure => simp [intOf]; omega
    · have hnl : ¬ (k : Int) < N := by omega
      have hl64 : (N : Int) ≤ 64 := by omega
      go_wp2
      go_ret
      exact ⟨_, rfl, hg, rfl⟩

end Go.Proofs.YtoakmefajbbggaaGreat
namespace Go.Proofs.YtoakmefajbbggaaGreat
open Go.RowKit


set_option maxRecDepth 100000 in
set_option maxHeartbeats 4000000 in
theorem iEw_ok (P : Pr) (hr : rconsB P = true) (w : World) (pv wv iv : Value) (W : List Int) (Is : List (List Int)) (Sp Sw Si : Nat → Prop) (hpv : PresV Sp w pv P) (hw : Ints Sw w wv W) (hi : Rows2 Si w iv Is) (hI : ∀ x ∈ Is, Vec P.orders x) (hIl : Is.length ≤ 6) (hW : WordN Is.length W) (hWl : W.length ≤ 64) :
    Calls Tryz.prog 13 #[pv, wv, iv] w (Ret w fun w' v => ∃ a n c, v = .tuple #[.slice a n c, .int .i64 0] ∧ Own w.heap.size w' (.slice a n c) (evalTo P Is W W.length)) := by
  have G := grp_of_r hr
  have hn6 := G.v.n6
  obtain ⟨vo, vp, vc, rfl, h3⟩ := hpv
  have hp0 := PresP.box h3 28
  have hg0 : Ext w (w.alloc (.cells #[vo, vp, vc] 28)) := World.grownBy_alloc _ _ _
  have hs0 : (w.alloc (.cells #[vo, vp, vc] 28)).heap.size = w.heap.size + 1 := by simp
  have hw0 := Ints.ext hw hg0
  have hi0 := Rows2.ext hi hg0
  obtain ⟨aw, capw, rfl, _, _⟩ := hw.shape
  obtain ⟨ai, capi, rfl, _⟩ := Sl.shape hi
  have hcon := areElements_ok P _ _ _ Is Any Si hp0 hi0
  generalize hwz : (w.alloc (.cells #[vo, vp, vc] 28)) = wz at *
  have hfit := fun w' (hg : Ext wz w') => wordFits_ok (n := Is.length) (by omega) hW hWl w' _ Sw (Ints.ext hw0 hg)
  have hev := fun w' (hg : Ext wz w') => evaluate_ok P G w' _ _ _ W Is Any Sw Si (hp0.ext hg) (Ints.ext hw0 hg) (Rows2.ext hi0 hg) hI hW (by omega) hIl
  have hEl := (G.eval_vec hI hW W.length (Nat.le_refl _)).1
  obtain ⟨n, hn⟩ : ∃ n, n = Is.length := ⟨_, rfl⟩
  obtain ⟨m, hm⟩ : ∃ m, m = W.length := ⟨_, rfl⟩
  obtain ⟨E, hE⟩ : ∃ E, E = evalTo P Is W W.length := ⟨_, rfl⟩
  rw [← hE] at hev hEl ⊢
  rw [← hn] at hfit hcon hev hIl ⊢
  rw [← hm] at hfit hev ⊢
  have HC := Lib.hid (And.intro hcon (And.intro hfit (And.intro hev (And.intro hEl (And.intro hr hI))))); clear hcon hfit hev hEl hr hI hW hw hi hw0 hi0 hm hn hE hp0 h3 hWl
  have HS := Lib.hid (And.intro hwz (And.intro hs0 hg0)); clear hs0 hg0
  have g6 : ¬ ((6 : Int) < n) := by omega
  go_enter Tryz.func13, Tryz.ntmps13
  go_wp2_with fail
  clear hwz
  refine Calls.mono HC.out.1 ?_
  rintro e1 w1 ⟨v1, rfl, hg1, r1, rfl, hr1⟩
  obtain rfl : r1 = true := hr1.2 ⟨HC.out.2.2.2.2.1, HC.out.2.2.2.2.2⟩
  clear hr1
  go_wp2_with fail
  refine Calls.mono (HC.out.2.1 w1 hg1) ?_
  rintro e2 w2 ⟨v2, rfl, hg2, rfl⟩
  go_wp2_with fail
  refine Calls.mono (HC.out.2.2.1 w2 (grown_trans hg1 hg2)) ?_
  rintro e3 w3 ⟨v3, rfl, hg3, hO⟩
  have hi := hO.ints (by rw [HC.out.2.2.2.1]; omega)
  obtain ⟨pa, pn, pc, hv3⟩ : ∃ a n c, v3 = Value.slice a n c := by obtain ⟨a, c, e, _⟩ := hi.shape; exact ⟨_, _, _, e⟩
  subst hv3
  go_wp2
  go_ret2
  exact ⟨_, rfl, grown_trans HS.out.2.2 (grown_trans hg1 (grown_trans hg2 hg3)), _, _, _, rfl, hO.weak (by have := HS.out.2.1; have := hg1.size; have := hg2.size; omega)⟩

end Go.Proofs.YtoakmefajbbggaaGreat
namespace Go.Proofs.YtoakmefajbbggaaGreat
open Go.RowKit

set_option maxHeartbeats 400000 in
theorem likeInts_ok (v1 v2 : Value) (l1 l2 : List Int) (w : World) (S1 S2 : Nat → Prop) (h1 : Ints S1 w v1 l1) (h2 : Ints S2 w v2 l2) :
    Calls Tryz.prog 11 #[v1, v2] w (Ret w fun _ v => v = .bool (eqB l1 l2)) := by
  obtain ⟨a, cap, rfl, _, _⟩ := h1.shape
  obtain ⟨a2, cap2, rfl, _, _⟩ := h2.shape
  by_cases hl : l1.length = l2.length
  · have hd : ((l1.length : Int) != (l2.length : Int)) = false := by simp [hl]
    have hl1 : l1.length ≤ l2.length ∧ l2.length ≤ l1.length := by omega
    have HL := Lib.hid hl; clear hl
    go_enter Tryz.func11, Tryz.ntmps11
    go_wp2
    go_loopw [5] (fun i wr => ∃ k : Nat, i = .int .i64 k ∧ k ≤ l1.length ∧ Ext w wr ∧ ∀ i, i < k → gt l1 i = gt l2 i) (fun i _ => l1.length - (intOf i).toNat)
    case atStart => exact ⟨0, rfl, by omega, Ext.refl _, fun i hi => by omega⟩
    case round =>
      obtain ⟨k, rfl, hk, hg, hz⟩ := hrel
      have HZ := Lib.hid hz; clear hz
      by_cases hlt : k < l1.length
      · obtain ⟨b, off, rfl, _, _, hc⟩ := Ints.at (h1.ext hg) k hlt
        obtain ⟨b2, off2, rfl, _, _, hc2⟩ := Ints.at (h2.ext hg) k (by omega)
        by_cases hx : gt l1 k = gt l2 k
        · have hb : (gt l1 k != gt l2 k) = false := by simp [hx]
          have hx2 := Lib.hid hx; clear hx
          go_wp2
          go_quiet (fail)
          go_wp2
          go_roundw
          case rel => exact ⟨k + 1, by go_num, by omega, grown_trans hg (grown_drewN _ _ _), fun i hi => by
            rcases Nat.lt_or_ge i k with h1 | h1
            · exact HZ.out i h1
            · have : i = k := by omega
              rw [this, hx2.out]⟩
          case measure => simp [intOf]; omega
        · have hb : (gt l1 k != gt l2 k) = true := by simp [hx]
          have hx2 := Lib.hid hx; clear hx
          go_wp2
          go_quiet (fail)
          go_wp2
          go_ret
          exact ret_bool (grown_trans hg (grown_drewN _ _ _)) (by rw [eqB_false_at (hx := hx2.out)])
      · go_wp2
        go_ret
        exact ret_bool hg (by rw [eqB_true.2 (ext_gt HL.out (fun i hi => HZ.out i (by omega)))])
  · have hd : ((l1.length : Int) != (l2.length : Int)) = true := by simp; omega
    have HL := Lib.hid hl; clear hl
    go_enter Tryz.func11, Tryz.ntmps11
    go_wp2
    go_ret
    exact ret_bool (Ext.refl _) (by rw [eqB_false.2 (fun h => HL.out (by rw [h]))])

end Go.Proofs.YtoakmefajbbggaaGreat
namespace Go.Proofs.YtoakmefajbbggaaGreat
open Go.RowKit

theorem u64_bd (z : Int) : 0 ≤ IntKind.u64.wrap z ∧ IntKind.u64.wrap z < 18446744073709551616 := by
  have h : IntKind.u64.wrap z = z % 18446744073709551616 := by simp [IntKind.wrap, IntKind.signed, IntKind.bits]
  rw [h]
  exact ⟨Int.emod_nonneg _ (by decide), Int.emod_lt_of_pos _ (by decide)⟩

theorem below_bits (h : Int) (h0 : 0 ≤ h) (h1 : h < 18446744073709551616) : ∃ x : Int, 0 ≤ x ∧ x < 16777216 ∧ bits .and .u64 (h / 8589934592) 16777215 = x := by
  obtain ⟨n, rfl⟩ : ∃ n : Nat, h = n := ⟨h.toNat, by omega⟩
  have hq : n / 8589934592 < 2 ^ 64 := by omega
  have e := u64_and_nat (n / 8589934592) 16777215 hq (by decide)
  refine ⟨((n / 8589934592 &&& 16777215 : Nat) : Int), by omega, ?_, ?_⟩
  · have := Nat.and_lt_two_pow (n := 24) (n / 8589934592) (y := 16777215) (by decide)
    have h2 : (2 : Nat) ^ 24 = 16777216 := by decide
    omega
  · rw [← e]; rfl

end Go.Proofs.YtoakmefajbbggaaGreat
namespace Go.Proofs.YtoakmefajbbggaaGreat
open Go.RowKit

/-- a dice in the block db, its bytes in S -/
def DiceS (S : Nat → Prop) (w : World) (db : Nat) : Prop := ∃ (cv : Value) (i : Nat) (h : Int) (bs : List Int), Box3 w db cv (.int .i64 i) (.int .u64 h) ∧ Bytes S w cv bs ∧ i ≤ bs.length ∧ bs.length ≤ 4096 ∧ (∀ k, S k → k ≠ db) ∧ 0 ≤ h ∧ h < 18446744073709551616
theorem DiceS.keep {S : Nat → Prop} {w w' : World} {db : Nat} (h : DiceS S w db) (hs : w.heap.size ≤ w'.heap.size) (hb : ∀ k, (S k ∨ k = db) → k < w.heap.size → w'.heap[k]? = w.heap[k]?) : DiceS S w' db := by
  obtain ⟨cv, i, x, bs, h1, h2, h3⟩ := h
  exact ⟨cv, i, x, bs, h1.keep hs (hb db (.inr rfl) h1.1), Sl.mono h2 (fun k hk hlt => ⟨hk, Nat.lt_of_lt_of_le hlt hs, hb k (.inl hk) hlt⟩) (fun _ _ h => h), h3⟩
theorem DiceS.ext {S : Nat → Prop} {w w' : World} {db : Nat} (h : DiceS S w db) (hg : Ext w w') : DiceS S w' db := h.keep hg.size (fun k _ hlt => hg.block k hlt (by simp))
theorem DiceS.lt {S : Nat → Prop} {w : World} {db : Nat} (h : DiceS S w db) : db < w.heap.size := by
  obtain ⟨cv, i, x, bs, h1, h2⟩ := h
  exact h1.1

set_option maxRecDepth 100000 in
set_option maxHeartbeats 8000000 in
theorem rollS_ok (w : World) (cv : Value) (bs : List Int) (S : Nat → Prop) (seed : Int) (hbl : bs.length ≤ 4096) (hb : Bytes S w cv bs) :
    Calls Tryz.prog 15 #[cv, .int .u64 seed] w (Ret w fun w' v => ∃ db, v = .pointer (some ⟨db, 0, none⟩) ∧ w.heap.size ≤ db ∧ DiceS (fun k => S k ∧ k < w.heap.size) w' db) := by
  obtain ⟨a, cap, rfl, _, hlen⟩ := Sl.shape hb
  obtain ⟨h0, hh0⟩ : ∃ h0, h0 = IntKind.u64.wrap (IntKind.u64.wrap (seed * 7607) + (bs.length : Nat)) := ⟨_, rfl⟩
  have hb0 := u64_bd (IntKind.u64.wrap (seed * 7607) + (bs.length : Nat))
  rw [← hh0] at hb0
  have hbA := Box3.made w 88 (.slice a bs.length cap) (.int .i64 0) (.int .u64 h0)
  have hgA : Ext w (w.alloc (.cells #[.slice a bs.length cap, .int .i64 0, .int .u64 h0] 88)) := World.grownBy_alloc _ _ _
  go_enter Tryz.func15, Tryz.ntmps15
  go_wp2_with fail
  rw [← hh0]
  have HH := Lib.hid hh0; clear hh0
  generalize w.alloc (.cells #[.slice a bs.length cap, .int .i64 0, .int .u64 h0] 88) = w0 at *
  go_loopw [6] (fun iv wr => ∃ (i : Nat) (h : Int), iv = .int .i64 i ∧ i ≤ bs.length ∧ (0 ≤ h ∧ h < 18446744073709551616) ∧ Ext w wr ∧ Box3 wr w.heap.size (.slice a bs.length cap) (.int .i64 0) (.int .u64 h)) (fun iv _ => bs.length - (intOf iv).toNat)
  case atStart => exact ⟨0, h0, rfl, by omega, hb0, hgA, hbA⟩
  case round =>
    clear hbA hgA hb0
    obtain ⟨i, h, rfl, hi, hhb, hg, hB⟩ := hrel
    by_cases hlt : i < bs.length
    · obtain ⟨b, off, rfl, hbS, hbl2, hcb, hx0, hx1⟩ := Bytes.at hb i hlt
      have hcr := hg.cell hcb (by simp)
      generalize gt bs i = x at hcb hcr hx0 hx1
      have hli : (i : Int) < (bs.length : Nat) := by omega
      obtain ⟨s2, hs2⟩ : ∃ s2, s2 = IntKind.u64.wrap (IntKind.u64.wrap (IntKind.u64.wrap (h * 1099511628211) + x) + 5) := ⟨_, rfl⟩
      have hs2b := u64_bd (IntKind.u64.wrap (IntKind.u64.wrap (h * 1099511628211) + x) + 5)
      rw [← hs2] at hs2b
      have hBs := (hB.put (.int .u64 s2)).2.2
      have hgs := grown_set wr w.heap.size 2 (.int .u64 s2)
      have hgn : Ext w (wr.setCell ⟨w.heap.size, 2, none⟩ (.int .u64 s2)) := grown_own hg hgs (fun j hj hlt => by have := Option.some.inj hj; omega)
      have hBd := hBs.ext (grown_drew (wr.setCell ⟨w.heap.size, 2, none⟩ (.int .u64 s2)) none)
      have hgd := grown_trans hgn (grown_drew (wr.setCell ⟨w.heap.size, 2, none⟩ (.int .u64 s2)) none)
      have hw0 : IntKind.u64.wrap x = x := IntWalk.u64_in _ (by omega)
      obtain ⟨h0', h1, h2, h3, h4⟩ := id hB
      have c0 : wr.drew.cell? ⟨w.heap.size, 2, none⟩ = some (.int .u64 h) := h3
      have c1 : wr.drew.cell? ⟨b, off + i, none⟩ = some (.int .u8 x) := hcr
      have c2 : w.heap.size < wr.drew.heap.size := h0'
      have c3 := h4
      have hs2' := hs2.symm
      have HQ := Lib.hid (And.intro hgd (And.intro hBd (And.intro hs2b hb))); clear hgd hBd hs2 hs2b hb hgn hgs hBs hB hg h0' h1 h2 h3 hcb hcr
      go_wp2
      go_still_tail 15, (by kernel_rfl)
      change wpList _ _ _ _ _ wr.drew
      go_wp2
      go_roundw
      case rel => exact ⟨i + 1, s2, by go_num, by omega, HQ.out.2.2.1, HQ.out.1, HQ.out.2.1⟩
      case measure => simp [intOf]; omega
    · have hli : ¬ (i : Int) < (bs.length : Nat) := by omega
      have HQ := Lib.hid (And.intro hg hB); clear hg hB
      go_wp2
      go_ret
      exact ⟨_, rfl, HQ.out.1, w.heap.size, rfl, Nat.le_refl _, _, 0, h, bs, HQ.out.2, Bytes.mono hb (fun k hS hlt => ⟨⟨hS, hlt⟩, Nat.lt_of_lt_of_le hlt HQ.out.1.size, HQ.out.1.block k hlt (by simp)⟩), by omega, hbl, fun k hk e => by have := hk.2; omega, hhb⟩

set_option maxRecDepth 100000 in
set_option maxHeartbeats 4000000 in
theorem belowS_ok (S : Nat → Prop) (w : World) (db : Nat) (n : Int) (hd : DiceS S w db) (hn : 1 ≤ n) (hn2 : n ≤ 1000000000) :
    Calls Tryz.prog 17 #[.pointer (some ⟨db, 0, none⟩), .int .i64 n] w (Mut w (some db) fun w' v => ∃ x : Int, v = .int .i64 x ∧ 0 ≤ x ∧ x < n ∧ DiceS S w' db) := by
  obtain ⟨cv, pos, h, bs, hB, hby, hpos, hbl, hdB, hh0, hh1⟩ := hd
  obtain ⟨a, cap, rfl, _, hlen⟩ := hby.shape
  obtain ⟨s2, hs2⟩ : ∃ s2, s2 = IntKind.u64.wrap (IntKind.u64.wrap (h * 6364136223846793005) + 1442695040888963407) := ⟨_, rfl⟩
  have hs2b := u64_bd (IntKind.u64.wrap (h * 6364136223846793005) + 1442695040888963407)
  rw [← hs2] at hs2b
  obtain ⟨y, hy0, hy1, hand⟩ := below_bits s2 hs2b.1 hs2b.2
  have hB1 := (hB.put (.int .u64 s2)).2.2
  obtain ⟨h0, h1, h2, h3, h4⟩ := id hB
  have hs2' := hs2.symm
  clear hs2
  go_enter Tryz.func17, Tryz.ntmps17
  have hg1 : w.grownBy (w.setCell ⟨db, 2, none⟩ (.int .u64 s2)) (some db) := grown_set _ _ _ _
  have hby1 : Bytes S (w.setCell ⟨db, 2, none⟩ (.int .u64 s2)) (.slice a bs.length cap) bs := Bytes.mono hby (frame_of hg1 (fun k hk _ => ⟨hk, fun e => hdB k hk (by cases e; rfl)⟩))
  have HB1 := Lib.hid (And.intro hB1 (And.intro hg1 hby1)); clear hB1 hB hby hg1 hby1
  go_wp2
  clear h0 h1 h2 h3 h4 hs2' hand
  obtain ⟨hB1, hg1, hby1⟩ := HB1.out
  clear HB1
  generalize w.setCell ⟨db, 2, none⟩ (.int .u64 s2) = w1 at *
  obtain ⟨h0, h1, h2, h3, h4⟩ := id hB1
  have HG := Lib.hid (And.intro hB1 (And.intro hg1 hby1)); clear hB1 hg1 hby1
  by_cases hp : pos < bs.length
  · obtain ⟨b, off, rfl, hbs, hbl2, hcb, hx0, hx1⟩ := Bytes.at HG.out.2.2 pos hp
    obtain ⟨x, hx⟩ : ∃ x, x = gt bs pos := ⟨_, rfl⟩
    rw [← hx] at hcb hx0 hx1
    have HX := Lib.hid hx; clear hx
    have hpi : (pos : Int) < bs.length := by omega
    have hp0 : (0 : Int) ≤ pos := by omega
    have hqw : IntKind.i64.wrap (y + x) = y + x := IntWalk.i64_in _ (by omega)
    go_quiet (fail)
    go_wp2
    have hq : Ext w1 (w1.drewN nq) := grown_drewN _ _ _
    have hcb' := hq.cell hcb (by simp)
    have h0' : db < (w1.drewN nq).heap.size := Nat.lt_of_lt_of_le h0 hq.size
    have hG2 := And.intro (HG.out.1.ext hq) (And.intro (grown_trans HG.out.2.1 (grown_of_ext (some db) hq)) (Bytes.ext HG.out.2.2 hq))
    have HG := Lib.hid hG2; clear hG2 hq hcb h0 h1 h2 h3 h4
    obtain ⟨h1, h2, h3, h4⟩ := HG.out.1.2
    generalize w1.drewN nq = w2 at *
    go_quiet (fail)
    have hq : Ext w2 (w2.drewN nq) := grown_drewN _ _ _
    have h0 : db < (w2.drewN nq).heap.size := Nat.lt_of_lt_of_le h0' hq.size
    have hG2 := And.intro (HG.out.1.ext hq) (And.intro (grown_trans HG.out.2.1 (grown_of_ext (some db) hq)) (Bytes.ext HG.out.2.2 hq))
    have HG := Lib.hid hG2; clear hG2 hq hcb' h0' h1 h2 h3 h4
    obtain ⟨h1, h2, h3, h4⟩ := HG.out.1.2
    generalize w2.drewN nq = w3 at *
    have hB4 := (HG.out.1.put (.int .i64 ((pos : Int) + 1))).2.1
    have hg4 : w3.grownBy (w3.setCell ⟨db, 1, none⟩ (.int .i64 ((pos : Int) + 1))) (some db) := grown_set _ _ _ _
    have hby4 : Bytes S (w3.setCell ⟨db, 1, none⟩ (.int .i64 ((pos : Int) + 1))) (.slice (some ⟨b, off, none⟩) bs.length cap) bs := Bytes.mono HG.out.2.2 (frame_of hg4 (fun k hk _ => ⟨hk, fun e => hdB k hk (by cases e; rfl)⟩))
    have hm : 0 ≤ (y + x) % n ∧ (y + x) % n < n := ⟨Int.emod_nonneg _ (by omega), Int.emod_lt_of_pos _ (by omega)⟩
    have HB4 := Lib.hid (And.intro hB4 (And.intro (grown_trans HG.out.2.1 hg4) (And.intro hby4 hm))); clear hB4 hg4 hby4 HG hqw hm
    have hpw : IntKind.i64.wrap ((pos : Int) + 1) = (pos : Int) + 1 := IntWalk.i64_in _ (by omega)
    have hn0 : n ≠ 0 := by omega
    go_wp2
    go_ret
    exact ⟨_, rfl, HB4.out.2.1, _, rfl, HB4.out.2.2.2.1, HB4.out.2.2.2.2, _, pos + 1, s2, bs, HB4.out.1, HB4.out.2.2.1, by omega, hbl, hdB, hs2b⟩
  · have hpi : ¬ (pos : Int) < bs.length := by omega
    have hn0 : n ≠ 0 := by omega
    go_quiet (fail)
    have hq : Ext w1 (w1.drewN nq) := grown_drewN _ _ _
    have hm : 0 ≤ y % n ∧ y % n < n := ⟨Int.emod_nonneg _ (by omega), Int.emod_lt_of_pos _ (by omega)⟩
    have HM := Lib.hid hm; clear hm
    go_wp2
    go_ret
    exact ⟨_, rfl, grown_trans HG.out.2.1 (grown_of_ext _ hq), _, rfl, HM.out.1, HM.out.2, _, pos, s2, bs, HG.out.1.ext hq, Bytes.ext HG.out.2.2 hq, hpos, hbl, hdB, hs2b⟩

end Go.Proofs.YtoakmefajbbggaaGreat
namespace Go.Proofs.YtoakmefajbbggaaGreat
open Go.RowKit

set_option maxRecDepth 100000 in
set_option maxHeartbeats 2000000 in
theorem unit9_ok (n i : Nat) (w : World) (hi : i < n) (hn : n ≤ 1000) :
    Calls Tryz.prog 19 #[.int .i64 (n : Int), .int .i64 (i : Int)] w (Ret w fun w' v => Own w.heap.size w' v (unitV n i)) := by
  go_enter Tryz.func19, Tryz.ntmps19
  go_wp2_with (at_make; refine wp_make_ints rfl _ _ rfl w.heap.size n w.heap.size rfl _ rfl rfl rfl (by omega) (Nat.le_refl _) ?_; intro w1 ho1 hg1 _; have hc1 := ho1.cell i (by simpa using hi); have hf1 := ho1.frozen i)
  go_ret
  obtain ⟨h1, h2⟩ := ho1.store i 1
  exact ⟨_, rfl, grown_own hg1 h2 (fun j hj hlt => by cases hj; omega), h1⟩

set_option maxRecDepth 100000 in
set_option maxHeartbeats 2000000 in
theorem units9_ok (n : Nat) (w : World) (hn : n ≤ 1000) :
    Calls Tryz.prog 14 #[.int .i64 (n : Int), .int .i64 0] w (Ret w fun w' v => RowsO w.heap.size w' v (gensOf n)) := by
  go_enter Tryz.func14, Tryz.ntmps14
  go_wp2
  go_loopw [5, 6] (fun ov iv wr => ∃ (i : Nat) (v5 : Value), v5 = ov ∧ iv = .int .i64 (i : Int) ∧ i ≤ n ∧ Ext w wr ∧ RowsO w.heap.size wr v5 ((gensOf n).take i)) (fun _ iv _ => n - (intOf iv).toNat)
  case atStart => exact ⟨0, _, rfl, rfl, by omega, World.grownBy_alloc _ _ _, by rw [List.take_zero]; exact ⟨[], fun _ _ => False, rfl, World.ownsRow_lit w #[] 0 (Nat.le_refl _) (by decide) rfl, by simp, by simp, by simp⟩⟩
  case round =>
    obtain ⟨i, v5, rfl, rfl, hi, hg, hA⟩ := hrel
    obtain ⟨wo, rfl⟩ : ∃ wo : World, wo = wr := ⟨_, rfl⟩
    have hgl : (gensOf n).length = n := by unfold gensOf; rw [List.length_map, List.length_range]
    by_cases hlt : i < n
    · have hlt' : (i : Int) < n := by omega
      have hst : (gensOf n).take (i + 1) = (gensOf n).take i ++ [unitV n i] := by
        rw [take_succ_gt _ i (by rw [hgl]; exact hlt)]
        unfold gensOf
        rw [gt_map _ _ _ (by rw [List.length_range]; exact hlt)]
        simp [gt, hlt]
      have hul : (unitV n i).length = n := by unfold unitV; simp
      have hll : ((gensOf n).take i).length ≤ 1000000 := by rw [List.length_take]; omega
      have HA := Lib.hid (And.intro hA (And.intro hst (And.intro hul (And.intro hll hg.size)))); clear hA hst hul hll hgl
      go_wp2_with fail
      refine Calls.mono (unit9_ok n i wo hlt hn) ?_
      rintro e3 w3 ⟨v3, rfl, hg3, hO⟩
      have hOI : OwnIn (From wo.heap.size) w3 v3 (unitV n i) := OwnIn.of hO (by rw [HA.out.2.2.1]; omega) (fun k h1 _ => h1)
      obtain ⟨ga, gc, rfl, _, _⟩ := hOI.ints.shape
      go_wp2_with (first | (at_builtin; refine wp_app_row rfl _ _ rfl w.heap.size wo w3 v5 _ ((gensOf n).take i) (unitV n i) rfl HA.out.1 hg3 hOI rfl rfl HA.out.2.2.2.1 HA.out.2.2.2.2 ?_; intro v8 w8 hO8 hg8 _) | fail)
      have hgn8 : Ext w w8 := grown_own hg hg8 (fun j hj hlt => by have := (HA.out.1.lt j hj).1; omega)
      rw [← HA.out.2.1] at hO8
      go_roundw
      case rel => exact ⟨i + 1, v8, rfl, by go_num, by omega, hgn8, hO8⟩
      case measure => simp [intOf]; omega
    · have hie : i = n := by omega
      have hfin : RowsO w.heap.size wo v5 (gensOf n) := by
        have e : (gensOf n).take i = gensOf n := List.take_of_length_le (by omega)
        rw [e] at hA; exact hA
      have hnl : ¬ (i : Int) < (n : Int) := by omega
      go_wp2
      go_ret
      exact ⟨_, rfl, hg, hfin⟩

end Go.Proofs.YtoakmefajbbggaaGreat
namespace Go.Proofs.YtoakmefajbbggaaGreat
open Go.RowKit

theorem wp_app_intsN {ops : Array Oper} {rest : List Oper} {o : Oper} {a : Act} {Q : Exit → Act → World → Prop} {w : World} (hgd : o.guard = none) (s x : Operand)
    (ho : o.op = Op.call { callee := Callee.builtin Builtin.append, args := #[s, x], argTypes := #[24, 24] }) (base : Nat) (v : Value) (l : List Int) (hs : a.eval s = v) (hown : Own base w v l)
    (u : Value) (m : List Int) (hx : a.eval x = u) (S : Nat → Prop) (hu : Ints S w u m) (hlen : l.length + m.length ≤ 2147483648) (hbase : base ≤ w.heap.size)
    (h : ∀ v' w', Own base w' v' (l ++ m) → w.grownBy w' v.ownBlock → (v'.ownBlock = v.ownBlock ∨ v'.ownBlock = some w.heap.size) → wpList Tryz.prog ops Q rest (a.put o.dst v') w') :
    wpList Tryz.prog ops Q (o :: rest) a w := by
  obtain ⟨sa, cap, rfl, ⟨_, _, hn⟩, hc⟩ := hu
  refine wp_app 24 2 (.int .i64 0) 8 und_ints Tryz.infoInt rfl (by decide) hgd s x ho base v (l.map (Value.int .i64)) hs hown.v sa m.length cap (m.map (Value.int .i64)) hx (by simp) hn ?_ ?_ (by simpa using hlen) hbase ?_
  · intro j hj
    obtain ⟨b, off, u, h1, _, _, h2, h3⟩ := hc j hj
    exact ⟨b, off, h1, by rw [h2, h3]; simp [gt, hj]⟩
  · intro u hu
    simp at hu
    obtain ⟨x, _, rfl⟩ := hu; rfl
  · intro v' w' h1 h2 _ h4
    exact h v' w' (Own.of (by rw [List.map_append]; exact h1)) h2 h4

end Go.Proofs.YtoakmefajbbggaaGreat
namespace Go.Proofs.YtoakmefajbbggaaGreat
open Go.RowKit
attribute [local go_sem ↓] Go.wp_at_zero Go.wp_at_succ

theorem drawCw_ok (w : World) (cv : Value) (bs : List Int) (S : Nat → Prop) (hb : Bytes S w cv bs) :
    Calls Tryz.prog 8 #[cv] w (Ret w fun w' v => ∃ (vo vp vc : Value) (xl : Int) (x0v : Value) (P : Pr), v = .tuple #[.agg #[vo, vp, vc], x0v, .int .i64 xl] ∧ P.orders.length ≤ 7 ∧ Pres3 (From w.heap.size) w' vo vp vc P ∧ ∃ X0 : List Int, X0.length ≤ 301 ∧ Ints (From w.heap.size) w' x0v X0) :=
  (DrawCollectWord_ok w cv bs S hb).mono (fun _ _ ⟨v, h1, h2, vo, vp, vc, lv, P, L, x, h3, h4, h5, h6, h7⟩ => ⟨v, h1, h2, vo, vp, vc, x, lv, P, h3, h4, h6, L, h5, h7⟩)
open Classical in
noncomputable def cwF (P : Pr) (W : List Int) : Int := if CwOk P W then 3 else 1
theorem CwR.bad {P : Pr} {W : List Int} {w' : World} {v : Value} (h : ¬ (CwOk P W ∧ ∃ x k, colW P 2000 W = some (x, k))) (hR : CwR P W w' v) : v = .tuple #[.slice none 0 0, .int .i64 0, .int .i64 (cwF P W)] := by
  rcases hR with ⟨h1, h2⟩ | ⟨h1, h2⟩
  · unfold cwF; rw [if_neg h1]; exact h2
  · unfold cwF; rw [if_pos h1]
    rcases h2 with ⟨x, k, h3, _⟩ | ⟨_, h3⟩
    · exact absurd ⟨h1, x, k, h3⟩ h
    · exact h3
theorem CwR.good {P : Pr} {W x : List Int} {k : Nat} {w' : World} {v : Value} (h : CwOk P W) (hc : colW P 2000 W = some (x, k)) (hR : CwR P W w' v) : ∃ (a : Option Addr) (n c : Nat), v = .tuple #[.slice a n c, .int .i64 (k : Int), .int .i64 0] ∧ Ints Any w' (.slice a n c) x := by
  rcases hR with ⟨h1, h2⟩ | ⟨h1, h2⟩
  · exact absurd h h1
  · rcases h2 with ⟨x', k', h3, h4⟩ | ⟨h3, _⟩
    · rw [hc] at h3; cases h3; exact h4
    · rw [hc] at h3; cases h3
theorem iCwBad {P : Pr} {W : List Int} (h : ¬ (CwOk P W ∧ ∃ x k, colW P 2000 W = some (x, k))) (w : World) (pv v : Value) (Sp S : Nat → Prop) (hpv : PresV Sp w pv P) (hv : Ints S w v W) (hl : W.length ≤ 100000) :
    Calls Tryz.prog 9 #[pv, v, .int .i64 2000] w (Ret w fun _ v => v = .tuple #[.slice none 0 0, .int .i64 0, .int .i64 (cwF P W)]) :=
  (iCollectWord_ok w pv v P W Sp S hpv hv hl).mono (fun _ _ ⟨v, h1, h2, h3⟩ => ⟨v, h1, h2, h3.bad h⟩)
theorem iCwGood {P : Pr} {W x : List Int} {k : Nat} (h : CwOk P W) (hc : colW P 2000 W = some (x, k)) (w : World) (pv v : Value) (Sp S : Nat → Prop) (hpv : PresV Sp w pv P) (hv : Ints S w v W) (hl : W.length ≤ 100000) :
    Calls Tryz.prog 9 #[pv, v, .int .i64 2000] w (Ret w fun w' v => ∃ (a : Option Addr) (n c : Nat), v = .tuple #[.slice a n c, .int .i64 (k : Int), .int .i64 0] ∧ Ints Any w' (.slice a n c) x) :=
  (iCollectWord_ok w pv v P W Sp S hpv hv hl).mono (fun _ _ ⟨v, h1, h2, h3⟩ => ⟨v, h1, h2, h3.good h hc⟩)
theorem sCwBad {P : Pr} {W : List Int} (h : ¬ (CwOk P W ∧ ∃ x k, colW P 2000 W = some (x, k))) (w : World) (pv v : Value) (Sp S : Nat → Prop) (hpv : PresV Sp w pv P) (hv : Ints S w v W) (hl : W.length ≤ 100000) :
    Calls Tryz.prog 10 #[pv, v, .int .i64 2000] w (Ret w fun _ v => v = .tuple #[.slice none 0 0, .int .i64 0, .int .i64 (cwF P W)]) :=
  (sCollectWord_ok w pv v P W Sp S hpv hv hl).mono (fun _ _ ⟨v, h1, h2, h3⟩ => ⟨v, h1, h2, h3.bad h⟩)
theorem sCwGood {P : Pr} {W x : List Int} {k : Nat} (h : CwOk P W) (hc : colW P 2000 W = some (x, k)) (w : World) (pv v : Value) (Sp S : Nat → Prop) (hpv : PresV Sp w pv P) (hv : Ints S w v W) (hl : W.length ≤ 100000) :
    Calls Tryz.prog 10 #[pv, v, .int .i64 2000] w (Ret w fun w' v => ∃ (a : Option Addr) (n c : Nat), v = .tuple #[.slice a n c, .int .i64 (k : Int), .int .i64 0] ∧ Ints Any w' (.slice a n c) x) :=
  (sCollectWord_ok w pv v P W Sp S hpv hv hl).mono (fun _ _ ⟨v, h1, h2, h3⟩ => ⟨v, h1, h2, h3.good h hc⟩)
theorem ints_nilA (w : World) : Ints Any w (.slice none 0 0) [] := ⟨none, 0, rfl, ⟨by simp, by simp, fun _ => rfl⟩, fun i hi => by simp at hi⟩
theorem cwF_ne (P : Pr) (W : List Int) : (cwF P W != 0) = true := by
  unfold cwF
  split <;> rfl

set_option maxRecDepth 100000 in
set_option maxHeartbeats 8000000 in
theorem lawCw_ok (w : World) (cv : Value) (bs : List Int) (S : Nat → Prop) (hb : Bytes S w cv bs) :
    Calls Tryz.prog 3 #[cv] w (Ret w fun _ v => v = .bool true) := by
  obtain ⟨ca, cc, rfl, _, _⟩ := Sl.shape hb
  go_enter Tryz.func3, Tryz.ntmps3
  go_wp2_with fail
  refine Calls.mono (big_ok w _ bs S hb) ?_
  rintro _ _ ⟨rfl, rfl⟩
  by_cases hbg : 4096 < bs.length
  · have hd : decide (4096 < bs.length) = true := by simp [hbg]
    rw [hd]
    go_wp2
    go_ret
    exact ⟨_, rfl, grown_refl _ _, rfl⟩
  have hbl : bs.length ≤ 4096 := by omega
  have hd : decide (4096 < bs.length) = false := by simp [hbg]
  rw [hd]; clear hd hbg
  go_wp2_with fail
  refine Calls.mono (drawCw_ok w _ bs S hb) ?_
  rintro e1 w1 ⟨v1, rfl, hg1, vo, vp, vc, xl, x0v, P, rfl, hPl, hP, ⟨X0, _, hX0⟩⟩
  obtain ⟨a1, n1, c1, hy1⟩ : ∃ a n c, vo = .slice a n c := by obtain ⟨a, c, e, _⟩ := hP.o.shape; exact ⟨_, _, _, e⟩
  obtain ⟨a2, n2, c2, hy2⟩ : ∃ a n c, vp = .slice a n c := by obtain ⟨a, c, e, _⟩ := Sl.shape hP.p; exact ⟨_, _, _, e⟩
  obtain ⟨a3, n3, c3, hy3⟩ : ∃ a n c, vc = .slice a n c := by obtain ⟨a, c, e, _⟩ := Sl.shape hP.c; exact ⟨_, _, _, e⟩
  subst hy1 hy2 hy3
  obtain ⟨x0a, x0n, x0c, hrx0⟩ : ∃ a n c, x0v = .slice a n c := by obtain ⟨a, c, e, _⟩ := Sl.shape hX0; exact ⟨_, _, _, e⟩
  subst hrx0
  have hgX : Ext w1 (w1.alloc (.cells #[.slice a1 n1 c1, .slice a2 n2 c2, .slice a3 n3 c3] 28)) := World.grownBy_alloc _ _ _
  have hX := Box3.made w1 28 (.slice a1 n1 c1) (.slice a2 n2 c2) (.slice a3 n3 c3)
  have hPX := hP.ext hgX
  have hX0X := Ints.ext hX0 hgX
  have hgw := grown_trans hg1 hgX
  have hbX := Bytes.ext hb hgw
  have HA0 := Lib.hid (And.intro hPX (And.intro hX0X (And.intro hgw hbX))); clear hPX hX0X hgw hbX hgX hP hX0 hg1 hb
  obtain ⟨pb, hpb⟩ : ∃ pb, pb = w1.heap.size := ⟨_, rfl⟩
  rw [← hpb] at hX
  have HP := Lib.hid hpb; clear hpb
  go_wp2_with fail
  rw [← HP.out]
  generalize w1.alloc (.cells #[.slice a1 n1 c1, .slice a2 n2 c2, .slice a3 n3 c3] 28) = w2 at *
  clear HP
  have hall : ∀ w', Ext w2 w' → Box3 w' pb (.slice a1 n1 c1) (.slice a2 n2 c2) (.slice a3 n3 c3) ∧ PresV (From w.heap.size) w' (.agg #[.slice a1 n1 c1, .slice a2 n2 c2, .slice a3 n3 c3]) P ∧ Ints (From w.heap.size) w' (.slice x0a x0n x0c) X0 ∧ Bytes S w' (.slice ca bs.length cc) bs :=
    fun w' h => ⟨hX.ext h, ⟨_, _, _, rfl, HA0.out.1.ext h⟩, Ints.ext HA0.out.2.1 h, Bytes.ext HA0.out.2.2.2 h⟩
  have HA := Lib.hid hall; clear hall hX
  have hgw := grown_refl w2 none
  have hx0n : x0n = X0.length := by
    obtain ⟨a, c, e, _⟩ := (HA.out w2 hgw).2.2.1.shape
    cases e; rfl
  have hx0l : x0n ≤ 301 := by omega
  have HXN := Lib.hid hx0n; clear hx0n
  by_cases hgood : CwOk P X0 ∧ ∃ x k, colW P 2000 X0 = some (x, k)
  case neg =>
    have HBD := Lib.hid hgood; clear hgood
    obtain ⟨b0_, b1_, b2_, b3_, _⟩ := id (HA.out w2 hgw).1
    go_wp2_with fail
    clear b0_ b1_ b2_ b3_
    refine Calls.mono (iCwBad HBD.out w2 _ _ _ _ (HA.out w2 hgw).2.1 (HA.out w2 hgw).2.2.1 (by have := HXN.out; omega)) ?_
    rintro e3 w3 ⟨v3, rfl, hg_, rfl⟩
    replace hgw := grown_trans hgw hg_
    clear hg_
    obtain ⟨b0_, b1_, b2_, b3_, _⟩ := id (HA.out w3 hgw).1
    go_wp2_with fail
    clear b0_ b1_ b2_ b3_
    refine Calls.mono (sCwBad HBD.out w3 _ _ _ _ (HA.out w3 hgw).2.1 (HA.out w3 hgw).2.2.1 (by have := HXN.out; omega)) ?_
    rintro e4 w4 ⟨v4, rfl, hg_, rfl⟩
    replace hgw := grown_trans hgw hg_
    have hc0 := cwF_ne P X0
    generalize cwF P X0 = cf at *
    have hcc : (cf != cf) = false := by simp
    clear hg_
    go_wp2_with fail
    refine Calls.mono (likeInts_ok _ _ [] [] w4 Any Any (ints_nilA _) (ints_nilA _)) ?_
    rintro e5 w5 ⟨v5, rfl, hg_, rfl⟩
    replace hgw := grown_trans hgw hg_
    rw [show eqB ([] : List Int) [] = true from eqB_true.2 rfl]
    clear hcc
    clear hg_
    go_wp2
    go_ret
    exact ⟨_, rfl, grown_trans HA0.out.2.2.1 hgw, rfl⟩
  obtain ⟨hok, x, kk, hcol⟩ := hgood
  have HG := Lib.hid (And.intro hok hcol); clear hok hcol
  obtain ⟨b0_, b1_, b2_, b3_, _⟩ := id (HA.out w2 hgw).1
  go_wp2_with fail
  clear b0_ b1_ b2_ b3_
  refine Calls.mono (iCwGood HG.out.1 HG.out.2 w2 _ _ _ _ (HA.out w2 hgw).2.1 (HA.out w2 hgw).2.2.1 (by have := HXN.out; omega)) ?_
  rintro e3 w3 ⟨v3, rfl, hg_, xa, xn, xc, rfl, hx_⟩
  replace hgw := grown_trans hgw hg_
  have hXr : Ints Any w3 (.slice xa xn xc) (x) := hx_
  have hXx : ∀ w', Ext w3 w' → Ints Any w' (.slice xa xn xc) (x) := fun w' h => Ints.ext hXr h
  have HX := Lib.hid hXx; clear hXr hXx
  have hgX := grown_refl w3 none
  clear hx_
  clear hg_
  obtain ⟨b0_, b1_, b2_, b3_, _⟩ := id (HA.out w3 hgw).1
  go_wp2_with fail
  clear b0_ b1_ b2_ b3_
  refine Calls.mono (sCwGood HG.out.1 HG.out.2 w3 _ _ _ _ (HA.out w3 hgw).2.1 (HA.out w3 hgw).2.2.1 (by have := HXN.out; omega)) ?_
  rintro e4 w4 ⟨v4, rfl, hg_, ya, yn, yc, rfl, hy_⟩
  replace hgw := grown_trans hgw hg_
  replace hgX := grown_trans hgX hg_
  have hYr : Ints Any w4 (.slice ya yn yc) (x) := hy_
  have hYx : ∀ w', Ext w4 w' → Ints Any w' (.slice ya yn yc) (x) := fun w' h => Ints.ext hYr h
  have HY := Lib.hid hYx; clear hYr hYx
  have hgY := grown_refl w4 none
  clear hy_
  have hkk : ((kk : Int) != (kk : Int)) = false := by simp
  clear hg_
  go_wp2_with fail
  refine Calls.mono (likeInts_ok _ _ x x w4 Any Any (HX.out w4 hgX) (HY.out w4 hgY)) ?_
  rintro e5 w5 ⟨v5, rfl, hg_, rfl⟩
  replace hgw := grown_trans hgw hg_
  replace hgX := grown_trans hgX hg_
  replace hgY := grown_trans hgY hg_
  rw [show eqB x x = true from eqB_true.2 rfl]
  clear HY hgY hkk
  clear hg_
  obtain ⟨b0_, b1_, b2_, b3_, _⟩ := id (HA.out w5 hgw).1
  go_wp2_with fail
  clear b0_ b1_ b2_ b3_
  refine Calls.mono (sIsConsistent_ok P w5 _ _ (HA.out w5 hgw).2.1) ?_
  rintro e6 w6 ⟨v6, rfl, hg_, rfl⟩
  replace hgw := grown_trans hgw hg_
  replace hgX := grown_trans hgX hg_
  cases hr : rconsB P with
  | false =>
    go_wp2
    go_ret
    exact ⟨_, rfl, grown_trans HA0.out.2.2.1 hgw, rfl⟩
  | true =>
    have G := grp_of_r hr
    have hn6 := G.v.n6
    have hWn : WordN P.orders.length X0 := fun l hl => .inl (HG.out.1.2.1 l hl)
    have hWl : x0n ≤ 64 := by have := HG.out.1.2.2; have := HXN.out; omega
    have hcv := G.col_val 2000 X0 _ HG.out.1.2.1 HG.out.2
    have hev : evalTo P (gensOf P.orders.length) X0 X0.length = x := (wv_eval0 G hWn).trans hcv.2
    obtain ⟨n, hn⟩ : ∃ n, n = P.orders.length := ⟨_, rfl⟩
    have hgens := gens_vec G
    rw [← hn] at hn6 hWn hev hgens
    have hgl : (gensOf n).length = n := by unfold gensOf; rw [List.length_map, List.length_range]
    have HH := Lib.hid (And.intro hWn (And.intro hev (And.intro hgens (And.intro hgl (And.intro hcv.1 hn))))); clear hWn hev hgens hgl hcv hn
    have hn1e : n1 = n := by
      obtain ⟨vo, vp, vc, e, h3⟩ := (HA.out w6 hgw).2.1
      obtain ⟨a, c, e2, _⟩ := h3.o.shape
      have e3 : (Value.slice a1 n1 c1) = vo := by have := congrArg (fun v => match v with | .agg vs => vs[0]? | _ => none) e; simpa using this
      rw [← e3] at e2
      cases e2; exact HH.out.2.2.2.2.2.symm
    subst hn1e
    have f1_ : ∀ w', Ext w6 w' → w'.cell? ⟨pb, 0, none⟩ = some (.slice a1 n1 c1) := fun w' h => (HA.out w' (grown_trans hgw h)).1.2.1
    have f2_ : ∀ w', Ext w6 w' → w'.cell? ⟨pb, 1, none⟩ = some (.slice a2 n2 c2) := fun w' h => (HA.out w' (grown_trans hgw h)).1.2.2.1
    have f3_ : ∀ w', Ext w6 w' → w'.cell? ⟨pb, 2, none⟩ = some (.slice a3 n3 c3) := fun w' h => (HA.out w' (grown_trans hgw h)).1.2.2.2.1
    have bx0_ := f1_ w6 (Ext.refl _)
    go_wp2
    clear bx0_
    go_region_held3 (fun w' => Ext w6 w') (first | exact grown_drew _ _ | assumption)
      (first
        | (go_at_call 13; refine Calls.mono (Calls.rel (w0 := w6) (by assumption) (iEw_ok P hr _ _ _ _ X0 (gensOf n1) _ _ _ (HA.out _ (grown_trans hgw (by assumption))).2.1 (HA.out _ (grown_trans hgw (by assumption))).2.2.1 hUi HH.out.2.2.1 (by rw [HH.out.2.2.2.1]; omega) (by rw [HH.out.2.2.2.1]; exact HH.out.1) (by have := HXN.out; omega))) ?_; rintro e7 w7 ⟨v7, rfl, hg_, _, va_, vn_, vc_, rfl, hV_⟩)
        | (go_at_call 14; refine Calls.mono (Calls.rel2 (w0 := w6) (by assumption) (units9_ok n1 _ (by omega))) ?_; rintro eM wM ⟨vM, rfl, hgM, _, _, hM_⟩; have hUi : Rows2 Any wM vM (gensOf n1) := Rows2.sub (RowsD.rows (SlO.toD hM_ (by rw [HH.out.2.2.2.1]; omega))) (fun _ _ _ => trivial); obtain ⟨ua, uc, hus, _⟩ := Sl.shape hUi; subst hus))
    clear f1_ f2_ f3_
    replace hgw := grown_trans hgw hg_
    replace hgX := grown_trans hgX hg_
    rw [HH.out.2.1] at hV_
    have hVr : Ints Any w7 (.slice va_ vn_ vc_) (x) := hV_.ints (by rw [HH.out.2.2.2.2.1.1]; omega)
    have hVx : ∀ w', Ext w7 w' → Ints Any w' (.slice va_ vn_ vc_) (x) := fun w' h => Ints.ext hVr h
    have HV := Lib.hid hVx; clear hVr hVx
    have hgV := grown_refl w7 none
    clear hV_ hUi hM_ hgM hg_
    go_wp2_with fail
    refine Calls.mono (likeInts_ok _ _ x x w7 Any Any (HV.out w7 hgV) (HX.out w7 hgX)) ?_
    rintro e8 w8 ⟨v8, rfl, hg_, rfl⟩
    replace hgw := grown_trans hgw hg_
    replace hgX := grown_trans hgX hg_
    replace hgV := grown_trans hgV hg_
    rw [show eqB x x = true from eqB_true.2 rfl]
    clear HV hgV
    clear hg_
    have hgw0 := hgw
    have hgX0 := hgX
    have hdw := hgw.size
    have hgRO := grown_refl w8 none
    have hbW : Bytes (fun k => k < w8.heap.size) w8 (.slice ca bs.length cc) bs := Bytes.mono (HA.out w8 hgw).2.2.2 (fun k _ hlt => ⟨hlt, hlt, rfl⟩)
    go_wp2_with fail
    refine Calls.mono (rollS_ok w8 _ bs (fun k => k < w8.heap.size) 2 hbl hbW) ?_
    rintro e9 w9 ⟨v9, rfl, hg_, db, rfl, hdb, hDi⟩
    replace hgw := grown_trans hgw hg_
    replace hgX := grown_trans hgX hg_
    replace hgRO := grown_trans hgRO hg_
    have hdlt := hDi.lt
    have HDi := Lib.hid hDi; clear hDi hbW
    obtain ⟨wD, hwD⟩ : ∃ wD, wD = w9 := ⟨_, rfl⟩
    have hgD := grown_refl w9 none
    rw [← hwD] at HDi hdlt
    have hgD : Ext wD w9 := by rw [hwD]; exact grown_refl _ _
    have hzD : wD.heap.size ≤ w9.heap.size := hgD.size
    clear hwD
    clear hg_
    obtain ⟨b0_, b1_, b2_, b3_, _⟩ := id (HA.out w9 hgw).1
    go_wp2_with fail
    clear b0_ b1_ b2_ b3_
    refine Calls.mono (sRelators_ok P G.v w9 _ _ (HA.out w9 hgw).2.1) ?_
    rintro e10 w10 ⟨v10, rfl, hg_, la, ln, lc, rfl, hl_⟩
    replace hgw := grown_trans hgw hg_
    replace hgX := grown_trans hgX hg_
    replace hgRO := grown_trans hgRO hg_
    replace hgD := grown_trans hgD hg_
    obtain rfl : ln = (relsP P).length := by
      obtain ⟨a, c, e, _⟩ := Sl.shape hl_
      cases e; rfl
    have HRG := Lib.hid hg_; clear hg_
    have hRb : (relsP P).length ≤ 50 := by have := relTo_len G.v P.orders.length (Nat.le_refl _); have := G.v.n6; have e : relsP P = relTo P P.orders.length := rfl; rw [e]; omega
    obtain ⟨R, hR⟩ : ∃ R, R = (relsP P).length := ⟨_, rfl⟩
    rw [← hR] at hl_ hRb ⊢
    have HLR := Lib.hid (And.intro hl_ hR); clear hl_ hR
    by_cases hR0 : R = 0
    · subst hR0
      go_wp2
      go_ret
      exact ⟨_, rfl, grown_trans HA0.out.2.2.1 hgw, rfl⟩
    have hRn : ((R : Int) == 0) = false := by simp; omega
    clear hR0
    have hDk := HDi.out.ext hgD
    go_wp2_with fail
    refine Calls.mono (belowS_ok _ _ db (R : Int) hDk (by simp at hRn; omega) (by omega)) ?_
    rintro eB wB ⟨vB, rfl, hgB, x1, rfl, hx10, hx11, hDB⟩
    obtain ⟨ri, rfl⟩ := Int.eq_ofNat_of_zero_le hx10
    have hri : ri < R := by omega
    have hgRB : Ext w8 wB := grown_own hgRO hgB (fun j hj hlt => by have := Option.some.inj hj; omega)
    have hlB : Rows2 (fun k => k ≠ db) wB (.slice la R lc) (relsP P) := Rows2.mono HLR.out.1 (frame_of hgB (fun k hk _ => ⟨by have hk : w9.heap.size ≤ k := hk; omega, fun e => by have := Option.some.inj e; have hk : w9.heap.size ≤ k := hk; omega⟩))
    obtain ⟨rb, ro, ra, rc, hre, _, _, hrc, hrr⟩ := Rows2.at hlB ri (by rw [← HLR.out.2]; exact hri)
    subst hre
    obtain ⟨r, hr_⟩ : ∃ r, r = gt (relsP P) ri := ⟨_, rfl⟩
    rw [← hr_] at hrc hrr
    have hrm : r ∈ relsP P := by rw [hr_]; exact gtMem (by rw [← HLR.out.2]; exact hri)
    have hrW := relsP_word G.v r hrm
    have hrl := (relTo_word G.v P.orders.length (Nat.le_refl _) r hrm).2
    obtain ⟨rn, hrn⟩ : ∃ rn, rn = r.length := ⟨_, rfl⟩
    rw [← hrn] at hrc hrl hrr
    have hri' : (ri : Int) < R := by omega
    have hDB0 := hDB
    have HRR := Lib.hid (And.intro hrr (And.intro hrm (And.intro hrW (And.intro hrn hgRB)))); clear hrr hrm hrW hrn hgRB hlB hr_ hgB hDB hDk HLR HRG
    go_wp2_with fail
    clear hrc
    refine Calls.mono (belowS_ok _ wB db ((x0n : Int) + 1) hDB0 (by omega) (by omega)) ?_
    rintro eC wC ⟨vC, rfl, hgC, x2, rfl, hx20, hx21, hDC⟩
    obtain ⟨pa, rfl⟩ := Int.eq_ofNat_of_zero_le hx20
    have hpa : pa ≤ x0n := by omega
    have hgRC : Ext w8 wC := grown_own HRR.out.2.2.2.2 hgC (fun j hj hlt => by have := Option.some.inj hj; omega)
    have hrC : Ints Any wC (.slice ra rn rc) r := Ints.mono HRR.out.1 (frame_of hgC (fun k hk _ => ⟨trivial, fun e => hk (Option.some.inj e).symm⟩))
    have HRC := Lib.hid hrC; clear hrC
    clear hgRO hgD hgw hgX hDC hx21 hx20 hx11 hx10
    have hgw := grown_trans hgw0 hgRC
    have hgX := grown_trans hgX0 hgRC
    have hWC := (HA.out wC hgw).2.2.1
    have hx0c : x0n ≤ x0c := by
      obtain ⟨a, c, e, h1, _⟩ := hWC.shape
      cases e; exact h1
    have hhd := head_ints hWC pa (by rw [← HXN.out]; exact hpa)
    have htl := subSl_ints hWC pa X0.length (by rw [← HXN.out]; exact hpa) (Nat.le_refl _)
    rw [List.take_length] at htl
    rw [← HXN.out] at htl
    obtain ⟨ta, tc, hsv, _, _⟩ := htl.shape
    have hrh : ∀ w', (Instr.slice 24 (.slice x0a x0n x0c) none (some (.int .i64 (pa : Int))) none).run Tryz.prog w' = .ok (.slice x0a pa x0c) w' := fun w' => by
      have h := run_head w' x0a x0n x0c (pa : Int) (by omega) (by omega)
      rw [Int.toNat_natCast] at h; exact h
    have hrt : ∀ w', (Instr.slice 24 (.slice x0a x0n x0c) (some (.int .i64 (pa : Int))) none none).run Tryz.prog w' = .ok (.slice ta (X0.drop pa).length tc) w' := fun w' => by
      have h := run_tail w' x0a x0n x0c (pa : Int) (by omega) (by omega)
      rw [Int.toNat_natCast, hsv] at h; exact h
    rw [hsv] at htl
    have htkl : (X0.take pa).length = pa := by rw [List.length_take, ← HXN.out]; omega
    have hdrl : (X0.drop pa).length ≤ 64 := by rw [List.length_drop, ← HXN.out]; omega
    have hnil0 := own_nil0 (B := wC.heap.size) (w := wC) (Nat.le_refl _) rfl
    obtain ⟨dl, hdl⟩ : ∃ dl, dl = (X0.drop pa).length := ⟨_, rfl⟩
    rw [← hdl] at hrt htl hdrl
    have HT := Lib.hid (And.intro hhd (And.intro htl (And.intro htkl (And.intro hdl hnil0)))); clear hhd htl htkl hdl hnil0 hsv hWC
    go_wp2_with (first
      | (at_builtin
         refine wp_app_ints rfl _ _ rfl wC.heap.size _ [] rfl HT.out.2.2.2.2 _ (X0.take pa) rfl _ (Ints.ext HT.out.1 (World.grownBy_alloc _ _ _)) (by rw [HT.out.2.2.1]; simp; omega) (by simp) ?_
         intro v5 w5 hO5 hg5 _
         have hgC5 : Ext wC w5 := grown_own (World.grownBy_alloc _ _ _) hg5 (fun j hj hlt => by have := own_blk hj; omega)
         rw [List.nil_append] at hO5
         obtain ⟨a5, n5, c5, hv5⟩ : ∃ a n c, v5 = .slice a n c := by obtain ⟨a, c, e, _⟩ := (hO5.ints (by rw [HT.out.2.2.1]; omega)).shape; exact ⟨_, _, _, e⟩
         subst hv5
         have hnil5 := own_nil0 (B := w5.heap.size) (w := w5) (Nat.le_refl _) rfl
         have H5 := Lib.hid (And.intro hO5 (And.intro hgC5 hnil5)); clear hO5 hgC5 hnil5 hg5)
      | (at_builtin
         refine wp_app_ints rfl _ _ rfl w5.heap.size _ [] rfl H5.out.2.2 _ (X0.drop pa) rfl _ (Ints.ext (Ints.ext HT.out.2.1 H5.out.2.1) (World.grownBy_alloc _ _ _)) (by rw [← HT.out.2.2.2.1]; simp; omega) (by simp) ?_
         intro v6 w6 hO6 hg6 _
         have hg56 : Ext w5 w6 := grown_own (World.grownBy_alloc _ _ _) hg6 (fun j hj hlt => by have := own_blk hj; omega)
         rw [List.nil_append] at hO6
         obtain ⟨a6, n6_, c6, hv6⟩ : ∃ a n c, v6 = .slice a n c := by obtain ⟨a, c, e, _⟩ := (hO6.ints (by rw [← HT.out.2.2.2.1]; omega)).shape; exact ⟨_, _, _, e⟩
         subst hv6
         have H6 := Lib.hid (And.intro hO6 hg56); clear hO6 hg56 hg6)
      | fail)
    clear hrh hrt
    have h60 : Own wC.heap.size w6 (.slice a5 n5 c5) (X0.take pa) := H5.out.1.ext0 H6.out.2
    have hne0 : ∀ k, (Value.slice a6 n6_ c6).ownBlock = some k → (Value.slice a5 n5 c5).ownBlock ≠ some k := fun k hk e => by have h1 := (H6.out.1.lt k hk).1; have h2 := (H5.out.1.lt k e).2; omega
    have h6i : Ints (fun k => (Value.slice a6 n6_ c6).ownBlock = some k) w6 (.slice a6 n6_ c6) (X0.drop pa) := ints_of_own H6.out.1 (by rw [← HT.out.2.2.2.1]; omega) (fun k hk => hk)
    have h6n : n6_ = dl := by
      obtain ⟨a, c, e, _⟩ := h6i.shape
      cases e; exact HT.out.2.2.2.1.symm
    have hblt : ∀ k, (Value.slice a6 n6_ c6).ownBlock = some k → k < w6.heap.size := fun k hk => (H6.out.1.lt k hk).2
    have hgC6 : Ext wC w6 := grown_trans H5.out.2.1 H6.out.2
    have HBL := Lib.hid (And.intro hblt h6n); clear hblt h6n
    have HST := Lib.hid (And.intro h60 (And.intro hne0 h6i)); clear h60 hne0 h6i
    have hgwC := hgw
    have hgXC := hgX
    clear hgw hgX
    go_loopw [20, 22] (fun ov iv wr => ∃ (i : Nat) (v7 : Value), v7 = ov ∧ iv = .int .i64 (i : Int) ∧ i ≤ rn ∧ Ext wC wr ∧ w6.heap.size ≤ wr.heap.size ∧ Hid (Own wC.heap.size wr v7 (X0.take pa ++ insW P (r.take i)) ∧ (∀ k, (Value.slice a6 n6_ c6).ownBlock = some k → v7.ownBlock ≠ some k) ∧ Ints (fun k => (Value.slice a6 n6_ c6).ownBlock = some k) wr (.slice a6 n6_ c6) (X0.drop pa))) (fun _ iv _ => rn - (intOf iv).toNat)
    case atStart =>
      refine ⟨0, _, rfl, rfl, by omega, hgC6, Nat.le_refl _, Lib.hid ⟨?_, HST.out.2.1, HST.out.2.2⟩⟩
      have e : X0.take pa ++ insW P (r.take 0) = X0.take pa := by rw [List.take_zero]; exact List.append_nil _
      rw [e]; exact HST.out.1
    case round =>
      clear HST hgC6 H5 H6
      obtain ⟨i, v7, rfl, rfl, hi, hg, hz6, hO⟩ := hrel
      have hgw := grown_trans hgwC hg
      have hgX := grown_trans hgXC hg
      have hir : i ≤ r.length := by rw [← HRR.out.2.2.2.1]; exact hi
      have hins := insW_all G HRR.out.2.2.1 i hir
      have hlen7 : (X0.take pa ++ insW P (r.take i)).length ≤ 50000 := by rw [List.length_append, HT.out.2.2.1]; have := hins.2.1; omega
      have HI := Lib.hid (And.intro hins hlen7); clear hins hlen7
      have hstep : ∀ (L : List Int) (v8 : Value) (w8 : World), insW P (r.take (i + 1)) = insW P (r.take i) ++ L → Own wC.heap.size w8 v8 (X0.take pa ++ insW P (r.take i) ++ L) → wr.grownBy w8 v7.ownBlock → (v8.ownBlock = v7.ownBlock ∨ ∀ k, v8.ownBlock = some k → wr.heap.size ≤ k) → Ext wC w8 ∧ w6.heap.size ≤ w8.heap.size ∧ Hid (Own wC.heap.size w8 v8 (X0.take pa ++ insW P (r.take (i + 1))) ∧ (∀ k, (Value.slice a6 n6_ c6).ownBlock = some k → v8.ownBlock ≠ some k) ∧ Ints (fun k => (Value.slice a6 n6_ c6).ownBlock = some k) w8 (.slice a6 n6_ c6) (X0.drop pa)) := fun L v8 w8 h1 h2 h3 h4 => by
        refine ⟨grown_own hg h3 (fun j hj hlt => by have := (hO.out.1.lt j hj).1; omega), by have := h3.size; omega, Lib.hid ⟨by rw [h1, ← List.append_assoc]; exact h2, fun k hk e => ?_, Ints.mono hO.out.2.2 (frame_of h3 (fun k hk _ => ⟨hk, fun e => hO.out.2.1 k hk e⟩))⟩⟩
        rcases h4 with h4 | h4
        · rw [h4] at e; exact hO.out.2.1 k hk e
        · have := h4 k e; have := HBL.out.1 k hk; omega
      have HS := Lib.hid hstep; clear hstep
      by_cases hlt : i < rn
      · have hlt' : (i : Int) < rn := by omega
        have hltr : i < r.length := by rw [← HRR.out.2.2.2.1]; exact hlt
        obtain ⟨lb, lo, hle, _, _, hlc⟩ := Ints.at (Ints.ext HRC.out hg) i hltr
        subst hle
        have hl := HRR.out.2.2.1 _ (gtMem hltr)
        have hst := insW_step (P := P) hltr
        obtain ⟨c, hc⟩ : ∃ c, c = gt r i := ⟨_, rfl⟩
        rw [← hc] at hlc hl hst
        clear hc
        by_cases hp : 0 < c
        · have hi1 : insL P c = [c] := if_pos hp
          rw [hi1] at hst
          have HC1 := Lib.hid (And.intro hst hl); clear hst hl hi1
          go_wp2_with (first | (at_builtin; refine wp_app_intb rfl _ _ rfl wC.heap.size v7 _ c rfl wr hO.out.1 rfl rfl (by have := HI.out.2; omega) hg.size ?_; intro v8 w8 hO8 hg8 hb8) | fail)
          have hn := HS.out [c] v8 w8 HC1.out.1 hO8 hg8 hb8
          go_roundw
          case rel => exact ⟨i + 1, v8, rfl, by go_num, by omega, hn.1, hn.2.1, hn.2.2⟩
          case measure => simp [intOf]; omega
        · have hi2 : insL P c = nWord (rInv P (unitV P.orders.length (-c - 1).toNat)) P.orders.length := if_neg hp
          obtain ⟨j, hj⟩ : ∃ j : Nat, -c - 1 = (j : Int) := ⟨(-c - 1).toNat, by omega⟩
          have hjn : j < n1 := by have := HH.out.2.2.2.2.2; omega
          rw [hj, Int.toNat_natCast] at hi2
          have hl42 := insL_len G hl
          rw [hi2] at hst hl42
          have hXV : Vec P.orders (unitV P.orders.length j) := unitV_vec G.v j
          have hIV : Vec P.orders (rInv P (unitV P.orders.length j)) := G.invV hXV
          rw [← HH.out.2.2.2.2.2] at hst hl42 hXV hIV
          have hwa : IntKind.i64.wrap (-c) = (j : Int) + 1 := by rw [show -c = (j : Int) + 1 by omega]; exact IntWalk.i64_in _ (by omega)
          have hwb : IntKind.i64.wrap (j : Int) = (j : Int) := IntWalk.i64_in _ (by omega)
          have f1_ : ∀ w', Ext wr w' → w'.cell? ⟨pb, 0, none⟩ = some (.slice a1 n1 c1) := fun w' h => (HA.out w' (grown_trans hgw h)).1.2.1
          have f2_ : ∀ w', Ext wr w' → w'.cell? ⟨pb, 1, none⟩ = some (.slice a2 n2 c2) := fun w' h => (HA.out w' (grown_trans hgw h)).1.2.2.1
          have f3_ : ∀ w', Ext wr w' → w'.cell? ⟨pb, 2, none⟩ = some (.slice a3 n3 c3) := fun w' h => (HA.out w' (grown_trans hgw h)).1.2.2.2.1
          have f4_ : ∀ w', Ext wr w' → w'.cell? ⟨lb, lo + i, none⟩ = some (.int .i64 c) := fun w' h => h.cell hlc (by simp)
          have HC2 := Lib.hid (And.intro hst (And.intro hXV (And.intro hIV (And.intro hl42 hl)))); clear hst hXV hIV hl42 hl hi2
          go_wp2
          clear hlc
          go_region_held3 (fun w' => Ext wr w') (first | exact grown_drew _ _ | assumption)
            (first
              | (go_at_call 18; refine Calls.mono (Calls.rel (w0 := wr) (by assumption) (sInverse_ok P hr _ _ _ (unitV n1 j) _ _ (HA.out _ (grown_trans hgw (by assumption))).2.1 hUi HC2.out.2.1)) ?_; rintro eI wI ⟨vI, rfl, hgI, hgI2, ia, in_, ic, rfl, hOI⟩)
              | (go_at_call 19; refine Calls.mono (Calls.rel (w0 := wr) (by first | assumption | exact grown_drew _ _) (unit9_ok n1 j _ hjn (by omega))) ?_; rintro eU wU ⟨vU, rfl, hgU, hgU2, hOU⟩; have hUi : Ints Any wU vU (unitV n1 j) := hOU.ints (by rw [HC2.out.2.1.1]; have := G.v.n6; omega); obtain ⟨ua, uc, hus, _⟩ := hUi.shape; subst hus))
          clear f1_ f2_ f3_ f4_
          have hgwI := grown_trans hgw hgI
          have hIi := hOI.ints (by rw [HC2.out.2.2.1.1]; have := G.v.n6; omega)
          have HII := Lib.hid hIi; clear hIi hOI hUi hOU
          obtain ⟨b0_, b1_, b2_, b3_, _⟩ := id (HA.out wI hgwI).1
          go_wp2_with fail
          clear b0_ b1_ b2_ b3_
          refine Calls.mono (sNormalWord_ok P G.v wI _ _ (rInv P (unitV n1 j)) _ _ (HA.out wI hgwI).2.1 HII.out HC2.out.2.2.1) ?_
          rintro eN wN ⟨vN, rfl, hgN, na, nn, nc, rfl, hON⟩
          rw [← HH.out.2.2.2.2.2] at hON
          have hNi := hON.ints (by have := HC2.out.2.2.2.1; omega)
          have hgrN := grown_trans hgI hgN
          have hO7 := hO.out.1.ext0 hgrN
          have hzN : wC.heap.size ≤ wN.heap.size := by have := hg.size; have := hgrN.size; omega
          have HN7 := Lib.hid (And.intro hO7 (And.intro hNi hzN)); clear hO7 hNi hON hzN
          go_wp2_with (first | (at_builtin; refine wp_app_intsN rfl _ _ rfl wC.heap.size v7 _ rfl HN7.out.1 _ (nWord (rInv P (unitV n1 j)) n1) rfl Any HN7.out.2.1 (by have := HI.out.2; have := HC2.out.2.2.2.1; omega) HN7.out.2.2 ?_; intro v8 w8 hO8 hg8 hb8) | fail)
          have hn := HS.out _ v8 w8 HC2.out.1 hO8 (grown_trans (grown_of_ext _ hgrN) hg8) (hb8.elim .inl (fun e => .inr (fun k hk => by rw [e] at hk; cases hk; exact hgrN.size)))
          go_roundw
          case rel => exact ⟨i + 1, v8, rfl, by go_num, by omega, hn.1, hn.2.1, hn.2.2⟩
          case measure => simp [intOf]; omega
      · have hie : r.take i = r := by
          have : i = r.length := by rw [← HRR.out.2.2.2.1]; omega
          rw [this, List.take_length]
        have hpos : PosW P.orders.length (X0.take pa ++ insW P r ++ X0.drop pa) := ((HG.out.1.2.1.take pa).app (by have := HI.out.1.1; rw [hie] at this; exact this)).app (HG.out.1.2.1.drop pa)
        have hwv : wv G (X0.take pa ++ insW P r ++ X0.drop pa) = wv G X0 := ins_same G pa HRR.out.2.1
        have hO1 : Own wC.heap.size wr v7 (X0.take pa ++ insW P r) := by have := hO.out.1; rw [hie] at this; exact this
        have hlen8 : (X0.take pa ++ insW P r).length ≤ 50000 := by have := HI.out.2; rw [hie] at this; exact this
        obtain ⟨V, hV⟩ : ∃ V, V = X0.take pa ++ insW P r ++ X0.drop pa := ⟨_, rfl⟩
        have hVl : V.length ≤ 60000 := by rw [hV, List.length_append, ← HT.out.2.2.2.1]; omega
        rw [← hV] at hpos hwv
        have HV2 := Lib.hid (And.intro hpos (And.intro hwv (And.intro hO1 (And.intro hlen8 hV)))); clear hpos hwv hO1 hlen8 hV hie
        have hnl : ¬ (i : Int) < rn := by omega
        go_wp2_with (first
          | (at_builtin
             refine wp_app_intsN rfl _ _ rfl wC.heap.size v7 _ rfl HV2.out.2.2.1 _ (X0.drop pa) rfl _ hO.out.2.2 (by have := HV2.out.2.2.2.1; rw [← HT.out.2.2.2.1]; omega) hg.size ?_
             intro v8 w8 hO8 hg8 hb8
             rw [← HV2.out.2.2.2.2] at hO8
             have hgC8 : Ext wC w8 := grown_own hg hg8 (fun j hj hlt => by have := (HV2.out.2.2.1.lt j hj).1; omega)
             have hgw8 := grown_trans hgwC hgC8
             have hgX8 := grown_trans hgXC hgC8
             have h8i := hO8.ints (by omega)
             obtain ⟨a8, c8, hv8, _, _⟩ := h8i.shape
             subst hv8
             obtain ⟨VL, hVL⟩ : ∃ VL, VL = V.length := ⟨_, rfl⟩
             rw [← hVL] at h8i hVl ⊢
             obtain ⟨b0_, b1_, b2_, b3_, _⟩ := id (HA.out w8 hgw8).1
             have H8 := Lib.hid (And.intro h8i hVL); clear h8i hVL hO8 hg8 hb8)
          | fail)
        clear b0_ b1_ b2_ b3_
        refine Calls.mono (iCollectWord_ok w8 _ _ P V _ _ (HA.out w8 hgw8).2.1 H8.out.1 (by rw [← H8.out.2]; omega)) ?_
        rintro e9 w9 ⟨v9, rfl, hg9, hR9⟩
        have hgw9 := grown_trans hgw8 hg9
        have hgX9 := grown_trans hgX8 hg9
        rcases hR9 with ⟨hbad, rfl⟩ | ⟨hgd, hcr⟩
        · have h64 : 64 < VL := by
            rcases Nat.lt_or_ge 64 VL with h | h
            · exact h
            · exact absurd ⟨validB_true G.v, HV2.out.1, by rw [← H8.out.2]; exact h⟩ hbad
          have h64' : (64 : Int) < VL := by omega
          have HB9 := Lib.hid hbad; clear hbad
          go_wp2
          go_ret
          exact ⟨_, rfl, grown_trans HA0.out.2.2.1 hgw9, rfl⟩
        · rcases hcr with ⟨y, k2, hc2, ya_, yn_, yc_, rfl, hy⟩ | ⟨hno, rfl⟩
          · have hxy : x = y := col_same G HG.out.1.2.1 HV2.out.1 HV2.out.2.1 HG.out.2 hc2
            subst hxy
            have HY9 := Lib.hid (And.intro hc2 (And.intro hy hgd)); clear hc2 hy hgd
            go_wp2_with fail
            refine Calls.mono (likeInts_ok _ _ x x w9 Any Any (HX.out w9 hgX9) HY9.out.2.1) ?_
            rintro eZ wZ ⟨vZ, rfl, hgZ, rfl⟩
            rw [show eqB x x = true from eqB_true.2 rfl]
            go_wp2
            go_ret
            exact ⟨_, rfl, grown_trans HA0.out.2.2.1 (grown_trans hgw9 hgZ), rfl⟩
          · have HN9 := Lib.hid (And.intro hno hgd); clear hno hgd
            go_wp2
            go_ret
            exact ⟨_, rfl, grown_trans HA0.out.2.2.1 hgw9, rfl⟩

end Go.Proofs.YtoakmefajbbggaaGreat
namespace Go.Proofs.YtoakmefajbbggaaGreat
open Go.RowKit Go.ChangeShapes Go.WideShapes Go.Deep

section
variable {H : Type} {enc : TypeId × Value → H} {W : World} {sp : Nat → Bool}

/-- a slice that was read is one of this claim's slices -/
theorem open_sl {α : Type} [Inhabited α] {El : World → Value → α → Prop} {t e : TypeId} (ht : Tryz.prog.underlying t = some (.slice e)) (hc : Tryz.prog.cellsOf e = 1)
    (hEl : ∀ n c x, DataW.trod enc Tryz.prog W 0 sp true n e [c] = some x → ∃ y, El W c y) {fuel : Nat} {c : Value} {x : DataW H × List MemPlace} (h : DataW.trod enc Tryz.prog W 0 sp true fuel t [c] = some x) :
    ∃ xs : List α, Sl El Any W c xs := by
  rcases open_slice1 ht hc h with ⟨hcs, _⟩ | ⟨a, len, cap, m, n, V, D, Pl, hcs, _, hl, hm, hmm, _, hx⟩
  · cases hcs
    exact ⟨[], none, 0, rfl, ⟨by simp, by simp, fun _ => rfl⟩, fun i hi => by simp at hi⟩
  · cases hcs
    have hlm : len ≤ m := by rw [hmm]; split <;> omega
    obtain ⟨Z, hZ⟩ := choose_lt (α := α) (n := len) (p := fun i y => El W (V i) y) (fun i hi => hEl n (V i) _ (hx i (by omega)).2)
    refine ⟨(List.range len).map Z, some a, cap, by simp, ⟨by simpa using hl, by simp; unfold maxLen at hm; omega, fun h => by cases h⟩, fun i hi => ?_⟩
    simp only [List.length_map, List.length_range] at hi
    obtain ⟨h1, h2⟩ := hx i (by omega)
    obtain ⟨b, off, spot⟩ := a
    have hs : spot = none := by
      have h0 := (hx 0 (by omega)).1
      exact World.cell?_spot (by simpa [Addr.add] using h0)
    subst hs
    have hcell : W.cell? ⟨b, off + i, none⟩ = some (V i) := by
      have e : (⟨b, off, none⟩ : Addr).add i = ⟨b, off + i, none⟩ := by
        unfold Addr.add; split
        · rename_i h; subst h; rfl
        · rfl
      rw [← e]; exact h1
    refine ⟨b, off, V i, rfl, trivial, World.block_lt_of_cell? W _ hcell, hcell, ?_⟩
    have : gt ((List.range len).map Z) i = Z i := by simp [gt, hi]
    rw [this]; exact hZ i hi

end

end Go.Proofs.YtoakmefajbbggaaGreat
namespace Go.Proofs.YtoakmefajbbggaaGreat
open Go.RowKit Go.ChangeShapes Go.WideShapes Go.ChangeAt

theorem ownB : ownKnob Tryz.prog.godebug = none := by kernel_rfl
theorem laidOutP : laidOutB Tryz.prog = true := by kernel_rfl
theorem und_u8 : Tryz.prog.underlying 5 = some (.int .u8) := by kernel_rfl
theorem und_bytesB : Tryz.prog.underlying 22 = some (.slice 5) := by kernel_rfl
theorem cells_u8 : Tryz.prog.cellsOf 5 = 1 := by kernel_rfl

theorem open_u8 {H : Type} {enc : TypeId × Value → H} {W : World} {sp : Nat → Bool} {n : Nat} {c : Value} {x : DataW H × List MemPlace} (h : DataW.trod enc Tryz.prog W 0 sp true n 5 [c] = some x) : ∃ y, ByteEl W c y := by
  cases n with
  | zero => simp [DataW.trod] at h
  | succ n =>
    unfold DataW.trod at h
    rw [und_u8] at h
    cases c <;> simp at h
    rename_i k z
    obtain ⟨⟨rfl, hz⟩, _⟩ := h
    have hz2 : 0 ≤ z ∧ z ≤ 255 := by
      have h2 := hz
      simp [Lit.wf, IntKind.min, IntKind.max, IntKind.signed, IntKind.bits] at h2
      omega
    exact ⟨z, rfl, hz2⟩
theorem open_bytes {H : Type} {enc : TypeId × Value → H} {W : World} {sp : Nat → Bool} {n : Nat} {c : Value} {x : DataW H × List MemPlace} (h : DataW.trod enc Tryz.prog W 0 sp true n 22 [c] = some x) : ∃ l, Bytes Any W c l :=
  open_sl (El := ByteEl) und_bytesB cells_u8 (fun _ _ _ h => open_u8 h) h

end Go.Proofs.YtoakmefajbbggaaGreat
namespace Go.Proofs.YtoakmefajbbggaaGreat.RowCwOf
open Go.RowKit Go.ChangeShapes Go.WideShapes Go.ChangeAt

set_option maxRecDepth 100000 in
set_option maxHeartbeats 1000000 in
theorem lifted (os : Os) (started : os.Started) (H : Type) (enc : TypeId × Value → H) :
    ReturnsInHanded {} Tryz.checked os 3 .any (Rows.fnCollectedSpec.pre6 enc Tryz.prog Tryz.f3 Rows.fnCollectedRow.domain false) (Rows.fnCollectedSpec.post enc Tryz.prog Tryz.f3 false true false false) := by
  refine returnsInHanded_of_change (C := Tryz.checked) (s := Rows.fnCollectedSpec) ownB started (by kernel_rfl) Tryz.func3
    (ChangeSpec.witness6 (enc := enc) (C := Tryz.checked) (s := Rows.fnCollectedSpec) false ⟨#[], #[.slice none 0 0], []⟩ 8 (by kernel_rfl) (by kernel_rfl) (by kernel_rfl) (by kernel_rfl) (by kernel_rfl)) ?_
  intro W base args ds gs before hval0 hW _ _
  have hW' := hW
  obtain ⟨p, q, hA0, hV, rfl, _, _⟩ := hW
  have hA : DataW.TrodAll enc Tryz.prog W 0 (fun _ => true) true Tryz.f3.params.toList args.toList ds p := hA0
  rw [Tryz.params3] at hA
  obtain ⟨v0, vs0, d0, ds0, p0, q0, hargs, rfl, rfl, h0, r0⟩ := trodAll_cons hA
  obtain ⟨rfl, rfl, rfl⟩ := trodAll_nil r0
  obtain rfl : args = #[v0] := by cases args; simp_all
  obtain ⟨rfl, rfl⟩ := trodVars_none hV
  have hval : Value.okWide Tryz.prog W .any base 22 v0 := hval0 0 _ _ (by rw [Tryz.params3]; rfl) rfl
  obtain ⟨b0, n0, c0, rfl⟩ := okWide_slice und_bytesB hval
  obtain ⟨f0, hf0⟩ := h0
  obtain ⟨l, hP⟩ := open_bytes (c := .slice b0 n0 c0) hf0
  have hlt : ∀ x ∈ p0, x.block < W.heap.size := fun x hx => by simpa using hW'.lt x (by simpa using hx)
  clear hA0
  simp only [List.append_nil] at hW'
  refine (lawCw_ok W (.slice b0 n0 c0) l Any hP).mono fun e W' ⟨v, he, hg, hv⟩ => ?_
  subst he; subst hv
  have hb : Below W.heap.size W W' := hg.below
  have hargs2 := Below.trod laidOutP (by kernel_rfl) (of_decide_eq_true (by kernel_rfl)) ⟨f0, hf0⟩ hb hlt
  exact ⟨_, rfl, [d0], [], p0, [], p0, [], hW', trodAll_mk1 (shut_bool Tryz.underlying4 _), trodAll_mk1 hargs2, rfl, hb.frame _, fun h => by cases h⟩

theorem c0 : Rows.fnCollectedRow.wf (OpenSpec.ofChange Rows.fnCollectedSpec) = true := by kernel_rfl
theorem c1 : laidOutB Tryz.pinned.checked.prog = true := by kernel_rfl
theorem c2 : mapsRowed Tryz.pinned.checked.prog = true := by kernel_rfl
theorem c3 : Tryz.f3.params.all (Tryz.pinned.checked.prog.readableRec ·) = true := by kernel_rfl
theorem c4 : namedTie Tryz.pinned.checked.prog Rows.fnCollectedRow.named Rows.fnCollectedSpec.vars = true := by kernel_rfl
theorem c5 : (Rows.fnCollectedRow.stops == []) = true := by kernel_rfl
theorem c6 : (Tryz.pinned.checked.prog.stops == []) = true := by kernel_rfl
theorem c7 : (Rows.fnCollectedRow.knobs == []) = true := by kernel_rfl
theorem c8 : (Tryz.pinned.checked.prog.stopKnobs == []) = true := by kernel_rfl
theorem c9 : (Rows.fnCollectedRow.inPlace == Tryz.pinned.checked.prog.inPlace 3) = true := by kernel_rfl
theorem c10 : (Rows.fnCollectedRow.unfollowed == Tryz.pinned.checked.prog.unfollowed 3) = true := by kernel_rfl
theorem c11 : (Rows.fnCollectedRow.recurses == Tryz.pinned.checked.prog.recurses 3) = true := by kernel_rfl
theorem c12 : (Rows.fnCollectedRow.named == Tryz.pinned.checked.prog.varsNamed 3) = true := by kernel_rfl
theorem c13 : (Rows.fnCollectedRow.maps == (Tryz.f3.params.toList ++ Rows.fnCollectedSpec.plain.varTypes Tryz.pinned.checked.prog).any (Tryz.pinned.checked.prog.mapsRec ·)) = true := by kernel_rfl
theorem c14 : (Rows.fnCollectedRow.ifaces == (Tryz.f3.params.toList ++ Rows.fnCollectedSpec.plain.varTypes Tryz.pinned.checked.prog).any (Tryz.pinned.checked.prog.ifacesRec ·)) = true := by kernel_rfl
theorem c15 : (Rows.fnCollectedRow.mapsOut == Tryz.pinned.checked.prog.mapsAmong Tryz.f3.resultTypes.toList) = true := by kernel_rfl
theorem c16 : (Rows.fnCollectedRow.loops == (Tryz.f3.params.toList ++ Rows.fnCollectedSpec.plain.varTypes Tryz.pinned.checked.prog).any (Tryz.pinned.checked.prog.loopsFrom ·)) = true := by kernel_rfl
theorem c17 : (Rows.fnCollectedRow.wideKeys == (Tryz.f3.params.toList ++ Rows.fnCollectedSpec.plain.varTypes Tryz.pinned.checked.prog ++ Tryz.f3.resultTypes.toList).any (Tryz.pinned.checked.prog.wideKeysFrom ·)) = true := by kernel_rfl
theorem c18 : Rows.fnCollectedSpec.vars.all (Tryz.pinned.checked.prog.varReadable ·) = true := by kernel_rfl
theorem c19 : Tryz.f3.resultTypes.all (fun t => Tryz.pinned.checked.prog.readableRec t && decide (t < Tryz.pinned.checked.prog.types.size)) = true := by kernel_rfl
theorem c20 : (Rows.fnCollectedRow.ifacesOut == Tryz.f3.resultTypes.toList.any (Tryz.pinned.checked.prog.ifacesRec ·)) = true := by kernel_rfl
theorem c21 : (Rows.fnCollectedRow.loopsOut == Tryz.f3.resultTypes.toList.any (Tryz.pinned.checked.prog.loopsFrom ·)) = true := by kernel_rfl
theorem c22 : (Rows.fnCollectedRow.plainKeys == Tryz.pinned.checked.prog.plainKeys) = true := by kernel_rfl
theorem c23 : Rows.fnCollectedRow.shortTexts.isNone = true := by kernel_rfl
theorem c24 : Tryz.pinned.checked.prog.stopsHeard = true := by kernel_rfl
theorem c25 : Tryz.pinned.checked.prog.mayEnter = true := by kernel_rfl
theorem c26 : (Rows.fnCollectedRow.lifted == Tryz.pinned.checked.prog.liftsFinal) = true := by kernel_rfl
theorem c27 : (Tryz.pinned.checked.prog.make == some Rows.fnCollectedRow.make) = true := by kernel_rfl
theorem c28 : (Rows.fnCollectedRow.kinds == (if Rows.fnCollectedRow.domain.isEmpty then [] else Tryz.f3.params.toList.map fun t => match Tryz.pinned.checked.prog.underlying t with | some (.int k) => some k | _ => none)) = true := by kernel_rfl
theorem c29 : (Rows.fnCollectedRow.pinned == Rows.fnCollectedRow.pinnedBy) = true := by kernel_rfl
theorem c30 : (Rows.fnCollectedRow.veiled == (Tryz.f3.params.toList ++ Rows.fnCollectedSpec.plain.varTypes Tryz.pinned.checked.prog ++ Tryz.f3.resultTypes.toList).any (Tryz.pinned.checked.prog.veiledRec ·)) = true := by kernel_rfl
theorem c31 : Rows.fnCollectedRow.veiledFits Tryz.pinned.checked.prog Tryz.f3.params.toList (Tryz.f3.params.toList ++ Rows.fnCollectedSpec.plain.varTypes Tryz.pinned.checked.prog ++ Tryz.f3.resultTypes.toList) = true := by kernel_rfl
set_option maxRecDepth 1000000 in
theorem facts : joinedFacts Tryz.pinned.checked.prog 3 Tryz.f3 Rows.fnCollectedSpec Rows.fnCollectedRow = true :=
  Bool.and_eq_true_iff.2 ⟨Bool.and_eq_true_iff.2 ⟨Bool.and_eq_true_iff.2 ⟨Bool.and_eq_true_iff.2 ⟨Bool.and_eq_true_iff.2 ⟨Bool.and_eq_true_iff.2 ⟨Bool.and_eq_true_iff.2 ⟨Bool.and_eq_true_iff.2 ⟨Bool.and_eq_true_iff.2 ⟨Bool.and_eq_true_iff.2 ⟨Bool.and_eq_true_iff.2 ⟨Bool.and_eq_true_iff.2 ⟨Bool.and_eq_true_iff.2 ⟨Bool.and_eq_true_iff.2 ⟨Bool.and_eq_true_iff.2 ⟨Bool.and_eq_true_iff.2 ⟨Bool.and_eq_true_iff.2 ⟨Bool.and_eq_true_iff.2 ⟨Bool.and_eq_true_iff.2 ⟨Bool.and_eq_true_iff.2 ⟨Bool.and_eq_true_iff.2 ⟨Bool.and_eq_true_iff.2 ⟨Bool.and_eq_true_iff.2 ⟨Bool.and_eq_true_iff.2 ⟨Bool.and_eq_true_iff.2 ⟨Bool.and_eq_true_iff.2 ⟨Bool.and_eq_true_iff.2 ⟨Bool.and_eq_true_iff.2 ⟨Bool.and_eq_true_iff.2 ⟨Bool.and_eq_true_iff.2 ⟨Bool.and_eq_true_iff.2 ⟨c0, c1⟩, c2⟩, c3⟩, c4⟩, c5⟩, c6⟩, c7⟩, c8⟩, c9⟩, c10⟩, c11⟩, c12⟩, c13⟩, c14⟩, c15⟩, c16⟩, c17⟩, c18⟩, c19⟩, c20⟩, c21⟩, c22⟩, c23⟩, c24⟩, c25⟩, c26⟩, c27⟩, c28⟩, c29⟩, c30⟩, c31⟩

theorem proved : Rows.FnCollectedSaid :=
  OpenClaim.holds_of_wide 3 Tryz.f3 rfl rfl rfl rfl rfl rfl rfl ⟨rfl, rfl, rfl, rfl, rfl⟩ rfl rfl rfl rfl rfl (by kernel_rfl) Tryz.func3 facts
    (of_decide_eq_true (by kernel_rfl)) (by unfold Func.isWrapper; first | (rw [if_pos (by decide +kernel)]; kernel_rfl) | (rw [if_neg (by decide +kernel)]; exact ⟨rfl, rfl⟩))
    (fun os started H enc _ => lifted os started H enc)
#print axioms proved
end Go.Proofs.YtoakmefajbbggaaGreat.RowCwOf
