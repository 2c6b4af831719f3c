/-
  impl.FixedCosets: the test of all members.
-/
import Derived.Test.YtdklekdpdbjfiaaGreatUFixW4
namespace Go.Proofs.YtdklekdpdbjfiaaGreat
open Go.RowKit
open Classical
set_option maxRecDepth 100000 in
set_option maxHeartbeats 2000000 in
theorem fixIdx_ok (L : List (List Int)) (Q : List Int → Prop) (w : World) (lv p : Value) (ub xb : Nat) (SS : Nat → Prop) (hl : Rows2 SS w lv L)
  (hcl : ∀ w' yv y Sy, Ext w w' → Ints Sy w' yv y → y ∈ L → Calls Tryz.prog 166 #[yv, p, .pointer (some ⟨ub, 0, none⟩), .pointer (some ⟨xb, 0, none⟩)] w' (Ret w' fun _ v => v = .bool (!(decide (Q y))))) :
  Calls Tryz.prog 221 #[lv, .func (.func 166) #[] #[p, .pointer (some ⟨ub, 0, none⟩), .pointer (some ⟨xb, 0, none⟩)]] w (Ret w fun _ v => ∃ k : Int, v = .int .i64 k ∧ (0 ≤ k ↔ ∃ y ∈ L, ¬ Q y)) := by
 obtain ⟨la, lc, rfl, _, _⟩ := Sl.shape hl
 have HC := Lib.hid hcl; clear hcl
 go_enter Tryz.func221, Tryz.ntmps221
 go_wp2
 go_loopw [8] (fun v wr => ∃ k : Nat, v = .int .i64 k ∧ k ≤ L.length ∧ Ext w wr ∧ Hid (∀ j, j < k → Q (gt L j))) (fun v _ => L.length - (intOf v).toNat)
 case atStart => exact ⟨0, rfl, by omega, Ext.refl _, Lib.hid (fun j h => by omega)⟩
 case round =>
  obtain ⟨k, rfl, hk, hg, hN⟩ := hrel
  by_cases hlt : k < L.length
  ·have hlt' : (k : Int) < L.length := by omega
   obtain ⟨bl, ol, a2, cap2, hab, _, hbl, hcl, hru⟩ := Rows2.at hl k hlt
   subst hab
   have hcr := hg.cell hcl (by simp)
   have hcon := HC.out wr _ (gt L k) SS hg (Ints.ext hru hg) (gtMem hlt)
   have hm := gtMem hlt
   obtain ⟨r, hr⟩ : ∃ r, r = decide (Q (gt L k)) := ⟨_, rfl⟩
   rw [← hr] at hcon
   have HR := Lib.hid (And.intro hr hm); clear hr hm hcl hru
   go_wp2_with fail
   refine Calls.mono hcon ?_
   rintro e1 w1 ⟨v1, rfl, hg1, rfl⟩
   clear hcon hcr
   have hgn := grown_trans hg hg1
   cases r with
   | false =>
    have hex : ∃ y ∈ L, ¬ Q y := ⟨_, HR.out.2, of_decide_eq_false HR.out.1.symm⟩
    have HX := Lib.hid hex; clear hex
    go_wp2
    go_ret
    exact ⟨_, rfl, hgn, (k : Int), rfl, ⟨fun _ => HX.out, fun _ => by omega⟩⟩
   | true =>
    have hN2 : ∀ j, j < k + 1 → Q (gt L j) := fun j hj => by
     rcases Nat.lt_succ_iff_lt_or_eq.1 hj with h | h
     ·exact hN.out j h
     ·rw [h]; exact of_decide_eq_true HR.out.1.symm
    have HN2 := Lib.hid hN2; clear hN2
    go_wp2
    go_roundw
    case rel => exact ⟨k + 1, by go_num, by omega, hgn, HN2⟩
    case measure => simp [intOf]; omega
  ·have hno : ¬ ∃ y ∈ L, ¬ Q y := by
    rintro ⟨y, hy, hq⟩
    obtain ⟨j, hj, e⟩ := mem_gt hy
    exact hq (by rw [← e]; exact hN.out j (by omega))
   have hnl : ¬ (k : Int) < L.length := by omega
   have HX := Lib.hid hno; clear hno
   go_wp2
   go_ret
   exact ⟨_, rfl, hg, -1, rfl, ⟨fun h => by omega, fun h => absurd h HX.out⟩⟩
set_option maxRecDepth 100000 in
set_option maxHeartbeats 2000000 in
theorem fixAny_ok (L : List (List Int)) (Q : List Int → Prop) (w : World) (lv p : Value) (ub xb : Nat) (SS : Nat → Prop) (hl : Rows2 SS w lv L)
  (hcl : ∀ w' yv y Sy, Ext w w' → Ints Sy w' yv y → y ∈ L → Calls Tryz.prog 166 #[yv, p, .pointer (some ⟨ub, 0, none⟩), .pointer (some ⟨xb, 0, none⟩)] w' (Ret w' fun _ v => v = .bool (!(decide (Q y))))) :
  Calls Tryz.prog 165 #[lv, .func (.func 166) #[] #[p, .pointer (some ⟨ub, 0, none⟩), .pointer (some ⟨xb, 0, none⟩)]] w (Ret w fun _ v => v = .bool (!(decide (∀ y ∈ L, Q y)))) := by
 have hi := fixIdx_ok L Q w lv p ub xb SS hl hcl
 clear hcl
 obtain ⟨la, lc, rfl, _, _⟩ := Sl.shape hl
 go_enter Tryz.func165, Tryz.ntmps165
 go_wp2_with fail
 refine Calls.mono hi ?_
 rintro e1 w1 ⟨v1, rfl, hg1, k, rfl, hk⟩
 have HK := Lib.hid hk; clear hk hi
 go_wp2
 go_ret
 refine ⟨_, rfl, hg1, ?_⟩
 show Value.bool (decide (0 ≤ k)) = _
 rw [decide_eq_decide.2 HK.out]
 by_cases h : ∀ y ∈ L, Q y
 ·rw [decide_eq_true h, decide_eq_false (fun ⟨y, hy, hq⟩ => hq (h y hy))]; rfl
 ·rw [decide_eq_false h]
  obtain ⟨y, hy⟩ := Classical.not_forall.1 h
  obtain ⟨h1, h2⟩ := Classical.not_imp.1 hy
  rw [decide_eq_true ⟨y, h1, h2⟩]; rfl
end Go.Proofs.YtdklekdpdbjfiaaGreat
