/-
  impl.indexCode, where the group is small enough.
-/
import Derived.Test.YtdklekdpdbjfiaaGreatUAuxW
namespace Go.Proofs.YtdklekdpdbjfiaaGreat
open Go.RowKit
set_option maxRecDepth 100000 in
set_option maxHeartbeats 4000000 in
theorem indexCode_ok (P : Pr) (hr : rconsB P = true) (w : World) (p uv : Value) (U : List (List Int)) (Sp Su : Nat → Prop) (hp : PresP Sp w p P) (hu : Rows2 Su w uv U) (hU : SubB P U) (h128 : ordP P ≤ 128) :
  Calls Tryz.prog 163 #[p, uv] w (Ret w fun _ v => v = .int .i64 0) := by
 have G := grp_of_r hr
 have hn6 := G.v.n6
 have hop := G.v.ordP_pos
 obtain ⟨pb, po, rfl⟩ := hp.shape
 obtain ⟨au, capu, rfl, _, _⟩ := Sl.shape hu
 have hg1 : Ext w (w.alloc (.cells #[.slice au U.length capu] 23)) := World.grownBy_alloc _ _ _
 have hl := rows3One hu
 have hcon := areSubgroups_ok P _ _ _ [U] Sp Any (hp.ext hg1) hl
 have hulU : U.length ≤ P.orders.length := G.sub_len hU
 have HH := Lib.hid (And.intro hr (And.intro hU hl)); clear hr hU hl
 go_enter Tryz.func163, Tryz.ntmps163
 go_wp2_with fail
 refine Calls.mono hcon ?_
 rintro e1 w1 ⟨v1, rfl, hgA, r1, rfl, hr1⟩
 clear hcon
 obtain rfl : r1 = true := hr1.2 (by have := HH.out; simp only [List.mem_cons, List.mem_nil_iff, or_false]; exact ⟨this.1, fun u hu => by subst hu; exact this.2.1⟩)
 clear hr1
 have hg01 := grown_trans hg1 hgA
 clear hg1 hgA
 have hp1 := hp.ext hg01
 have hu1 := Rows2.ext hu hg01
 have hfac := G.seq_facts (G.subB HH.out.2.1)
 rw [← HH.out.2.1.2] at hfac
 have HF := Lib.hid hfac; clear hfac
 go_wp2_with fail
 refine Calls.mono (orderOf_ok w1 _ P Sp G.v hp1) ?_
 rintro _ _ ⟨rfl, rfl⟩
 go_wp2_with fail
 refine Calls.mono (sizeOf_ok P G.v w1 _ _ U Sp Su hp1 hu1 HF.out.1 (by omega)) ?_
 rintro e2 w2 ⟨v2, rfl, hg2, rfl⟩
 have h729 := prodU_729 G.v HF.out.1 U.length (Nat.le_refl _)
 obtain ⟨y, hy⟩ : ∃ y, y = prodU P U U.length := ⟨_, rfl⟩
 obtain ⟨x, hx⟩ : ∃ x, x = ordP P := ⟨_, rfl⟩
 rw [← hy] at h729 ⊢
 rw [← hx] at h128 hop ⊢
 have hy0 : y ≠ 0 := by omega
 have htd : x.tdiv y = x / y := Int.tdiv_eq_ediv_of_nonneg (by omega)
 have hd1 : 0 ≤ x / y := Int.ediv_nonneg (by omega) (by omega)
 have hd2 : x / y ≤ 128 := Int.le_trans (Int.ediv_le_self _ (by omega)) (by omega)
 have hwr : IntKind.i64.wrap (x / y) = x / y := IntWalk.i64_in _ (by omega)
 have hng : ¬ 128 < x / y := by omega
 clear hx hy
 go_wp2
 go_ret
 exact ⟨_, rfl, grown_trans hg01 hg2, rfl⟩
end Go.Proofs.YtdklekdpdbjfiaaGreat
