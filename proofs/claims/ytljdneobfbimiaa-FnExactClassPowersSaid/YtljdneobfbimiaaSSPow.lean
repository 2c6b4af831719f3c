/-
  The reference's power with any exponent: spec.l10Pow.
-/
import Derived.Test.YtljdneobfbimiaaSSiftLaw
import Derived.Test.YtljdneobfbimiaaK5
namespace Go.Proofs.Ytljdneobfbimiaa
open Go.RowKit

theorem Grp.rRep_pw {P : Pr} (G : Grp P) {X : List Int} (hX : Vec P.orders X) (k : Nat) : rRep (rAt P P.orders.length 0) (zeros P.orders.length) X k = pw P X k :=
  G.lvl.rRep_eq (T_zero.2 hX) k

set_option maxHeartbeats 2000000 in
theorem l10Pow_ok (P : Pr) (G : Grp P) (w : World) (pv x : Value) (X : List Int) (k : Int) (Sp Sx : Nat → Prop) (hp : PresV Sp w pv P) (hx : Ints Sx w x X) (hX : Vec P.orders X) (hk : -1000000000 ≤ k ∧ k ≤ 1000000000) :
    Calls Try.prog 39 #[pv, x, .int .i64 k] w (Ret w fun w' v => Own w.heap.size w' v (pwZ P X k)) := by
  have hP := G.v
  have hn6 := hP.n6
  obtain ⟨vo, vp, vc, rfl, h3⟩ := hp
  have hBx := PresP.box h3 30
  have hg0 : Ext w (w.alloc (.cells #[vo, vp, vc] 30)) := World.grownBy_alloc _ _ _
  have hx0 := hx.ext hg0
  have hs0 : (w.alloc (.cells #[vo, vp, vc] 30)).heap.size = w.heap.size + 1 := by simp
  have HS := Lib.hid hs0; clear hs0 hx
  have hXl : X.length = P.orders.length := hX.1
  have HX := Lib.hid (And.intro hX hXl); clear hX hXl
  by_cases hneg : k < 0
  · have e0 : pwZ P X k = pw P (rInv P X) (-k).toNat := by unfold pwZ; rw [if_pos hneg]
    have hiV := G.invV HX.out.1
    have hil : (rInv P X).length ≤ 6 := by rw [hiV.1]; omega
    have HE := Lib.hid (And.intro e0 hiV); clear e0 hiV
    have hwr : IntKind.i64.wrap (-k) = -k := IntWalk.i64_in _ (by omega)
    go_enter Try.func39, Try.ntmps39
    go_wp2
    generalize hw0 : w.alloc (.cells #[vo, vp, vc] 30) = w0 at *
    clear hw0
    obtain ⟨vo6, vp6, vc6, _, _, hc0, hc1, hc2, h36⟩ := hBx.at
    have e1 : ∀ w', Ext w0 w' → w'.cell? ⟨w.heap.size, 0, none⟩ = some vo6 := fun w' h => h.cell hc0 (by simp)
    have e2 : ∀ w', Ext w0 w' → w'.cell? ⟨w.heap.size, 1, none⟩ = some vp6 := fun w' h => h.cell (by simpa using hc1) (by simp)
    have e3 : ∀ w', Ext w0 w' → w'.cell? ⟨w.heap.size, 2, none⟩ = some vc6 := fun w' h => h.cell (by simpa using hc2) (by simp)
    clear hc0 hc1 hc2
    go_region_held3 (fun w' => Ext w0 w') (first | exact grown_drew _ _ | assumption)
      (first
        | (go_at_call 54; refine Calls.mono (Calls.rel (w0 := w0) (by assumption) (l10Inv_ok P hP _ _ _ _ Any Any ⟨_, _, _, rfl, Pres3.ext h36 (by assumption)⟩ (Ints.sub (Ints.ext hx0 (by assumption)) (fun _ _ _ => trivial)) HX.out.1)) ?_; rintro eA wA ⟨vA, rfl, hgA, hsA, hOA⟩; have hOA2 := hOA.ints (by omega))
        | (go_at_call 53; refine Calls.mono (Calls.rel (w0 := w0) (by assumption) (l08Repeat_ok P hP _ _ _ 0 P.orders.length (by omega) _ (-k) Any Any ⟨_, _, _, rfl, Pres3.ext h36 (by assumption)⟩ hOA2 HE.out.2 (by omega) (by omega))) ?_; rintro eB wB ⟨vB, rfl, hgB, hsB, hOB⟩))
    clear e1 e2 e3
    rw [G.rRep_pw HE.out.2, ← HE.out.1] at hOB
    go_wp2
    go_ret
    exact ⟨_, rfl, grown_trans hg0 hgB, hOB.weak (by have := HS.out; omega)⟩
  · have e0 : pwZ P X k = pw P X k.toNat := by unfold pwZ; rw [if_neg hneg]
    have HE := Lib.hid e0; clear e0
    obtain ⟨vo6, vp6, vc6, _, _, hc0, hc1, hc2, h36⟩ := hBx.at
    go_enter Try.func39, Try.ntmps39
    go_wp2_with fail
    refine Calls.mono (l08Repeat_ok P hP _ _ _ 0 P.orders.length (by omega) X k Any Sx ⟨_, _, _, rfl, h36⟩ hx0 HX.out.1 (by omega) (by omega)) ?_
    rintro eB wB ⟨vB, rfl, hgB, hOB⟩
    rw [G.rRep_pw HX.out.1, ← HE.out] at hOB
    go_wp2
    go_ret
    exact ⟨_, rfl, grown_trans hg0 hgB, hOB.weak (by have := HS.out; omega)⟩

end Go.Proofs.Ytljdneobfbimiaa
