/-
  impl.FixedCosets: the test of one member.
-/
import Derived.Test.YtdklekdpdbjfiaaGreatUFixW3
import Derived.Test.YtdklekdpdbjfiaaGreatM9
import Derived.Test.YtdklekdpdbjfiaaGreatM1
import Derived.Test.YtdklekdpdbjfiaaGreatM4
namespace Go.Proofs.YtdklekdpdbjfiaaGreat
open Go.RowKit
open Classical
set_option maxRecDepth 100000 in
set_option maxHeartbeats 4000000 in
theorem fixCl_ok (P : Pr) (G : Grp P) (w : World) (yv p : Value) (y x : List Int) (U : List (List Int)) (ub xb : Nat) (au ax : Option Addr) (capu capx : Nat) (Sp Su Sx Sy : Nat → Prop) (hU : SubB P U) (hp : PresP Sp w p P)
  (hub : w.cell? ⟨ub, 0, none⟩ = some (.slice au U.length capu)) (hu : Rows2 Su w (.slice au U.length capu) U) (hxb : w.cell? ⟨xb, 0, none⟩ = some (.slice ax x.length capx)) (hx : Ints Sx w (.slice ax x.length capx) x) (hy : Ints Sy w yv y) (hyV : Vec P.orders y) (hz : Zr P U x) :
  Calls Tryz.prog 166 #[yv, p, .pointer (some ⟨ub, 0, none⟩), .pointer (some ⟨xb, 0, none⟩)] w (Ret w fun _ v => v = .bool (!(decide (gP P U (rConj P y x))))) := by
 have hn6 := G.v.n6
 have S := G.subB hU
 have hUe : cseq P (gP P U) = U := hU.2.symm
 have hsq := (G.seq_facts S).1
 rw [hUe] at hsq
 have hul : U.length ≤ 100 := by have := G.sub_len hU; omega
 have hfix := fun Y (hR : RepTo P U (rMul P y x) U.length Y) => G.fix_iff S (x := x) (y := y) (Y := Y) (by rw [hUe]; exact hz) hyV (by rw [hUe]; exact hR)
 have hmV := G.mulV hyV hz.1
 have htv := G.tv_eq hyV hz.1
 have hxl := hz.1.1
 obtain ⟨pb, po, rfl⟩ := hp.shape
 obtain ⟨ay, cy, rfl, _, _⟩ := hy.shape
 have HH := Lib.hid (And.intro hsq (And.intro hfix (And.intro hmV (And.intro htv (And.intro hyV (And.intro hz hxl)))))); clear hsq hfix hmV htv hyV hz hxl S hUe hU
 have f1_ : ∀ w', Ext w w' → w'.cell? ⟨ub, 0, none⟩ = some (.slice au U.length capu) := fun w' h => h.cell hub (by simp)
 have f2_ : ∀ w', Ext w w' → w'.cell? ⟨xb, 0, none⟩ = some (.slice ax x.length capx) := fun w' h => h.cell hxb (by simp)
 clear hub hxb
 go_enter Tryz.func166, Tryz.ntmps166
 go_wp2
 go_region_held3 (fun w' => Ext w w') (first | exact grown_refl _ _ | exact grown_drew _ _ | assumption)
  (first
   | (revert hOR; intro hOR; go_at_call 167; refine Calls.mono (Calls.rel (w0 := w) (by assumption) (sEqual_ok _ _ Y x _ Any Any hOR.out (Ints.sub (Ints.ext hx (by assumption)) (fun _ _ _ => trivial)))) ?_; rintro eE wE ⟨vE, rfl, hgE, _, rfl⟩)
   | (revert hOM; intro hOM; go_at_call 168; refine Calls.mono (Calls.rel2 (w0 := w) (by assumption) (representative_ok P G _ _ _ _ U (rMul P y x) Sp Su Any (hp.ext (by assumption)) (Rows2.ext hu (by assumption)) HH.out.1 hul hOM.out HH.out.2.2.1)) ?_; rintro eR wR ⟨vR, rfl, hgR, _, _, Y, hOY, hRY⟩; have hOR := Lib.hid (hOY.ints (by rw [hRY.vec.1]; omega)))
   | (go_at_call 169; refine Calls.mono (Calls.rel2 (w0 := w) (by assumption) (multiply_ok P G.v _ _ _ _ y x Sp Sy Sx (hp.ext (by assumption)) (Ints.ext hy (by assumption)) (Ints.ext hx (by assumption)) HH.out.2.2.2.2.1 HH.out.2.2.2.2.2.1.1)) ?_; rintro eM wM ⟨vM, rfl, hgM, _, _, hO⟩; rw [HH.out.2.2.2.1] at hO; have hOM := Lib.hid (hO.ints (by rw [HH.out.2.2.1.1]; omega))))
 have he : eqB Y x = decide (gP P U (rConj P y x)) := by
  have := HH.out.2.1 Y hRY
  by_cases h : Y = x
  ·rw [eqB_true.2 h]; exact (decide_eq_true (this.1 h)).symm
  ·rw [eqB_false.2 h]; exact (decide_eq_false (fun k => h (this.2 k))).symm
 rw [he]
 clear f1_ f2_ he
 go_wp2
 go_ret
 exact ⟨_, rfl, by assumption, rfl⟩
end Go.Proofs.YtdklekdpdbjfiaaGreat
