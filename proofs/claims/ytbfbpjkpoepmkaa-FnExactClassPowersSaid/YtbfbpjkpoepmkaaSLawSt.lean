/-
  What a law over one presentation and one list keeps in view.
-/
import Derived.Test.YtbfbpjkpoepmkaaK3
namespace Go.Proofs.Ytbfbpjkpoepmkaa
open Go.RowKit

/-- what a law over one presentation and one list keeps in view -/
structure St (P : Pr) (w W : World) (vo vp vc uo up uc r g : Value) (bx : Nat) (FX FR FG : Nat → Prop) (l l' : List Int) : Prop where
  a : Ext w W
  b : Box3 W w.heap.size vo vp vc
  x : Box3 W bx uo up uc
  p : PresW FX W (.agg #[uo, up, uc]) P
  r : OwnIn FR W r l
  g : OwnIn FG W g l'

theorem St.ext {P : Pr} {w W W' : World} {vo vp vc uo up uc r g : Value} {bx : Nat} {FX FR FG : Nat → Prop} {l l' : List Int} (h : St P w W vo vp vc uo up uc r g bx FX FR FG l l') (hg : Ext W W') : St P w W' vo vp vc uo up uc r g bx FX FR FG l l' :=
  ⟨grown_trans h.a hg, h.b.ext hg, h.x.ext hg, h.p.ext hg, rdOwn.mono h.r (frame_ext hg), rdOwn.mono h.g (frame_ext hg)⟩

theorem Box3.keep {W W' : World} {b : Nat} {x0 x1 x2 : Value} (h : Box3 W b x0 x1 x2) (hs : W.heap.size ≤ W'.heap.size) (e : W'.heap[b]? = W.heap[b]?) : Box3 W' b x0 x1 x2 := by
  obtain ⟨c0, c1, c2, c3, c4⟩ := h
  exact ⟨Nat.lt_of_lt_of_le c0 hs, (World.cell?_of_block (w := W) e).trans c1, (World.cell?_of_block (w := W) e).trans c2, (World.cell?_of_block (w := W) e).trans c3, fun k => (World.frozen?_of_block (w := W) e).trans (c4 k)⟩


end Go.Proofs.Ytbfbpjkpoepmkaa
