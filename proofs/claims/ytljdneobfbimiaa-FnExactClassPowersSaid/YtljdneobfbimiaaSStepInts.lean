/-
  append of one integer inside a region that draws its order.
-/
import Derived.Test.YtljdneobfbimiaaSStepApp
namespace Go.Proofs.Ytljdneobfbimiaa
open Go.RowKit

theorem step_app_int {ops : Array Oper} {o : Oper} {a : Act} {K : Act → World → Prop} {Q : Exit → Act → World → Prop} {Ex : Prop} {w : World} (hgd : o.guard = none) (s x : Operand)
    (ho : o.op = Op.call { callee := Callee.builtin Builtin.append, args := #[s, x], argTypes := #[22, 22] }) (B : Nat) (v : Value) (l : List Int) (y : Int) (hs : a.eval s = v) (w2 : World) (hown : Own B w2 v l)
    (hw : w = w2.alloc (.cells #[.int .i64 y] 2)) (hx : a.eval x = .slice (some ⟨w2.heap.size, 0, none⟩) 1 1) (hlen : l.length ≤ 1000000) (hbase : B ≤ w2.heap.size)
    (h : ∀ v' w', Own B w' v' (l ++ [y]) → w2.grownBy w' v.ownBlock → K (a.put o.dst v') w') :
    if Region.wanted o (yielded ops a.tmps) = true then Oper.wp Try.prog o a w K Q else Ex := by
  subst hw
  have hga : Ext w2 (w2.alloc (.cells #[.int .i64 y] 2)) := World.grownBy_alloc _ _ _
  refine step_app 22 2 (.int .i64 0) 8 und_ints Try.infoInt rfl (by decide) hgd s x ho B v (l.map (Value.int .i64)) hs (hown.ext0 hga).v w2.heap.size (.int .i64 y) hx (by rw [World.cell?_alloc_at _ _ _ _ rfl]; rfl) rfl (by simpa using (by omega : l.length ≤ 2000000)) (by have := hga.size; omega) ?_
  intro v' w' h1 h2 _
  exact h v' w' (Own.of (by rw [List.map_append]; exact h1)) (grown_trans (grown_of_ext _ hga) h2)

end Go.Proofs.Ytljdneobfbimiaa
