/-
  append of a list of integers onto a list of the call's own, in a region that draws.
-/
import Derived.Test.YtdklekdpdbjfiaaGreatSAppMany
namespace Go.Proofs.YtdklekdpdbjfiaaGreat
open Go.RowKit

/-- append of a list of integers onto a list of the call's own, in a region that draws -/
theorem step_app_list {ops : Array Oper} {o : Oper} {a : Act} {K : Act → World → Prop} {Q : Exit → Act → World → Prop} {Ex : Prop} {w : World} (hgd : o.guard = none) (s x : Operand)
    (ho : o.op = Op.call { callee := Callee.builtin Builtin.append, args := #[s, x], argTypes := #[22, 22] }) (B g cap n : Nat) (l m : List Int) (hn0 : l.length = n) (hs : a.eval s = .slice (some ⟨g, 0, none⟩) n cap)
    (hown : Own B w (.slice (some ⟨g, 0, none⟩) n cap) l) (v : Value) (S : Nat → Prop) (hv : Ints S w v m) (hx : a.eval x = v) (hlen : l.length + m.length ≤ 1000000) (hbase : B ≤ w.heap.size)
    (h : ∀ v' w', Own B w' v' (l ++ m) → w.grownBy w' (some g) → K (a.put o.dst v') w') :
    if Region.wanted o (yielded ops a.tmps) = true then Oper.wp Tryz.prog o a w K Q else Ex := by
  subst hn0
  obtain ⟨sa, c, rfl, ⟨_, _, hn⟩, hc⟩ := hv
  have hl : (l.map (Value.int .i64)).length = l.length := List.length_map ..
  refine step_app_many 22 2 (.int .i64 0) 8 und_ints Tryz.infoInt rfl (by decide) hgd s x ho B g cap (l.map (Value.int .i64)) (by rw [hl]; exact hs) (by have := hown.v; rw [hl]; exact this) sa m.length c (m.map (Value.int .i64)) hx (by simp) hn (fun j hj => ?_) (fun u hu => ?_) (by rw [hl]; exact hlen) hbase (fun v' w' k1 k2 => ?_)
  · obtain ⟨b, off, u, h1, _, _, h2, h3⟩ := hc j hj
    exact ⟨b, off, h1, by rw [h2, h3]; simp [gt, hj]⟩
  · simp at hu
    obtain ⟨x, _, rfl⟩ := hu; rfl
  · exact h v' w' (Own.of (by rw [List.map_append]; exact k1)) k2

end Go.Proofs.YtdklekdpdbjfiaaGreat
