/-
  append of a subgroup that lay there before to a list of subgroups. (Printed from AppTake.)
-/
import Derived.Test.YtigbpdaomgagiaaGreatK9
namespace Go.Proofs.YtigbpdaomgagiaaGreat
open Go.RowKit

theorem wp_app_take3 {ops : Array Oper} {rest : List Oper} {o : Oper} {a : Act} {Q : Exit → Act → World → Prop} {w : World} (hgd : o.guard = none) (s x : Operand)
    (ho : o.op = Op.call { callee := Callee.builtin Builtin.append, args := #[s, x], argTypes := #[24, 24] }) (B : Nat) (A A' F : Nat → Prop) (w0 : World) (v u : Value) (xs : List (List (List Int))) (y : List (List Int)) (hs : a.eval s = v)
    (hown : SlOA (fun F w u (x : List (List Int)) => RowsD F w u x) 23 B A w0 v xs) (hu : RowsD F w0 u y) (hF : ∀ k, F k → k < w0.heap.size → A k ∧ B ≤ k) (hA' : ∀ k, A' k → A k ∧ ¬ F k) (hAl : ∀ k, A k → k < w0.heap.size) (hw : w = w0.alloc (.cells #[u] 23))
    (hx : a.eval x = .slice (some ⟨w0.heap.size, 0, none⟩) 1 1) (hlen : xs.length ≤ 1000000) (hbase : B ≤ w0.heap.size)
    (h : ∀ v' w', SlOA (fun F w u (x : List (List Int)) => RowsD F w u x) 23 B A' w' v' (xs ++ [y]) → w0.grownBy w' v.ownBlock → (v'.ownBlock = v.ownBlock ∨ ∀ k, v'.ownBlock = some k → w0.heap.size ≤ k) → wpList Tryz.prog ops Q rest (a.put o.dst v') w') :
    wpList Tryz.prog ops Q (o :: rest) a w := by
  subst hw
  obtain ⟨vs, G, hvl, hO, hG, hd, hE, hr, hr2⟩ := hown
  have hga : Ext w0 (w0.alloc (.cells #[u] 23)) := World.grownBy_alloc _ _ _
  refine wp_app 24 23 (.slice none 0 0) 24 und_r3 Tryz.infoR3 rfl (by decide) hgd s x ho B v vs hs (hO.kept hga (by cases hv : v.ownBlock <;> simp)) (some ⟨w0.heap.size, 0, none⟩) 1 1 [u] hx rfl (by simp) ?_ ?_ (by simp; omega) (by have := hga.size; omega) ?_
  · intro j hj
    have : j = 0 := by omega
    subst this
    exact ⟨_, _, rfl, by rw [World.cell?_alloc_at _ _ _ _ rfl]; rfl⟩
  · intro u' hu'
    simp at hu'; subst hu'; exact rdRows.one hu
  · intro v' w' k1 k2 _ k4
    have hg : w0.grownBy w' v.ownBlock := grown_trans (grown_of_ext _ hga) k2
    have hown2 : v'.ownBlock = v.ownBlock ∨ ∀ k, v'.ownBlock = some k → w0.heap.size ≤ k := by
      rcases k4 with h | h
      · exact .inl h
      · refine .inr (fun k hk => ?_)
        rw [h] at hk
        have : (w0.alloc (.cells #[u] 23)).heap.size = k := by simpa using hk
        simp at this
        omega
    have hown : ∀ k, v'.ownBlock = some k → v.ownBlock = some k ∨ w0.heap.size ≤ k := fun k hk => by
      rcases k4 with h | h
      · exact .inl (by rw [← h]; exact hk)
      · rw [h] at hk
        have : (w0.alloc (.cells #[u] 23)).heap.size = k := by simpa using hk
        simp at this
        exact .inr (by omega)
    refine h v' w' ⟨vs ++ [u], fun i k => if i < xs.length then G i k else F k ∧ k < w0.heap.size, by simp [hvl], k1, ?_, ?_, ?_, ?_, ?_⟩ hg hown2
    · intro i k hi hk
      split at hk
      · rename_i hlt
        obtain ⟨a1, a2, a3⟩ := hG i k hlt hk
        exact ⟨a1, fun e => (hown k e).elim a2 (fun h => by omega), Nat.lt_of_lt_of_le a3 hg.size⟩
      · obtain ⟨b1, b2⟩ := hF k hk.1 hk.2
        exact ⟨b2, fun e => (hown k e).elim (fun h => hr2 k h b1) (fun h => by have := hk.2; omega), Nat.lt_of_lt_of_le hk.2 hg.size⟩
    · intro i j k hi hj hk hk'
      simp only [List.length_append, List.length_singleton] at hi hj
      split at hk <;> split at hk'
      · exact hd i j k (by assumption) (by assumption) hk hk'
      · exact absurd (hF k hk'.1 hk'.2).1 (hr i k (by assumption) hk)
      · exact absurd (hF k hk.1 hk.2).1 (hr j k (by assumption) hk')
      · omega
    · intro i hi
      simp only [List.length_append, List.length_singleton] at hi
      by_cases hlt : i < xs.length
      · rw [gt_append_left _ _ _ (by omega), gt_append_left _ _ _ hlt]
        simp only [if_pos hlt]
        exact rdRows.mono (hE i hlt) (fun k hk hkl => ⟨hk, Nat.lt_of_lt_of_le hkl hg.size, hg.block k hkl (fun e => (hG i k hlt hk).2.1 e.symm)⟩)
      · have hi2 : i = xs.length := by omega
        subst hi2
        rw [gt_concat, ← hvl, gt_concat]
        simp only [hvl, Nat.lt_irrefl, if_false]
        exact rdRows.mono hu (fun k hk hkl => ⟨⟨hk, hkl⟩, Nat.lt_of_lt_of_le hkl hg.size, hg.block k hkl (fun e => hr2 k e.symm (hF k hk hkl).1)⟩)
    · intro i k hi hk ha
      obtain ⟨c1, c2⟩ := hA' k ha
      split at hk
      · rename_i hlt; exact hr i k hlt hk c1
      · exact c2 hk.1
    · intro k hk ha
      obtain ⟨c1, _⟩ := hA' k ha
      rcases hown k hk with h | h
      · exact hr2 k h c1
      · have := hAl k c1; omega

end Go.Proofs.YtigbpdaomgagiaaGreat
