/-
  append of a whole list of rows, in a region that draws; l01Own2 hands back a list that is not nil.
-/
import Derived.Test.YtdklekdpdbjfiaaGreatK6
namespace Go.Proofs.YtdklekdpdbjfiaaGreat
open Go.RowKit

theorem step_app_many (T E : Nat) (z : Value) (bytes : Nat) (hT : Tryz.prog.underlying T = some (.slice E)) (hE : (Tryz.prog.info? E).map (fun i => (i.zero, i.size, i.bytes)) = some (some z, 1, bytes))
    (hzs : z.cells.size = 1) (hbt : bytes ≤ 64) {ops : Array Oper} {o : Oper} {a : Act} {K : Act → World → Prop} {Q : Exit → Act → World → Prop} {Ex : Prop} {w : World} (hgd : o.guard = none) (s x : Operand)
    (ho : o.op = Op.call { callee := Callee.builtin Builtin.append, args := #[s, x], argTypes := #[T, T] }) (base g cap : Nat) (xs : List Value) (hs : a.eval s = .slice (some ⟨g, 0, none⟩) xs.length cap) (hown : OwnV base E w (.slice (some ⟨g, 0, none⟩) xs.length cap) xs)
    (sa : Option Addr) (m c : Nat) (news : List Value) (hx : a.eval x = .slice sa m c) (hl : news.length = m) (hsn : sa = none → c = 0)
    (hnews : ∀ j, j < m → ∃ b off, sa = some ⟨b, off, none⟩ ∧ w.cell? ⟨b, off + j, none⟩ = some (gt news j)) (h1 : ∀ u, u ∈ news → u.oneCell' = true) (hlen : xs.length + m ≤ 1000000) (hbase : base ≤ w.heap.size)
    (h : ∀ v' w', OwnV base E w' v' (xs ++ news) → w.grownBy w' (some g) → K (a.put o.dst v') w') :
    if Region.wanted o (yielded ops a.tmps) = true then Oper.wp Tryz.prog o a w K Q else Ex := by
  obtain ⟨i0, hi, hz0, hz1, hz2⟩ := info_parts hE
  have hw : Region.wanted o (yielded ops a.tmps) = true := by simp [Region.wanted, hgd]
  rcases Nat.eq_zero_or_pos m with rfl | hm
  · have hn : news = [] := List.eq_nil_of_length_eq_zero hl
    subst hn
    have hown0 := hown
    rw [List.append_nil] at h
    cases sa with
    | none =>
      have hc := hsn rfl
      subst hc
      rw [if_pos hw]
      have hrun := run_append_owned_none (P := Tryz.prog) (w := w) base T o.type E i0 1 hT hi _ xs.length xs hown
      unfold Oper.wp
      simp [execOp, ho, resolve, invoke, builtin, hs, hx, hrun, Result.andThen]
      exact h _ _ hown0 (grown_refl _ _)
    | some ad =>
      have hcap : xs.length ≤ cap := by
        rcases hown.form with ⟨h, _⟩ | ⟨g', cp, hv, hc, _⟩
        · cases h
        · simp only [Value.slice.injEq] at hv; omega
      refine step_append_at w hgd s x T ho E i0 z 1 bytes hT hi hz0 hz1 hz2 hzs (by decide) g 0 xs.length cap xs hs (by omega) (fun j u hj => ?_) ad 0 c [] hx rfl (by simp) (by simp) (fun _ j hj => by simp at hj) (by unfold maxLen; omega) (by have := Nat.mul_le_mul (show xs.length + 0 ≤ 1000000 by omega) hbt; omega) (fun _ => ?_) (fun h => by omega)
      · have hj2 : j < xs.length := by
          rcases Nat.lt_or_ge j xs.length with h | h
          · exact h
          · rw [List.getElem?_eq_none h] at hj; cases hj
        rw [Nat.zero_add, hown.cell j hj2]
        simp [gt, hj]
      · have e : w.setCells g (0 + xs.length * 1) [] = w := by simp [World.setCells]
        rw [e]
        exact h _ _ hown0 (grown_refl _ _)
  · obtain ⟨b, off, rfl, _⟩ := hnews 0 hm
    refine step_append_lies w hgd s x T ho base E i0 z 1 bytes hT hi hz0 hz1 hz2 hzs (by decide) _ xs.length xs hs hown ⟨b, off, none⟩ m c news hx (by omega) (fun j u hj => ?_) h1 hm (by unfold maxLen; omega) (by have := Nat.mul_le_mul (show xs.length + m ≤ 1000000 by omega) hbt; omega) hbase w.heap.size rfl ?_
    · have hj2 : j < m := by
        rcases Nat.lt_or_ge j news.length with h | h
        · omega
        · rw [List.getElem?_eq_none h] at hj; cases hj
      obtain ⟨b', off', he, hc⟩ := hnews j hj2
      cases he
      have hgj : gt news j = u := by simp [gt, hj]
      rw [hgj] at hc
      unfold Addr.add
      split
      · rename_i h0; subst h0; exact hc
      · exact hc
    · intro g' cap' w' k1 k2 k3 _
      exact h _ w' (by unfold OwnV; rw [List.length_append, hl]; exact k1) k2

end Go.Proofs.YtdklekdpdbjfiaaGreat
