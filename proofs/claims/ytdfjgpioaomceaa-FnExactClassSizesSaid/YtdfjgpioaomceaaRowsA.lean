/-
  Lists of lists that a call builds by append, none of whose blocks is in A (a map that is written beside them).
-/
import Derived.Test.YtdfjgpioaomceaaMapSet
namespace Go.Proofs.Ytdfjgpioaomceaa
open Go.RowKit

/-- SlO, and none of its blocks is in A -/
def SlOA {α : Type} [Inhabited α] (El : (Nat → Prop) → World → Value → α → Prop) (E B : Nat) (A : Nat → Prop) (w : World) (v : Value) (xs : List α) : Prop :=
  ∃ (vs : List Value) (G : Nat → Nat → Prop), vs.length = xs.length ∧ OwnV B E w v vs ∧ (∀ i k, i < xs.length → G i k → B ≤ k ∧ v.ownBlock ≠ some k ∧ k < w.heap.size) ∧
    (∀ i j k, i < xs.length → j < xs.length → G i k → G j k → i = j) ∧ (∀ i, i < xs.length → El (G i) w (gt vs i) (gt xs i)) ∧ (∀ i k, i < xs.length → G i k → ¬ A k) ∧ ∀ k, v.ownBlock = some k → ¬ A k

theorem SlOA.o {α : Type} [Inhabited α] {El : (Nat → Prop) → World → Value → α → Prop} {E B : Nat} {A : Nat → Prop} {w : World} {v : Value} {xs : List α} (h : SlOA El E B A w v xs) : SlO El E B w v xs := by
  obtain ⟨vs, G, h1, h2, h3, h4, h5, _⟩ := h
  exact ⟨vs, G, h1, h2, h3, h4, h5⟩

/-- blocks in A that are not older than the list come into being behind it -/
theorem SlO.avoid {α : Type} [Inhabited α] {El : (Nat → Prop) → World → Value → α → Prop} {E B : Nat} {A : Nat → Prop} {w : World} {v : Value} {xs : List α} (h : SlO El E B w v xs) (hA : ∀ k, A k → w.heap.size ≤ k) : SlOA El E B A w v xs := by
  obtain ⟨vs, G, h1, h2, h3, h4, h5⟩ := h
  exact ⟨vs, G, h1, h2, h3, h4, h5, fun i k hi hk ha => by have := (h3 i k hi hk).2.2; have := hA k ha; omega, fun k hk ha => by have := (h2.lt k hk).2; have := hA k ha; omega⟩

theorem SlOA.ext {α : Type} [Inhabited α] {El : (Nat → Prop) → World → Value → α → Prop} (hEl : RdOk El) {E B : Nat} {A : Nat → Prop} {w w' : World} {v : Value} {xs : List α} (h : SlOA El E B A w v xs) (hg : Ext w w') : SlOA El E B A w' v xs := by
  obtain ⟨vs, G, hvl, hO, hG, hd, hE, hr⟩ := h
  refine ⟨vs, G, hvl, hO.kept hg (by cases hv : v.ownBlock <;> simp), fun i k hi hk => ?_, hd, fun i hi => hEl.mono (hE i hi) (fun k hk hlt => ⟨hk, Nat.lt_of_lt_of_le hlt hg.size, hg.block k hlt (by simp)⟩), hr⟩
  obtain ⟨a, b, c⟩ := hG i k hi hk
  exact ⟨a, b, Nat.lt_of_lt_of_le c hg.size⟩

/-- blocks that are not older than the list may be put to A -/
theorem SlOA.more {α : Type} [Inhabited α] {El : (Nat → Prop) → World → Value → α → Prop} {E B : Nat} {A A' : Nat → Prop} {w : World} {v : Value} {xs : List α} (h : SlOA El E B A w v xs) (hA : ∀ k, A' k → A k ∨ w.heap.size ≤ k) : SlOA El E B A' w v xs := by
  obtain ⟨vs, G, h1, h2, h3, h4, h5, h6, h7⟩ := h
  refine ⟨vs, G, h1, h2, h3, h4, h5, fun i k hi hk ha => ?_, fun k hk ha => ?_⟩
  · rcases hA k ha with h | h
    · exact h6 i k hi hk h
    · have := (h3 i k hi hk).2.2; omega
  · rcases hA k ha with h | h
    · exact h7 k hk h
    · have := (h2.lt k hk).2; omega
theorem SlOA.less {α : Type} [Inhabited α] {El : (Nat → Prop) → World → Value → α → Prop} {E B : Nat} {A A' : Nat → Prop} {w : World} {v : Value} {xs : List α} (h : SlOA El E B A w v xs) (hA : ∀ k, A' k → A k) : SlOA El E B A' w v xs :=
  h.more fun k hk => .inl (hA k hk)
theorem SlOA.avoids {α : Type} [Inhabited α] {El : (Nat → Prop) → World → Value → α → Prop} {E B : Nat} {A : Nat → Prop} {w : World} {v : Value} {xs : List α} (h : SlOA El E B A w v xs) (k : Nat) (hk : v.ownBlock = some k) : ¬ A k ∧ B ≤ k ∧ k < w.heap.size := by
  obtain ⟨vs, G, h1, h2, h3, h4, h5, h6, h7⟩ := h
  exact ⟨h7 k hk, h2.lt k hk⟩

/-- a block in A is written -/
theorem SlOA.kept {α : Type} [Inhabited α] {El : (Nat → Prop) → World → Value → α → Prop} (hEl : RdOk El) {E B m : Nat} {A : Nat → Prop} {w w' : World} {v : Value} {xs : List α} (h : SlOA El E B A w v xs) (hg : w.grownBy w' (some m)) (hm : A m) : SlOA El E B A w' v xs := by
  obtain ⟨vs, G, hvl, hO, hG, hd, hE, hr, hr2⟩ := h
  refine ⟨vs, G, hvl, hO.kept hg ?_, fun i k hi hk => ?_, hd, fun i hi => hEl.mono (hE i hi) (fun k hk hlt => ⟨hk, Nat.lt_of_lt_of_le hlt hg.size, hg.block k hlt (fun e => hr i k hi hk (by cases e; exact hm))⟩), hr, hr2⟩
  · cases hv : v.ownBlock with
    | none => exact .inl rfl
    | some b => exact .inr (fun e => hr2 b hv (by cases e; exact hm))
  · obtain ⟨a, b, c⟩ := hG i k hi hk
    exact ⟨a, b, Nat.lt_of_lt_of_le c hg.size⟩

/-- append of one element that was made since -/
theorem wp_app_oneA {α : Type} [Inhabited α] {El : (Nat → Prop) → World → Value → α → Prop} (hEl : RdOk El) (T E : Nat) (z : Value) (bytes : Nat) (hT : Try.prog.underlying T = some (.slice E))
    (hE : (Try.prog.info? E).map (fun i => (i.zero, i.size, i.bytes)) = some (some z, 1, bytes)) (hzs : z.cells.size = 1) (hbt : bytes ≤ 64)
    {ops : Array Oper} {rest : List Oper} {o : Oper} {a : Act} {Q : Exit → Act → World → Prop} {w : World} (hgd : o.guard = none) (s x : Operand)
    (ho : o.op = Op.call { callee := Callee.builtin Builtin.append, args := #[s, x], argTypes := #[T, T] }) (B : Nat) (A : Nat → Prop) (w1 w2 : World) (v u : Value) (xs : List α) (y : α) (hs : a.eval s = v) (hown : SlOA El E B A w1 v xs) (hA : ∀ k, A k → k < w1.heap.size)
    (r : Option Nat) (hg : w1.grownBy w2 r) (hrA : ∀ k, r = some k → A k) (hu : El (From w1.heap.size) w2 u y) (hw : w = w2.alloc (.cells #[u] E)) (hx : a.eval x = .slice (some ⟨w2.heap.size, 0, none⟩) 1 1) (hlen : xs.length ≤ 1000000) (hbase : B ≤ w1.heap.size)
    (h : ∀ v' w', SlOA El E B A w' v' (xs ++ [y]) → w2.grownBy w' v.ownBlock → wpList Try.prog ops Q rest (a.put o.dst v') w') :
    wpList Try.prog ops Q (o :: rest) a w := by
  subst hw
  obtain ⟨vs, G, hvl, hO, hG, hd, hEx, hr, hr2⟩ := hown
  have hga : Ext w2 (w2.alloc (.cells #[u] E)) := World.grownBy_alloc _ _ _
  have hne : v.ownBlock = none ∨ v.ownBlock ≠ r := by
    cases hv : v.ownBlock with
    | none => exact .inl rfl
    | some b => exact .inr (fun e => hr2 b hv (hrA b e.symm))
  have hO2 : OwnV B E (w2.alloc (.cells #[u] E)) v vs := hO.kept (grown_trans hg (grown_of_ext _ hga)) hne
  refine wp_app T E z bytes hT hE hzs hbt hgd s x ho B v vs hs hO2 (some ⟨w2.heap.size, 0, none⟩) 1 1 [u] hx rfl (by simp) ?_ ?_ (by omega) (by have := hg.size; simp; omega) ?_
  · intro j hj
    have : j = 0 := by omega
    subst this
    exact ⟨w2.heap.size, 0, rfl, by rw [World.cell?_alloc_at _ _ _ _ rfl]; rfl⟩
  · intro u' hu'
    simp at hu'; subst hu'; exact hEl.one hu
  · intro v' w' h1 h2 _ hat
    have hvb : ∀ k, v.ownBlock = some k → B ≤ k ∧ k < w1.heap.size := hO.lt
    have hg2 : w2.grownBy w' v.ownBlock := grown_trans (grown_of_ext _ hga) h2
    have hsz : w1.heap.size ≤ w'.heap.size := Nat.le_trans hg.size hg2.size
    have hv'b : ∀ k, v'.ownBlock = some k → v.ownBlock = some k ∨ w2.heap.size < k := by
      intro k hk
      rcases hat with h | h
      · exact .inl (by rw [← h]; exact hk)
      · rw [h] at hk
        have : (w2.alloc (.cells #[u] E)).heap.size = k := by simpa using hk
        simp at this
        exact .inr (by omega)
    refine h v' w' ⟨vs ++ [u], fun i k => if i < xs.length then G i k ∧ k < w1.heap.size else w1.heap.size ≤ k ∧ k < w2.heap.size, by simp [hvl], h1, ?_, ?_, ?_, ?_, ?_⟩ hg2
    · intro i k hi hk
      split at hk
      · rename_i hlt
        obtain ⟨a1, a2, a3⟩ := hG i k hlt hk.1
        refine ⟨a1, fun hv' => ?_, Nat.lt_of_lt_of_le a3 hsz⟩
        rcases hv'b k hv' with h | h
        · exact a2 h
        · have := hg.size; omega
      · refine ⟨by omega, fun hv' => ?_, Nat.lt_of_lt_of_le hk.2 hg2.size⟩
        rcases hv'b k hv' with h | h
        · have := hvb k h; omega
        · omega
    · intro i j k hi hj hk hk'
      simp only [List.length_append, List.length_singleton] at hi hj
      split at hk <;> split at hk'
      · exact hd i j k (by assumption) (by assumption) hk.1 hk'.1
      · omega
      · omega
      · omega
    · intro i hi
      simp only [List.length_append, List.length_singleton] at hi
      by_cases hlt : i < xs.length
      · rw [gt_append_left _ _ _ (by omega), gt_append_left _ _ _ hlt]
        simp only [if_pos hlt]
        exact hEl.mono (hEx i hlt) (fun k hk hkl => ⟨⟨hk, hkl⟩, Nat.lt_of_lt_of_le hkl hsz, (hg2.block k (Nat.lt_of_lt_of_le hkl hg.size) (fun e => (hG i k hlt hk).2.1 e.symm)).trans (hg.block k hkl (fun e => hr i k hlt hk (hrA k e.symm)))⟩)
      · have hi2 : i = xs.length := by omega
        subst hi2
        rw [gt_concat, ← hvl, gt_concat]
        simp only [hvl, Nat.lt_irrefl, if_false]
        exact hEl.mono hu (fun k hk hkl => ⟨⟨hk, hkl⟩, Nat.lt_of_lt_of_le hkl hg2.size, hg2.block k hkl (fun e => by
          have hk : w1.heap.size ≤ k := hk
          have := hvb k e.symm; omega)⟩)
    · intro i k hi hk ha
      split at hk
      · exact hr i k (by assumption) hk.1 ha
      · have := hA k ha; omega
    · intro k hk ha
      rcases hv'b k hk with h | h
      · exact hr2 k h ha
      · have := hA k ha; have := hg.size; omega

theorem wp_app_rowA {ops : Array Oper} {rest : List Oper} {o : Oper} {a : Act} {Q : Exit → Act → World → Prop} {w : World} (hgd : o.guard = none) (s x : Operand)
    (ho : o.op = Op.call { callee := Callee.builtin Builtin.append, args := #[s, x], argTypes := #[23, 23] }) (B : Nat) (A : Nat → Prop) (w1 w2 : World) (v u : Value) (xs : List (List Int)) (y : List Int) (hs : a.eval s = v)
    (hown : SlOA (fun F w u (x : List Int) => Ints F w u x) 22 B A w1 v xs) (hA : ∀ k, A k → k < w1.heap.size)
    (r : Option Nat) (hg : w1.grownBy w2 r) (hrA : ∀ k, r = some k → A k) (hu : Ints (From w1.heap.size) w2 u y) (hw : w = w2.alloc (.cells #[u] 22)) (hx : a.eval x = .slice (some ⟨w2.heap.size, 0, none⟩) 1 1) (hlen : xs.length ≤ 1000000) (hbase : B ≤ w1.heap.size)
    (h : ∀ v' w', SlOA (fun F w u (x : List Int) => Ints F w u x) 22 B A w' v' (xs ++ [y]) → w2.grownBy w' v.ownBlock → wpList Try.prog ops Q rest (a.put o.dst v') w') :
    wpList Try.prog ops Q (o :: rest) a w :=
  wp_app_oneA rdInts 23 22 (.slice none 0 0) 24 und_rows Try.infoRow rfl (by decide) hgd s x ho B A w1 w2 v u xs y hs hown hA r hg hrA hu hw hx hlen hbase h

end Go.Proofs.Ytdfjgpioaomceaa
