/-
  Lists of lists that a call builds by append: each row in blocks of its own.
-/
import Derived.Test.YtdfjgpioaomceaaSmall3
namespace Go.Proofs.Ytdfjgpioaomceaa
open Go.RowKit

/-- a reading that names the blocks that it uses -/
structure RdOk {α : Type} (El : (Nat → Prop) → World → Value → α → Prop) : Prop where
  mono : ∀ {F F' : Nat → Prop} {w w' : World} {u : Value} {x : α}, El F w u x → (∀ k, F k → k < w.heap.size → F' k ∧ k < w'.heap.size ∧ w'.heap[k]? = w.heap[k]?) → El F' w' u x
  one : ∀ {F : Nat → Prop} {w : World} {u : Value} {x : α}, El F w u x → u.oneCell' = true

/-- a slice whose elements lie in blocks of their own, apart from each other and from the slice's array; all in F -/
def SlD {α : Type} [Inhabited α] (El : (Nat → Prop) → World → Value → α → Prop) (F : Nat → Prop) (w : World) (v : Value) (xs : List α) : Prop :=
  ∃ (G : Nat → Nat → Prop) (H : Nat → Prop), (∀ k, H k → F k) ∧ (∀ i k, i < xs.length → G i k → F k ∧ ¬ H k) ∧ (∀ i j k, i < xs.length → j < xs.length → G i k → G j k → i = j) ∧
    ∃ a cap, v = .slice a xs.length cap ∧ (xs.length ≤ cap ∧ xs.length ≤ 9223372036854775807 ∧ (a = none → cap = 0)) ∧
      ∀ i, i < xs.length → ∃ b off u, a = some ⟨b, off, none⟩ ∧ H b ∧ b < w.heap.size ∧ w.cell? ⟨b, off + i, none⟩ = some u ∧ El (G i) w u (gt xs i)

/-- a slice of the call's own, whose elements lie in blocks of their own -/
def SlO {α : Type} [Inhabited α] (El : (Nat → Prop) → World → Value → α → Prop) (E B : Nat) (w : World) (v : Value) (xs : List α) : Prop :=
  ∃ (vs : List Value) (G : Nat → Nat → Prop), vs.length = xs.length ∧ OwnV B E w v vs ∧ (∀ i k, i < xs.length → G i k → B ≤ k ∧ v.ownBlock ≠ some k ∧ k < w.heap.size) ∧
    (∀ i j k, i < xs.length → j < xs.length → G i k → G j k → i = j) ∧ ∀ i, i < xs.length → El (G i) w (gt vs i) (gt xs i)

theorem SlO.nil {α : Type} [Inhabited α] (El : (Nat → Prop) → World → Value → α → Prop) (E B : Nat) (w : World) : SlO El E B w (.slice none 0 0) ([] : List α) :=
  ⟨[], fun _ _ => False, rfl, World.ownsRow_nil _ _ _ _, by simp, by simp, by simp⟩

theorem OwnV.form {B E : Nat} {w : World} {v : Value} {xs : List Value} (h : OwnV B E w v xs) :
    (v = .slice none 0 0 ∧ xs = []) ∨ ∃ g cap, v = .slice (some ⟨g, 0, none⟩) xs.length cap ∧ xs.length ≤ cap ∧ B ≤ g ∧ g < w.heap.size := by
  have hlt := h.lt
  obtain ⟨_, h | ⟨g, cap, cur, hv, hg, hb, hnc, _⟩⟩ := h
  · exact .inl ⟨h.1, List.eq_nil_of_length_eq_zero h.2⟩
  · exact .inr ⟨g, cap, hv, hnc, hg, (hlt g (by rw [hv]; rfl)).2⟩

theorem OwnV.cell {B E g cap n : Nat} {w : World} {xs : List Value} (h : OwnV B E w (.slice (some ⟨g, 0, none⟩) n cap) xs) (j : Nat) (hj : j < xs.length) : w.cell? ⟨g, j, none⟩ = some (gt xs j) := by
  have hn : n = xs.length := by
    obtain ⟨_, ⟨h, _⟩ | ⟨_, _, _, h, _⟩⟩ := h <;> cases h; rfl
  subst hn
  have := World.ownsRow.cellAt h j (by omega)
  rw [this]; simp [gt, hj]

theorem SlO.toD {α : Type} [Inhabited α] {El : (Nat → Prop) → World → Value → α → Prop} {E B : Nat} {w : World} {v : Value} {xs : List α} (h : SlO El E B w v xs) (hl : xs.length ≤ 9223372036854775807) : SlD El (From B) w v xs := by
  obtain ⟨vs, G, hvl, hO, hG, hd, hE⟩ := h
  refine ⟨G, fun k => B ≤ k ∧ v.ownBlock = some k, fun k hk => hk.1, fun i k hi hk => ⟨(hG i k hi hk).1, fun h => (hG i k hi hk).2.1 h.2⟩, hd, ?_⟩
  rcases hO.form with ⟨rfl, rfl⟩ | ⟨g, cap, rfl, hnc, hBg, hgs⟩
  · have : xs.length = 0 := by simpa using hvl.symm
    exact ⟨none, 0, by rw [this], ⟨by omega, by omega, fun _ => rfl⟩, fun i hi => by omega⟩
  · refine ⟨_, cap, by rw [hvl], ⟨by omega, hl, fun h => by cases h⟩, fun i hi => ⟨g, 0, gt vs i, rfl, ⟨hBg, rfl⟩, hgs, ?_, hE i hi⟩⟩
    rw [Nat.zero_add]; exact hO.cell i (by omega)

theorem SlD.mono {α : Type} [Inhabited α] {El : (Nat → Prop) → World → Value → α → Prop} (hEl : RdOk El) {F F' : Nat → Prop} {w w' : World} {v : Value} {xs : List α} (h : SlD El F w v xs)
    (hb : ∀ k, F k → k < w.heap.size → F' k ∧ k < w'.heap.size ∧ w'.heap[k]? = w.heap[k]?) : SlD El F' w' v xs := by
  obtain ⟨G, H, h1, h2, h3, a, cap, hv, hl, hc⟩ := h
  refine ⟨fun i k => G i k ∧ k < w.heap.size, fun k => H k ∧ k < w.heap.size, fun k hk => (hb k (h1 k hk.1) hk.2).1, fun i k hi hk => ⟨(hb k (h2 i k hi hk.1).1 hk.2).1, fun h => (h2 i k hi hk.1).2 h.1⟩,
    fun i j k hi hj hk hk' => h3 i j k hi hj hk.1 hk'.1, a, cap, hv, hl, fun i hi => ?_⟩
  obtain ⟨b, off, u, e1, e2, e3, e4, e5⟩ := hc i hi
  obtain ⟨f1, f2, f3⟩ := hb b (h1 b e2) e3
  exact ⟨b, off, u, e1, ⟨e2, e3⟩, f2, (World.cell?_of_block (w := w) f3).trans e4, hEl.mono e5 (fun k hk hlt => ⟨⟨hk, hlt⟩, (hb k (h2 i k hi hk).1 hlt).2⟩)⟩

theorem SlD.shape {α : Type} [Inhabited α] {El : (Nat → Prop) → World → Value → α → Prop} {F : Nat → Prop} {w : World} {v : Value} {xs : List α} (h : SlD El F w v xs) :
    ∃ a cap, v = .slice a xs.length cap ∧ xs.length ≤ cap ∧ xs.length ≤ 9223372036854775807 := by
  obtain ⟨_, _, _, _, _, a, cap, hv, hl, _⟩ := h; exact ⟨a, cap, hv, hl.1, hl.2.1⟩

theorem rdInts : RdOk (fun F w u (x : List Int) => Ints F w u x) :=
  ⟨fun h hb => Ints.mono h hb, fun h => by obtain ⟨a, cap, rfl, _⟩ := h; rfl⟩

abbrev RowsD (F : Nat → Prop) (w : World) (v : Value) (xs : List (List Int)) : Prop := SlD (fun F w u (x : List Int) => Ints F w u x) F w v xs
abbrev RowsO (B : Nat) (w : World) (v : Value) (xs : List (List Int)) : Prop := SlO (fun F w u (x : List Int) => Ints F w u x) 22 B w v xs

theorem rdRows : RdOk (fun F w u (x : List (List Int)) => RowsD F w u x) :=
  ⟨fun h hb => SlD.mono rdInts h hb, fun h => by obtain ⟨_, _, _, _, _, a, cap, rfl, _⟩ := h; rfl⟩

abbrev Rows3D (F : Nat → Prop) (w : World) (v : Value) (xs : List (List (List Int))) : Prop := SlD (fun F w u (x : List (List Int)) => RowsD F w u x) F w v xs

/-- plain reading -/
theorem RowsD.rows {F : Nat → Prop} {w : World} {v : Value} {xs : List (List Int)} (h : RowsD F w v xs) : Rows2 F w v xs := by
  obtain ⟨G, H, h1, h2, h3, a, cap, hv, hl, hc⟩ := h
  refine ⟨a, cap, hv, hl, fun i hi => ?_⟩
  obtain ⟨b, off, u, e1, e2, e3, e4, e5⟩ := hc i hi
  exact ⟨b, off, u, e1, h1 b e2, e3, e4, Ints.sub e5 (fun k hk _ => (h2 i k hi hk).1)⟩

theorem Rows3D.rows {F : Nat → Prop} {w : World} {v : Value} {xs : List (List (List Int))} (h : Rows3D F w v xs) : Rows3 F w v xs := by
  obtain ⟨G, H, h1, h2, h3, a, cap, hv, hl, hc⟩ := h
  refine ⟨a, cap, hv, hl, fun i hi => ?_⟩
  obtain ⟨b, off, u, e1, e2, e3, e4, e5⟩ := hc i hi
  exact ⟨b, off, u, e1, h1 b e2, e3, e4, Rows2.sub (RowsD.rows e5) (fun k hk _ => (h2 i k hi hk).1)⟩

theorem SlO.ext {α : Type} [Inhabited α] {El : (Nat → Prop) → World → Value → α → Prop} (hEl : RdOk El) {E B : Nat} {w w' : World} {v : Value} {xs : List α} (h : SlO El E B w v xs) (hg : Ext w w') : SlO El E B w' v xs := by
  obtain ⟨vs, G, hvl, hO, hG, hd, hE⟩ := h
  refine ⟨vs, G, hvl, hO.kept hg (by cases hv : v.ownBlock <;> simp), fun i k hi hk => ?_, hd, fun i hi => hEl.mono (hE i hi) (fun k hk hlt => ⟨hk, Nat.lt_of_lt_of_le hlt hg.size, hg.block k hlt (by simp)⟩)⟩
  obtain ⟨a, b, c⟩ := hG i k hi hk
  exact ⟨a, b, Nat.lt_of_lt_of_le c hg.size⟩

theorem SlO.weak {α : Type} [Inhabited α] {El : (Nat → Prop) → World → Value → α → Prop} {E B B' : Nat} {w : World} {v : Value} {xs : List α} (h : SlO El E B w v xs) (hB : B' ≤ B) : SlO El E B' w v xs := by
  obtain ⟨vs, G, hvl, hO, hG, hd, hE⟩ := h
  refine ⟨vs, G, hvl, ?_, fun i k hi hk => ?_, hd, hE⟩
  · obtain ⟨h1, h2⟩ := hO
    refine ⟨h1, ?_⟩
    rcases h2 with h | ⟨g, cap, cur, hv, hg, r⟩
    · exact .inl h
    · exact .inr ⟨g, cap, cur, hv, Nat.le_trans hB hg, r⟩
  · obtain ⟨a, b, c⟩ := hG i k hi hk
    exact ⟨Nat.le_trans hB a, b, c⟩

/-- append of one element that was made since -/
theorem wp_app_one {α : Type} [Inhabited α] {El : (Nat → Prop) → World → Value → α → Prop} (hEl : RdOk El) (T E : Nat) (z : Value) (bytes : Nat) (hT : Try.prog.underlying T = some (.slice E))
    (hE : (Try.prog.info? E).map (fun i => (i.zero, i.size, i.bytes)) = some (some z, 1, bytes)) (hzs : z.cells.size = 1) (hbt : bytes ≤ 64)
    {ops : Array Oper} {rest : List Oper} {o : Oper} {a : Act} {Q : Exit → Act → World → Prop} {w : World} (hgd : o.guard = none) (s x : Operand)
    (ho : o.op = Op.call { callee := Callee.builtin Builtin.append, args := #[s, x], argTypes := #[T, T] }) (B : Nat) (w1 w2 : World) (v u : Value) (xs : List α) (y : α) (hs : a.eval s = v) (hown : SlO El E B w1 v xs)
    (hg : Ext w1 w2) (hu : El (From w1.heap.size) w2 u y) (hw : w = w2.alloc (.cells #[u] E)) (hx : a.eval x = .slice (some ⟨w2.heap.size, 0, none⟩) 1 1) (hlen : xs.length ≤ 1000000) (hbase : B ≤ w1.heap.size)
    (h : ∀ v' w', SlO El E B w' v' (xs ++ [y]) → w1.grownBy w' v.ownBlock → w2.grownBy w' v.ownBlock → wpList Try.prog ops Q rest (a.put o.dst v') w') :
    wpList Try.prog ops Q (o :: rest) a w := by
  subst hw
  obtain ⟨vs, G, hvl, hO, hG, hd, hEx⟩ := hown
  have hga : Ext w2 (w2.alloc (.cells #[u] E)) := World.grownBy_alloc _ _ _
  have hO2 : OwnV B E (w2.alloc (.cells #[u] E)) v vs := hO.kept (grown_trans hg hga) (by cases hv : v.ownBlock <;> simp)
  refine wp_app T E z bytes hT hE hzs hbt hgd s x ho B v vs hs hO2 (some ⟨w2.heap.size, 0, none⟩) 1 1 [u] hx rfl (by simp) ?_ ?_ (by omega) (by have := hg.size; simp; omega) ?_
  · intro j hj
    have : j = 0 := by omega
    subst this
    exact ⟨w2.heap.size, 0, rfl, by rw [World.cell?_alloc_at _ _ _ _ rfl]; rfl⟩
  · intro u' hu'
    simp at hu'; subst hu'; exact hEl.one hu
  · intro v' w' h1 h2 _ hat
    have hvb : ∀ k, v.ownBlock = some k → B ≤ k ∧ k < w1.heap.size := hO.lt
    have hg2 : w2.grownBy w' v.ownBlock := grown_trans (grown_of_ext _ hga) h2
    have hg1 : w1.grownBy w' v.ownBlock := grown_trans (grown_of_ext _ hg) hg2
    have hv'b : ∀ k, v'.ownBlock = some k → v.ownBlock = some k ∨ w2.heap.size < k := by
      intro k hk
      rcases hat with h | h
      · exact .inl (by rw [← h]; exact hk)
      · rw [h] at hk
        have : (w2.alloc (.cells #[u] E)).heap.size = k := by simpa using hk
        simp at this
        exact .inr (by omega)
    refine h v' w' ⟨vs ++ [u], fun i k => if i < xs.length then G i k ∧ k < w1.heap.size else w1.heap.size ≤ k ∧ k < w2.heap.size, by simp [hvl], h1, ?_, ?_, ?_⟩ hg1 hg2
    · intro i k hi hk
      split at hk
      · rename_i hlt
        obtain ⟨a1, a2, a3⟩ := hG i k hlt hk.1
        refine ⟨a1, fun hv' => ?_, Nat.lt_of_lt_of_le a3 hg1.size⟩
        rcases hv'b k hv' with h | h
        · exact a2 h
        · have := hg.size; omega
      · refine ⟨by omega, fun hv' => ?_, Nat.lt_of_lt_of_le hk.2 hg2.size⟩
        rcases hv'b k hv' with h | h
        · have := hvb k h; omega
        · omega
    · intro i j k hi hj hk hk'
      simp only [List.length_append, List.length_singleton] at hi hj
      split at hk <;> split at hk'
      · exact hd i j k (by assumption) (by assumption) hk.1 hk'.1
      · omega
      · omega
      · omega
    · intro i hi
      simp only [List.length_append, List.length_singleton] at hi
      by_cases hlt : i < xs.length
      · rw [gt_append_left _ _ _ (by omega), gt_append_left _ _ _ hlt]
        simp only [if_pos hlt]
        exact hEl.mono (hEx i hlt) (fun k hk hkl => ⟨⟨hk, hkl⟩, Nat.lt_of_lt_of_le hkl hg1.size, hg1.block k hkl (fun e => (hG i k hlt hk).2.1 e.symm)⟩)
      · have hi2 : i = xs.length := by omega
        subst hi2
        rw [gt_concat, ← hvl, gt_concat]
        simp only [hvl, Nat.lt_irrefl, if_false]
        exact hEl.mono hu (fun k hk hkl => ⟨⟨hk, hkl⟩, Nat.lt_of_lt_of_le hkl hg2.size, hg2.block k hkl (fun e => by
          have hk : w1.heap.size ≤ k := hk
          have := hvb k e.symm; omega)⟩)

end Go.Proofs.Ytdfjgpioaomceaa
