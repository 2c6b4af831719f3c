/-
  The rows' arguments: how a presentation that came in, or a list, reads in this claim's words.
-/
import Derived.Test.YtdfjgpioaomceaaLMark
import Derived.Carry
import Derived.Deep.Slices
import Derived.ChangeSame
import Derived.ChangeSlices
import Derived.JoinedOf
import Derived.JoinedAt
import Derived.JoinedCond
import Derived.ReadAgain
namespace Go.Proofs.Ytdfjgpioaomceaa
open Go.RowKit Go.ChangeShapes Go.WideShapes Go.Deep

theorem cells_int64 : Try.prog.cellsOf 2 = 1 := by kernel_rfl
theorem cells_ints : Try.prog.cellsOf 22 = 1 := by kernel_rfl
theorem cells_rows : Try.prog.cellsOf 23 = 1 := by kernel_rfl
theorem und_int64 : Try.prog.underlying 2 = some (.int .i64) := by kernel_rfl

section
variable {H : Type} {enc : TypeId × Value → H} {W : World} {sp : Nat → Bool}

/-- a slice that was read is one of this claim's slices -/
theorem open_sl {α : Type} [Inhabited α] {El : World → Value → α → Prop} {t e : TypeId} (ht : Try.prog.underlying t = some (.slice e)) (hc : Try.prog.cellsOf e = 1)
    (hEl : ∀ n c x, DataW.trod enc Try.prog W 0 sp true n e [c] = some x → ∃ y, El W c y) {fuel : Nat} {c : Value} {x : DataW H × List MemPlace} (h : DataW.trod enc Try.prog W 0 sp true fuel t [c] = some x) :
    ∃ xs : List α, Sl El Any W c xs := by
  rcases open_slice1 ht hc h with ⟨hcs, _⟩ | ⟨a, len, cap, m, n, V, D, Pl, hcs, _, hl, hm, hmm, _, hx⟩
  · cases hcs
    exact ⟨[], none, 0, rfl, ⟨by simp, by simp, fun _ => rfl⟩, fun i hi => by simp at hi⟩
  · cases hcs
    have hlm : len ≤ m := by rw [hmm]; split <;> omega
    obtain ⟨Z, hZ⟩ := choose_lt (α := α) (n := len) (p := fun i y => El W (V i) y) (fun i hi => hEl n (V i) _ (hx i (by omega)).2)
    refine ⟨(List.range len).map Z, some a, cap, by simp, ⟨by simpa using hl, by simp; unfold maxLen at hm; omega, fun h => by cases h⟩, fun i hi => ?_⟩
    simp only [List.length_map, List.length_range] at hi
    obtain ⟨h1, h2⟩ := hx i (by omega)
    obtain ⟨b, off, spot⟩ := a
    have hs : spot = none := by
      have h0 := (hx 0 (by omega)).1
      exact World.cell?_spot (by simpa [Addr.add] using h0)
    subst hs
    have hcell : W.cell? ⟨b, off + i, none⟩ = some (V i) := by
      have e : (⟨b, off, none⟩ : Addr).add i = ⟨b, off + i, none⟩ := by
        unfold Addr.add; split
        · rename_i h; subst h; rfl
        · rfl
      rw [← e]; exact h1
    refine ⟨b, off, V i, rfl, trivial, World.block_lt_of_cell? W _ hcell, hcell, ?_⟩
    have : gt ((List.range len).map Z) i = Z i := by simp [gt, hi]
    rw [this]; exact hZ i hi

theorem open_i64 {n : Nat} {c : Value} {x : DataW H × List MemPlace} (h : DataW.trod enc Try.prog W 0 sp true n 2 [c] = some x) : ∃ y, IntEl W c y := by
  cases n with
  | zero => simp [DataW.trod] at h
  | succ n =>
    unfold DataW.trod at h
    rw [und_int64] at h
    cases c <;> simp at h
    rename_i k z
    obtain ⟨⟨rfl, _⟩, _⟩ := h
    exact ⟨z, rfl⟩
theorem open_i64s {n : Nat} {c : Value} {x : DataW H × List MemPlace} (h : DataW.trod enc Try.prog W 0 sp true n 22 [c] = some x) : ∃ l, Ints Any W c l :=
  open_sl und_ints cells_int64 (fun _ _ _ h => open_i64 h) h
theorem open_rows2 {n : Nat} {c : Value} {x : DataW H × List MemPlace} (h : DataW.trod enc Try.prog W 0 sp true n 23 [c] = some x) : ∃ l, Rows2 Any W c l :=
  open_sl (El := fun w u x => Ints Any w u x) und_rows cells_ints (fun _ _ _ h => open_i64s h) h
theorem open_rows3 {n : Nat} {c : Value} {x : DataW H × List MemPlace} (h : DataW.trod enc Try.prog W 0 sp true n 24 [c] = some x) : ∃ l, Rows3 Any W c l :=
  open_sl (El := fun w u x => Rows2 Any w u x) und_rows3 cells_rows (fun _ _ _ h => open_rows2 h) h

theorem cells_pres : Try.prog.cellsOf 26 = 3 := by kernel_rfl

set_option maxRecDepth 100000 in
/-- a presentation that came in -/
theorem open_pres {base : Nat} {v : Value} {d : DataW H} {p : List MemPlace} (hv : Value.okWide Try.prog W .any base 26 v) (h : DataW.Trod enc Try.prog W 0 sp true 26 v d p) : ∃ P, PresV Any W v P := by
  obtain ⟨fs, hfs, h3⟩ : ∃ fs, Try.prog.underlying 26 = some (.struct fs) ∧ fs.map (fun f => (f.offset, f.type)) = #[(0, 22), (1, 23), (2, 24)] := ⟨_, Try.underlying26, by simp⟩
  obtain ⟨cs, rfl, hsz⟩ := okWide_struct hfs hv
  rw [cells_pres] at hsz
  obtain ⟨n, hn⟩ := h
  obtain ⟨xs, m, _, _, hl, hlen, hf⟩ := DataW.trod_struct hfs hn
  obtain ⟨c0, c1, c2, rfl⟩ : ∃ c0 c1 c2, cs = #[c0, c1, c2] := by
    match cs, hsz with
    | ⟨[c0, c1, c2]⟩, _ => exact ⟨c0, c1, c2, rfl⟩
  have hfsz : fs.size = 3 := by have := congrArg Array.size h3; simpa using this
  have hget : ∀ i (hi : i < 3), ∃ f, fs[i]? = some f ∧ (f.offset, f.type) = (#[(0, 22), (1, 23), (2, 24)] : Array (Nat × TypeId))[i]'(by simpa using hi) := fun i hi => by
    have h1 : (fs.map (fun f => (f.offset, f.type)))[i]? = (#[(0, 22), (1, 23), (2, 24)] : Array (Nat × TypeId))[i]? := by rw [h3]
    rw [Array.getElem?_map, Array.getElem?_eq_getElem (by omega), Array.getElem?_eq_getElem (by simpa using hi)] at h1
    exact ⟨_, Array.getElem?_eq_getElem (by omega), by simpa using h1⟩
  obtain ⟨f0, g0, e0⟩ := hget 0 (by omega)
  obtain ⟨f1, g1, e1⟩ := hget 1 (by omega)
  obtain ⟨f2, g2, e2⟩ := hget 2 (by omega)
  simp only [Prod.mk.injEq, List.getElem_toArray, List.getElem_cons_zero, List.getElem_cons_succ] at e0 e1 e2
  have k0 := hf 0 f0 g0
  have k1 := hf 1 f1 g1
  have k2 := hf 2 f2 g2
  rw [e0.1, e0.2, cells_ints, List.getElem?_eq_getElem (by omega)] at k0
  rw [e1.1, e1.2, cells_rows, List.getElem?_eq_getElem (by omega)] at k1
  rw [e2.1, e2.2, show Try.prog.cellsOf 24 = 1 by kernel_rfl, List.getElem?_eq_getElem (by omega)] at k2
  obtain ⟨o, ho⟩ := open_i64s k0
  obtain ⟨q, hq⟩ := open_rows2 k1
  obtain ⟨r, hr⟩ := open_rows3 k2
  exact ⟨⟨o, q, r⟩, c0, c1, c2, rfl, ⟨ho, hq, hr⟩⟩
end

end Go.Proofs.Ytdfjgpioaomceaa
