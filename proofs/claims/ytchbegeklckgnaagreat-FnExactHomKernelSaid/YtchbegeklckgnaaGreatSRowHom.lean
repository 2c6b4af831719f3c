/-
  The rows' arguments: how a homomorphism's data that came in reads in this claim's words.
-/
import Derived.Test.YtchbegeklckgnaaGreatK8
import Derived.Test.YtchbegeklckgnaaGreatSHomKer
namespace Go.Proofs.YtchbegeklckgnaaGreat
open Go.RowKit Go.ChangeShapes Go.WideShapes Go.Deep

theorem cells_hom : Tryz.prog.cellsOf 28 = 7 := by kernel_rfl

section
variable {H : Type} {enc : TypeId × Value → H} {W : World} {sp : Nat → Bool}

set_option maxRecDepth 100000 in
theorem open_pres_cs {n : Nat} {c0 c1 c2 : Value} {x : DataW H × List MemPlace} (h : DataW.trod enc Tryz.prog W 0 sp true n 26 [c0, c1, c2] = some x) : ∃ P, Pres3 Any W c0 c1 c2 P := by
  obtain ⟨fs, hfs, h3⟩ : ∃ fs, Tryz.prog.underlying 26 = some (.struct fs) ∧ fs.map (fun f => (f.offset, f.type)) = #[(0, 22), (1, 23), (2, 24)] := ⟨_, Tryz.underlying26, by simp⟩
  obtain ⟨xs, m, _, _, hl, hlen, hf⟩ := DataW.trod_struct hfs h
  have hfsz : fs.size = 3 := by have := congrArg Array.size h3; simpa using this
  have hget : ∀ i (hi : i < 3), ∃ f, fs[i]? = some f ∧ (f.offset, f.type) = (#[(0, 22), (1, 23), (2, 24)] : Array (Nat × TypeId))[i]'(by simpa using hi) := fun i hi => by
    have h1 : (fs.map (fun f => (f.offset, f.type)))[i]? = (#[(0, 22), (1, 23), (2, 24)] : Array (Nat × TypeId))[i]? := by rw [h3]
    rw [Array.getElem?_map, Array.getElem?_eq_getElem (by omega), Array.getElem?_eq_getElem (by simpa using hi)] at h1
    exact ⟨_, Array.getElem?_eq_getElem (by omega), by simpa using h1⟩
  obtain ⟨f0, g0, e0⟩ := hget 0 (by omega)
  obtain ⟨f1, g1, e1⟩ := hget 1 (by omega)
  obtain ⟨f2, g2, e2⟩ := hget 2 (by omega)
  simp only [Prod.mk.injEq, List.getElem_toArray, List.getElem_cons_zero, List.getElem_cons_succ] at e0 e1 e2
  have k0 := hf 0 f0 g0
  have k1 := hf 1 f1 g1
  have k2 := hf 2 f2 g2
  rw [e0.1, e0.2, cells_ints, List.getElem?_eq_getElem (by omega)] at k0
  rw [e1.1, e1.2, cells_rows, List.getElem?_eq_getElem (by omega)] at k1
  rw [e2.1, e2.2, show Tryz.prog.cellsOf 24 = 1 by kernel_rfl, List.getElem?_eq_getElem (by omega)] at k2
  obtain ⟨o, ho⟩ := open_i64s k0
  obtain ⟨q, hq⟩ := open_rows2 k1
  obtain ⟨r, hr⟩ := open_rows3 k2
  exact ⟨⟨o, q, r⟩, ⟨ho, hq, hr⟩⟩

set_option maxRecDepth 100000 in
/-- a homomorphism's data that came in -/
theorem open_hom {base : Nat} {v : Value} {d : DataW H} {p : List MemPlace} (hv : Value.okWide Tryz.prog W .any base 28 v) (h : DataW.Trod enc Tryz.prog W 0 sp true 28 v d p) : ∃ P Q Is, HomV Any W v P Q Is := by
  obtain ⟨fs, hfs, h3⟩ : ∃ fs, Tryz.prog.underlying 28 = some (.struct fs) ∧ fs.map (fun f => (f.offset, f.type)) = #[(0, 26), (3, 26), (6, 23)] := ⟨_, Tryz.underlying28, by simp⟩
  obtain ⟨cs, rfl, hsz⟩ := okWide_struct hfs hv
  rw [cells_hom] at hsz
  obtain ⟨n, hn⟩ := h
  obtain ⟨xs, m, _, _, hl, hlen, hf⟩ := DataW.trod_struct hfs hn
  obtain ⟨c0, c1, c2, c3, c4, c5, c6, rfl⟩ : ∃ c0 c1 c2 c3 c4 c5 c6, cs = #[c0, c1, c2, c3, c4, c5, c6] := by
    match cs, hsz with
    | ⟨[c0, c1, c2, c3, c4, c5, c6]⟩, _ => exact ⟨c0, c1, c2, c3, c4, c5, c6, rfl⟩
  have hfsz : fs.size = 3 := by have := congrArg Array.size h3; simpa using this
  have hget : ∀ i (hi : i < 3), ∃ f, fs[i]? = some f ∧ (f.offset, f.type) = (#[(0, 26), (3, 26), (6, 23)] : Array (Nat × TypeId))[i]'(by simpa using hi) := fun i hi => by
    have h1 : (fs.map (fun f => (f.offset, f.type)))[i]? = (#[(0, 26), (3, 26), (6, 23)] : Array (Nat × TypeId))[i]? := by rw [h3]
    rw [Array.getElem?_map, Array.getElem?_eq_getElem (by omega), Array.getElem?_eq_getElem (by simpa using hi)] at h1
    exact ⟨_, Array.getElem?_eq_getElem (by omega), by simpa using h1⟩
  obtain ⟨f0, g0, e0⟩ := hget 0 (by omega)
  obtain ⟨f1, g1, e1⟩ := hget 1 (by omega)
  obtain ⟨f2, g2, e2⟩ := hget 2 (by omega)
  simp only [Prod.mk.injEq, List.getElem_toArray, List.getElem_cons_zero, List.getElem_cons_succ] at e0 e1 e2
  have k0 := hf 0 f0 g0
  have k1 := hf 1 f1 g1
  have k2 := hf 2 f2 g2
  rw [e0.1, e0.2, cells_pres, List.getElem?_eq_getElem (by omega)] at k0
  rw [e1.1, e1.2, cells_pres, List.getElem?_eq_getElem (by omega)] at k1
  rw [e2.1, e2.2, cells_rows, List.getElem?_eq_getElem (by omega)] at k2
  obtain ⟨P, hP⟩ := open_pres_cs (c0 := c0) (c1 := c1) (c2 := c2) k0
  obtain ⟨Q, hQ⟩ := open_pres_cs (c0 := c3) (c1 := c4) (c2 := c5) k1
  obtain ⟨Is, hI⟩ := open_rows2 (c := c6) k2
  exact ⟨P, Q, Is, c0, c1, c2, c3, c4, c5, c6, rfl, hP, hQ, hI⟩
end

end Go.Proofs.YtchbegeklckgnaaGreat
