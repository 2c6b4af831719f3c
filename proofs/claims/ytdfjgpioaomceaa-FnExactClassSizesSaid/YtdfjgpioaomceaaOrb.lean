/-
  The orbit that impl.classOf collects. Plain.
-/
import Derived.Test.YtdfjgpioaomceaaCmpLaw
import Derived.Test.YtdfjgpioaomceaaSCls
namespace Go.Proofs.Ytdfjgpioaomceaa
open Go.RowKit

theorem nodup_len : ∀ (N : Nat) (l : List Int), l.Nodup → (∀ x ∈ l, 0 ≤ x ∧ x < (N : Int)) → l.length ≤ N := by
  intro N
  induction N with
  | zero =>
    intro l _ h
    cases l with
    | nil => simp
    | cons a l => have := h a (by simp); omega
  | succ N ih =>
    intro l hn h
    by_cases hm : (N : Int) ∈ l
    · have h1 := ih (l.erase (N : Int)) (hn.erase _) (fun x hx => by
        have h2 := (hn.mem_erase_iff).1 hx
        have h3 := h x h2.2
        have := h2.1
        omega)
      rw [List.length_erase_of_mem hm] at h1
      omega
    · have h1 := ih l hn (fun x hx => by
        have h3 := h x hx
        have : x ≠ (N : Int) := fun e => hm (e ▸ hx)
        omega)
      omega

/-- z is put to L unless its number stands there -/
def addZ (P : Pr) (L : List (List Int)) (z : List Int) : List (List Int) := if num P z ∈ L.map (num P) then L else L ++ [z]
/-- the first g generators brought to bear on y -/
def orbIn (P : Pr) (y : List Int) (L : List (List Int)) : Nat → List (List Int)
  | 0 => L
  | g + 1 => addZ P (orbIn P y L g) (iConj P y (unitV P.orders.length g))
def orbTo (P : Pr) : Nat → Nat → List (List Int) → List (List Int)
  | 0, _, L => L
  | f + 1, i, L => if i < L.length then orbTo P f (i + 1) (orbIn P (gt L i) L P.orders.length) else L
def orb (P : Pr) (x : List Int) : List (List Int) := orbTo P ((ordP P).toNat + 1) 0 [x]

/-- a list of exponent vectors with different numbers -/
structure OrbI (P : Pr) (L : List (List Int)) : Prop where
  vec : ∀ y ∈ L, Vec P.orders y
  nd : (L.map (num P)).Nodup

theorem OrbI.len {P : Pr} (hP : Valid P) {L : List (List Int)} (h : OrbI P L) : L.length ≤ (ordP P).toNat := by
  have h1 := nodup_len (ordP P).toNat (L.map (num P)) h.nd (fun x hx => by
    obtain ⟨y, hy, rfl⟩ := List.mem_map.1 hx
    have := num_bd hP (h.vec y hy)
    omega)
  simpa using h1

theorem OrbI.add {P : Pr} {L : List (List Int)} (h : OrbI P L) {z : List Int} (hz : Vec P.orders z) : OrbI P (addZ P L z) := by
  unfold addZ
  by_cases hm : num P z ∈ L.map (num P)
  · rw [if_pos hm]; exact h
  · rw [if_neg hm]
    refine ⟨fun y hy => ?_, ?_⟩
    · rcases List.mem_append.1 hy with h1 | h1
      · exact h.vec y h1
      · rw [List.mem_singleton.1 h1]; exact hz
    · rw [List.map_append, List.nodup_append]
      refine ⟨h.nd, by simp, ?_⟩
      intro a ha b hb e
      simp at hb
      subst e hb
      exact hm ha

theorem OrbI.single {P : Pr} {x : List Int} (hx : Vec P.orders x) : OrbI P [x] := ⟨fun y hy => by rw [List.mem_singleton.1 hy]; exact hx, by simp⟩

theorem addZ_pre (P : Pr) (L : List (List Int)) (z : List Int) : ∃ M, addZ P L z = L ++ M := by
  unfold addZ; split
  · exact ⟨[], by simp⟩
  · exact ⟨[z], rfl⟩
theorem orbIn_pre (P : Pr) (y : List Int) (L : List (List Int)) (g : Nat) : ∃ M, orbIn P y L g = L ++ M := by
  induction g with
  | zero => exact ⟨[], by simp [orbIn]⟩
  | succ g ih =>
    obtain ⟨M, hM⟩ := ih
    obtain ⟨M2, h2⟩ := addZ_pre P (orbIn P y L g) (iConj P y (unitV P.orders.length g))
    exact ⟨M ++ M2, by simp only [orbIn]; rw [h2, hM, List.append_assoc]⟩
theorem OrbI.inn {P : Pr} (hP : Valid P) {L : List (List Int)} (h : OrbI P L) {y : List Int} (hy : Vec P.orders y) (g : Nat) : OrbI P (orbIn P y L g) := by
  induction g with
  | zero => exact h
  | succ g ih => exact ih.add (iConj_vec hP _ _ hy (unitV_vec hP g))

end Go.Proofs.Ytdfjgpioaomceaa
