/-
  The map of numbers seen, of impl.classOf: a set of integers.
-/
import Derived.Test.YtchbegeklckgnaaGreatK4
import Derived.Maps.OwnSet
namespace Go.Proofs.YtchbegeklckgnaaGreat
open Go.RowKit
open Go.Maps (Keyed)

theorem und_seen : Tryz.prog.underlying 91 = some (.map 2 4) := by kernel_rfl
theorem und_bool : Tryz.prog.underlying 4 = some .bool := by kernel_rfl
theorem und_int64 : Tryz.prog.underlying 2 = some (.int .i64) := by kernel_rfl

/-- the map in block b holds just the numbers ns -/
def Seen (w : World) (b : Nat) (ns : List Int) : Prop :=
  ∃ (n : Nat) (D : DataW Unit), w.ownsMap Tryz.prog 2 (plainElem Tryz.prog 4) b n D ∧ n ≤ ns.length ∧ Maps.IsMap D ∧
    ∀ a : Int, (Lit.int .i64 a).wf = true → D.atKey (.int .i64 a) (.lit (.bool false)) = .lit (.bool (decide (a ∈ ns)))

theorem Seen.made (w : World) : Seen (w.alloc (.map #[] 0)) w.heap.size [] :=
  ⟨0, .map [], World.ownsMap_made _ _ _ _, Nat.le_refl _, Maps.isMap_empty, fun a _ => by simp [WideAt.atKey_none]⟩
theorem Seen.lt {w : World} {b : Nat} {ns : List Int} (h : Seen w b ns) : b < w.heap.size := by
  obtain ⟨n, D, h, _⟩ := h
  exact h.lt
theorem Seen.kept {w w' : World} {b : Nat} {ns : List Int} {r : Option Nat} (h : Seen w b ns) (hg : w.grownBy w' r) (hne : some b ≠ r) : Seen w' b ns := by
  obtain ⟨n, D, h, h2⟩ := h
  exact ⟨n, D, h.kept hg hne, h2⟩
theorem Seen.look {w : World} {b : Nat} {ns : List Int} (h : Seen w b ns) (a : Int) (ha : (Lit.int .i64 a).wf = true) :
    (Instr.lookup 91 (.map (some b)) (.int .i64 a) false).run Tryz.prog w = .ok (.bool (decide (a ∈ ns))) w := by
  obtain ⟨n, D, h, _, _, hat⟩ := h
  obtain ⟨v, ps, hrun, hv⟩ := h.lookup (Maps.int_keyed und_int64) und_seen (z := .bool false) (by kernel_rfl) (plainElem_bool und_bool false) (Maps.keyOf_int_mk und_int64 ha)
  rw [hat a ha] at hv
  have hvv : v = .bool (decide (a ∈ ns)) := by
    unfold plainElem at hv
    rw [und_bool] at hv
    cases v <;> simp at hv
    rw [hv.1]
  rw [hrun, hvv]
theorem Seen.update {w : World} {b : Nat} {ns : List Int} (h : Seen w b ns) (a : Int) (ha : (Lit.int .i64 a).wf = true) (hl : ns.length ≤ 1048576) :
    ∃ w', (Instr.mapUpdate 91 (.map (some b)) (.int .i64 a) (.bool true)).run Tryz.prog w = .ok () w' ∧ Seen w' b (a :: ns) ∧ w.grownBy w' (some b) := by
  obtain ⟨n, D, h, hn, hM, hat⟩ := h
  obtain ⟨w', hrun, hown, hg⟩ := h.update (Maps.int_keyed und_int64) und_seen (by unfold maxLen; omega) (Maps.keyOf_int_mk und_int64 ha) (plainElem_bool und_bool true)
  refine ⟨w', hrun, ⟨n + 1, _, hown, by simp; omega, hM.put _ _, ?_⟩, hg⟩
  intro c hc
  by_cases he : c = a
  · subst he
    rw [Maps.atKey_put_same hM (by trivial)]
    simp
  · rw [Maps.atKey_put_other (by intro e; cases e; exact he rfl), hat c hc]
    simp [he]

theorem Seen.congr {w : World} {b : Nat} {ns ms : List Int} (h : Seen w b ns) (hl : ns.length ≤ ms.length) (he : ∀ a, a ∈ ns ↔ a ∈ ms) : Seen w b ms := by
  obtain ⟨n, D, h1, h2, h3, h4⟩ := h
  exact ⟨n, D, h1, Nat.le_trans h2 hl, h3, fun a ha => by rw [h4 a ha]; simp [he a]⟩

end Go.Proofs.YtchbegeklckgnaaGreat
