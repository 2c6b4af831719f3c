/-
  Numbers of elements: impl.numberOf, spec.l10Number, impl.elementAt, spec.l10At, spec.l10One.
  impl.allElements, impl.generators.
  impl.pivots.
  Words of memory that laws and functions share: places in rows, rows in blocks of their own, a presentation in blocks of its own, a struct of three cells, what a law keeps in view.
  The order of slices.Compare is a total order on lists of integers. Plain.
  append of one element inside a region that draws its order.
  append to a queue of rows inside a region that draws its order; v[1:] at rows.
  Plain: relators, their values under images, homomorphisms and preimages.
  Plain: a presentation whose relations are held by members of a monoid that cancel, no two vectors alike, is consistent; words of bijections; a regular realisation makes a presentation consistent.
  Plain: the elements of a consistent presentation as a type with products; subgroups, cosets, their counting.
  Plain: collecting positive words: what is computed, and that in a group a collected word is worth its vector.
  append of one integer inside a region that draws its order.
  Rows of bools of the call's own; a region that ends in a store.
  append of one value, of one integer, to a row of the call's own.
  Bijections, the program's side: isBijection, compose, inverseBijection, IsBijection, ComposeBijections.
  Plain: the list that RegularRealisation answers is a regular realisation; a word maps 0 to the number of its value.
  Words: impl.abs, normalWord, invertWord, slices.Reverse; spec.l07Word, l06Invert.
  Words: spec.l07Word, l06Invert.
  Words: slices.Reverse, impl.invertWord.
  slices.Repeat at a list of one integer.
  The reference's closure: spec.l01Own2, l01Inv, l10Comm, l12Close.
  append of a whole list of rows, in a region that draws; l01Own2 hands back a list that is not nil.
  append of a list of integers onto a list of the call's own, in a region that draws.
  impl.PresentationRelators.
  Plain: relators are words, and short.
  Plain: a relator laid into a word, its inverse letters written out, leaves the word's value.
  Moves of a walk through a region whose order is open, their side conditions paid by themselves.
-/
import Derived.Test.YtoakmefajbbggaaGreatQ1
import Derived.Test.YtoakmefajbbggaaGreatQ3
import Derived.Test.YtoakmefajbbggaaGreatQ4
import Derived.Deep.AppendLies
import Derived.StillTailTactics
import Derived.Sort.OwnSortedInts
import Derived.Shelf.SlicesE.Reverse
import Derived.Laws.CopyOwn
import Derived.Deep.RegionLaw
import Derived.Shelf.Bits.Mul64
import Derived.Deep.RegionHeld3
namespace Go.Proofs.YtoakmefajbbggaaGreat
open Go.RowKit



end Go.Proofs.YtoakmefajbbggaaGreat
namespace Go.Proofs.YtoakmefajbbggaaGreat
open Go.RowKit

theorem und_rows : Tryz.prog.underlying 25 = some (.slice 24) := by kernel_rfl
theorem Tryz.infoRow : (Tryz.prog.info? 24).map (fun i => (i.zero, i.size, i.bytes)) = some (some (.slice none 0 0), 1, 24) := by kernel_rfl

/-- append(rows, row), the row made since -/
theorem wp_app_row {ops : Array Oper} {rest : List Oper} {o : Oper} {a : Act} {Q : Exit → Act → World → Prop} {w : World} (hgd : o.guard = none) (s x : Operand)
    (ho : o.op = Op.call { callee := Callee.builtin Builtin.append, args := #[s, x], argTypes := #[25, 25] }) (B : Nat) (w1 w2 : World) (v u : Value) (xs : List (List Int)) (y : List Int) (hs : a.eval s = v) (hown : RowsO B w1 v xs)
    (hg : Ext w1 w2) (hu : OwnIn (From w1.heap.size) w2 u y) (hw : w = w2.alloc (.cells #[u] 24)) (hx : a.eval x = .slice (some ⟨w2.heap.size, 0, none⟩) 1 1) (hlen : xs.length ≤ 1000000) (hbase : B ≤ w1.heap.size)
    (h : ∀ v' w', RowsO B w' v' (xs ++ [y]) → w1.grownBy w' v.ownBlock → w2.grownBy w' v.ownBlock → wpList Tryz.prog ops Q rest (a.put o.dst v') w') :
    wpList Tryz.prog ops Q (o :: rest) a w :=
  wp_app_one rdOwn 25 24 (.slice none 0 0) 24 und_rows Tryz.infoRow rfl (by decide) hgd s x ho B w1 w2 v u xs y hs hown hg hu hw hx hlen hbase h

theorem SlO.lt {α : Type} [Inhabited α] {El : (Nat → Prop) → World → Value → α → Prop} {E B : Nat} {w : World} {v : Value} {xs : List α} (h : SlO El E B w v xs) (k : Nat) (hk : v.ownBlock = some k) : B ≤ k ∧ k < w.heap.size := by
  obtain ⟨vs, G, _, hO, _⟩ := h
  exact hO.lt k hk

theorem SlO.extw {α : Type} [Inhabited α] {El : (Nat → Prop) → World → Value → α → Prop} {E B : Nat} {w w1 w2 : World} {v : Value} {xs : List α} (h : SlO El E B w1 v xs) (hg : Ext w w1) (hB : w.heap.size ≤ B) (k : w1.grownBy w2 v.ownBlock) : Ext w w2 :=
  grown_own hg k (fun j hj hlt => by have := (h.lt j hj).1; omega)

/-- the generators of a group -/
def gensOf (n : Nat) : List (List Int) := (List.range n).map (fun k : Nat => unitV n k)

end Go.Proofs.YtoakmefajbbggaaGreat
namespace Go.Proofs.YtoakmefajbbggaaGreat
open Go.RowKit

theorem gtMem {α : Type} [Inhabited α] {l : List α} {i : Nat} (h : i < l.length) : gt l i ∈ l := by rw [gt_eq l i h]; exact List.getElem_mem h

end Go.Proofs.YtoakmefajbbggaaGreat
namespace Go.Proofs.YtoakmefajbbggaaGreat
open Go.RowKit

theorem Tryz.infoRows : (Tryz.prog.info? 25).map (fun i => (i.zero, i.size, i.bytes)) = some (some (.slice none 0 0), 1, 24) := by kernel_rfl
theorem und_rows3 : Tryz.prog.underlying 26 = some (.slice 25) := by kernel_rfl

/-- a struct of three cells that may be written -/
def Box3 (W : World) (b : Nat) (x0 x1 x2 : Value) : Prop :=
  b < W.heap.size ∧ W.cell? ⟨b, 0, none⟩ = some x0 ∧ W.cell? ⟨b, 1, none⟩ = some x1 ∧ W.cell? ⟨b, 2, none⟩ = some x2 ∧ ∀ k, W.frozen? ⟨b, k, none⟩ = false
theorem Box3.ext {W W' : World} {b : Nat} {x0 x1 x2 : Value} (h : Box3 W b x0 x1 x2) (hg : Ext W W') : Box3 W' b x0 x1 x2 := by
  obtain ⟨h0, h1, h2, h3, h4⟩ := h
  exact ⟨Nat.lt_of_lt_of_le h0 hg.size, hg.cell h1 (by simp), hg.cell h2 (by simp), hg.cell h3 (by simp), fun k => (World.frozen?_of_block (w := W) (hg.block b h0 (by simp))).trans (h4 k)⟩
theorem Box3.put {W : World} {b : Nat} {x0 x1 x2 : Value} (h : Box3 W b x0 x1 x2) (v : Value) :
    Box3 (W.setCell ⟨b, 0, none⟩ v) b v x1 x2 ∧ Box3 (W.setCell ⟨b, 1, none⟩ v) b x0 v x2 ∧ Box3 (W.setCell ⟨b, 2, none⟩ v) b x0 x1 v := by
  obtain ⟨h0, h1, h2, h3, h4⟩ := h
  have hs : ∀ k, b < (W.setCell ⟨b, k, none⟩ v).heap.size := fun k => by simpa [World.setCell] using h0
  refine ⟨⟨hs 0, World.cell?_setCell_same _ _ _ h1, ?_, ?_, fun k => by simp [h4]⟩, ⟨hs 1, ?_, World.cell?_setCell_same _ _ _ h2, ?_, fun k => by simp [h4]⟩, ⟨hs 2, ?_, ?_, World.cell?_setCell_same _ _ _ h3, fun k => by simp [h4]⟩⟩
  all_goals first
    | exact (World.cell?_setCell_other _ _ _ _ (by simp)).trans h1
    | exact (World.cell?_setCell_other _ _ _ _ (by simp)).trans h2
    | exact (World.cell?_setCell_other _ _ _ _ (by simp)).trans h3
theorem Box3.made (w : World) (T : Nat) (x0 x1 x2 : Value) : Box3 (w.alloc (.cells #[x0, x1, x2] T)) w.heap.size x0 x1 x2 := by
  refine ⟨by simp, ?_, ?_, ?_, fun k => World.frozen?_alloc_at _ _ _ _ rfl⟩ <;> (rw [World.cell?_alloc_at _ _ _ _ rfl]; rfl)

/-- only blocks in F have turned -/
structure Touch (F : Nat → Prop) (w w' : World) : Prop where
  os : w'.os = w.os
  tape : w'.tape = w.tape
  output : w'.output = w.output
  size : w.heap.size ≤ w'.heap.size
  block : ∀ k, k < w.heap.size → ¬ F k → w'.heap[k]? = w.heap[k]?
theorem Touch.of {F : Nat → Prop} {w w' : World} {r : Option Nat} (h : w.grownBy w' r) (hr : ∀ k, r = some k → F k) : Touch F w w' :=
  ⟨h.os, h.tape, h.output, h.size, fun k hk hF => h.block k hk (fun e => hF (hr k e.symm))⟩
theorem Box3.keep {W W' : World} {b : Nat} {x0 x1 x2 : Value} (h : Box3 W b x0 x1 x2) (hs : W.heap.size ≤ W'.heap.size) (e : W'.heap[b]? = W.heap[b]?) : Box3 W' b x0 x1 x2 := by
  obtain ⟨c0, c1, c2, c3, c4⟩ := h
  exact ⟨Nat.lt_of_lt_of_le c0 hs, (World.cell?_of_block (w := W) e).trans c1, (World.cell?_of_block (w := W) e).trans c2, (World.cell?_of_block (w := W) e).trans c3, fun k => (World.frozen?_of_block (w := W) e).trans (c4 k)⟩

end Go.Proofs.YtoakmefajbbggaaGreat
namespace Go.Proofs.YtoakmefajbbggaaGreat
open Go.RowKit

theorem gt_mem {α : Type} [Inhabited α] {l : List α} {i : Nat} (h : i < l.length) : gt l i ∈ l := by
  simp only [gt, List.getD_eq_getElem?_getD, List.getElem?_eq_getElem h, Option.getD_some]
  exact List.getElem_mem h
theorem mem_gt {α : Type} [Inhabited α] {l : List α} {x : α} (h : x ∈ l) : ∃ i, i < l.length ∧ gt l i = x := by
  obtain ⟨i, hi, rfl⟩ := List.getElem_of_mem h
  exact ⟨i, hi, by simp [gt, hi]⟩

end Go.Proofs.YtoakmefajbbggaaGreat
namespace Go.Proofs.YtoakmefajbbggaaGreat
open Go.RowKit

theorem step_app (T E : Nat) (z : Value) (bytes : Nat) (hT : Tryz.prog.underlying T = some (.slice E)) (hE : (Tryz.prog.info? E).map (fun i => (i.zero, i.size, i.bytes)) = some (some z, 1, bytes))
    (hzs : z.cells.size = 1) (hbt : bytes ≤ 64) {ops : Array Oper} {o : Oper} {a : Act} {K : Act → World → Prop} {Q : Exit → Act → World → Prop} {Ex : Prop} {w : World} (hgd : o.guard = none) (s x : Operand)
    (ho : o.op = Op.call { callee := Callee.builtin Builtin.append, args := #[s, x], argTypes := #[T, T] }) (base : Nat) (v : Value) (xs : List Value) (hs : a.eval s = v) (hown : OwnV base E w v xs)
    (H : Nat) (u : Value) (hx : a.eval x = .slice (some ⟨H, 0, none⟩) 1 1) (hu : w.cell? ⟨H, 0, none⟩ = some u) (h1 : u.oneCell' = true) (hlen : xs.length ≤ 2000000) (hbase : base ≤ w.heap.size)
    (h : ∀ v' w', OwnV base E w' v' (xs ++ [u]) → w.grownBy w' v.ownBlock → (v'.ownBlock = v.ownBlock ∨ v'.ownBlock = some w.heap.size) → K (a.put o.dst v') w') :
    if Region.wanted o (yielded ops a.tmps) = true then Oper.wp Tryz.prog o a w K Q else Ex := by
  obtain ⟨i0, hi, hz0, hz1, hz2⟩ := info_parts hE
  refine step_append_lies w hgd s x T ho base E i0 z 1 bytes hT hi hz0 hz1 hz2 hzs (by decide) v xs.length xs hs hown ⟨H, 0, none⟩ 1 1 [u] hx rfl ?_ ?_ (by omega) (by unfold maxLen; omega) (by have := Nat.mul_le_mul (show xs.length + 1 ≤ 2000001 by omega) hbt; omega) hbase w.heap.size rfl ?_
  · intro j u' hj
    match j, hj with
    | 0, hj =>
      simp at hj; subst hj
      simpa [Addr.add] using hu
  · intro u' hu'
    simp at hu'; subst hu'; exact h1
  · intro g cap w' k1 k2 k3 _
    refine h _ w' ?_ k2 ?_
    · unfold OwnV; rw [List.length_append]; exact k1
    · rcases k3 with k3 | k3
      · left; rw [k3]; rfl
      · right; rw [← k3]; rfl

end Go.Proofs.YtoakmefajbbggaaGreat
namespace Go.Proofs.YtoakmefajbbggaaGreat
open Go.RowKit

theorem step_append_at {P : Program} (w : World) {ops : Array Oper} {o : Oper} {a : Act} {K : Act → World → Prop} {Q : Exit → Act → World → Prop} {Ex : Prop}
    (hg : o.guard = none) (s x : Operand) (t : TypeId) (hop : o.op = Op.call { callee := Callee.builtin Builtin.append, args := #[s, x], argTypes := #[t, t] })
    (e : TypeId) (i : TypeInfo) (z : Value) (size bytes : Nat) (h1 : P.underlying t = some (.slice e)) (h2 : P.info? e = some i) (h3 : i.zero = some z) (h4 : i.size = size) (h5 : i.bytes = bytes) (h6 : z.cells.size = size) (h7 : 0 < size)
    (b off n cap : Nat) (olds : List Value) (hs : a.eval s = .slice (some ⟨b, off, none⟩) n cap) (hlo : olds.length = n * size) (holds : ∀ j u, olds[j]? = some u → w.cell? ⟨b, off + j, none⟩ = some u)
    (ad : Addr) (m c : Nat) (news : List Value) (hx : a.eval x = .slice (some ad) m c) (hn : news.length = m * size) (hc : ∀ j u, news[j]? = some u → w.cell? (ad.add j) = some u) (h1c : ∀ u ∈ news, u.oneCell' = true)
    (hspare : n + m ≤ cap → ∀ j, j < news.length → (w.cell? ⟨b, off + n * size + j, none⟩).isSome = true ∧ w.frozen? ⟨b, off + n * size + j, none⟩ = false)
    (b1 : n + m ≤ maxLen) (b2 : (n + m) * bytes ≤ 140737488355328)
    (hroom : n + m ≤ cap → K (a.put o.dst (.slice (some ⟨b, off, none⟩) (n + m) cap)) (w.setCells b (off + n * size) news))
    (hgrow : cap < n + m → ∀ v' w', w'.ownsRow w.heap.size e size v' (n + m) (olds ++ news) → w.grownBy w' none → K (a.put o.dst v') w') :
    if Region.wanted o (yielded ops a.tmps) = true then Oper.wp P o a w K Q else Ex := by
  have hw : Region.wanted o (yielded ops a.tmps) = true := by simp [Region.wanted, hg]
  rw [if_pos hw]
  by_cases hr : n + m ≤ cap
  · subst h4
    have hrun := run_append_room_cells (P := P) w t o.type e i h1 h2 b off n cap ad m c news hn hc h1c hr (fun j hj => (hspare hr j hj).1) (fun j hj => (hspare hr j hj).2)
    unfold Oper.wp
    simp [execOp, hop, resolve, invoke, builtin, hs, hx, hrun, Result.andThen]
    exact hroom hr
  · obtain ⟨v', w', hrun, r1, r2⟩ := run_append_arg_grows (P := P) w t o.type e i z size bytes h1 h2 h3 h4 h5 h6 h7 ⟨b, off, none⟩ n cap olds hlo (fun j u hj => by rw [Addr.add_lit]; exact holds j u hj) ad m c news hn hc (by omega) b1 b2
    unfold Oper.wp
    simp [execOp, hop, resolve, invoke, builtin, hs, hx, hrun, Result.andThen]
    exact hgrow (by omega) v' w' r1 r2

end Go.Proofs.YtoakmefajbbggaaGreat
namespace Go.Proofs.YtoakmefajbbggaaGreat

/-- the word of the first k entries of a vector -/
def nWord (e : List Int) : Nat → List Int
  | 0 => []
  | k + 1 => nWord e k ++ List.replicate (gt e k).toNat ((k : Int) + 1)
def invWord (w : List Int) : List Int := (w.map (fun l => -l)).reverse
/-- all letters of a word stand for one of n generators -/
def WordN (n : Nat) (w : List Int) : Prop := ∀ l ∈ w, (1 ≤ l ∧ l ≤ n) ∨ (-(n : Int) ≤ l ∧ l ≤ -1)

theorem WordN.nil (n : Nat) : WordN n [] := fun l h => by cases h
theorem WordN.app {n : Nat} {a b : List Int} (h : WordN n a) (k : WordN n b) : WordN n (a ++ b) := fun l hl => (List.mem_append.1 hl).elim (h l) (k l)
theorem WordN.rep {n k : Nat} (m : Nat) (hk : k < n) : WordN n (List.replicate m ((k : Int) + 1)) := fun l hl => by
  have := (List.mem_replicate.1 hl).2; omega
theorem WordN.nWord {n : Nat} (e : List Int) : ∀ k, k ≤ n → WordN n (nWord e k)
  | 0, _ => WordN.nil n
  | k + 1, h => (WordN.nWord e k (by omega)).app (WordN.rep _ (by omega))
theorem WordN.inv {n : Nat} {w : List Int} (h : WordN n w) : WordN n (invWord w) := fun l hl => by
  unfold invWord at hl
  rw [List.mem_reverse, List.mem_map] at hl
  obtain ⟨a, ha, rfl⟩ := hl
  have := h a ha
  omega

theorem nWord_len {e : List Int} (h : ∀ i, gt e i ≤ 7) : ∀ k, (nWord e k).length ≤ 7 * k
  | 0 => by simp [nWord]
  | k + 1 => by
    have := nWord_len h k
    have := h k
    simp only [nWord, List.length_append, List.length_replicate]; omega
theorem invWord_len (w : List Int) : (invWord w).length = w.length := by unfold invWord; simp

/-- the relators of the first i powers -/
def relPow (P : Pr) (i : Nat) : List Int := List.replicate (gt P.orders i).toNat ((i : Int) + 1) ++ invWord (nWord (gt P.powers i) P.orders.length)
def relCon (P : Pr) (i k : Nat) : List Int := [-((i : Int) + 1), (i : Int) + k + 2, (i : Int) + 1] ++ invWord (nWord (gt (gt P.conj i) k) P.orders.length)
def relPs (P : Pr) : Nat → List (List Int)
  | 0 => []
  | k + 1 => relPs P k ++ [relPow P k]
/-- the relators of the first k conjugates of a row -/
def relCs (P : Pr) (i : Nat) : Nat → List (List Int)
  | 0 => []
  | k + 1 => relCs P i k ++ [relCon P i k]
def relTo (P : Pr) : Nat → List (List Int)
  | 0 => relPs P P.orders.length
  | i + 1 => relTo P i ++ relCs P i (gt P.conj i).length
def relsP (P : Pr) : List (List Int) := relTo P P.orders.length

theorem relPs_len (P : Pr) (k : Nat) : (relPs P k).length = k := by
  induction k with
  | zero => rfl
  | succ k ih => rw [relPs, List.length_append, ih]; rfl
theorem relCs_len (P : Pr) (i k : Nat) : (relCs P i k).length = k := by
  induction k with
  | zero => rfl
  | succ k ih => rw [relCs, List.length_append, ih]; rfl

/-- the value of the first k letters -/
def evalTo (Q : Pr) (Is : List (List Int)) (w : List Int) : Nat → List Int
  | 0 => zeros Q.orders.length
  | k + 1 => rMul Q (evalTo Q Is w k) (if gt w k < 0 then rInv Q (gt Is (-(gt w k) - 1).toNat) else gt Is ((gt w k) - 1).toNat)

section
variable {Q : Pr} (G : Grp Q)
include G

theorem Grp.eval_vec {Is : List (List Int)} {w : List Int} (h : ∀ x ∈ Is, Vec Q.orders x) (hw : WordN Is.length w) : ∀ k, k ≤ w.length → Vec Q.orders (evalTo Q Is w k) := by
  intro k
  induction k with
  | zero => intro _; exact G.oneV
  | succ k ih =>
    intro hk
    have hl := hw _ (gtMem (l := w) (i := k) (by omega))
    rw [evalTo]
    split
    · exact G.mulV (ih (by omega)) (G.invV (h _ (gtMem (by omega))))
    · exact G.mulV (ih (by omega)) (h _ (gtMem (by omega)))

end

theorem relPow_word {P : Pr} {i : Nat} (hi : i < P.orders.length) : WordN P.orders.length (relPow P i) :=
  (WordN.rep _ hi).app (WordN.nWord _ _ (Nat.le_refl _)).inv
theorem relCon_word {P : Pr} {i k : Nat} (hi : i + k + 1 < P.orders.length) : WordN P.orders.length (relCon P i k) :=
  WordN.app (fun l hl => by simp at hl; omega) (WordN.nWord _ _ (Nat.le_refl _)).inv
theorem relPs_word {P : Pr} : ∀ k, k ≤ P.orders.length → ∀ w ∈ relPs P k, WordN P.orders.length w
  | 0, _, w, h => by cases h
  | k + 1, hk, w, h => by
    rcases List.mem_append.1 h with h1 | h1
    · exact relPs_word k (by omega) w h1
    · rw [List.mem_singleton.1 h1]; exact relPow_word (by omega)
theorem relCs_word {P : Pr} {i : Nat} : ∀ k, i + k < P.orders.length → ∀ w ∈ relCs P i k, WordN P.orders.length w
  | 0, _, w, h => by cases h
  | k + 1, hk, w, h => by
    rcases List.mem_append.1 h with h1 | h1
    · exact relCs_word k (by omega) w h1
    · rw [List.mem_singleton.1 h1]; exact relCon_word (by omega)

end Go.Proofs.YtoakmefajbbggaaGreat
namespace Go.Proofs.YtoakmefajbbggaaGreat

section
variable {α : Type} {m : α → α → α} {e : α} {P : Pr} {h : Nat → α}

theorem npr_skip {x : List Int} {i f : Nat} (hx : ∀ k, k < i → gt x k = 0) : npr m h x 0 e (i + f) = npr m h x i e f := by
  unfold npr
  rw [acc_split, acc_zero _ x 0 e i (fun l _ b => hx l (by omega)), Nat.zero_add]
/-! ### words -/

/-- what a letter stands for -/
def letW (h hi : Nat → α) (l : Int) : α := if l < 0 then hi (-l - 1).toNat else h (l - 1).toNat
/-- the value of a word -/
def evW (m : α → α → α) (e : α) (h hi : Nat → α) (w : List Int) : α := w.foldl (fun y l => m y (letW h hi l)) e

theorem foldl_out (M : MonOn (fun _ : α => True) m e) (g : Int → α) : ∀ (v : List Int) (y : α), v.foldl (fun y l => m y (g l)) y = m y (v.foldl (fun y l => m y (g l)) e)
  | [], y => (M.er _ trivial).symm
  | l :: v, y => by
    rw [List.foldl_cons, List.foldl_cons, foldl_out M g v (m y (g l)), foldl_out M g v (m e (g l)), M.el _ trivial, M.ass _ _ _ trivial trivial trivial]
theorem evW_app (M : MonOn (fun _ : α => True) m e) {hi : Nat → α} (w v : List Int) : evW m e h hi (w ++ v) = m (evW m e h hi w) (evW m e h hi v) := by
  unfold evW
  rw [List.foldl_append, foldl_out M]
theorem evW_one (M : MonOn (fun _ : α => True) m e) {hi : Nat → α} (l : Int) : evW m e h hi [l] = letW h hi l := by
  unfold evW
  rw [List.foldl_cons, List.foldl_nil, M.el _ trivial]
theorem evW_rep (M : MonOn (fun _ : α => True) m e) {hi : Nat → α} (i k : Nat) : evW m e h hi (List.replicate k ((i : Int) + 1)) = iter k (fun y => m y (h i)) e := by
  induction k with
  | zero => rfl
  | succ k ih =>
    rw [List.replicate_succ', evW_app M, ih, evW_one M]
    unfold letW
    rw [if_neg (by omega), show ((i : Int) + 1 - 1).toNat = i by omega]; rfl
theorem evW_nWord (M : MonOn (fun _ : α => True) m e) {hi : Nat → α} (x : List Int) : ∀ k, evW m e h hi (nWord x k) = npr m h x 0 e k
  | 0 => rfl
  | k + 1 => by
    rw [nWord, evW_app M, evW_nWord M x k, evW_rep M]
    show m (npr m h x 0 e k) _ = iter (gt x (0 + k)).toNat (fun y => m y (h (0 + k))) (npr m h x 0 e k)
    rw [Nat.zero_add]
    exact (M.pow_out (h := h k) trivial trivial _).symm
theorem invWord_cons (l : Int) (w : List Int) : invWord (l :: w) = invWord w ++ [-l] := by unfold invWord; simp
theorem letW_inv {hi : Nat → α} {n : Nat} (h1 : ∀ j, j < n → m (h j) (hi j) = e) (h2 : ∀ j, j < n → m (hi j) (h j) = e) {l : Int} (hl : (1 ≤ l ∧ l ≤ n) ∨ (-(n : Int) ≤ l ∧ l ≤ -1)) : m (letW h hi l) (letW h hi (-l)) = e := by
  unfold letW
  rcases hl with hl | hl
  · rw [if_neg (by omega), if_pos (by omega), show (- -l - 1).toNat = (l - 1).toNat by omega]; exact h1 _ (by omega)
  · rw [if_pos (by omega), if_neg (by omega)]; exact h2 _ (by omega)
theorem evW_inv (M : MonOn (fun _ : α => True) m e) {hi : Nat → α} {n : Nat} (h1 : ∀ j, j < n → m (h j) (hi j) = e) (h2 : ∀ j, j < n → m (hi j) (h j) = e) : ∀ w, WordN n w → m (evW m e h hi w) (evW m e h hi (invWord w)) = e
  | [], _ => M.el _ trivial
  | l :: w, hw => by
    have ih := evW_inv M h1 h2 w (fun x hx => hw x (List.mem_cons_of_mem _ hx))
    have hl := letW_inv (m := m) (e := e) h1 h2 (hw l (List.mem_cons_self ..))
    have A := fun x y z => M.ass x y z trivial trivial trivial
    have e1 : evW m e h hi (l :: w) = m (letW h hi l) (evW m e h hi w) := by
      rw [show l :: w = [l] ++ w from rfl, evW_app M, evW_one M]
    rw [invWord_cons, evW_app M, evW_one M, e1, A, ← A (evW m e h hi w), ih, M.el _ trivial, hl]
end

theorem relTo_wd {P : Pr} (hP : Valid P) : ∀ i, i ≤ P.orders.length → ∀ w ∈ relTo P i, WordN P.orders.length w
  | 0, _, w, h => relPs_word _ (Nat.le_refl _) w h
  | i + 1, hi, w, h => by
    rcases List.mem_append.1 h with h1 | h1
    · exact relTo_wd hP i (by omega) w h1
    · exact relCs_word (i := i) _ (by rw [(hP.cv i (by omega)).1]; omega) w h1
theorem relsP_word {P : Pr} (hP : Valid P) : ∀ w ∈ relsP P, WordN P.orders.length w := relTo_wd hP _ (Nat.le_refl _)

/-! ### bijections -/

theorem gt_range {n t : Nat} (h : t < n) : gt (List.range n) t = t := by simp [gt, h]
end Go.Proofs.YtoakmefajbbggaaGreat
namespace Go.Proofs.YtoakmefajbbggaaGreat

/-- an element of the group -/
def El {P : Pr} (_ : Grp P) : Type := {x : List Int // Vec P.orders x}

section
variable {P : Pr} {G : Grp P}

instance : Mul (El G) := ⟨fun x y => ⟨rMul P x.1 y.1, G.mulV x.2 y.2⟩⟩
instance : One (El G) := ⟨⟨zeros P.orders.length, G.oneV⟩⟩
instance : Inv (El G) := ⟨fun x => ⟨rInv P x.1, G.invV x.2⟩⟩

theorem El.ass (x y z : El G) : x * y * z = x * (y * z) := Subtype.ext (G.ass x.2 y.2 z.2)
theorem El.ol (x : El G) : 1 * x = x := Subtype.ext (G.grp.el _ x.2)
theorem El.or (x : El G) : x * 1 = x := Subtype.ext (G.grp.er _ x.2)
theorem El.il (x : El G) : x⁻¹ * x = 1 := Subtype.ext (G.inv_mul x.2)
theorem El.ir (x : El G) : x * x⁻¹ = 1 := Subtype.ext (G.mul_inv x.2)
theorem El.ilc (x y : El G) : x⁻¹ * (x * y) = y := by rw [← El.ass, El.il, El.ol]
theorem El.inv_of {x y : El G} (h : x * y = 1) : y = x⁻¹ := by rw [← El.ilc x y, h, El.or]
end

end Go.Proofs.YtoakmefajbbggaaGreat
namespace Go.Proofs.YtoakmefajbbggaaGreat

theorem gt_append_right' {α : Type} [Inhabited α] (xs ys : List α) (i : Nat) (h : xs.length ≤ i) : gt (xs ++ ys) i = gt ys (i - xs.length) := by
  simp [gt, List.getD_eq_getElem?_getD, List.getElem?_append_right h]
/-- the order of the generator of a letter -/
def ordL (P : Pr) (l : Int) : Nat := (gt P.orders (l - 1).toNat).toNat
/-- a letter ahead of a smaller one, or a run as long as the order -/
def RedB (P : Pr) (w : List Int) (t : Nat) : Prop := (t + 1 < w.length ∧ gt w (t + 1) < gt w t) ∨ (t + ordL P (gt w t) ≤ w.length ∧ ∀ s, t ≤ s → s < t + ordL P (gt w t) → gt w s = gt w t)
/-- the least index below k that is reducible, if there is one -/
def FirstR (P : Pr) (w : List Int) (r : Int) : Prop := (r = -1 ∧ ∀ t, t < w.length → ¬ RedB P w t) ∨ ∃ t : Nat, r = (t : Int) ∧ t < w.length ∧ RedB P w t ∧ ∀ s, s < t → ¬ RedB P w s
theorem FirstR.one {P : Pr} {w : List Int} {r s : Int} (h : FirstR P w r) (k : FirstR P w s) : r = s := by
  rcases h with ⟨h1, h2⟩ | ⟨t, h1, h2, h3, h4⟩ <;> rcases k with ⟨k1, k2⟩ | ⟨u, k1, k2, k3, k4⟩
  · omega
  · exact absurd k3 (h2 u k2)
  · exact absurd h3 (k2 t h2)
  · rcases Nat.lt_trichotomy t u with h | h | h
    · exact absurd h3 (k4 t h)
    · omega
    · exact absurd k3 (h4 u h)
theorem FirstR.ex (P : Pr) (w : List Int) : ∃ r, FirstR P w r := by
  have key : ∀ k, (∀ t, t < k → ¬ RedB P w t) ∨ ∃ t, t < k ∧ RedB P w t ∧ ∀ s, s < t → ¬ RedB P w s := by
    intro k
    induction k with
    | zero => exact .inl (fun t h => by omega)
    | succ k ih =>
      rcases ih with h | ⟨t, h1, h2, h3⟩
      · rcases Classical.em (RedB P w k) with h4 | h4
        · exact .inr ⟨k, by omega, h4, h⟩
        · refine .inl (fun t ht => ?_)
          rcases Nat.lt_succ_iff_lt_or_eq.1 ht with h5 | h5
          · exact h t h5
          · rw [h5]; exact h4
      · exact .inr ⟨t, by omega, h2, h3⟩
  rcases key w.length with h | ⟨t, h1, h2, h3⟩
  · exact ⟨-1, .inl ⟨rfl, h⟩⟩
  · exact ⟨t, .inr ⟨t, rfl, h1, h2, h3⟩⟩
/-- the word behind the step at an index -/
def stepW (P : Pr) (w : List Int) (t : Nat) : List Int :=
  if t + 1 < w.length ∧ gt w (t + 1) < gt w t then w.take t ++ [gt w (t + 1)] ++ nWord (gt (gt P.conj (gt w (t + 1) - 1).toNat) ((gt w t - 1).toNat - (gt w (t + 1) - 1).toNat - 1)) P.orders.length ++ w.drop (t + 2)
  else w.take t ++ nWord (gt P.powers (gt w t - 1).toNat) P.orders.length ++ w.drop (t + ordL P (gt w t))
/-- the vector of a word -/
def vecW (n : Nat) (w : List Int) : List Int := (List.range n).map (fun i : Nat => ((w.count ((i : Int) + 1) : Nat) : Int))
open Classical in
/-- the word behind a number of steps, if all words on the way are short -/
noncomputable def colW (P : Pr) : Nat → List Int → Option (List Int × Nat)
  | 0, w => if FirstR P w (-1) then some (vecW P.orders.length w, 0) else none
  | f + 1, w => if h : ∃ t : Nat, FirstR P w t then (if 256 < (stepW P w (Classical.choose h)).length then none else (colW P f (stepW P w (Classical.choose h))).map (fun x => (x.1, x.2 + 1))) else some (vecW P.orders.length w, 0)
theorem colW_end {P : Pr} {w : List Int} (h : FirstR P w (-1)) : ∀ f, colW P f w = some (vecW P.orders.length w, 0)
  | 0 => by unfold colW; rw [if_pos h]
  | f + 1 => by
    unfold colW
    rw [dif_neg]
    rintro ⟨t, ht⟩
    have := h.one ht; omega
theorem colW_no {P : Pr} {w : List Int} {t : Nat} (h : FirstR P w t) : colW P 0 w = none := by
  unfold colW
  rw [if_neg (fun h2 => by have := h2.one h; omega)]
theorem colW_step {P : Pr} {w : List Int} {t : Nat} (h : FirstR P w t) (f : Nat) : colW P (f + 1) w = if 256 < (stepW P w t).length then none else (colW P f (stepW P w t)).map (fun x => (x.1, x.2 + 1)) := by
  have hh : ∃ t : Nat, FirstR P w t := ⟨t, h⟩
  have e : Classical.choose hh = t := by have := (Classical.choose_spec hh).one h; omega
  rw [colW, dif_pos hh, e]

/-- a word of positive letters -/
def PosW (n : Nat) (w : List Int) : Prop := ∀ l ∈ w, 1 ≤ l ∧ l ≤ (n : Int)
theorem PosW.app {n : Nat} {a b : List Int} (h : PosW n a) (k : PosW n b) : PosW n (a ++ b) := fun l hl => (List.mem_append.1 hl).elim (h l) (k l)
theorem PosW.nWord {n : Nat} (e : List Int) : ∀ k, k ≤ n → PosW n (nWord e k)
  | 0, _ => fun l h => by cases h
  | k + 1, h => (PosW.nWord e k (by omega)).app (fun l hl => by have := (List.mem_replicate.1 hl).2; omega)
theorem PosW.take {n : Nat} {w : List Int} (h : PosW n w) (k : Nat) : PosW n (w.take k) := fun l hl => h l (List.mem_of_mem_take hl)
theorem PosW.drop {n : Nat} {w : List Int} (h : PosW n w) (k : Nat) : PosW n (w.drop k) := fun l hl => h l (List.mem_of_mem_drop hl)
theorem PosW.at {n : Nat} {w : List Int} (h : PosW n w) {k : Nat} (hk : k < w.length) : 1 ≤ gt w k ∧ gt w k ≤ (n : Int) := h _ (gtMem hk)
theorem PosW.step {P : Pr} {w : List Int} (h : PosW P.orders.length w) (t : Nat) : PosW P.orders.length (stepW P w t) := by
  unfold stepW
  split
  · rename_i hc
    refine (((h.take t).app ?_).app (PosW.nWord _ _ (Nat.le_refl _))).app (h.drop _)
    intro l hl
    rw [List.mem_singleton.1 hl]; exact h.at hc.1
  · exact ((h.take t).app (PosW.nWord _ _ (Nat.le_refl _))).app (h.drop _)
/-! ### the value in a group -/
section
variable {P : Pr} (G : Grp P)

theorem el_mon : MonOn (fun _ : El G => True) (· * ·) 1 := ⟨fun _ _ _ _ => trivial, trivial, fun x y z _ _ _ => El.ass x y z, fun x _ => El.ol x, fun x _ => El.or x⟩
/-- the generators as elements -/
def gE (j : Nat) : El G := ⟨unitV P.orders.length j, unitV_vec G.v j⟩
theorem npr_val (x : List Int) (i : Nat) : ∀ k, (npr (· * ·) (gE G) x i 1 k).1 = npr (rMul P) (unitV P.orders.length) x i (zeros P.orders.length) k
  | 0 => rfl
  | k + 1 => by
    have ih := npr_val x i k
    unfold npr at ih ⊢
    rw [acc, acc, ← ih]
    generalize acc (fun (y : El G) j => y * gE G j) x i 1 k = z
    induction (gt x (i + k)).toNat with
    | zero => rfl
    | succ m ihm =>
      show rMul P (iter m (fun y => y * gE G (i + k)) z).1 (unitV P.orders.length (i + k)) = _
      rw [ihm]; rfl
theorem el_holds : Holds P (fun _ : El G => True) (· * ·) 1 (gE G) 0 := by
  refine ⟨fun _ _ _ => trivial, fun j a b => ?_, fun j k a b c => ?_⟩
  · apply Subtype.ext
    rw [npr_val, ← G.rel.pw j a b]
    induction (gt P.orders j).toNat with
    | zero => rfl
    | succ m ihm =>
      show rMul P (iter m (fun y => y * gE G j) 1).1 (unitV P.orders.length j) = _
      rw [ihm]; rfl
  · apply Subtype.ext
    have := G.rel.cj j k a b c
    rw [← npr_val G] at this
    exact this
theorem el_nf {x : List Int} (hx : Vec P.orders x) : (npr (· * ·) (gE G) x 0 1 P.orders.length).1 = x := by rw [npr_val]; exact G.nf hx

/-- the value of a word -/
def wv (w : List Int) : El G := evW (· * ·) 1 (gE G) (fun j => (gE G j)⁻¹) w
theorem wv_app (w v : List Int) : wv G (w ++ v) = wv G w * wv G v := evW_app (el_mon G) w v
theorem wv_one {l : Int} (h : 1 ≤ l) : wv G [l] = gE G (l - 1).toNat := by
  unfold wv
  rw [evW_one (el_mon G)]
  unfold letW
  rw [if_neg (by omega)]
theorem wv_nWord (x : List Int) (k : Nat) : wv G (nWord x k) = npr (· * ·) (gE G) x 0 1 k := evW_nWord (el_mon G) x k
theorem wv_rep (i k : Nat) : wv G (List.replicate k ((i : Int) + 1)) = iter k (fun y => y * gE G i) 1 := evW_rep (el_mon G) i k

theorem wv_step {w : List Int} (h : PosW P.orders.length w) {t : Nat} (ht : t < w.length) (hr : RedB P w t) : wv G (stepW P w t) = wv G w := by
  have hP := G.v
  have H := el_holds G
  unfold stepW
  by_cases hc : t + 1 < w.length ∧ gt w (t + 1) < gt w t
  · rw [if_pos hc]
    have hj := h.at ht
    have hi := h.at hc.1
    have e1 : w = w.take t ++ [gt w t] ++ [gt w (t + 1)] ++ w.drop (t + 2) := by
      rw [← take_succ_gt w t ht, ← take_succ_gt w (t + 1) hc.1]; exact (List.take_append_drop _ _).symm
    obtain ⟨i, hie⟩ : ∃ i, i = (gt w (t + 1) - 1).toNat := ⟨_, rfl⟩
    obtain ⟨j, hje⟩ : ∃ j, j = (gt w t - 1).toNat := ⟨_, rfl⟩
    have k1 := H.cj i j (Nat.zero_le _) (by omega) (by omega)
    have e2 : P.orders.length = (i + 1) + (P.orders.length - (i + 1)) := by omega
    have k2 := npr_skip (m := fun a b : El G => a * b) (h := gE G) (e := (1 : El G)) (x := gt (gt P.conj i) (j - i - 1)) (i := i + 1) (f := P.orders.length - (i + 1)) (fun l hl => (cj_T hP (i := i) (j := j) (by omega) (by omega)).2 l (by omega))
    rw [← e2] at k2
    rw [← k2] at k1
    have e3 : wv G w = wv G (w.take t) * wv G [gt w t] * wv G [gt w (t + 1)] * wv G (w.drop (t + 2)) := by
      conv => lhs; rw [e1]
      rw [wv_app, wv_app, wv_app]
    rw [e3, wv_app, wv_app, wv_app, wv_nWord, wv_one G hj.1, wv_one G hi.1, ← hie, ← hje, El.ass (wv G (w.take t)) (gE G j), El.ass (wv G (w.take t)) (gE G i)]
    have k3 : gE G j * gE G i = gE G i * npr (· * ·) (gE G) (gt (gt P.conj i) (j - i - 1)) 0 1 P.orders.length := k1
    rw [k3]
  · rw [if_neg hc]
    rcases hr with hr | ⟨hl, hall⟩
    · exact absurd hr hc
    have hj := h.at ht
    obtain ⟨j, hje⟩ : ∃ j, j = (gt w t - 1).toNat := ⟨_, rfl⟩
    obtain ⟨m, hm⟩ : ∃ m, m = ordL P (gt w t) := ⟨_, rfl⟩
    rw [← hm] at hl hall ⊢
    rw [← hje]
    have hjn : j < P.orders.length := by omega
    have hmo : m = (gt P.orders j).toNat := by rw [hm, hje]; rfl
    have e0 : (w.drop t).take m = List.replicate m ((j : Int) + 1) := by
      apply List.eq_replicate_iff.2
      refine ⟨by rw [List.length_take, List.length_drop]; omega, fun x hx => ?_⟩
      obtain ⟨s, hs, e⟩ := List.mem_iff_getElem.1 hx
      rw [List.length_take, List.length_drop] at hs
      rw [List.getElem_take, List.getElem_drop] at e
      have h2 := hall (t + s) (by omega) (by omega)
      have h3 : gt w (t + s) = w[t + s]'(by omega) := by simp [gt, List.getD_eq_getElem?_getD, List.getElem?_eq_getElem (show t + s < w.length by omega)]
      rw [← e, ← h3, h2]; omega
    have e1 : w = w.take t ++ List.replicate m ((j : Int) + 1) ++ w.drop (t + m) := by
      rw [← e0, List.append_assoc, ← List.drop_drop, List.take_append_drop, List.take_append_drop]
    have e3 : wv G w = wv G (w.take t) * wv G (List.replicate m ((j : Int) + 1)) * wv G (w.drop (t + m)) := by
      conv => lhs; rw [e1]
      rw [wv_app, wv_app]
    have k1 := H.pw j (Nat.zero_le _) hjn
    have e2 : P.orders.length = (j + 1) + (P.orders.length - (j + 1)) := by omega
    have k2 := npr_skip (m := fun a b : El G => a * b) (h := gE G) (e := (1 : El G)) (x := gt P.powers j) (i := j + 1) (f := P.orders.length - (j + 1)) (fun l hl => (hP.pv j hjn).2 l (by omega))
    rw [← e2] at k2
    rw [← k2] at k1
    rw [e3, wv_app, wv_app, wv_nWord, wv_rep, hmo]
    have k3 : iter (gt P.orders j).toNat (fun y => y * gE G j) 1 = npr (· * ·) (gE G) (gt P.powers j) 0 1 P.orders.length := k1
    rw [k3]
end

/-! ### normal words -/

theorem sorted_of {P : Pr} {w : List Int} (h : ∀ t, t < w.length → ¬ RedB P w t) : ∀ t, t + 1 < w.length → gt w t ≤ gt w (t + 1) := fun t ht => by
  refine Classical.byContradiction fun hn => h t (by omega) (.inl ⟨ht, by omega⟩)
theorem sorted_le {w : List Int} (h : ∀ t, t + 1 < w.length → gt w t ≤ gt w (t + 1)) : ∀ d t, t + d < w.length → gt w t ≤ gt w (t + d)
  | 0, t, _ => by rw [Nat.add_zero]; exact Int.le_refl _
  | d + 1, t, hd => Int.le_trans (sorted_le h d t (by omega)) (h (t + d) (by omega))
/-- an ascending word is the word of its vector -/
theorem sorted_word (n : Nat) : ∀ (k : Nat) (w : List Int), k ≤ n → PosW k w → (∀ t, t + 1 < w.length → gt w t ≤ gt w (t + 1)) → w = nWord (vecW n w) k
  | 0, w, _, h, _ => by
    cases w with
    | nil => rfl
    | cons l w => have := h l (List.mem_cons_self ..); omega
  | k + 1, w, hk, h, hs => by
    -- the letters up to k stand ahead of those that are k + 1
    obtain ⟨a, ha⟩ : ∃ a, a = w.filter (fun l => decide (l ≤ (k : Int))) := ⟨_, rfl⟩
    have hsp : w = a ++ List.replicate (w.count ((k : Int) + 1)) ((k : Int) + 1) := by
      rw [ha]
      clear ha
      induction w with
      | nil => rfl
      | cons l w ih =>
        have hw : PosW (k + 1) w := fun x hx => h x (List.mem_cons_of_mem _ hx)
        have hsw : ∀ t, t + 1 < w.length → gt w t ≤ gt w (t + 1) := fun t ht => by
          have := hs (t + 1) (by rw [List.length_cons]; omega)
          simpa [gt] using this
        have hl := h l (List.mem_cons_self ..)
        by_cases hlk : l ≤ (k : Int)
        · rw [List.filter_cons_of_pos (by simpa using hlk), List.count_cons_of_ne (by omega), List.cons_append, ← ih hw hsw]
        · have hle : l = (k : Int) + 1 := by omega
          have hall : ∀ x ∈ w, x = (k : Int) + 1 := fun x hx => by
            obtain ⟨s, hsl, e⟩ := mem_gt hx
            have h1 := sorted_le hs (s + 1) 0 (by rw [List.length_cons]; omega)
            have h2 : gt (l :: w) (0 + (s + 1)) = x := by rw [Nat.zero_add, ← e]; simp [gt]
            have h3 : gt (l :: w) 0 = l := by simp [gt]
            rw [h2, h3] at h1
            have := h x (List.mem_cons_of_mem _ hx)
            omega
          have hrep : w = List.replicate w.length ((k : Int) + 1) := List.eq_replicate_iff.2 ⟨rfl, hall⟩
          have hf : w.filter (fun l => decide (l ≤ (k : Int))) = [] := List.filter_eq_nil_iff.2 (fun x hx => by have := hall x hx; simp; omega)
          have hc : w.count ((k : Int) + 1) = w.length := List.count_eq_length.2 (fun x hx => (hall x hx).symm)
          rw [List.filter_cons_of_neg (by simpa using hlk), hf, List.nil_append, hle, List.count_cons_self, hc, List.replicate_succ]
          congr 1
    have hac : ∀ i : Nat, i < k → a.count ((i : Int) + 1) = w.count ((i : Int) + 1) := fun i hi => by
      rw [ha, List.count_filter (by simp; omega)]
    have hap : PosW k a := fun l hl => by
      rw [ha, List.mem_filter] at hl
      have := h l hl.1
      have := hl.2
      simp at this
      omega
    have hal : a.length ≤ w.length := by rw [ha]; exact List.length_filter_le _ _
    have has : ∀ t, t + 1 < a.length → gt a t ≤ gt a (t + 1) := fun t ht => by
      have h1 := hs t (by omega)
      rw [hsp, gt_append_left _ _ _ (by omega), gt_append_left _ _ _ (by omega)] at h1
      exact h1
    have ih := sorted_word n k a (by omega) hap has
    have hv : ∀ j, j < k → gt (vecW n a) j = gt (vecW n w) j := fun j hj => by
      unfold vecW
      rw [gt_map _ _ _ (by rw [List.length_range]; omega), gt_map _ _ _ (by rw [List.length_range]; omega)]
      have e : gt (List.range n) j = j := by simp [gt, show j < n by omega]
      rw [e, hac j hj]
    have hnw : ∀ m, m ≤ k → nWord (vecW n a) m = nWord (vecW n w) m := by
      intro m
      induction m with
      | zero => intro _; rfl
      | succ m ihm => intro hm; rw [nWord, nWord, ihm (by omega), hv m (by omega)]
    have hk1 : (gt (vecW n w) k).toNat = w.count ((k : Int) + 1) := by
      unfold vecW
      rw [gt_map _ _ _ (by rw [List.length_range]; omega)]
      have e : gt (List.range n) k = k := by simp [gt, show k < n by omega]
      rw [e, Int.toNat_natCast]
    rw [nWord, hk1, ← hnw k (Nat.le_refl _), ← ih]
    exact hsp

theorem nWord_app (x : List Int) (a : Nat) : ∀ b, ∃ r, nWord x (a + b) = nWord x a ++ r
  | 0 => ⟨[], by rw [Nat.add_zero, List.append_nil]⟩
  | b + 1 => by
    obtain ⟨r, hr⟩ := nWord_app x a b
    exact ⟨r ++ List.replicate (gt x (a + b)).toNat (((a + b : Nat) : Int) + 1), by rw [← Nat.add_assoc, nWord, hr, List.append_assoc]⟩
/-- the vector of a word that cannot be reduced is one within the orders -/
theorem normal_vec {P : Pr} (hP : Valid P) {w : List Int} (h : PosW P.orders.length w) (hn : ∀ t, t < w.length → ¬ RedB P w t) : Vec P.orders (vecW P.orders.length w) ∧ w = nWord (vecW P.orders.length w) P.orders.length := by
  have hw := sorted_word P.orders.length P.orders.length w (Nat.le_refl _) h (sorted_of hn)
  refine ⟨⟨by unfold vecW; rw [List.length_map, List.length_range], fun i hi => ?_⟩, hw⟩
  have ho := hP.ord7 i hi
  obtain ⟨x, hx⟩ : ∃ x, x = vecW P.orders.length w := ⟨_, rfl⟩
  have hg0 : 0 ≤ gt x i := by
    rw [hx]; unfold vecW
    rw [gt_map _ _ _ (by rw [List.length_range]; exact hi)]; omega
  rw [← hx] at hw ⊢
  refine ⟨hg0, Classical.byContradiction fun hge => ?_⟩
  obtain ⟨r, hr⟩ := nWord_app x (i + 1) (P.orders.length - (i + 1))
  rw [show i + 1 + (P.orders.length - (i + 1)) = P.orders.length by omega, nWord] at hr
  rw [hr] at hw
  obtain ⟨a, ha⟩ : ∃ a, a = nWord x i := ⟨_, rfl⟩
  obtain ⟨m, hm⟩ : ∃ m, m = (gt x i).toNat := ⟨_, rfl⟩
  rw [← ha, ← hm] at hw
  have hm0 : (gt P.orders i).toNat ≤ m := by omega
  have hat : ∀ s, s < m → gt w (a.length + s) = (i : Int) + 1 := fun s hs => by
    rw [hw, gt_append_left _ _ _ (by rw [List.length_append, List.length_replicate]; omega), gt_append_right' _ _ _ (by omega), Nat.add_sub_cancel_left]
    simp [gt, hs]
  have hlen : a.length + m ≤ w.length := by rw [hw, List.length_append, List.length_append, List.length_replicate]; omega
  have h0 := hat 0 (by omega)
  rw [Nat.add_zero] at h0
  have hoL : ordL P (gt w a.length) = (gt P.orders i).toNat := by rw [h0]; unfold ordL; rw [show ((i : Int) + 1 - 1).toNat = i by omega]
  refine hn a.length (by omega) (.inr ⟨by rw [hoL]; omega, fun s h1 h2 => ?_⟩)
  rw [hoL] at h2
  have := hat (s - a.length) (by omega)
  rw [show a.length + (s - a.length) = s by omega] at this
  rw [this, h0]

/-- in a group a collected word is worth its vector -/
theorem Grp.col_val {P : Pr} (G : Grp P) : ∀ f w x, PosW P.orders.length w → colW P f w = some x → Vec P.orders x.1 ∧ (wv G w).1 = x.1 := by
  have fin : ∀ w, PosW P.orders.length w → (∀ t, t < w.length → ¬ RedB P w t) → Vec P.orders (vecW P.orders.length w) ∧ (wv G w).1 = vecW P.orders.length w := fun w hw hn => by
    obtain ⟨h1, h2⟩ := normal_vec G.v hw hn
    refine ⟨h1, ?_⟩
    conv => lhs; rw [h2]
    rw [wv_nWord, el_nf G h1]
  intro f
  induction f with
  | zero =>
    intro w x hw h
    obtain ⟨r, hr⟩ := FirstR.ex P w
    rcases hr with ⟨h1, h2⟩ | ⟨t, h1, h2⟩
    · rw [colW_end (.inl ⟨rfl, h2⟩)] at h; cases h; exact fin w hw h2
    · rw [colW_no (.inr ⟨t, rfl, h2⟩)] at h; cases h
  | succ f ih =>
    intro w x hw h
    obtain ⟨r, hr⟩ := FirstR.ex P w
    rcases hr with ⟨h1, h2⟩ | ⟨t, h1, h2⟩
    · rw [colW_end (.inl ⟨rfl, h2⟩)] at h; cases h; exact fin w hw h2
    · rw [colW_step (.inr ⟨t, rfl, h2⟩)] at h
      split at h
      · cases h
      · obtain ⟨y, hy, e⟩ := Option.map_eq_some_iff.1 h
        have := ih _ y (hw.step t) hy
        rw [wv_step G hw h2.1 h2.2.1] at this
        rw [← e]; exact this

end Go.Proofs.YtoakmefajbbggaaGreat
namespace Go.Proofs.YtoakmefajbbggaaGreat
open Go.RowKit

theorem step_app_int {ops : Array Oper} {o : Oper} {a : Act} {K : Act → World → Prop} {Q : Exit → Act → World → Prop} {Ex : Prop} {w : World} (hgd : o.guard = none) (s x : Operand)
    (ho : o.op = Op.call { callee := Callee.builtin Builtin.append, args := #[s, x], argTypes := #[24, 24] }) (B : Nat) (v : Value) (l : List Int) (y : Int) (hs : a.eval s = v) (w2 : World) (hown : Own B w2 v l)
    (hw : w = w2.alloc (.cells #[.int .i64 y] 2)) (hx : a.eval x = .slice (some ⟨w2.heap.size, 0, none⟩) 1 1) (hlen : l.length ≤ 1000000) (hbase : B ≤ w2.heap.size)
    (h : ∀ v' w', Own B w' v' (l ++ [y]) → w2.grownBy w' v.ownBlock → K (a.put o.dst v') w') :
    if Region.wanted o (yielded ops a.tmps) = true then Oper.wp Tryz.prog o a w K Q else Ex := by
  subst hw
  have hga : Ext w2 (w2.alloc (.cells #[.int .i64 y] 2)) := World.grownBy_alloc _ _ _
  refine step_app 24 2 (.int .i64 0) 8 und_ints Tryz.infoInt rfl (by decide) hgd s x ho B v (l.map (Value.int .i64)) hs (hown.ext0 hga).v w2.heap.size (.int .i64 y) hx (by rw [World.cell?_alloc_at _ _ _ _ rfl]; rfl) rfl (by simpa using (by omega : l.length ≤ 2000000)) (by have := hga.size; omega) ?_
  intro v' w' h1 h2 _
  exact h v' w' (Own.of (by rw [List.map_append]; exact h1)) (grown_trans (grown_of_ext _ hga) h2)

end Go.Proofs.YtoakmefajbbggaaGreat
namespace Go.Proofs.YtoakmefajbbggaaGreat
open Go.RowKit

/-! ### a row of bools of the call's own -/
/-- w' is reached from w by growth and at most one store into block g behind it -/
def Near (w : World) (g : Nat) (w' : World) : Prop := ∃ w1, Ext w w1 ∧ (w' = w1 ∨ ∃ j x, w' = w1.setCell ⟨g, j, none⟩ x)
theorem Near.of {w w' : World} {g : Nat} (h : Ext w w') : Near w g w' := ⟨w', h, .inl rfl⟩
theorem Near.store {w w' : World} {g j : Nat} {x : Value} (h : Ext w w') : Near w g (w'.setCell ⟨g, j, none⟩ x) := ⟨w', h, .inr ⟨j, x, rfl⟩⟩
theorem Near.cell {w w' : World} {g : Nat} (h : Near w g w') {a : Addr} {v : Value} (hc : w.cell? a = some v) (hne : a.block ≠ g) : w'.cell? a = some v := by
  obtain ⟨w1, h1, rfl | ⟨j, x, rfl⟩⟩ := h
  · exact h1.cell hc (by simp)
  · rw [World.cell?_setCell_far _ _ _ _ (by simpa using Ne.symm hne)]
    exact h1.cell hc (by simp)

end Go.Proofs.YtoakmefajbbggaaGreat
namespace Go.Proofs.YtoakmefajbbggaaGreat
open Go.RowKit

/-- append of one value to a row of the call's own -/
theorem wp_app_v (T E : Nat) (z : Value) (bytes : Nat) (hT : Tryz.prog.underlying T = some (.slice E)) (hE : (Tryz.prog.info? E).map (fun i => (i.zero, i.size, i.bytes)) = some (some z, 1, bytes))
    (hzs : z.cells.size = 1) (hbt : bytes ≤ 64) {ops : Array Oper} {rest : List Oper} {o : Oper} {a : Act} {Q : Exit → Act → World → Prop} {w : World} (hgd : o.guard = none) (s x : Operand)
    (ho : o.op = Op.call { callee := Callee.builtin Builtin.append, args := #[s, x], argTypes := #[T, T] }) (base : Nat) (w1 : World) (v u : Value) (xs : List Value) (hs : a.eval s = v) (hown : OwnV base E w1 v xs)
    (hw : w = w1.alloc (.cells #[u] E)) (hu : u.oneCell' = true) (hx : a.eval x = .slice (some ⟨w1.heap.size, 0, none⟩) 1 1) (hlen : xs.length ≤ 1000000) (hbase : base ≤ w1.heap.size)
    (h : ∀ v' w', OwnV base E w' v' (xs ++ [u]) → w1.grownBy w' v.ownBlock → wpList Tryz.prog ops Q rest (a.put o.dst v') w') :
    wpList Tryz.prog ops Q (o :: rest) a w := by
  subst hw
  have hga : Ext w1 (w1.alloc (.cells #[u] E)) := World.grownBy_alloc _ _ _
  refine wp_app T E z bytes hT hE hzs hbt hgd s x ho base v xs hs (hown.kept hga (by cases hv : v.ownBlock <;> simp)) (some ⟨w1.heap.size, 0, none⟩) 1 1 [u] hx rfl (by simp) ?_ ?_ (by omega) (by have := hga.size; omega) ?_
  · intro j hj
    have : j = 0 := by omega
    subst this
    exact ⟨_, _, rfl, by rw [World.cell?_alloc_at _ _ _ _ rfl]; rfl⟩
  · intro u' hu'
    simp at hu'; subst hu'; exact hu
  · intro v' w' h1 h2 _ _
    exact h v' w' h1 (grown_trans (grown_of_ext _ hga) h2)

theorem wp_app_int {ops : Array Oper} {rest : List Oper} {o : Oper} {a : Act} {Q : Exit → Act → World → Prop} {w : World} (hgd : o.guard = none) (s x : Operand)
    (ho : o.op = Op.call { callee := Callee.builtin Builtin.append, args := #[s, x], argTypes := #[24, 24] }) (B : Nat) (v : Value) (l : List Int) (y : Int) (hs : a.eval s = v) (w2 : World) (hown : Own B w2 v l)
    (hw : w = w2.alloc (.cells #[.int .i64 y] 2)) (hx : a.eval x = .slice (some ⟨w2.heap.size, 0, none⟩) 1 1) (hlen : l.length ≤ 1000000) (hbase : B ≤ w2.heap.size)
    (h : ∀ v' w', Own B w' v' (l ++ [y]) → w2.grownBy w' v.ownBlock → wpList Tryz.prog ops Q rest (a.put o.dst v') w') :
    wpList Tryz.prog ops Q (o :: rest) a w :=
  wp_app_v 24 2 (.int .i64 0) 8 und_ints Tryz.infoInt rfl (by decide) hgd s x ho B w2 v (.int .i64 y) (l.map (Value.int .i64)) hs hown.v hw rfl hx (by rw [List.length_map]; exact hlen) hbase
    (fun v' w' h1 h2 => h v' w' (Own.of (by rw [List.map_append]; exact h1)) h2)

/-- the same; and where the new row lies -/
theorem wp_app_vb (T E : Nat) (z : Value) (bytes : Nat) (hT : Tryz.prog.underlying T = some (.slice E)) (hE : (Tryz.prog.info? E).map (fun i => (i.zero, i.size, i.bytes)) = some (some z, 1, bytes))
    (hzs : z.cells.size = 1) (hbt : bytes ≤ 64) {ops : Array Oper} {rest : List Oper} {o : Oper} {a : Act} {Q : Exit → Act → World → Prop} {w : World} (hgd : o.guard = none) (s x : Operand)
    (ho : o.op = Op.call { callee := Callee.builtin Builtin.append, args := #[s, x], argTypes := #[T, T] }) (base : Nat) (w1 : World) (v u : Value) (xs : List Value) (hs : a.eval s = v) (hown : OwnV base E w1 v xs)
    (hw : w = w1.alloc (.cells #[u] E)) (hu : u.oneCell' = true) (hx : a.eval x = .slice (some ⟨w1.heap.size, 0, none⟩) 1 1) (hlen : xs.length ≤ 1000000) (hbase : base ≤ w1.heap.size)
    (h : ∀ v' w', OwnV base E w' v' (xs ++ [u]) → w1.grownBy w' v.ownBlock → (v'.ownBlock = v.ownBlock ∨ ∀ k, v'.ownBlock = some k → w1.heap.size ≤ k) → wpList Tryz.prog ops Q rest (a.put o.dst v') w') :
    wpList Tryz.prog ops Q (o :: rest) a w := by
  subst hw
  have hga : Ext w1 (w1.alloc (.cells #[u] E)) := World.grownBy_alloc _ _ _
  refine wp_app T E z bytes hT hE hzs hbt hgd s x ho base v xs hs (hown.kept hga (by cases hv : v.ownBlock <;> simp)) (some ⟨w1.heap.size, 0, none⟩) 1 1 [u] hx rfl (by simp) ?_ ?_ (by omega) (by have := hga.size; omega) ?_
  · intro j hj
    have : j = 0 := by omega
    subst this
    exact ⟨_, _, rfl, by rw [World.cell?_alloc_at _ _ _ _ rfl]; rfl⟩
  · intro u' hu'
    simp at hu'; subst hu'; exact hu
  · intro v' w' h1 h2 _ h4
    exact h v' w' h1 (grown_trans (grown_of_ext _ hga) h2) (h4.elim .inl (fun e => .inr (fun k hk => by rw [e] at hk; cases hk; exact hga.size)))

theorem wp_app_intb {ops : Array Oper} {rest : List Oper} {o : Oper} {a : Act} {Q : Exit → Act → World → Prop} {w : World} (hgd : o.guard = none) (s x : Operand)
    (ho : o.op = Op.call { callee := Callee.builtin Builtin.append, args := #[s, x], argTypes := #[24, 24] }) (B : Nat) (v : Value) (l : List Int) (y : Int) (hs : a.eval s = v) (w2 : World) (hown : Own B w2 v l)
    (hw : w = w2.alloc (.cells #[.int .i64 y] 2)) (hx : a.eval x = .slice (some ⟨w2.heap.size, 0, none⟩) 1 1) (hlen : l.length ≤ 1000000) (hbase : B ≤ w2.heap.size)
    (h : ∀ v' w', Own B w' v' (l ++ [y]) → w2.grownBy w' v.ownBlock → (v'.ownBlock = v.ownBlock ∨ ∀ k, v'.ownBlock = some k → w2.heap.size ≤ k) → wpList Tryz.prog ops Q rest (a.put o.dst v') w') :
    wpList Tryz.prog ops Q (o :: rest) a w :=
  wp_app_vb 24 2 (.int .i64 0) 8 und_ints Tryz.infoInt rfl (by decide) hgd s x ho B w2 v (.int .i64 y) (l.map (Value.int .i64)) hs hown.v hw rfl hx (by rw [List.length_map]; exact hlen) hbase
    (fun v' w' h1 h2 h3 => h v' w' (Own.of (by rw [List.map_append]; exact h1)) h2 h3)

end Go.Proofs.YtoakmefajbbggaaGreat
namespace Go.Proofs.YtoakmefajbbggaaGreat
open Go.RowKit

/-- an empty row of the call's own -/
theorem own_nil0 {B H : Nat} {w : World} (hB : B ≤ w.heap.size) (hH : w.heap.size = H) : Own B (w.alloc (.cells #[] 2)) (.slice (some ⟨H, 0, none⟩) 0 0) [] := by
  subst hH; exact World.ownsRow_lit w #[] 0 hB (by decide) rfl

end Go.Proofs.YtoakmefajbbggaaGreat
namespace Go.Proofs.YtoakmefajbbggaaGreat

section
variable {P : Pr} (G : Grp P)
include G
theorem wv_neg {l : Int} (h : l < 0) : wv G [l] = (gE G (-l - 1).toNat)⁻¹ := by
  unfold wv
  rw [evW_one (el_mon G)]
  unfold letW
  rw [if_pos h]
theorem wv_takeS {w : List Int} {k : Nat} (hk : k < w.length) : wv G (w.take (k + 1)) = wv G (w.take k) * wv G [gt w k] := by rw [take_succ_gt w k hk, wv_app]
theorem wv_inv {w : List Int} (hw : WordN P.orders.length w) : wv G (invWord w) = (wv G w)⁻¹ :=
  El.inv_of (evW_inv (el_mon G) (n := P.orders.length) (fun j _ => El.ir (gE G j)) (fun j _ => El.il (gE G j)) w hw)
theorem wv_relPow {i : Nat} (hi : i < P.orders.length) : wv G (relPow P i) = 1 := by
  have hP := G.v
  have k1 := (el_holds G).pw i (Nat.zero_le _) hi
  have e2 : P.orders.length = (i + 1) + (P.orders.length - (i + 1)) := by omega
  have k2 := npr_skip (m := fun a b : El G => a * b) (h := gE G) (e := (1 : El G)) (x := gt P.powers i) (i := i + 1) (f := P.orders.length - (i + 1)) (fun l hl => (hP.pv i hi).2 l (by omega))
  rw [← e2] at k2
  rw [← k2] at k1
  unfold relPow
  rw [wv_app, wv_inv G (WordN.nWord _ _ (Nat.le_refl _)), wv_nWord, wv_rep]
  have k3 : iter (gt P.orders i).toNat (fun y => y * gE G i) 1 = npr (· * ·) (gE G) (gt P.powers i) 0 1 P.orders.length := k1
  rw [k3, El.ir]
theorem wv_relCon {i k : Nat} (hi : i + k + 1 < P.orders.length) : wv G (relCon P i k) = 1 := by
  have hP := G.v
  have k1 := (el_holds G).cj i (i + k + 1) (Nat.zero_le _) (by omega) (by omega)
  have e2 : P.orders.length = (i + 1) + (P.orders.length - (i + 1)) := by omega
  have k2 := npr_skip (m := fun a b : El G => a * b) (h := gE G) (e := (1 : El G)) (x := gt (gt P.conj i) (i + k + 1 - i - 1)) (i := i + 1) (f := P.orders.length - (i + 1)) (fun l hl => (cj_T hP (i := i) (j := i + k + 1) (by omega) (by omega)).2 l (by omega))
  rw [← e2] at k2
  rw [← k2] at k1
  rw [show i + k + 1 - i - 1 = k by omega] at k1
  unfold relCon
  rw [wv_app, wv_inv G (WordN.nWord _ _ (Nat.le_refl _)), wv_nWord]
  have e3 : wv G [-((i : Int) + 1), (i : Int) + k + 2, (i : Int) + 1] = (gE G i)⁻¹ * (gE G (i + k + 1) * gE G i) := by
    rw [show ([-((i : Int) + 1), (i : Int) + k + 2, (i : Int) + 1] : List Int) = [-((i : Int) + 1)] ++ ([(i : Int) + k + 2] ++ [(i : Int) + 1]) from rfl, wv_app, wv_app, wv_neg G (by omega), wv_one G (by omega), wv_one G (by omega), show (- -((i : Int) + 1) - 1).toNat = i by omega, show ((i : Int) + k + 2 - 1).toNat = i + k + 1 by omega, show ((i : Int) + 1 - 1).toNat = i by omega]
  have k3 : gE G (i + k + 1) * gE G i = gE G i * npr (· * ·) (gE G) (gt (gt P.conj i) k) 0 1 P.orders.length := k1
  rw [e3, k3, El.ilc, El.ir]
theorem wv_relPs : ∀ k, k ≤ P.orders.length → ∀ w ∈ relPs P k, wv G w = 1
  | 0, _, w, h => by cases h
  | k + 1, hk, w, h => by
    rcases List.mem_append.1 h with h1 | h1
    · exact wv_relPs k (by omega) w h1
    · rw [List.mem_singleton.1 h1]; exact wv_relPow G (by omega)
theorem wv_relCs {i : Nat} : ∀ k, i + k < P.orders.length → ∀ w ∈ relCs P i k, wv G w = 1
  | 0, _, w, h => by cases h
  | k + 1, hk, w, h => by
    rcases List.mem_append.1 h with h1 | h1
    · exact wv_relCs k (by omega) w h1
    · rw [List.mem_singleton.1 h1]; exact wv_relCon G (by omega)
theorem wv_relTo : ∀ i, i ≤ P.orders.length → ∀ w ∈ relTo P i, wv G w = 1
  | 0, _, w, h => wv_relPs G _ (Nat.le_refl _) w h
  | i + 1, hi, w, h => by
    rcases List.mem_append.1 h with h1 | h1
    · exact wv_relTo i (by omega) w h1
    · exact wv_relCs G (i := i) _ (by rw [(G.v.cv i (by omega)).1]; omega) w h1
/-- the relators hold -/
theorem wv_rels : ∀ w ∈ relsP P, wv G w = 1 := wv_relTo G _ (Nat.le_refl _)

/-- the value of a word under the generators -/
theorem wv_eval {w : List Int} (hw : WordN P.orders.length w) : ∀ k, k ≤ w.length → evalTo P (gensOf P.orders.length) w k = (wv G (w.take k)).1
  | 0, _ => by rw [List.take_zero]; rfl
  | k + 1, hk => by
    have ih := wv_eval hw k (by omega)
    have hl := hw _ (gtMem (l := w) (i := k) (by omega))
    have hgo : ∀ j, j < P.orders.length → gt (gensOf P.orders.length) j = unitV P.orders.length j := fun j hj => by
      unfold gensOf
      rw [gt_map _ _ _ (by rw [List.length_range]; exact hj), gt_range hj]
    rw [evalTo, ih, wv_takeS G (by omega)]
    split
    · rename_i hneg
      rw [hgo _ (by omega), wv_neg G hneg]; rfl
    · rename_i hneg
      rw [hgo _ (by omega), wv_one G (by omega)]; rfl
theorem wv_eval0 {w : List Int} (hw : WordN P.orders.length w) : evalTo P (gensOf P.orders.length) w w.length = (wv G w).1 := by
  have := wv_eval G hw w.length (Nat.le_refl _)
  rwa [List.take_length] at this
theorem gens_vec : ∀ x ∈ gensOf P.orders.length, Vec P.orders x := fun x hx => by
  unfold gensOf at hx
  obtain ⟨k, _, rfl⟩ := List.mem_map.1 hx
  exact unitV_vec G.v k
end

end Go.Proofs.YtoakmefajbbggaaGreat
namespace Go.Proofs.YtoakmefajbbggaaGreat
open Go.RowKit

/-- the world where one integer is laid by a literal, and the list that it makes -/
theorem ints_lit (w : World) (y : Int) : Ints Any (w.alloc (.cells #[.int .i64 y] 2)) (.slice (some ⟨w.heap.size, 0, none⟩) 1 1) [y] := by
  refine ⟨some ⟨w.heap.size, 0, none⟩, 1, rfl, ⟨by simp, by simp, fun h => by cases h⟩, fun i hi => ⟨w.heap.size, 0, .int .i64 y, rfl, trivial, by simp, ?_, ?_⟩⟩
  · have : i = 0 := by simpa using hi
    subst this
    rw [World.cell?_alloc_at _ _ _ _ rfl]; rfl
  · have : i = 0 := by simpa using hi
    subst this; rfl

theorem abs_ok (a : Int) (w : World) (ha : -1000000 ≤ a ∧ a ≤ 1000000) : Calls Tryz.prog 126 #[.int .i64 a] w fun e w' => e = .returned (.int .i64 (if a < 0 then -a else a)) ∧ w = w' := by
  have e1 : IntKind.i64.wrap (-a) = -a := IntWalk.i64_in _ (by omega)
  go_enter Tryz.func126, Tryz.ntmps126
  obtain ⟨b, hb⟩ : ∃ b, b = (if a < 0 then -a else a) := ⟨_, rfl⟩
  rw [← hb]
  by_cases h0 : a < 0
  · rw [if_pos h0] at hb
    have h1 : ¬ -a ≤ a := by omega
    have hmx : max a (-a) = -a := Int.max_eq_right (by omega)
    have HB := Lib.hid hb; clear hb
    go_wp2
    go_ret
    exact ⟨by rw [HB.out]; first | rfl | (show Ending.returned (.int .i64 (max a (-a))) = _; rw [hmx]), rfl⟩
  · rw [if_neg h0] at hb
    have h1 : -a ≤ a := by omega
    have hmx : max a (-a) = a := Int.max_eq_left (by omega)
    have HB := Lib.hid hb; clear hb
    go_wp2
    go_ret
    exact ⟨by rw [HB.out]; first | rfl | (show Ending.returned (.int .i64 (max a (-a))) = _; rw [hmx]), rfl⟩

set_option maxHeartbeats 1000000 in
theorem normalWord_ok (w : World) (v : Value) (e : List Int) (S : Nat → Prop) (hv : Ints S w v e) (hn : e.length ≤ 6) (he : ∀ i, i < e.length → 0 ≤ gt e i ∧ gt e i ≤ 7) :
    Calls Tryz.prog 173 #[v] w (Ret w fun w' r => Own w.heap.size w' r (nWord e e.length)) := by
  obtain ⟨a, cap, rfl, _, _⟩ := hv.shape
  have hb : ∀ i, gt e i ≤ 7 := fun i => by
    by_cases h : i < e.length
    · exact (he i h).2
    · rw [gt_big (by omega)]; decide
  have HB := Lib.hid (And.intro hb he); clear hb he
  go_enter Tryz.func173, Tryz.ntmps173
  go_wp2
  go_loopw [3, 8] (fun ov iv wr => ∃ (i : Nat) (v3 : Value), v3 = ov ∧ iv = .int .i64 i ∧ i ≤ e.length ∧ Ext w wr ∧ Own w.heap.size wr v3 (nWord e i)) (fun _ iv _ => e.length - (intOf iv).toNat)
  case atStart => exact ⟨0, _, rfl, rfl, by omega, Ext.refl _, World.ownsRow_nil _ _ _ _⟩
  case round =>
    obtain ⟨i, v3, rfl, rfl, hi, hg, hO⟩ := hrel
    by_cases hlt : i < e.length
    · have hlt' : (i : Int) < e.length := by omega
      obtain ⟨b, off, rfl, _, _, hc⟩ := Ints.at (hv.ext hg) i hlt
      obtain ⟨x, hx⟩ : ∃ x, x = (gt e i).toNat := ⟨_, rfl⟩
      have hx0 := HB.out.2 i hlt
      have hxe : gt e i = (x : Int) := by omega
      have hx7 : x ≤ 7 := by omega
      have hnw : nWord e (i + 1) = nWord e i ++ List.replicate x ((i : Int) + 1) := by rw [nWord, hx]
      have hwl := nWord_len HB.out.1 i
      rw [hxe] at hc
      have HX := Lib.hid (And.intro hnw hwl); clear hnw hwl hx0 hxe hx
      go_wp2
      clear hc
      have hO0 : Own w.heap.size wr v3 (nWord e i ++ List.replicate 0 ((i : Int) + 1)) := by simpa using hO
      clear hO
      obtain ⟨wo, hwo⟩ : ∃ wo : World, wo = wr := ⟨_, rfl⟩
      clear hwo
      go_loopw [3, 14] (fun ov kv wr => ∃ (k : Nat) (v4 : Value), v4 = ov ∧ kv = .int .i64 k ∧ k ≤ x ∧ Ext w wr ∧ Own w.heap.size wr v4 (nWord e i ++ List.replicate k ((i : Int) + 1))) (fun _ kv _ => x - (intOf kv).toNat)
      case atStart => exact ⟨0, _, rfl, rfl, by omega, hg, hO0⟩
      case round =>
        clear hO0 hg
        obtain ⟨k, v4, rfl, rfl, hk, hg, hO⟩ := hrel
        by_cases hltk : k < x
        · have hltk' : (k : Int) < x := by omega
          have hlen : (nWord e i ++ List.replicate k ((i : Int) + 1)).length ≤ 1000 := by rw [List.length_append, List.length_replicate]; have := HX.out.2; omega
          have HL := Lib.hid hlen; clear hlen
          go_wp2_with (first | (at_builtin; refine wp_app_ints rfl _ _ rfl w.heap.size v4 _ rfl (hO.ext0 (World.grownBy_alloc _ _ _)) _ _ rfl Any (ints_lit wr _) (by have := HL.out; simp only [List.length_cons, List.length_nil]; omega) (by have := hg.size; simp; omega) ?_; intro v5 w5 hO5 hg5 _) | fail)
          have hg5' : wr.grownBy w5 v4.ownBlock := grown_trans (grown_of_ext _ (World.grownBy_alloc _ _ _)) hg5
          have hge : Ext w w5 := grown_own hg hg5' (fun b hb hlt => by have := (hO.lt b hb).1; omega)
          rw [List.append_assoc, ← List.replicate_succ'] at hO5
          clear hO hg5 hg5'
          go_roundw
          case rel => exact ⟨k + 1, v5, rfl, by go_num, by omega, hge, hO5⟩
          case measure => simp [intOf]; omega
        · have hke : k = x := by omega
          subst hke
          rw [← HX.out.1] at hO
          go_wp2
          go_roundw
          case rel => exact ⟨i + 1, v4, rfl, by go_num, by omega, hg, hO⟩
          case measure => simp [intOf]; omega
    · have hie : i = e.length := by omega
      subst hie
      go_wp2
      go_ret
      exact ⟨_, rfl, hg, hO⟩

end Go.Proofs.YtoakmefajbbggaaGreat
namespace Go.Proofs.YtoakmefajbbggaaGreat
open Go.RowKit

set_option maxHeartbeats 1000000 in
theorem l07Word_ok (w : World) (v : Value) (e : List Int) (S : Nat → Prop) (hv : Ints S w v e) (hn : e.length ≤ 6) (he : ∀ i, i < e.length → 0 ≤ gt e i ∧ gt e i ≤ 7) :
    Calls Tryz.prog 69 #[v] w (Ret w fun w' r => Own w.heap.size w' r (nWord e e.length)) := by
  obtain ⟨a, cap, rfl, _, _⟩ := hv.shape
  have hb : ∀ i, gt e i ≤ 7 := fun i => by
    by_cases h : i < e.length
    · exact (he i h).2
    · rw [gt_big (by omega)]; decide
  have HB := Lib.hid (And.intro hb he); clear hb he
  go_enter Tryz.func69, Tryz.ntmps69
  go_wp2
  go_loopw [3, 4] (fun ov iv wr => ∃ (i : Nat) (v3 : Value), v3 = ov ∧ iv = .int .i64 i ∧ i ≤ e.length ∧ Ext w wr ∧ Own w.heap.size wr v3 (nWord e i)) (fun _ iv _ => e.length - (intOf iv).toNat)
  case atStart => exact ⟨0, _, rfl, rfl, by omega, World.grownBy_alloc _ _ _, World.ownsRow_lit w #[] 0 (Nat.le_refl _) (by decide) rfl⟩
  case round =>
    obtain ⟨i, v3, rfl, rfl, hi, hg, hO⟩ := hrel
    by_cases hlt : i < e.length
    · have hlt' : (i : Int) < e.length := by omega
      obtain ⟨b, off, rfl, _, _, hc⟩ := Ints.at hv i hlt
      obtain ⟨x, hx⟩ : ∃ x, x = (gt e i).toNat := ⟨_, rfl⟩
      have hx0 := HB.out.2 i hlt
      have hxe : gt e i = (x : Int) := by omega
      have hx7 : x ≤ 7 := by omega
      have hnw : nWord e (i + 1) = nWord e i ++ List.replicate x ((i : Int) + 1) := by rw [nWord, hx]
      have hwl := nWord_len HB.out.1 i
      rw [hxe] at hc
      have HX := Lib.hid (And.intro hnw hwl); clear hnw hwl hx0 hxe hx
      go_wp2
      have hO0 : Own w.heap.size wr v3 (nWord e i ++ List.replicate 0 ((i : Int) + 1)) := by simpa using hO
      clear hO
      go_loopw [3, 5] (fun ov kv wr => ∃ (k : Nat) (v4 : Value), v4 = ov ∧ kv = .int .i64 k ∧ k ≤ x ∧ Ext w wr ∧ Own w.heap.size wr v4 (nWord e i ++ List.replicate k ((i : Int) + 1))) (fun _ kv _ => x - (intOf kv).toNat)
      case atStart => exact ⟨0, _, rfl, rfl, by omega, hg, hO0⟩
      case round =>
        clear hO0 hg
        obtain ⟨k, v4, rfl, rfl, hk, hg, hO⟩ := hrel
        have hcr := hg.cell hc (by simp)
        by_cases hltk : k < x
        · have hltk' : (k : Int) < x := by omega
          have hlen : (nWord e i ++ List.replicate k ((i : Int) + 1)).length ≤ 1000 := by rw [List.length_append, List.length_replicate]; have := HX.out.2; omega
          have HL := Lib.hid hlen; clear hlen
          go_wp2_with (first | (at_builtin; refine wp_app_ints rfl _ _ rfl w.heap.size v4 _ rfl (hO.ext0 (World.grownBy_alloc _ _ _)) _ _ rfl Any (ints_lit wr _) (by have := HL.out; simp only [List.length_cons, List.length_nil]; omega) (by have := hg.size; simp; omega) ?_; intro v5 w5 hO5 hg5 _) | fail)
          have hg5' : wr.grownBy w5 v4.ownBlock := grown_trans (grown_of_ext _ (World.grownBy_alloc _ _ _)) hg5
          have hge : Ext w w5 := grown_own hg hg5' (fun b hb hlt => by have := (hO.lt b hb).1; omega)
          rw [List.append_assoc, ← List.replicate_succ'] at hO5
          clear hO hg5 hg5' hcr
          go_roundw
          case rel => exact ⟨k + 1, v5, rfl, by go_num, by omega, hge, hO5⟩
          case measure => simp [intOf]; omega
        · have hke : k = x := by omega
          subst hke
          rw [← HX.out.1] at hO
          go_wp2
          clear hcr
          go_roundw
          case rel => exact ⟨i + 1, v4, rfl, by go_num, by omega, hg, hO⟩
          case measure => simp [intOf]; omega
    · have hie : i = e.length := by omega
      subst hie
      go_wp2
      go_ret
      exact ⟨_, rfl, hg, hO⟩

set_option maxHeartbeats 1000000 in
theorem l06Invert_ok (w : World) (v : Value) (l : List Int) (S : Nat → Prop) (hv : Ints S w v l) (hn : l.length ≤ 1000) (hb : ∀ i, i < l.length → -1000 ≤ gt l i ∧ gt l i ≤ 1000) :
    Calls Tryz.prog 129 #[v] w (Ret w fun w' r => Own w.heap.size w' r (invWord l)) := by
  obtain ⟨a, cap, rfl, _, _⟩ := hv.shape
  have HB := Lib.hid hb; clear hb
  go_enter Tryz.func129, Tryz.ntmps129
  go_wp2
  go_loopw [3, 4] (fun ov iv wr => ∃ (i : Nat) (v3 : Value), v3 = ov ∧ iv = .int .i64 ((i : Int) - 1) ∧ i ≤ l.length ∧ Ext w wr ∧ Own w.heap.size wr v3 (((l.drop i).map (fun x => -x)).reverse)) (fun _ iv _ => (intOf iv + 1).toNat)
  case atStart => exact ⟨l.length, _, rfl, by go_num, by omega, World.grownBy_alloc _ _ _, by rw [List.drop_length]; exact World.ownsRow_lit w #[] 0 (Nat.le_refl _) (by decide) rfl⟩
  case round =>
    obtain ⟨i, v3, rfl, rfl, hi, hg, hO⟩ := hrel
    obtain ⟨m, hm⟩ : ∃ m, m = ((l.drop i).map (fun x => -x)).reverse := ⟨_, rfl⟩
    have hml : m.length = l.length - i := by rw [hm]; simp
    rw [← hm] at hO
    by_cases hlt : 0 < i
    · obtain ⟨j, rfl⟩ : ∃ j, i = j + 1 := ⟨i - 1, by omega⟩
      have hj : j < l.length := by omega
      have hj' : (j : Int) < l.length := by omega
      obtain ⟨b, off, rfl, _, _, hc⟩ := Ints.at (hv.ext hg) j hj
      have hx0 := HB.out j hj
      have e1 : IntKind.i64.wrap (-(gt l j)) = -(gt l j) := IntWalk.i64_in _ (by omega)
      have hnx : ((l.drop j).map (fun x => -x)).reverse = m ++ [-(gt l j)] := by
        rw [hm, List.drop_eq_getElem_cons hj, List.map_cons, List.reverse_cons, gt_eq l j hj]
      have e2 : (((j + 1 : Nat) : Int) - 1) = (j : Int) := by omega
      have HM := Lib.hid (And.intro hml hnx); clear hml hnx hm
      rw [e2]
      go_wp2_with (first | (at_builtin; refine wp_app_ints rfl _ _ rfl w.heap.size v3 _ rfl (hO.ext0 (World.grownBy_alloc _ _ _)) _ _ rfl Any (ints_lit wr _) (by have := HM.out.1; simp only [List.length_cons, List.length_nil]; omega) (by have := hg.size; simp; omega) ?_; intro v5 w5 hO5 hg5 _) | fail)
      have hg5' : wr.grownBy w5 v3.ownBlock := grown_trans (grown_of_ext _ (World.grownBy_alloc _ _ _)) hg5
      have hge : Ext w w5 := grown_own hg hg5' (fun b hb hlt => by have := (hO.lt b hb).1; omega)
      clear hO hg5 hg5' hc e1
      go_roundw
      case rel => exact ⟨j, v5, rfl, by go_num, by omega, hge, by rw [HM.out.2]; exact hO5⟩
      case measure => simp [intOf]
    · have hie : i = 0 := by omega
      subst hie
      rw [hm] at hO
      clear hm hml
      go_wp2
      go_ret
      exact ⟨_, rfl, hg, by simpa [invWord] using hO⟩

end Go.Proofs.YtoakmefajbbggaaGreat
namespace Go.Proofs.YtoakmefajbbggaaGreat
section
open Go.Proofs Go.Shelf Go.RowKit Go.Lib Go.Sort
def Tryz.reverseInts_ren : Go.Shelf.Ren := ⟨fun | 35 => 225 | n => n, fun | 22 => 24 | 23 => 2 | 3 => 3 | 4 => 4 | 0 => 0 | n => n, fun | n => n⟩
theorem Tryz.reverseInts : Go.Proofs.SlLaysE.n35 Tryz.prog Tryz.reverseInts_ren := {
  mixed := by kernel_rfl
  f35 := ⟨Tryz.f225.name, by decide, Tryz.func225.trans (congrArg some (by kernel_rfl))⟩
  t0 := Tryz.underlying0
  a0 := Tryz.isAgg0
  z0 := Tryz.sizeOf0
  v0 := Tryz.zeroValue0
  t3 := Tryz.underlying3
  a3 := Tryz.isAgg3
  z3 := Tryz.sizeOf3
  v3 := Tryz.zeroValue3
  t4 := Tryz.underlying4
  a4 := Tryz.isAgg4
  z4 := Tryz.sizeOf4
  v4 := Tryz.zeroValue4
  t22 := Tryz.underlying24
  a22 := Tryz.isAgg24
  z22 := Tryz.sizeOf24
  v22 := Tryz.zeroValue24
  a23 := Tryz.isAgg2
  z23 := Tryz.sizeOf2 }

end
open Go.RowKit

end Go.Proofs.YtoakmefajbbggaaGreat
namespace Go.Proofs.YtoakmefajbbggaaGreat
section
open Go.Proofs Go.Shelf Go.RowKit Go.Lib
def Tryz.bitsMul_ren : Go.Shelf.Ren := ⟨fun | 212 => 224 | 263 => 268 | 264 => 269 | n => n, fun | 46 => 90 | 51 => 239 | 146 => 250 | 53 => 40 | 148 => 252 | n => n, fun | n => n⟩
theorem Tryz.bitsMul : Go.Proofs.Lays.n212 Tryz.prog Tryz.bitsMul_ren := {
  mixed := by kernel_rfl
  f212 := Tryz.func224.trans (congrArg some (by kernel_rfl))
  f263 := Tryz.func268.trans (congrArg some (by kernel_rfl))
  f264 := Tryz.func269.trans (congrArg some (by kernel_rfl))
  t46 := Tryz.underlying90
  a46 := Tryz.isAgg90
  z46 := Tryz.sizeOf90
  v46 := Tryz.zeroValue90
  t51 := Tryz.underlying239
  a51 := Tryz.isAgg239
  z51 := Tryz.sizeOf239
  v51 := Tryz.zeroValue239
  t53 := Tryz.underlying40
  a53 := Tryz.isAgg40
  z53 := Tryz.sizeOf40
  v53 := Tryz.zeroValue40
  t146 := Tryz.underlying250
  a146 := Tryz.isAgg250
  z146 := Tryz.sizeOf250
  v146 := Tryz.zeroValue250
  t148 := Tryz.underlying252
  a148 := Tryz.isAgg252
  z148 := Tryz.sizeOf252
  v148 := Tryz.zeroValue252 }

end
open Go.RowKit

end Go.Proofs.YtoakmefajbbggaaGreat
namespace Go.Proofs.YtoakmefajbbggaaGreat
open Go.RowKit

set_option maxHeartbeats 1000000 in
theorem l01Own2_ok (w : World) (v : Value) (L : List (List Int)) (S : Nat → Prop) (hv : Rows2 S w v L) (hL : ∀ x ∈ L, x.length ≤ 1000000) (hlen : L.length ≤ 1000000) :
    Calls Tryz.prog 183 #[v] w (Ret w fun w' r => RowsO w.heap.size w' r L) := by
  obtain ⟨a, cap, rfl, _, _⟩ := Sl.shape hv
  have HL := Lib.hid hL; clear hL
  go_enter Tryz.func183, Tryz.ntmps183
  go_wp2
  go_loopw [3, 4] (fun ov iv wr => ∃ (i : Nat) (v4 : Value), v4 = ov ∧ iv = .int .i64 i ∧ i ≤ L.length ∧ Ext w wr ∧ RowsO w.heap.size wr v4 (L.take i)) (fun _ iv _ => L.length - (intOf iv).toNat)
  case atStart => exact ⟨0, _, rfl, rfl, by omega, World.grownBy_alloc _ _ _, [], fun _ _ => False, rfl, World.ownsRow_lit w #[] 0 (Nat.le_refl _) (by decide) rfl, by simp, by simp, by simp⟩
  case round =>
    obtain ⟨i, v4, rfl, rfl, hi, hg, hO⟩ := hrel
    by_cases hlt : i < L.length
    · have hlt' : (i : Int) < L.length := by omega
      obtain ⟨b, off, a2, cap2, rfl, _, _, hc, hr⟩ := Rows2.at (Rows2.ext hv hg) i hlt
      have hstep := take_succ_gt L i hlt
      have hll := HL.out _ (gtMem hlt)
      have htl : (L.take i).length ≤ 1000000 := by rw [List.length_take]; omega
      have HST := Lib.hid (And.intro hstep hll); clear hstep hll
      go_wp2_with fail
      refine Calls.mono (l01Own_ok wr _ (gt L i) _ hr (by have := HST.out.2; omega)) ?_
      rintro eC wC ⟨vC, rfl, hgC, hOC⟩
      have hYO : OwnIn (From wr.heap.size) wC vC (gt L i) := OwnIn.of hOC (by have := HST.out.2; omega) (fun j h1 _ => h1)
      obtain ⟨ay, capy, hvy, _, _⟩ := hYO.ints.shape
      subst hvy
      clear hc
      go_wp2_with (first | (at_builtin; refine wp_app_row rfl _ _ rfl w.heap.size wr wC v4 _ (L.take i) (gt L i) rfl hO hgC hYO rfl rfl htl hg.size ?_; intro v5 w5 hO5 hg5 hg6; have hgw5 := hO.extw hg (Nat.le_refl _) hg5) | fail)
      go_roundw
      case rel => exact ⟨i + 1, v5, rfl, by go_num, by omega, hgw5, by rw [HST.out.1]; exact hO5⟩
      case measure => simp [intOf]; omega
    · have hie : i = L.length := by omega
      subst hie
      rw [List.take_length] at hO
      obtain ⟨az, capz, hvz, _, _⟩ := SlD.shape (hO.toD (by omega))
      subst hvz
      go_wp2
      go_ret
      exact ⟨_, rfl, hg, hO⟩

end Go.Proofs.YtoakmefajbbggaaGreat
namespace Go.Proofs.YtoakmefajbbggaaGreat
open Go.RowKit

theorem step_app_many (T E : Nat) (z : Value) (bytes : Nat) (hT : Tryz.prog.underlying T = some (.slice E)) (hE : (Tryz.prog.info? E).map (fun i => (i.zero, i.size, i.bytes)) = some (some z, 1, bytes))
    (hzs : z.cells.size = 1) (hbt : bytes ≤ 64) {ops : Array Oper} {o : Oper} {a : Act} {K : Act → World → Prop} {Q : Exit → Act → World → Prop} {Ex : Prop} {w : World} (hgd : o.guard = none) (s x : Operand)
    (ho : o.op = Op.call { callee := Callee.builtin Builtin.append, args := #[s, x], argTypes := #[T, T] }) (base g cap : Nat) (xs : List Value) (hs : a.eval s = .slice (some ⟨g, 0, none⟩) xs.length cap) (hown : OwnV base E w (.slice (some ⟨g, 0, none⟩) xs.length cap) xs)
    (sa : Option Addr) (m c : Nat) (news : List Value) (hx : a.eval x = .slice sa m c) (hl : news.length = m) (hsn : sa = none → c = 0)
    (hnews : ∀ j, j < m → ∃ b off, sa = some ⟨b, off, none⟩ ∧ w.cell? ⟨b, off + j, none⟩ = some (gt news j)) (h1 : ∀ u, u ∈ news → u.oneCell' = true) (hlen : xs.length + m ≤ 1000000) (hbase : base ≤ w.heap.size)
    (h : ∀ v' w', OwnV base E w' v' (xs ++ news) → w.grownBy w' (some g) → K (a.put o.dst v') w') :
    if Region.wanted o (yielded ops a.tmps) = true then Oper.wp Tryz.prog o a w K Q else Ex := by
  obtain ⟨i0, hi, hz0, hz1, hz2⟩ := info_parts hE
  have hw : Region.wanted o (yielded ops a.tmps) = true := by simp [Region.wanted, hgd]
  rcases Nat.eq_zero_or_pos m with rfl | hm
  · have hn : news = [] := List.eq_nil_of_length_eq_zero hl
    subst hn
    have hown0 := hown
    rw [List.append_nil] at h
    cases sa with
    | none =>
      have hc := hsn rfl
      subst hc
      rw [if_pos hw]
      have hrun := run_append_owned_none (P := Tryz.prog) (w := w) base T o.type E i0 1 hT hi _ xs.length xs hown
      unfold Oper.wp
      simp [execOp, ho, resolve, invoke, builtin, hs, hx, hrun, Result.andThen]
      exact h _ _ hown0 (grown_refl _ _)
    | some ad =>
      have hcap : xs.length ≤ cap := by
        rcases hown.form with ⟨h, _⟩ | ⟨g', cp, hv, hc, _⟩
        · cases h
        · simp only [Value.slice.injEq] at hv; omega
      refine step_append_at w hgd s x T ho E i0 z 1 bytes hT hi hz0 hz1 hz2 hzs (by decide) g 0 xs.length cap xs hs (by omega) (fun j u hj => ?_) ad 0 c [] hx rfl (by simp) (by simp) (fun _ j hj => by simp at hj) (by unfold maxLen; omega) (by have := Nat.mul_le_mul (show xs.length + 0 ≤ 1000000 by omega) hbt; omega) (fun _ => ?_) (fun h => by omega)
      · have hj2 : j < xs.length := by
          rcases Nat.lt_or_ge j xs.length with h | h
          · exact h
          · rw [List.getElem?_eq_none h] at hj; cases hj
        rw [Nat.zero_add, hown.cell j hj2]
        simp [gt, hj]
      · have e : w.setCells g (0 + xs.length * 1) [] = w := by simp [World.setCells]
        rw [e]
        exact h _ _ hown0 (grown_refl _ _)
  · obtain ⟨b, off, rfl, _⟩ := hnews 0 hm
    refine step_append_lies w hgd s x T ho base E i0 z 1 bytes hT hi hz0 hz1 hz2 hzs (by decide) _ xs.length xs hs hown ⟨b, off, none⟩ m c news hx (by omega) (fun j u hj => ?_) h1 hm (by unfold maxLen; omega) (by have := Nat.mul_le_mul (show xs.length + m ≤ 1000000 by omega) hbt; omega) hbase w.heap.size rfl ?_
    · have hj2 : j < m := by
        rcases Nat.lt_or_ge j news.length with h | h
        · omega
        · rw [List.getElem?_eq_none h] at hj; cases hj
      obtain ⟨b', off', he, hc⟩ := hnews j hj2
      cases he
      have hgj : gt news j = u := by simp [gt, hj]
      rw [hgj] at hc
      unfold Addr.add
      split
      · rename_i h0; subst h0; exact hc
      · exact hc
    · intro g' cap' w' k1 k2 k3 _
      exact h _ w' (by unfold OwnV; rw [List.length_append, hl]; exact k1) k2

end Go.Proofs.YtoakmefajbbggaaGreat
namespace Go.Proofs.YtoakmefajbbggaaGreat
open Go.RowKit

/-- append of a list of integers onto a list of the call's own, in a region that draws -/
theorem step_app_list {ops : Array Oper} {o : Oper} {a : Act} {K : Act → World → Prop} {Q : Exit → Act → World → Prop} {Ex : Prop} {w : World} (hgd : o.guard = none) (s x : Operand)
    (ho : o.op = Op.call { callee := Callee.builtin Builtin.append, args := #[s, x], argTypes := #[24, 24] }) (B g cap n : Nat) (l m : List Int) (hn0 : l.length = n) (hs : a.eval s = .slice (some ⟨g, 0, none⟩) n cap)
    (hown : Own B w (.slice (some ⟨g, 0, none⟩) n cap) l) (v : Value) (S : Nat → Prop) (hv : Ints S w v m) (hx : a.eval x = v) (hlen : l.length + m.length ≤ 1000000) (hbase : B ≤ w.heap.size)
    (h : ∀ v' w', Own B w' v' (l ++ m) → w.grownBy w' (some g) → K (a.put o.dst v') w') :
    if Region.wanted o (yielded ops a.tmps) = true then Oper.wp Tryz.prog o a w K Q else Ex := by
  subst hn0
  obtain ⟨sa, c, rfl, ⟨_, _, hn⟩, hc⟩ := hv
  have hl : (l.map (Value.int .i64)).length = l.length := List.length_map ..
  refine step_app_many 24 2 (.int .i64 0) 8 und_ints Tryz.infoInt rfl (by decide) hgd s x ho B g cap (l.map (Value.int .i64)) (by rw [hl]; exact hs) (by have := hown.v; rw [hl]; exact this) sa m.length c (m.map (Value.int .i64)) hx (by simp) hn (fun j hj => ?_) (fun u hu => ?_) (by rw [hl]; exact hlen) hbase (fun v' w' k1 k2 => ?_)
  · obtain ⟨b, off, u, h1, _, _, h2, h3⟩ := hc j hj
    exact ⟨b, off, h1, by rw [h2, h3]; simp [gt, hj]⟩
  · simp at hu
    obtain ⟨x, _, rfl⟩ := hu; rfl
  · exact h v' w' (Own.of (by rw [List.map_append]; exact k1)) k2

end Go.Proofs.YtoakmefajbbggaaGreat
namespace Go.Proofs.YtoakmefajbbggaaGreat
open Go.RowKit

theorem vec_word {P : Pr} (hP : Valid P) {e : List Int} (h : Vec P.orders e) : (∀ i, i < e.length → 0 ≤ gt e i ∧ gt e i ≤ 7) ∧ (nWord e e.length = nWord e P.orders.length) ∧ (nWord e P.orders.length).length ≤ 42 ∧
    (∀ i, i < (nWord e P.orders.length).length → -1000 ≤ gt (nWord e P.orders.length) i ∧ gt (nWord e P.orders.length) i ≤ 1000) := by
  have hn6 := hP.n6
  have h1 : ∀ i, i < e.length → 0 ≤ gt e i ∧ gt e i ≤ 7 := fun i hi => by
    have h2 := h.2 i (by rw [← h.1]; exact hi)
    have h3 := hP.ord7 i (by rw [← h.1]; exact hi)
    omega
  refine ⟨h1, by rw [h.1], ?_, fun i hi => ?_⟩
  · have := nWord_len (e := e) (fun i => by
      by_cases hi : i < e.length
      · exact (h1 i hi).2
      · rw [gt_big (by omega)]; decide) P.orders.length
    omega
  · have := WordN.nWord e P.orders.length (Nat.le_refl _) _ (gtMem hi)
    omega

theorem relPow_len {P : Pr} (hP : Valid P) {i : Nat} (hi : i < P.orders.length) : (relPow P i).length ≤ 50 := by
  have h1 := (vec_word hP (hP.pv i hi).1).2.2.1
  have h2 := hP.ord7 i hi
  unfold relPow
  rw [List.length_append, List.length_replicate, invWord_len]; omega
theorem relCon_len {P : Pr} (hP : Valid P) {i k : Nat} (hi : i < P.orders.length) (hk : k < P.orders.length - 1 - i) : (relCon P i k).length ≤ 50 := by
  have h1 := (vec_word hP ((hP.cv i hi).2 k hk).1).2.2.1
  unfold relCon
  rw [List.length_append, invWord_len]; simp; omega
theorem relTo_len {P : Pr} (hP : Valid P) : ∀ i, i ≤ P.orders.length → (relTo P i).length ≤ P.orders.length + 6 * i
  | 0, _ => by rw [relTo, relPs_len]; omega
  | i + 1, h => by
    have h1 := relTo_len hP i (by omega)
    have h2 := (hP.cv i (by omega)).1
    have := hP.n6
    rw [relTo, List.length_append, relCs_len]; omega

end Go.Proofs.YtoakmefajbbggaaGreat
namespace Go.Proofs.YtoakmefajbbggaaGreat

theorem relTo_word {P : Pr} (hP : Valid P) : ∀ i, i ≤ P.orders.length → ∀ x ∈ relTo P i, WordN P.orders.length x ∧ x.length ≤ 1000 := by
  have hps : ∀ k, k ≤ P.orders.length → ∀ x ∈ relPs P k, WordN P.orders.length x ∧ x.length ≤ 1000 := by
    intro k
    induction k with
    | zero => intro _ x hx; cases hx
    | succ k ih =>
      intro hk x hx
      rcases List.mem_append.1 hx with h | h
      · exact ih (by omega) x h
      · rw [List.mem_singleton.1 h]
        exact ⟨relPow_word (by omega), by have := relPow_len hP (i := k) (by omega); omega⟩
  have hcs : ∀ i k, i < P.orders.length → k ≤ P.orders.length - 1 - i → ∀ x ∈ relCs P i k, WordN P.orders.length x ∧ x.length ≤ 1000 := by
    intro i k hi
    induction k with
    | zero => intro _ x hx; cases hx
    | succ k ih =>
      intro hk x hx
      rcases List.mem_append.1 hx with h | h
      · exact ih (by omega) x h
      · rw [List.mem_singleton.1 h]
        exact ⟨relCon_word (by omega), by have := relCon_len hP (i := i) (k := k) hi (by omega); omega⟩
  intro i
  induction i with
  | zero => intro _ x hx; exact hps _ (Nat.le_refl _) x hx
  | succ i ih =>
    intro hi x hx
    rcases List.mem_append.1 hx with h | h
    · exact ih (by omega) x h
    · exact hcs i _ (by omega) (by have := (hP.cv i (by omega)).1; omega) x h

end Go.Proofs.YtoakmefajbbggaaGreat
namespace Go.Proofs.YtoakmefajbbggaaGreat

/-- a letter as a positive word -/
def insL (P : Pr) (l : Int) : List Int := if 0 < l then [l] else nWord (rInv P (unitV P.orders.length (-l - 1).toNat)) P.orders.length
/-- a word as a positive word -/
def insW (P : Pr) (r : List Int) : List Int := r.flatMap (insL P)
theorem insW_step {P : Pr} {r : List Int} {k : Nat} (hk : k < r.length) : insW P (r.take (k + 1)) = insW P (r.take k) ++ insL P (gt r k) := by
  unfold insW
  rw [take_succ_gt r k hk, List.flatMap_append]
  simp
theorem insL_pos {P : Pr} {l : Int} (h : (1 ≤ l ∧ l ≤ P.orders.length) ∨ (-(P.orders.length : Int) ≤ l ∧ l ≤ -1)) : PosW P.orders.length (insL P l) := by
  unfold insL
  rcases h with h | h
  · rw [if_pos (by omega)]
    intro x hx
    rw [List.mem_singleton.1 hx]; exact h
  · rw [if_neg (by omega)]; exact PosW.nWord _ _ (Nat.le_refl _)
section
variable {P : Pr} (G : Grp P)
include G
theorem insL_vec {l : Int} (_ : l ≤ -1) : Vec P.orders (rInv P (unitV P.orders.length (-l - 1).toNat)) := (gE G (-l - 1).toNat)⁻¹.2
theorem insL_val {l : Int} (h : (1 ≤ l ∧ l ≤ P.orders.length) ∨ (-(P.orders.length : Int) ≤ l ∧ l ≤ -1)) : wv G (insL P l) = wv G [l] := by
  unfold insL
  rcases h with h | h
  · rw [if_pos (by omega)]
  · rw [if_neg (by omega), wv_neg G (by omega)]
    apply Subtype.ext
    rw [wv_nWord, el_nf G (insL_vec G h.2)]
    rfl
theorem insL_len {l : Int} (h : (1 ≤ l ∧ l ≤ P.orders.length) ∨ (-(P.orders.length : Int) ≤ l ∧ l ≤ -1)) : (insL P l).length ≤ 42 := by
  unfold insL
  rcases h with h | h
  · rw [if_pos (by omega)]; simp
  · rw [if_neg (by omega)]
    have h7 : ∀ i, gt (rInv P (unitV P.orders.length (-l - 1).toNat)) i ≤ 7 := fun i => by
      have hv := insL_vec G h.2
      by_cases hi : i < P.orders.length
      · have h2 := hv.2 i hi
        have h3 := G.v.ord7 i hi
        omega
      · rw [gt_big (by rw [hv.1]; omega)]; decide
    have := nWord_len h7 P.orders.length
    have := G.v.n6
    omega
theorem insW_all {r : List Int} (hr : WordN P.orders.length r) : ∀ k, k ≤ r.length → PosW P.orders.length (insW P (r.take k)) ∧ (insW P (r.take k)).length ≤ 42 * k ∧ wv G (insW P (r.take k)) = wv G (r.take k)
  | 0, _ => by
    rw [List.take_zero]
    exact ⟨(fun l h => (by cases h)), Nat.zero_le _, rfl⟩
  | k + 1, h => by
    obtain ⟨h1, h2, h3⟩ := insW_all hr k (by omega)
    have hl := hr _ (gtMem (show k < r.length by omega))
    rw [insW_step (by omega)]
    refine ⟨h1.app (insL_pos hl), ?_, ?_⟩
    · have := insL_len G hl
      rw [List.length_append]; omega
    · rw [wv_app, h3, insL_val G hl, wv_takeS G (by omega)]
theorem ins_same {W r : List Int} (a : Nat) (hr : r ∈ relsP P) : wv G (W.take a ++ insW P r ++ W.drop a) = wv G W := by
  have h := (insW_all G (relsP_word G.v r hr) r.length (Nat.le_refl _)).2.2
  rw [List.take_length] at h
  rw [wv_app, wv_app, h, wv_rels G r hr, El.or, ← wv_app, List.take_append_drop]
theorem col_same {W V x y : List Int} {f f' k k2 : Nat} (hW : PosW P.orders.length W) (hV : PosW P.orders.length V) (e : wv G V = wv G W) (h1 : colW P f W = some (x, k)) (h2 : colW P f' V = some (y, k2)) : x = y := by
  have a := (G.col_val f W _ hW h1).2
  have b := (G.col_val f' V _ hV h2).2
  rw [e] at b
  exact a.symm.trans b
end

end Go.Proofs.YtoakmefajbbggaaGreat
namespace Go.Proofs.YtoakmefajbbggaaGreat
open Go.RowKit

theorem tk {P : Program} {ops : Array Oper} {Q : Exit → Act → World → Prop} {md : Region.Mode} {S : World → Prop} {oi : Oper} {v : Value} {fuel : Nat} {l l' : Array Bool} {a a' : Act} {w : World} (i : Nat)
    (h : wpAnyH P md ops Q S fuel l' a' w)
    (hi : ops[i]? = some oi := by rfl) (hs : Region.noSelect ops = true := by kernel_rfl) (hf : Region.free md ops l i = true := by kernel_rfl) (hr : (Region.ready md ops l).contains i = true := by kernel_rfl)
    (hw : Region.wanted oi (yielded ops a.tmps) = true := by rfl)
    (hy : ∀ w, S w → (execOp a.eval oi).run P w = .ok (.value v) w := by (intro w hSw; (try dsimp only at hSw); go_simp; try with_reducible rfl))
    (hl : l.setIfInBounds i true = l' := by (first | (simp only [List.setIfInBounds_toArray, List.set_cons_zero, List.set_cons_succ]; rfl) | rfl))
    (ha : a.put oi.dst v = a' := by (first | (simp only [Act.put, List.getElem_toArray, List.getElem_cons_succ, List.getElem_cons_zero, List.setIfInBounds_toArray, List.set_cons_zero, List.set_cons_succ]; rfl) | rfl))
    (hQ : ∀ c a w, Q (.panic c) (a.put oi.dst v) w → Q (.panic c) a w := by (intro _ _ _ h; exact h)) (hS : S w := by assumption) : wpAnyH P md ops Q S (fuel + 1) l a w := by
  subst hl ha
  exact wpAnyH_take hi hs hf hr hQ (Or.inl ⟨hw, hy⟩) hS h

theorem tku {P : Program} {ops : Array Oper} {Q : Exit → Act → World → Prop} {md : Region.Mode} {S : World → Prop} {oi : Oper} {fuel : Nat} {l l' : Array Bool} {a a' : Act} {w : World} (i : Nat)
    (h : wpAnyH P md ops Q S fuel l' a' w)
    (hi : ops[i]? = some oi := by rfl) (hs : Region.noSelect ops = true := by kernel_rfl) (hf : Region.free md ops l i = true := by kernel_rfl) (hr : (Region.ready md ops l).contains i = true := by kernel_rfl)
    (hw : Region.wanted oi (yielded ops a.tmps) = false := by rfl)
    (hl : l.setIfInBounds i true = l' := by (first | (simp only [List.setIfInBounds_toArray, List.set_cons_zero, List.set_cons_succ]; rfl) | rfl))
    (ha : a.put oi.dst undef = a' := by (first | (simp only [Act.put, List.getElem_toArray, List.getElem_cons_succ, List.getElem_cons_zero, List.setIfInBounds_toArray, List.set_cons_zero, List.set_cons_succ]; rfl) | rfl))
    (hQ : ∀ c a w, Q (.panic c) (a.put oi.dst undef) w → Q (.panic c) a w := by (intro _ _ _ h; exact h)) (hS : S w := by assumption) : wpAnyH P md ops Q S (fuel + 1) l a w := by
  subst hl ha
  exact wpAnyH_take hi hs hf hr hQ (Or.inr ⟨hw, rfl⟩) hS h

theorem rd1 {P : Program} {ops : Array Oper} {Q : Exit → Act → World → Prop} {md : Region.Mode} {S : World → Prop} {o : Oper} {fuel : Nat} {l l' : Array Bool} {a : Act} {w : World} (i : Nat)
    (h : ∀ K' : Act → World → Prop, Shut (∀ a w, S w → (S w → wpAnyH P md ops Q S fuel l' a w) → K' a w) → if Region.wanted o (yielded ops a.tmps) = true then Oper.wp P o a w K' Q else K' (a.put o.dst undef) w)
    (hr : Region.ready md ops l = [i] := by kernel_rfl) (ho : ops[i]? = some o := by rfl)
    (hl : l.setIfInBounds i true = l' := by (first | (simp only [List.setIfInBounds_toArray, List.set_cons_zero, List.set_cons_succ]; rfl) | rfl)) : wpAnyH P md ops Q S (fuel + 1) l a w := by
  subst hl
  exact wpAnyH_ready hr (by simp) (AllReadyH.cons ho h AllReadyH.nil)

theorem rd2 {P : Program} {ops : Array Oper} {Q : Exit → Act → World → Prop} {md : Region.Mode} {S : World → Prop} {o o2 : Oper} {fuel : Nat} {l l' l2 : Array Bool} {a : Act} {w : World} (i j : Nat)
    (h : ∀ K' : Act → World → Prop, Shut (∀ a w, S w → (S w → wpAnyH P md ops Q S fuel l' a w) → K' a w) → if Region.wanted o (yielded ops a.tmps) = true then Oper.wp P o a w K' Q else K' (a.put o.dst undef) w)
    (h2 : ∀ K' : Act → World → Prop, Shut (∀ a w, S w → (S w → wpAnyH P md ops Q S fuel l2 a w) → K' a w) → if Region.wanted o2 (yielded ops a.tmps) = true then Oper.wp P o2 a w K' Q else K' (a.put o2.dst undef) w)
    (hr : Region.ready md ops l = [i, j] := by kernel_rfl) (ho : ops[i]? = some o := by rfl) (ho2 : ops[j]? = some o2 := by rfl)
    (hl : l.setIfInBounds i true = l' := by (first | (simp only [List.setIfInBounds_toArray, List.set_cons_zero, List.set_cons_succ]; rfl) | rfl))
    (hl2 : l.setIfInBounds j true = l2 := by (first | (simp only [List.setIfInBounds_toArray, List.set_cons_zero, List.set_cons_succ]; rfl) | rfl)) : wpAnyH P md ops Q S (fuel + 1) l a w := by
  subst hl hl2
  exact wpAnyH_ready hr (by simp) (AllReadyH.cons ho h (AllReadyH.cons ho2 h2 AllReadyH.nil))

theorem ko {P : Program} {ops : Array Oper} {Q : Exit → Act → World → Prop} {md : Region.Mode} {S : World → Prop} {fuel : Nat} {l : Array Bool} {a a' : Act} {w : World} {K : Act → World → Prop}
    (hK : Shut (∀ a w, S w → (S w → wpAnyH P md ops Q S fuel l a w) → K a w)) (hS : S w) (h : S w → wpAnyH P md ops Q S fuel l a' w)
    (ha : a = a' := by (first | (simp only [Act.put, List.getElem_toArray, List.getElem_cons_succ, List.getElem_cons_zero, List.setIfInBounds_toArray, List.set_cons_zero, List.set_cons_succ]; rfl) | rfl)) : K a w := by
  subst ha
  exact hK.out _ _ hS h

end Go.Proofs.YtoakmefajbbggaaGreat
