/-
  Words of this claim's own for memory: how a slice reads as a list (Sl, Ints, Rows, Rows3), how a Presentation reads (PresV, PresP), what a call hands back (Ret, Mut).
  Plain functions: what the program's collection in place computes on lists (tgen, tvec), and what a valid presentation is. No program is named here.
  slices.Clone at a list of integers: a new list of the same elements.
  Small functions of the program, the reference and the laws: ranges, zero vectors, equality of lists, exponent vectors.
  Functions that compare two lists of integers.
  Group primes, exponent vectors, orders, unit vectors.
  Exponent vectors, orders.
  The reference's multiplication: spec.l08Image, spec.l08At.
  Valid presentations: impl.tailVector, impl.IsPresentation.
  spec.IsPresentation; orders of groups.
  Plain: what tgen does to single entries.
  Plain: a presentation's relations, held by members of a monoid, are kept by the reference's product and by the program's collection (von Dyck's law, without any consistency).
-/
import Derived.Test.YtldheeicjnncoaaGreatRows
import Derived.WalkKit
import Derived.WalkSpells
import Derived.WalkLawsBesides
import Derived.Lib.Hide
import Derived.Laws.AppendOwnNone
import Derived.Maps.AppendAt
import Derived.Deep.QuietTactic
import Derived.BigQuiet
import Derived.Deep.DeepCutAuto
import Derived.StillTailTactics
import Derived.Deep.RegionHeld3
namespace Go.Proofs.YtldheeicjnncoaaGreat
open Go.RowKit

/-- the element at an index -/
def gt {α : Type} [Inhabited α] (xs : List α) (i : Nat) : α := xs.getD i default

theorem gt_eq {α : Type} [Inhabited α] (xs : List α) (i : Nat) (h : i < xs.length) : gt xs i = xs[i] := by
  simp [gt, h]

theorem gt_append_left {α : Type} [Inhabited α] (xs ys : List α) (i : Nat) (h : i < xs.length) : gt (xs ++ ys) i = gt xs i := by
  simp [gt, List.getElem?_append_left h]

theorem gt_concat {α : Type} [Inhabited α] (xs : List α) (x : α) : gt (xs ++ [x]) xs.length = x := by
  simp [gt]

theorem gt_set_eq {α : Type} [Inhabited α] (xs : List α) (i : Nat) (x : α) (h : i < xs.length) : gt (xs.set i x) i = x := by
  simp [gt, h]

theorem gt_set_ne {α : Type} [Inhabited α] (xs : List α) (i j : Nat) (x : α) (h : i ≠ j) : gt (xs.set i x) j = gt xs j := by
  simp [gt, List.getElem?_set_ne h]

theorem take_succ_gt {α : Type} [Inhabited α] (xs : List α) (k : Nat) (h : k < xs.length) : xs.take (k + 1) = xs.take k ++ [gt xs k] := by
  rw [gt_eq xs k h, List.take_succ_eq_append_getElem h]

theorem gt_map {α β : Type} [Inhabited α] [Inhabited β] (f : α → β) (xs : List α) (i : Nat) (h : i < xs.length) : gt (xs.map f) i = f (gt xs i) := by
  simp [gt, h]

theorem ext_gt {α : Type} [Inhabited α] {xs ys : List α} (h : xs.length = ys.length) (hg : ∀ i, i < xs.length → gt xs i = gt ys i) : xs = ys := by
  apply List.ext_getElem h
  intro i h1 h2
  rw [← gt_eq xs i h1, ← gt_eq ys i h2]; exact hg i h1

/-- a slice whose elements read as xs; its array's block (if there is an element) lies in S -/
def Sl {α : Type} [Inhabited α] (El : World → Value → α → Prop) (S : Nat → Prop) (w : World) (v : Value) (xs : List α) : Prop :=
  ∃ a cap, v = .slice a xs.length cap ∧ (xs.length ≤ cap ∧ xs.length ≤ 9223372036854775807 ∧ (a = none → cap = 0)) ∧
    ∀ i, i < xs.length → ∃ b off u, a = some ⟨b, off, none⟩ ∧ S b ∧ b < w.heap.size ∧ w.cell? ⟨b, off + i, none⟩ = some u ∧ El w u (gt xs i)

/-- an integer cell -/
def IntEl (_ : World) (u : Value) (x : Int) : Prop := u = .int .i64 x

abbrev Ints (S : Nat → Prop) (w : World) (v : Value) (l : List Int) : Prop := Sl IntEl S w v l
abbrev Rows2 (S : Nat → Prop) (w : World) (v : Value) (l : List (List Int)) : Prop := Sl (fun w u x => Ints S w u x) S w v l
abbrev Rows3 (S : Nat → Prop) (w : World) (v : Value) (l : List (List (List Int))) : Prop := Sl (fun w u x => Rows2 S w u x) S w v l

/-- w' has all of w's blocks as they were -/
abbrev Ext (w w' : World) : Prop := w.grownBy w' none

theorem Ext.refl (w : World) : Ext w w := ⟨rfl, rfl, rfl, Nat.le_refl _, fun _ _ _ => rfl⟩
theorem grown_refl (w : World) (r : Option Nat) : w.grownBy w r := ⟨rfl, rfl, rfl, Nat.le_refl _, fun _ _ _ => rfl⟩
theorem grown_drew (w : World) (r : Option Nat) : w.grownBy w.drew r := ⟨rfl, rfl, rfl, Nat.le_refl _, fun _ _ _ => rfl⟩
theorem grown_drewN (w : World) (n : Nat) (r : Option Nat) : w.grownBy (w.drewN n) r := ⟨rfl, rfl, rfl, Nat.le_refl _, fun _ _ _ => rfl⟩

theorem grown_trans {a b c : World} {r : Option Nat} (h : a.grownBy b r) (k : b.grownBy c r) : a.grownBy c r :=
  ⟨k.os.trans h.os, k.tape.trans h.tape, k.output.trans h.output, Nat.le_trans h.size k.size,
   fun i hi hne => (k.block i (Nat.lt_of_lt_of_le hi h.size) hne).trans (h.block i hi hne)⟩

theorem grown_of_ext {a b : World} (r : Option Nat) (h : Ext a b) : a.grownBy b r :=
  ⟨h.os, h.tape, h.output, h.size, fun i hi _ => h.block i hi (by simp)⟩

/-- a step that writes one block of the call's own -/
theorem grown_own {a b c : World} {r : Option Nat} {q : Option Nat} (h : a.grownBy b r) (k : b.grownBy c q) (hq : ∀ j, q = some j → j < a.heap.size → r = some j) : a.grownBy c r :=
  ⟨k.os.trans h.os, k.tape.trans h.tape, k.output.trans h.output, Nat.le_trans h.size k.size,
   fun i hi hne => (k.block i (Nat.lt_of_lt_of_le hi h.size) (fun e => hne (hq i e.symm hi).symm)).trans (h.block i hi hne)⟩

theorem Ext.below {a b : World} (h : Ext a b) : Below a.heap.size a b :=
  ⟨h.os, h.tape, h.output, h.size, fun k hk => h.block k hk (by simp)⟩

theorem Sl.shape {α : Type} [Inhabited α] {El : World → Value → α → Prop} {S : Nat → Prop} {w : World} {v : Value} {xs : List α} (h : Sl El S w v xs) :
    ∃ a cap, v = .slice a xs.length cap ∧ xs.length ≤ cap ∧ xs.length ≤ 9223372036854775807 := by
  obtain ⟨a, cap, hv, hl, _⟩ := h; exact ⟨a, cap, hv, hl.1, hl.2.1⟩

theorem Sl.at {α : Type} [Inhabited α] {El : World → Value → α → Prop} {S : Nat → Prop} {w : World} {a : Option Addr} {n cap : Nat} {xs : List α} (h : Sl El S w (.slice a n cap) xs) (i : Nat) (hi : i < xs.length) :
    ∃ b off u, a = some ⟨b, off, none⟩ ∧ S b ∧ b < w.heap.size ∧ w.cell? ⟨b, off + i, none⟩ = some u ∧ El w u (gt xs i) := by
  obtain ⟨a', cap', hv, _, hc⟩ := h
  cases hv
  exact hc i hi

/-- the address of an integer's cell -/
theorem Ints.at {S : Nat → Prop} {w : World} {a : Option Addr} {n cap : Nat} {xs : List Int} (h : Sl IntEl S w (.slice a n cap) xs) (i : Nat) (hi : i < xs.length) :
    ∃ b off, a = some ⟨b, off, none⟩ ∧ S b ∧ b < w.heap.size ∧ w.cell? ⟨b, off + i, none⟩ = some (.int .i64 (gt xs i)) := by
  obtain ⟨b, off, u, h1, h2, h3, h4, h5⟩ := h.at i hi
  have h5 : u = .int .i64 (gt xs i) := h5
  exact ⟨b, off, h1, h2, h3, by rw [h4, h5]⟩

theorem Sl.nil_of_none {α : Type} [Inhabited α] {El : World → Value → α → Prop} {S : Nat → Prop} {w : World} {n cap : Nat} {xs : List α} (h : Sl El S w (.slice none n cap) xs) : xs = [] ∧ cap = 0 := by
  obtain ⟨a', cap', hv, hl, hc⟩ := h
  cases hv
  refine ⟨?_, hl.2.2 rfl⟩
  cases xs with
  | nil => rfl
  | cons x l => obtain ⟨b, off, u, h, _⟩ := hc 0 (by simp); cases h

/-- what is read in blocks that have not turned reads as it did -/
theorem Sl.mono {α : Type} [Inhabited α] {El El' : World → Value → α → Prop} {S S' : Nat → Prop} {w w' : World} {v : Value} {xs : List α} (h : Sl El S w v xs)
    (hb : ∀ k, S k → k < w.heap.size → S' k ∧ k < w'.heap.size ∧ w'.heap[k]? = w.heap[k]?) (he : ∀ u x, El w u x → El' w' u x) : Sl El' S' w' v xs := by
  obtain ⟨a, cap, hv, hl, hc⟩ := h
  refine ⟨a, cap, hv, hl, fun i hi => ?_⟩
  obtain ⟨b, off, u, ha, hS, hlt, hu, hx⟩ := hc i hi
  obtain ⟨hS', hlt', hk⟩ := hb b hS hlt
  exact ⟨b, off, u, ha, hS', hlt', (World.cell?_of_block (w := w) hk).trans hu, he _ _ hx⟩

theorem Ints.mono {S S' : Nat → Prop} {w w' : World} {v : Value} {xs : List Int} (h : Ints S w v xs)
    (hb : ∀ k, S k → k < w.heap.size → S' k ∧ k < w'.heap.size ∧ w'.heap[k]? = w.heap[k]?) : Ints S' w' v xs := Sl.mono h hb (fun _ _ h => h)
theorem Rows2.mono {S S' : Nat → Prop} {w w' : World} {v : Value} {xs : List (List Int)} (h : Rows2 S w v xs)
    (hb : ∀ k, S k → k < w.heap.size → S' k ∧ k < w'.heap.size ∧ w'.heap[k]? = w.heap[k]?) : Rows2 S' w' v xs := Sl.mono h hb (fun _ _ h => Ints.mono h hb)
theorem Rows3.mono {S S' : Nat → Prop} {w w' : World} {v : Value} {xs : List (List (List Int))} (h : Rows3 S w v xs)
    (hb : ∀ k, S k → k < w.heap.size → S' k ∧ k < w'.heap.size ∧ w'.heap[k]? = w.heap[k]?) : Rows3 S' w' v xs := Sl.mono h hb (fun _ _ h => Rows2.mono h hb)

/-- the frame of a step: blocks in S have not turned -/
theorem frame_of {S S' : Nat → Prop} {w w' : World} {r : Option Nat} (hg : w.grownBy w' r) (hS : ∀ k, S k → k < w.heap.size → S' k ∧ r ≠ some k) :
    ∀ k, S k → k < w.heap.size → S' k ∧ k < w'.heap.size ∧ w'.heap[k]? = w.heap[k]? :=
  fun k hk hlt => ⟨(hS k hk hlt).1, Nat.lt_of_lt_of_le hlt hg.size, hg.block k hlt (fun e => (hS k hk hlt).2 e.symm)⟩

theorem frame_ext {S : Nat → Prop} {w w' : World} (hg : Ext w w') : ∀ k, S k → k < w.heap.size → S k ∧ k < w'.heap.size ∧ w'.heap[k]? = w.heap[k]? :=
  frame_of hg (fun _ h _ => ⟨h, by simp⟩)

theorem Ints.ext {S : Nat → Prop} {w w' : World} {v : Value} {xs : List Int} (h : Ints S w v xs) (hg : Ext w w') : Ints S w' v xs := h.mono (frame_ext hg)
theorem Rows2.ext {S : Nat → Prop} {w w' : World} {v : Value} {xs : List (List Int)} (h : Rows2 S w v xs) (hg : Ext w w') : Rows2 S w' v xs := Rows2.mono h (frame_ext hg)
theorem Rows3.ext {S : Nat → Prop} {w w' : World} {v : Value} {xs : List (List (List Int))} (h : Rows3 S w v xs) (hg : Ext w w') : Rows3 S w' v xs := Rows3.mono h (frame_ext hg)

theorem Ints.sub {S S' : Nat → Prop} {w : World} {v : Value} {xs : List Int} (h : Ints S w v xs) (hS : ∀ k, S k → k < w.heap.size → S' k) : Ints S' w v xs :=
  h.mono (fun k hk hlt => ⟨hS k hk hlt, hlt, rfl⟩)
theorem Rows2.sub {S S' : Nat → Prop} {w : World} {v : Value} {xs : List (List Int)} (h : Rows2 S w v xs) (hS : ∀ k, S k → k < w.heap.size → S' k) : Rows2 S' w v xs :=
  Rows2.mono h (fun k hk hlt => ⟨hS k hk hlt, hlt, rfl⟩)
theorem Rows3.sub {S S' : Nat → Prop} {w : World} {v : Value} {xs : List (List (List Int))} (h : Rows3 S w v xs) (hS : ∀ k, S k → k < w.heap.size → S' k) : Rows3 S' w v xs :=
  Rows3.mono h (fun k hk hlt => ⟨hS k hk hlt, hlt, rfl⟩)

/-- a presentation's data -/
structure Pr where
  orders : List Int
  powers : List (List Int)
  conj : List (List (List Int))
  deriving Inhabited

/-- three slices read as a presentation -/
structure Pres3 (S : Nat → Prop) (w : World) (vo vp vc : Value) (P : Pr) : Prop where
  o : Ints S w vo P.orders
  p : Rows2 S w vp P.powers
  c : Rows3 S w vc P.conj

theorem Pres3.mono {S S' : Nat → Prop} {w w' : World} {vo vp vc : Value} {P : Pr} (h : Pres3 S w vo vp vc P)
    (hb : ∀ k, S k → k < w.heap.size → S' k ∧ k < w'.heap.size ∧ w'.heap[k]? = w.heap[k]?) : Pres3 S' w' vo vp vc P :=
  ⟨Ints.mono h.o hb, Rows2.mono h.p hb, Rows3.mono h.c hb⟩
theorem Pres3.ext {S : Nat → Prop} {w w' : World} {vo vp vc : Value} {P : Pr} (h : Pres3 S w vo vp vc P) (hg : Ext w w') : Pres3 S w' vo vp vc P := h.mono (frame_ext hg)

/-- a pointer to a presentation -/
def PresP (S : Nat → Prop) (w : World) (v : Value) (P : Pr) : Prop :=
  ∃ b off vo vp vc, v = .pointer (some ⟨b, off, none⟩) ∧ S b ∧ b < w.heap.size ∧ w.cell? ⟨b, off, none⟩ = some vo ∧ w.cell? ⟨b, off + 1, none⟩ = some vp ∧ w.cell? ⟨b, off + 2, none⟩ = some vc ∧
    Pres3 S w vo vp vc P

theorem PresP.mono {S S' : Nat → Prop} {w w' : World} {v : Value} {P : Pr} (h : PresP S w v P)
    (hb : ∀ k, S k → k < w.heap.size → S' k ∧ k < w'.heap.size ∧ w'.heap[k]? = w.heap[k]?) : PresP S' w' v P := by
  obtain ⟨b, off, vo, vp, vc, hv, hS, hlt, h0, h1, h2, h3⟩ := h
  obtain ⟨hS', hlt', hk⟩ := hb b hS hlt
  exact ⟨b, off, vo, vp, vc, hv, hS', hlt', (World.cell?_of_block (w := w) hk).trans h0, (World.cell?_of_block (w := w) hk).trans h1, (World.cell?_of_block (w := w) hk).trans h2, h3.mono hb⟩
theorem PresP.ext {S : Nat → Prop} {w w' : World} {v : Value} {P : Pr} (h : PresP S w v P) (hg : Ext w w') : PresP S w' v P := h.mono (frame_ext hg)
theorem PresP.sub {S S' : Nat → Prop} {w : World} {v : Value} {P : Pr} (h : PresP S w v P) (hS : ∀ k, S k → k < w.heap.size → S' k) : PresP S' w v P :=
  h.mono (fun k hk hlt => ⟨hS k hk hlt, hlt, rfl⟩)

theorem PresP.shape {S : Nat → Prop} {w : World} {v : Value} {P : Pr} (h : PresP S w v P) : ∃ b off, v = .pointer (some ⟨b, off, none⟩) := by
  obtain ⟨b, off, _, _, _, hv, _⟩ := h; exact ⟨b, off, hv⟩

theorem PresP.at {S : Nat → Prop} {w : World} {b off : Nat} {P : Pr} (h : PresP S w (.pointer (some ⟨b, off, none⟩)) P) :
    ∃ vo vp vc, S b ∧ b < w.heap.size ∧ w.cell? ⟨b, off, none⟩ = some vo ∧ w.cell? ⟨b, off + 1, none⟩ = some vp ∧ w.cell? ⟨b, off + 2, none⟩ = some vc ∧ Pres3 S w vo vp vc P := by
  obtain ⟨b', off', vo, vp, vc, hv, h⟩ := h
  cases hv
  exact ⟨vo, vp, vc, h⟩

/-- the orders of a presentation behind a pointer -/
theorem PresP.ordAt {S : Nat → Prop} {w : World} {b off : Nat} {P : Pr} (h : PresP S w (.pointer (some ⟨b, off, none⟩)) P) :
    ∃ a cap, w.cell? ⟨b, off, none⟩ = some (.slice a P.orders.length cap) ∧ Ints S w (.slice a P.orders.length cap) P.orders := by
  obtain ⟨vo, vp, vc, _, _, h0, _, _, hq⟩ := h.at
  obtain ⟨a, cap, rfl, _, _⟩ := hq.o.shape
  exact ⟨a, cap, h0, hq.o⟩
theorem PresP.powAt {S : Nat → Prop} {w : World} {b off : Nat} {P : Pr} (h : PresP S w (.pointer (some ⟨b, off, none⟩)) P) :
    ∃ a cap, w.cell? ⟨b, off + 1, none⟩ = some (.slice a P.powers.length cap) ∧ Rows2 S w (.slice a P.powers.length cap) P.powers := by
  obtain ⟨vo, vp, vc, _, _, _, h0, _, hq⟩ := h.at
  obtain ⟨a, cap, rfl, _, _⟩ := Sl.shape hq.p
  exact ⟨a, cap, h0, hq.p⟩
theorem PresP.conjAt {S : Nat → Prop} {w : World} {b off : Nat} {P : Pr} (h : PresP S w (.pointer (some ⟨b, off, none⟩)) P) :
    ∃ a cap, w.cell? ⟨b, off + 2, none⟩ = some (.slice a P.conj.length cap) ∧ Rows3 S w (.slice a P.conj.length cap) P.conj := by
  obtain ⟨vo, vp, vc, _, _, _, _, h0, hq⟩ := h.at
  obtain ⟨a, cap, rfl, _, _⟩ := Sl.shape hq.c
  exact ⟨a, cap, h0, hq.c⟩
/-- a row, as a slice -/
theorem Rows2.at {S : Nat → Prop} {w : World} {a : Option Addr} {n cap : Nat} {xs : List (List Int)} (h : Sl (fun w u x => Ints S w u x) S w (.slice a n cap) xs) (i : Nat) (hi : i < xs.length) :
    ∃ b off a' cap', a = some ⟨b, off, none⟩ ∧ S b ∧ b < w.heap.size ∧ w.cell? ⟨b, off + i, none⟩ = some (.slice a' (gt xs i).length cap') ∧ Ints S w (.slice a' (gt xs i).length cap') (gt xs i) := by
  obtain ⟨b, off, u, h1, h2, h3, h4, h5⟩ := Sl.at h i hi
  obtain ⟨a', cap', rfl, _, _⟩ := Sl.shape h5
  exact ⟨b, off, a', cap', h1, h2, h3, h4, h5⟩
theorem Rows3.at {S : Nat → Prop} {w : World} {a : Option Addr} {n cap : Nat} {xs : List (List (List Int))} (h : Sl (fun w u x => Rows2 S w u x) S w (.slice a n cap) xs) (i : Nat) (hi : i < xs.length) :
    ∃ b off a' cap', a = some ⟨b, off, none⟩ ∧ S b ∧ b < w.heap.size ∧ w.cell? ⟨b, off + i, none⟩ = some (.slice a' (gt xs i).length cap') ∧ Rows2 S w (.slice a' (gt xs i).length cap') (gt xs i) := by
  obtain ⟨b, off, u, h1, h2, h3, h4, h5⟩ := Sl.at h i hi
  obtain ⟨a', cap', rfl, _, _⟩ := Sl.shape h5
  exact ⟨b, off, a', cap', h1, h2, h3, h4, h5⟩

/-- a presentation by value -/
def PresV (S : Nat → Prop) (w : World) (v : Value) (P : Pr) : Prop := ∃ vo vp vc, v = .agg #[vo, vp, vc] ∧ Pres3 S w vo vp vc P

/-- a call that hands back a value; what was there is as it was -/
def Ret (w : World) (φ : World → Value → Prop) (e : Ending) (w' : World) : Prop := ∃ v, e = .returned v ∧ Ext w w' ∧ φ w' v
/-- a call that writes one block -/
def Mut (w : World) (r : Option Nat) (φ : World → Value → Prop) (e : Ending) (w' : World) : Prop := ∃ v, e = .returned v ∧ w.grownBy w' r ∧ φ w' v

/-- a contract seen from an earlier world -/
theorem Calls.rel {f : FuncId} {args : Array Value} {w w0 : World} {φ : World → Value → Prop} (h0 : Ext w0 w) (h : Calls Tryz.prog f args w (Ret w φ)) :
    Calls Tryz.prog f args w fun e w' => ∃ v, e = .returned v ∧ Ext w0 w' ∧ w0.heap.size ≤ w.heap.size ∧ φ w' v :=
  h.mono fun _ _ ⟨v, he, hg, hv⟩ => ⟨v, he, grown_trans h0 hg, h0.size, hv⟩

def Any : Nat → Prop := fun _ => True
/-- blocks from B on -/
def From (B : Nat) : Nat → Prop := fun k => B ≤ k
/-- blocks other than the one that is written -/
def Off (r : Option Nat) : Nat → Prop := fun k => r ≠ some k

/-- a vector of the call's own -/
abbrev Own (base : Nat) (w : World) (v : Value) (l : List Int) : Prop := w.ownsRow base 2 1 v l.length (l.map (Value.int .i64))

theorem Tryz.infoInt : (Tryz.prog.info? 2).map (fun i => (i.zero, i.size, i.bytes)) = some (some (.int .i64 0), 1, 8) := by kernel_rfl

theorem ints_of_own {base : Nat} {S : Nat → Prop} {w : World} {v : Value} {l : List Int} (h : Own base w v l) (hl : l.length ≤ 9223372036854775807) (hS : ∀ k, v.ownBlock = some k → S k) : Ints S w v l := by
  have hlt := h.lt
  obtain ⟨_, h⟩ := h
  rcases h with ⟨hv, hn⟩ | ⟨g, cap, cur, hv, hg, hb, hnc, hcm, hsz, hx⟩
  · exact ⟨none, 0, by rw [hv, hn], ⟨by omega, hl, fun _ => rfl⟩, fun i hi => by omega⟩
  · subst hv
    refine ⟨_, cap, rfl, ⟨hnc, hl, fun h => by cases h⟩, fun i hi => ⟨g, 0, .int .i64 (gt l i), rfl, hS g rfl, (hlt g rfl).2, ?_, rfl⟩⟩
    have h1 : (cur.toList.take (l.length * 1))[i]? = (l.map (Value.int .i64))[i]? := by rw [hx]
    simp only [World.cell?, hb, Nat.zero_add, Option.isSome_none, Bool.false_eq_true, if_false]
    rw [List.getElem?_take_of_lt (by omega)] at h1
    rw [← Array.getElem?_toList, h1]
    simp [gt, hi]

theorem own_blk {b off n cap j : Nat} {sp : Option Nat} (h : (Value.slice (some ⟨b, off, sp⟩) n cap).ownBlock = some j) : j = b := by
  have : some b = some j := h
  cases this; rfl

/-- a row of one-cell elements of the call's own -/
abbrev OwnV (base E : Nat) (w : World) (v : Value) (xs : List Value) : Prop := w.ownsRow base E 1 v xs.length xs

theorem Own.v {base : Nat} {w : World} {v : Value} {l : List Int} (h : Own base w v l) : OwnV base 2 w v (l.map (Value.int .i64)) := by
  unfold OwnV; rw [List.length_map]; exact h
theorem Own.of {base : Nat} {w : World} {v : Value} {l : List Int} (h : OwnV base 2 w v (l.map (Value.int .i64))) : Own base w v l := by
  unfold OwnV at h; rw [List.length_map] at h; exact h

/-- append onto a row of the call's own, of elements of one cell, whatever the source -/
theorem wp_app (T E : Nat) (z : Value) (bytes : Nat) (hT : Tryz.prog.underlying T = some (.slice E)) (hE : (Tryz.prog.info? E).map (fun i => (i.zero, i.size, i.bytes)) = some (some z, 1, bytes))
    (hzs : z.cells.size = 1) (hbt : bytes ≤ 64) {ops : Array Oper} {rest : List Oper} {o : Oper} {a : Act} {Q : Exit → Act → World → Prop} {w : World} (hgd : o.guard = none) (s x : Operand)
    (ho : o.op = Op.call { callee := Callee.builtin Builtin.append, args := #[s, x], argTypes := #[T, T] }) (base : Nat) (v : Value) (xs : List Value) (hs : a.eval s = v) (hown : OwnV base E w v xs)
    (sa : Option Addr) (m c : Nat) (news : List Value) (hx : a.eval x = .slice sa m c) (hl : news.length = m) (hsn : sa = none → c = 0)
    (hnews : ∀ j, j < m → ∃ b off, sa = some ⟨b, off, none⟩ ∧ w.cell? ⟨b, off + j, none⟩ = some (gt news j)) (h1 : ∀ u, u ∈ news → u.oneCell' = true) (hlen : xs.length + m ≤ 2147483648) (hbase : base ≤ w.heap.size)
    (h : ∀ v' w', OwnV base E w' v' (xs ++ news) → w.grownBy w' v.ownBlock → (v' = .slice none 0 0 ↔ v = .slice none 0 0 ∧ m = 0) → v'.ownBlock = v.ownBlock ∨ v'.ownBlock = some w.heap.size → wpList Tryz.prog ops Q rest (a.put o.dst v') w') :
    wpList Tryz.prog ops Q (o :: rest) a w := by
  obtain ⟨i0, hi, hz0, hz1, hz2⟩ := info_parts hE
  cases sa with
  | none =>
    have hc := hsn rfl
    have hm : m = 0 := by
      rcases Nat.eq_zero_or_pos m with h | h
      · exact h
      · obtain ⟨b, off, hh, _⟩ := hnews 0 h; cases hh
    subst hm; subst hc
    have hn : news = [] := List.eq_nil_of_length_eq_zero hl
    subst hn
    exact wpList_append_own_none hgd s x T ho base E i0 1 hT hi v xs.length xs hs hown hx (h v w (by simpa using hown) (grown_refl _ _) (by simp) (.inl rfl))
  | some ad =>
    refine wpList_append_own_at w hgd s x T ho base E i0 z 1 bytes hT hi hz0 hz1 hz2 hzs (by decide) v xs.length xs hs hown ad m c news hx (by omega) ?_ h1 ?_ ?_ hbase ?_
    · intro j u hu
      have hj : j < m := by
        rcases Nat.lt_or_ge j m with h | h
        · exact h
        · rw [List.getElem?_eq_none (by omega)] at hu; cases hu
      obtain ⟨b, off, hh, hc⟩ := hnews j hj
      cases hh
      have : gt news j = u := by
        simp only [gt, List.getD_eq_getElem?_getD, hu]; rfl
      rw [this] at hc
      unfold Addr.add
      split
      · rename_i hj0; subst hj0; exact hc
      · exact hc
    · unfold maxLen; omega
    · have := Nat.mul_le_mul hlen hbt
      omega
    · intro v' w' h2 h3 h4 h5
      exact h v' w' (by unfold OwnV; rw [List.length_append, hl]; exact h2) h3 h4 h5

end Go.Proofs.YtldheeicjnncoaaGreat
namespace Go.Proofs.YtldheeicjnncoaaGreat

def iter {α : Type} : Nat → (α → α) → α → α
  | 0, _, x => x
  | n + 1, f, x => f (iter n f x)

/-- exponents within orders -/
def Vec (o e : List Int) : Prop := e.length = o.length ∧ ∀ i, i < o.length → 0 ≤ gt e i ∧ gt e i < gt o i

def ZeroTo (i : Nat) (e : List Int) : Prop := ∀ k, k ≤ i → gt e k = 0

/-- the product of the first k entries -/
def prodTo (l : List Int) : Nat → Int
  | 0 => 1
  | k + 1 => prodTo l k * gt l k

structure Valid (P : Pr) : Prop where
  le729 : prodTo P.orders P.orders.length ≤ 729
  n6 : P.orders.length ≤ 6
  pl : P.powers.length = P.orders.length
  cl : P.conj.length = P.orders.length
  ord : ∀ i, i < P.orders.length → gt P.orders i = 2 ∨ gt P.orders i = 3 ∨ gt P.orders i = 5 ∨ gt P.orders i = 7
  pv : ∀ i, i < P.orders.length → Vec P.orders (gt P.powers i) ∧ ZeroTo i (gt P.powers i)
  cv : ∀ i, i < P.orders.length → (gt P.conj i).length = P.orders.length - 1 - i ∧ ∀ k, k < P.orders.length - 1 - i → Vec P.orders (gt (gt P.conj i) k) ∧ ZeroTo i (gt (gt P.conj i) k)

theorem Valid.ord7 {P : Pr} (h : Valid P) (i : Nat) (hi : i < P.orders.length) : 2 ≤ gt P.orders i ∧ gt P.orders i ≤ 7 := by
  rcases h.ord i hi with h | h | h | h <;> omega

/-- product by the powers of generators from the left, as far as index k -/
def tvecTo (g : List Int → Nat → List Int) (f : List Int) (e : List Int) : Nat → List Int
  | 0 => e
  | k + 1 => iter (gt f k).toNat (fun e => g e k) (tvecTo g f e k)

def tvec (g : List Int → Nat → List Int) (e f : List Int) : List Int := tvecTo g f e f.length

/-- the product by conjugates for the entries that stood behind an index -/
def tconjTo (g : List Int → Nat → List Int) (cs : List (List Int)) (rest : List Int) (e : List Int) : Nat → List Int
  | 0 => e
  | k + 1 => iter (gt rest k).toNat (fun e => tvec g e (gt cs k)) (tconjTo g cs rest e k)

def zeroed (e : List Int) (j : Nat) (k : Nat) : List Int := e.take (j + 1) ++ List.replicate k 0 ++ e.drop (j + 1 + k)

def tgen (P : Pr) : Nat → List Int → Nat → List Int
  | 0, e, _ => e
  | f + 1, e, j =>
    let rest := e.drop (j + 1)
    let e1 := (zeroed e j rest.length).set j (gt e j + 1)
    let e2 := if gt e j + 1 = gt P.orders j then tvec (tgen P f) (e1.set j 0) (gt P.powers j) else e1
    tconjTo (tgen P f) (gt P.conj j) rest e2 rest.length

theorem Vec.set {o e : List Int} (h : Vec o e) (j : Nat) (x : Int) (hx : 0 ≤ x ∧ (j < o.length → x < gt o j)) : Vec o (e.set j x) := by
  refine ⟨by simpa using h.1, fun i hi => ?_⟩
  by_cases e1 : j = i
  · subst e1
    rw [gt_set_eq e j x (by rw [h.1]; exact hi)]; exact ⟨hx.1, hx.2 hi⟩
  · rw [gt_set_ne e j i x e1]; exact h.2 i hi

theorem gt_replicate (k i : Nat) : gt (List.replicate k (0 : Int)) i = 0 := by
  simp only [gt, List.getD_eq_getElem?_getD, List.getElem?_replicate]
  split <;> rfl

theorem gt_zeroed (e : List Int) (j k i : Nat) (h : j + 1 + k ≤ e.length) : gt (zeroed e j k) i = if j < i ∧ i ≤ j + k then 0 else gt e i := by
  unfold zeroed
  simp only [gt, List.getD_eq_getElem?_getD, List.getElem?_append, List.length_append, List.length_take, List.length_replicate, List.getElem?_drop, List.getElem?_replicate, List.getElem?_take]
  have e1 : min (j + 1) e.length = j + 1 := by omega
  rw [e1]
  by_cases a : i < j + 1
  · rw [if_pos (by omega), if_pos a, if_pos a, if_neg (by omega)]
  · by_cases b : i < j + 1 + k
    · rw [if_pos b, if_neg a, if_pos (by omega), if_pos (by omega)]; rfl
    · rw [if_neg b, if_neg (by omega)]
      congr 2; omega

theorem length_zeroed (e : List Int) (j k : Nat) (h : j + 1 + k ≤ e.length) : (zeroed e j k).length = e.length := by
  unfold zeroed; simp; omega

theorem zeroed_zero (e : List Int) (j : Nat) : zeroed e j 0 = e := by simp [zeroed]

theorem zeroed_succ (e : List Int) (j k : Nat) (h : j + 1 + k < e.length) : zeroed e j (k + 1) = (zeroed e j k).set (j + 1 + k) 0 := by
  apply ext_gt
  · rw [length_zeroed _ _ _ (by omega), List.length_set, length_zeroed _ _ _ (by omega)]
  · intro i hi
    rw [length_zeroed _ _ _ (by omega)] at hi
    rw [gt_zeroed _ _ _ _ (by omega)]
    by_cases e1 : j + 1 + k = i
    · subst e1; rw [gt_set_eq _ _ _ (by rw [length_zeroed _ _ _ (by omega)]; omega), if_pos (by omega)]
    · rw [gt_set_ne _ _ _ _ e1, gt_zeroed _ _ _ _ (by omega)]
      by_cases c : j < i ∧ i ≤ j + k
      · rw [if_pos c, if_pos (by omega)]
      · rw [if_neg c, if_neg (by omega)]

theorem Vec.zeroed {o e : List Int} (h : Vec o e) (j k : Nat) (hk : j + 1 + k ≤ e.length) : Vec o (zeroed e j k) := by
  refine ⟨by rw [length_zeroed _ _ _ hk]; exact h.1, fun i hi => ?_⟩
  have := h.2 i hi
  rw [gt_zeroed _ _ _ _ hk]
  split <;> omega

theorem iter_inv {α : Type} (Q : α → Prop) (f : α → α) (hf : ∀ x, Q x → Q (f x)) (n : Nat) (x : α) (h : Q x) : Q (iter n f x) := by
  induction n with
  | zero => exact h
  | succ n ih => exact hf _ ih

theorem tvecTo_vec {o : List Int} {g : List Int → Nat → List Int} {f e : List Int} (hg : ∀ e j, Vec o e → j < o.length → gt f j ≠ 0 → Vec o (g e j)) (he : Vec o e) (k : Nat) (hk : k ≤ o.length) : Vec o (tvecTo g f e k) := by
  induction k with
  | zero => exact he
  | succ k ih =>
    unfold tvecTo
    by_cases h0 : gt f k = 0
    · rw [h0]; exact ih (by omega)
    · exact iter_inv (Vec o) _ (fun x hx => hg x k hx (by omega) h0) _ _ (ih (by omega))

theorem tvec_vec {o : List Int} {g : List Int → Nat → List Int} {f e : List Int} (hf : Vec o f) (hg : ∀ e j, Vec o e → j < o.length → gt f j ≠ 0 → Vec o (g e j)) (he : Vec o e) : Vec o (tvec g e f) :=
  tvecTo_vec hg he _ (by rw [hf.1]; omega)

theorem tgen_vec {P : Pr} (hP : Valid P) (f : Nat) : ∀ (e : List Int) (j : Nat), Vec P.orders e → j < P.orders.length → P.orders.length ≤ f + j → Vec P.orders (tgen P f e j) := by
  induction f with
  | zero => intro e j _ hj hf; omega
  | succ f ih =>
    intro e j he hj hf
    have hl := he.1
    have hcl := (hP.cv j hj).1
    have hv : ∀ c, Vec P.orders c → ZeroTo j c → ∀ x, Vec P.orders x → Vec P.orders (tvec (tgen P f) x c) := fun c hc hz x hx =>
      tvec_vec hc (fun e i he hi h0 => ih e i he hi (by
        have : ¬ i ≤ j := fun h => h0 (hz i h)
        omega)) hx
    have hz := he.zeroed j (e.drop (j + 1)).length (by simp; omega)
    have hx := he.2 j hj
    unfold tgen
    simp only
    have h2 : Vec P.orders (if gt e j + 1 = gt P.orders j then tvec (tgen P f) (((Go.Proofs.YtldheeicjnncoaaGreat.zeroed e j (e.drop (j + 1)).length).set j (gt e j + 1)).set j 0) (gt P.powers j) else (Go.Proofs.YtldheeicjnncoaaGreat.zeroed e j (e.drop (j + 1)).length).set j (gt e j + 1)) := by
      split
      · refine hv _ (hP.pv j hj).1 (hP.pv j hj).2 _ ?_
        rw [List.set_set]
        exact hz.set j 0 ⟨by omega, fun _ => by have := hP.ord7 j hj; omega⟩
      · exact hz.set j _ ⟨by omega, fun _ => by omega⟩
    generalize (if gt e j + 1 = gt P.orders j then tvec (tgen P f) (((Go.Proofs.YtldheeicjnncoaaGreat.zeroed e j (e.drop (j + 1)).length).set j (gt e j + 1)).set j 0) (gt P.powers j) else (Go.Proofs.YtldheeicjnncoaaGreat.zeroed e j (e.drop (j + 1)).length).set j (gt e j + 1)) = e2 at h2
    have : ∀ k, k ≤ (e.drop (j + 1)).length → Vec P.orders (tconjTo (tgen P f) (gt P.conj j) (e.drop (j + 1)) e2 k) := by
      intro k
      induction k with
      | zero => intro _; exact h2
      | succ k ihk =>
        intro hk
        unfold tconjTo
        have hkk : k < P.orders.length - 1 - j := by simp at hk; omega
        exact iter_inv (Vec P.orders) _ (fun x hx => hv _ ((hP.cv j hj).2 k hkk).1 ((hP.cv j hj).2 k hkk).2 x hx) _ _ (ihk (by omega))
    exact this _ (Nat.le_refl _)

end Go.Proofs.YtldheeicjnncoaaGreat
namespace Go.Proofs.YtldheeicjnncoaaGreat
open Go.RowKit

/-- v[l:h] for elements of one cell -/
def subSl (v : Value) (l h : Nat) : Value := match v with | .slice a _ cap => .slice (if cap = l then a else a.map (·.add l)) (h - l) (cap - l) | v => v

theorem subSl_ints {S : Nat → Prop} {w : World} {v : Value} {xs : List Int} (h : Ints S w v xs) (i j : Nat) (hij : i ≤ j) (hj : j ≤ xs.length) : Ints S w (subSl v i j) ((xs.take j).drop i) := by
  obtain ⟨a, cap, rfl, hl, hc⟩ := h
  have hlen : ((xs.take j).drop i).length = j - i := by simp; omega
  refine ⟨(if cap = i then a else a.map (·.add i)), cap - i, by rw [hlen]; rfl, ⟨by omega, by omega, ?_⟩, fun k hk => ?_⟩
  · intro ha
    split at ha
    · omega
    · have : a = none := by simpa using ha
      have := hl.2.2 this; omega
  obtain ⟨b, off, u, rfl, hS, hlt, hu, hx⟩ := hc (i + k) (by omega)
  by_cases e : cap = i
  · omega
  · rw [if_neg e]
    refine ⟨b, off + i, u, by simp [Addr.add], hS, hlt, by rw [Nat.add_assoc]; exact hu, ?_⟩
    have : gt ((xs.take j).drop i) k = gt xs (i + k) := by
      simp only [gt, List.getD_eq_getElem?_getD, List.getElem?_drop, List.getElem?_take]; rw [if_pos (by omega)]
    rw [this]; exact hx

theorem und_ints : Tryz.prog.underlying 24 = some (.slice 2) := by kernel_rfl

/-- append onto a list of integers of the call's own -/
theorem wp_app_ints {ops : Array Oper} {rest : List Oper} {o : Oper} {a : Act} {Q : Exit → Act → World → Prop} {w : World} (hgd : o.guard = none) (s x : Operand)
    (ho : o.op = Op.call { callee := Callee.builtin Builtin.append, args := #[s, x], argTypes := #[24, 24] }) (base : Nat) (v : Value) (l : List Int) (hs : a.eval s = v) (hown : Own base w v l)
    (u : Value) (m : List Int) (hx : a.eval x = u) (S : Nat → Prop) (hu : Ints S w u m) (hlen : l.length + m.length ≤ 2147483648) (hbase : base ≤ w.heap.size)
    (h : ∀ v' w', Own base w' v' (l ++ m) → w.grownBy w' v.ownBlock → (v' = .slice none 0 0 ↔ v = .slice none 0 0 ∧ m.length = 0) → wpList Tryz.prog ops Q rest (a.put o.dst v') w') :
    wpList Tryz.prog ops Q (o :: rest) a w := by
  obtain ⟨sa, cap, rfl, ⟨_, _, hn⟩, hc⟩ := hu
  refine wp_app 24 2 (.int .i64 0) 8 und_ints Tryz.infoInt rfl (by decide) hgd s x ho base v (l.map (Value.int .i64)) hs hown.v sa m.length cap (m.map (Value.int .i64)) hx (by simp) hn ?_ ?_ (by simpa using hlen) hbase ?_
  · intro j hj
    obtain ⟨b, off, u, h1, _, _, h2, h3⟩ := hc j hj
    exact ⟨b, off, h1, by rw [h2, h3]; simp [gt, hj]⟩
  · intro u hu
    simp at hu
    obtain ⟨x, _, rfl⟩ := hu; rfl
  · intro v' w' h1 h2 h3 _
    exact h v' w' (Own.of (by rw [List.map_append]; exact h1)) h2 h3

/-- make([]int64, n) -/
theorem wp_make_ints {ops : Array Oper} {rest : List Oper} {o : Oper} {a : Act} {Q : Exit → Act → World → Prop} {w : World} (hgd : o.guard = none) (l c : Operand)
    (ho : o.op = Op.makeSlice 24 l c) (base n H : Nat) (hH : w.heap.size = H) (L : Int) (hl : a.eval l = .int .i64 L) (hc : a.eval c = .int .i64 L) (hL : L = n) (hn : n ≤ 2147483648) (hbase : base ≤ H)
    (h : ∀ w', Own base w' (.slice (some ⟨H, 0, none⟩) n n) (List.replicate n 0) → Ext w w' → H < w'.heap.size → wpList Tryz.prog ops Q rest (a.put o.dst (.slice (some ⟨H, 0, none⟩) n n)) w') :
    wpList Tryz.prog ops Q (o :: rest) a w := by
  subst hH
  obtain ⟨i0, hi, hz0, hz1, hz2⟩ := info_parts Tryz.infoInt
  refine wpList_make_full w hgd l c 24 ho base 2 i0 (.int .i64 0) 1 und_ints hi hz0 hz1 .i64 .i64 L L n hl hc hL hL (by rw [hz2]; omega) (by unfold maxLen; omega) hbase ?_
  intro w' h1 h2
  refine h w' ?_ h2 (h1.lt w.heap.size rfl).2
  have e : (madeCells (Value.cells (.int .i64 0)) (n * 1)).toList = (List.replicate n (0 : Int)).map (Value.int .i64) := by
    rw [show Value.cells (.int .i64 0) = #[.int .i64 0] from rfl, toList_madeCells_one]; simp
  rw [e] at h1
  show World.ownsRow _ _ _ _ _ _ _
  rw [List.length_replicate]; exact h1

/-- v[l:] at a list of integers -/
theorem run_tail (w : World) (a : Option Addr) (n cap : Nat) (k : Int) (h0 : 0 ≤ k) (h1 : k ≤ n) :
    (Instr.slice 24 (.slice a n cap) (some (.int .i64 k)) none none).run Tryz.prog w = .ok (subSl (.slice a n cap) k.toNat n) w := by
  rw [run_slice_l w 24 a n cap (by kernel_rfl) .i64 k h0 h1]
  have : (sizeOf (Tryz.prog.elem 24)).run Tryz.prog w = .ok 1 w := by kernel_rfl
  rw [this]
  simp [Result.andThen, sliced, subSl]

/-- the value of a vector of the call's own that is not empty -/
theorem Own.form {base : Nat} {w : World} {v : Value} {l : List Int} (h : Own base w v l) (hl : 0 < l.length) : ∃ g cap, v = .slice (some ⟨g, 0, none⟩) l.length cap ∧ base ≤ g ∧ g < w.heap.size := by
  have hlt := h.lt
  obtain ⟨_, h | ⟨g, cap, cur, hv, hg, _⟩⟩ := h
  · omega
  · exact ⟨g, cap, hv, hg, (hlt g (by rw [hv]; rfl)).2⟩

theorem Own.cell {base g cap n : Nat} {w : World} {l : List Int} (h : Own base w (.slice (some ⟨g, 0, none⟩) n cap) l) (j : Nat) (hj : j < l.length) : w.cell? ⟨g, j, none⟩ = some (.int .i64 (gt l j)) := by
  have hn : n = l.length := by
    obtain ⟨_, ⟨h, _⟩ | ⟨_, _, _, h, _⟩⟩ := h <;> cases h; rfl
  subst hn
  have := World.ownsRow.cellAt h j (by omega)
  rw [this]; simp [gt, hj]

theorem Own.frozen {base g cap n : Nat} {w : World} {l : List Int} (h : Own base w (.slice (some ⟨g, 0, none⟩) n cap) l) (j : Nat) : w.frozen? ⟨g, j, none⟩ = false := by
  have hn : n = l.length := by
    obtain ⟨_, ⟨h, _⟩ | ⟨_, _, _, h, _⟩⟩ := h <;> cases h; rfl
  subst hn
  exact World.ownsRow.frozenAt h j

theorem Own.store {base g cap n : Nat} {w : World} {l : List Int} (h : Own base w (.slice (some ⟨g, 0, none⟩) n cap) l) (j : Nat) (x : Int) :
    Own base (w.setCell ⟨g, j, none⟩ (.int .i64 x)) (.slice (some ⟨g, 0, none⟩) n cap) (l.set j x) ∧ w.grownBy (w.setCell ⟨g, j, none⟩ (.int .i64 x)) (some g) := by
  have hn : n = l.length := by
    obtain ⟨_, ⟨h, _⟩ | ⟨_, _, _, h, _⟩⟩ := h <;> cases h; rfl
  subst hn
  obtain ⟨h1, h2⟩ := World.ownsRow.stored h j (.int .i64 x)
  refine ⟨?_, h2⟩
  show World.ownsRow _ _ _ _ _ _ _
  rw [List.length_set, List.map_set]; exact h1

theorem Own.ext {base : Nat} {w w' : World} {v : Value} {l : List Int} {r : Option Nat} (h : Own base w v l) (hg : w.grownBy w' r) (hne : v.ownBlock = none ∨ v.ownBlock ≠ r) : Own base w' v l := h.kept hg hne

set_option maxHeartbeats 400000 in
theorem clone_ok (w : World) (v : Value) (l : List Int) (S : Nat → Prop) (hv : Ints S w v l) (hl : l.length ≤ 1048576) :
    Calls Tryz.prog 183 #[v] w (Ret w fun w' r => Own w.heap.size w' r l) := by
  obtain ⟨a, cap, rfl, _, _⟩ := hv.shape
  have he := fun n => Lib.run_eql_slice_nil (P := Tryz.prog) w 24 2 a n cap 0 0 (by kernel_rfl)
  cases a with
  | none =>
    obtain ⟨rfl, rfl⟩ := hv.nil_of_none
    clear hv hl
    go_enter Tryz.func183, Tryz.ntmps183
    go_wp2_with fail
    go_ret
    exact ⟨_, rfl, Ext.refl _, World.ownsRow_nil _ _ _ _⟩
  | some a =>
    go_enter Tryz.func183, Tryz.ntmps183
    go_wp2_with (at_builtin; refine wp_app_ints rfl _ _ rfl w.heap.size _ [] rfl (World.ownsRow_lit w #[] 0 (Nat.le_refl _) (by decide) rfl) _ l rfl S (hv.ext (World.grownBy_alloc _ _ _)) (by simp; omega) (by simp) ?_; intro v' w1 ho1 hg1 hn1)
    go_ret
    exact ⟨_, rfl, grown_own (World.grownBy_alloc _ _ _) hg1 (fun j hj hlt => by have := own_blk hj; omega), ho1⟩

theorem PresP.box {w : World} {vo vp vc : Value} {P : Pr} {S : Nat → Prop} (h : Pres3 S w vo vp vc P) (T : Nat) :
    PresP Any (w.alloc (.cells #[vo, vp, vc] T)) (.pointer (some ⟨w.heap.size, 0, none⟩)) P := by
  have h2 := h.ext (World.grownBy_alloc w (.cells #[vo, vp, vc] T) none)
  refine ⟨_, _, vo, vp, vc, rfl, trivial, by simp, ?_, ?_, ?_, h2.mono (fun k _ hk => ⟨trivial, hk, rfl⟩)⟩
  · rw [World.cell?_alloc_at _ _ _ _ rfl]; rfl
  · rw [World.cell?_alloc_at _ _ _ _ rfl]; rfl
  · rw [World.cell?_alloc_at _ _ _ _ rfl]; rfl

theorem Own.ext0 {base : Nat} {w w' : World} {v : Value} {l : List Int} (h : Own base w v l) (hg : Ext w w') : Own base w' v l :=
  h.ext hg (by cases hv : v.ownBlock <;> simp)

theorem Own.weak {base base' : Nat} {w : World} {v : Value} {l : List Int} (h : Own base w v l) (hb : base' ≤ base) : Own base' w v l := by
  obtain ⟨h1, h2⟩ := h
  refine ⟨h1, ?_⟩
  rcases h2 with h | ⟨g, cap, cur, hv, hg, r⟩
  · exact .inl h
  · exact .inr ⟨g, cap, cur, hv, Nat.le_trans hb hg, r⟩

theorem Own.ints {base : Nat} {w : World} {v : Value} {l : List Int} (h : Own base w v l) (hl : l.length ≤ 9223372036854775807) : Ints Any w v l := ints_of_own h hl (fun _ _ => trivial)

theorem Calls.rel2 {f : FuncId} {args : Array Value} {w w0 : World} {φ : World → Value → Prop} (h0 : Ext w0 w) (h : Calls Tryz.prog f args w (Ret w φ)) :
    Calls Tryz.prog f args w fun e w' => ∃ v, e = .returned v ∧ Ext w0 w' ∧ Ext w w' ∧ w0.heap.size ≤ w.heap.size ∧ φ w' v :=
  h.mono fun _ _ ⟨v, he, hg, hv⟩ => ⟨v, he, grown_trans h0 hg, hg, h0.size, hv⟩

end Go.Proofs.YtldheeicjnncoaaGreat
namespace Go.Proofs.YtldheeicjnncoaaGreat
open Go.RowKit

def inB (a lo hi : Int) : Bool := decide (lo ≤ a) && decide (a ≤ hi)

theorem inB_true {a lo hi : Int} : inB a lo hi = true ↔ lo ≤ a ∧ a ≤ hi := by simp [inB]
theorem inB_false {a lo hi : Int} : inB a lo hi = false ↔ ¬ (lo ≤ a ∧ a ≤ hi) := by rw [← inB_true]; simp

/-- p holds of all indices below n -/
def allB (n : Nat) (p : Nat → Bool) : Bool := (List.range n).all p

theorem allB_true {n : Nat} {p : Nat → Bool} : allB n p = true ↔ ∀ i, i < n → p i = true := by simp [allB]
theorem allB_false {n : Nat} {p : Nat → Bool} {i : Nat} (h : i < n) (hp : p i = false) : allB n p = false := by
  cases h2 : allB n p with
  | false => rfl
  | true => rw [allB_true] at h2; rw [h2 i h] at hp; cases hp

theorem ret_b {a b : Bool} (h : a = b) : Ending.returned (.bool a) = .returned (.bool b) := by rw [h]
theorem ret_bool {w w' : World} {a b : Bool} (hw : Ext w w') (h : b = a) : Ret w (fun _ v => v = .bool a) (.returned (.bool b)) w' := ⟨_, rfl, hw, by rw [h]⟩

set_option maxHeartbeats 400000 in
theorem inside_ok (a b c : Int) (w : World) : Calls Tryz.prog 87 #[.int .i64 a, .int .i64 b, .int .i64 c] w fun e w' => e = .returned (.bool (inB a b c)) ∧ w = w' := by
  by_cases h : b ≤ a
  · by_cases h2 : a ≤ c
    · go_enter Tryz.func87, Tryz.ntmps87
      go_wp2
      go_ret
      exact ⟨by simp [inB, h, h2], rfl⟩
    · go_enter Tryz.func87, Tryz.ntmps87
      go_wp2
      go_ret
      exact ⟨by simp [inB, h2], rfl⟩
  · go_enter Tryz.func87, Tryz.ntmps87
    go_wp2
    go_ret
    exact ⟨ret_b (by simp [inB]; omega), rfl⟩

set_option maxHeartbeats 400000 in
theorem l01In_ok (a b c : Int) (w : World) : Calls Tryz.prog 184 #[.int .i64 a, .int .i64 b, .int .i64 c] w fun e w' => e = .returned (.bool (inB a b c)) ∧ w = w' := by
  by_cases h : b ≤ a
  · by_cases h2 : a ≤ c
    · go_enter Tryz.func184, Tryz.ntmps184
      go_wp2
      go_ret
      exact ⟨by simp [inB, h, h2], rfl⟩
    · go_enter Tryz.func184, Tryz.ntmps184
      go_wp2
      go_ret
      exact ⟨by simp [inB, h2], rfl⟩
  · go_enter Tryz.func184, Tryz.ntmps184
    go_wp2
    go_ret
    exact ⟨ret_b (by simp [inB]; omega), rfl⟩

def isZeroB (l : List Int) : Bool := allB l.length (fun i => gt l i == 0)

set_option maxHeartbeats 400000 in
theorem isZero_ok (v : Value) (l : List Int) (w : World) (S : Nat → Prop) (h : Ints S w v l) :
    Calls Tryz.prog 186 #[v] w fun e w' => e = .returned (.bool (isZeroB l)) ∧ w = w' := by
  obtain ⟨a, cap, rfl, _, _⟩ := h.shape
  go_enter Tryz.func186, Tryz.ntmps186
  go_wp2
  go_loop [7] (fun i => ∃ k : Nat, i = .int .i64 k ∧ k ≤ l.length ∧ ∀ i, i < k → (gt l i == 0) = true) (fun i => l.length - (intOf i).toNat)
  case atStart => exact ⟨0, rfl, by omega, fun i hi => by omega⟩
  case round =>
    obtain ⟨k, rfl, hk, hz⟩ := hrel
    have HZ := Lib.hid hz; clear hz
    by_cases hlt : k < l.length
    · obtain ⟨b, off, rfl, _, _, hc⟩ := Ints.at h k hlt
      by_cases hx : gt l k = 0
      · have hb : (gt l k != 0) = false := by simp [hx]
        have hx2 := Lib.hid hx; clear hx
        go_wp2
        go_round
        case rel => exact ⟨k + 1, by go_num, by omega, fun i hi => by
          rcases Nat.lt_or_ge i k with h1 | h1
          · exact HZ.out i h1
          · have : i = k := by omega
            rw [this, hx2.out]; rfl⟩
        case measure => simp [intOf]; omega
      · have hb : (gt l k != 0) = true := by simp [hx]
        go_wp2
        go_ret
        exact ⟨ret_b (by rw [isZeroB, allB_false hlt (by simpa using hx)]), rfl⟩
    · go_wp2
      go_ret
      exact ⟨ret_b (by rw [isZeroB, allB_true.2 (fun i hi => HZ.out i (by omega))]), rfl⟩

end Go.Proofs.YtldheeicjnncoaaGreat
namespace Go.Proofs.YtldheeicjnncoaaGreat
open Go.RowKit

/-- equality of lists, as a Bool -/
def eqB {α : Type} [DecidableEq α] (a b : α) : Bool := decide (a = b)
theorem eqB_true {α : Type} [DecidableEq α] {a b : α} : eqB a b = true ↔ a = b := by simp [eqB]
theorem eqB_false {α : Type} [DecidableEq α] {a b : α} : eqB a b = false ↔ ¬ a = b := by simp [eqB]
theorem eqB_false_at {α : Type} [DecidableEq α] [Inhabited α] {a b : List α} {k : Nat} (hx : ¬ gt a k = gt b k) : eqB a b = false := eqB_false.2 (fun e => hx (by rw [e]))

set_option maxHeartbeats 400000 in
theorem sEqual_ok (v1 v2 : Value) (l1 l2 : List Int) (w : World) (S1 S2 : Nat → Prop) (h1 : Ints S1 w v1 l1) (h2 : Ints S2 w v2 l2) :
    Calls Tryz.prog 167 #[v1, v2] w (Ret w fun _ v => v = .bool (eqB l1 l2)) := by
  obtain ⟨a, cap, rfl, _, _⟩ := h1.shape
  obtain ⟨a2, cap2, rfl, _, _⟩ := h2.shape
  by_cases hl : l1.length = l2.length
  · have hd : ((l1.length : Int) != (l2.length : Int)) = false := by simp [hl]
    have hl1 : l1.length ≤ l2.length ∧ l2.length ≤ l1.length := by omega
    have HL := Lib.hid hl; clear hl
    go_enter Tryz.func167, Tryz.ntmps167
    go_wp2
    go_loopw [13] (fun i wr => ∃ k : Nat, i = .int .i64 k ∧ k ≤ l1.length ∧ Ext w wr ∧ ∀ i, i < k → gt l1 i = gt l2 i) (fun i _ => l1.length - (intOf i).toNat)
    case atStart => exact ⟨0, rfl, by omega, Ext.refl _, fun i hi => by omega⟩
    case round =>
      obtain ⟨k, rfl, hk, hg, hz⟩ := hrel
      have HZ := Lib.hid hz; clear hz
      by_cases hlt : k < l1.length
      · obtain ⟨b, off, rfl, _, _, hc⟩ := Ints.at (h1.ext hg) k hlt
        obtain ⟨b2, off2, rfl, _, _, hc2⟩ := Ints.at (h2.ext hg) k (by omega)
        by_cases hx : gt l1 k = gt l2 k
        · have hb : (gt l1 k != gt l2 k) = false := by simp [hx]
          have hx2 := Lib.hid hx; clear hx
          go_wp2
          go_quiet (fail)
          go_wp2
          go_roundw
          case rel => exact ⟨k + 1, by go_num, by omega, grown_trans hg (grown_drewN _ _ _), fun i hi => by
            rcases Nat.lt_or_ge i k with h1 | h1
            · exact HZ.out i h1
            · have : i = k := by omega
              rw [this, hx2.out]⟩
          case measure => simp [intOf]; omega
        · have hb : (gt l1 k != gt l2 k) = true := by simp [hx]
          have hx2 := Lib.hid hx; clear hx
          go_wp2
          go_quiet (fail)
          go_wp2
          go_ret
          exact ret_bool (grown_trans hg (grown_drewN _ _ _)) (by rw [eqB_false_at (hx := hx2.out)])
      · go_wp2
        go_ret
        exact ret_bool hg (by rw [eqB_true.2 (ext_gt HL.out (fun i hi => HZ.out i (by omega)))])
  · have hd : ((l1.length : Int) != (l2.length : Int)) = true := by simp; omega
    have HL := Lib.hid hl; clear hl
    go_enter Tryz.func167, Tryz.ntmps167
    go_wp2
    go_ret
    exact ret_bool (Ext.refl _) (by rw [eqB_false.2 (fun h => HL.out (by rw [h]))])

set_option maxHeartbeats 400000 in
theorem l01Same_ok (v1 v2 : Value) (l1 l2 : List Int) (w : World) (S1 S2 : Nat → Prop) (h1 : Ints S1 w v1 l1) (h2 : Ints S2 w v2 l2) :
    Calls Tryz.prog 250 #[v1, v2] w (Ret w fun _ v => v = .bool (eqB l1 l2)) := by
  obtain ⟨a, cap, rfl, _, _⟩ := h1.shape
  obtain ⟨a2, cap2, rfl, _, _⟩ := h2.shape
  by_cases hl : l1.length = l2.length
  · have hd : ((l1.length : Int) != (l2.length : Int)) = false := by simp [hl]
    have hl1 : l1.length ≤ l2.length ∧ l2.length ≤ l1.length := by omega
    have HL := Lib.hid hl; clear hl
    go_enter Tryz.func250, Tryz.ntmps250
    go_wp2
    go_loopw [5] (fun i wr => ∃ k : Nat, i = .int .i64 k ∧ k ≤ l1.length ∧ Ext w wr ∧ ∀ i, i < k → gt l1 i = gt l2 i) (fun i _ => l1.length - (intOf i).toNat)
    case atStart => exact ⟨0, rfl, by omega, Ext.refl _, fun i hi => by omega⟩
    case round =>
      obtain ⟨k, rfl, hk, hg, hz⟩ := hrel
      have HZ := Lib.hid hz; clear hz
      by_cases hlt : k < l1.length
      · obtain ⟨b, off, rfl, _, _, hc⟩ := Ints.at (h1.ext hg) k hlt
        obtain ⟨b2, off2, rfl, _, _, hc2⟩ := Ints.at (h2.ext hg) k (by omega)
        by_cases hx : gt l1 k = gt l2 k
        · have hb : (gt l1 k != gt l2 k) = false := by simp [hx]
          have hx2 := Lib.hid hx; clear hx
          go_wp2
          go_quiet (fail)
          go_wp2
          go_roundw
          case rel => exact ⟨k + 1, by go_num, by omega, grown_trans hg (grown_drewN _ _ _), fun i hi => by
            rcases Nat.lt_or_ge i k with h1 | h1
            · exact HZ.out i h1
            · have : i = k := by omega
              rw [this, hx2.out]⟩
          case measure => simp [intOf]; omega
        · have hb : (gt l1 k != gt l2 k) = true := by simp [hx]
          have hx2 := Lib.hid hx; clear hx
          go_wp2
          go_quiet (fail)
          go_wp2
          go_ret
          exact ret_bool (grown_trans hg (grown_drewN _ _ _)) (by rw [eqB_false_at (hx := hx2.out)])
      · go_wp2
        go_ret
        exact ret_bool hg (by rw [eqB_true.2 (ext_gt HL.out (fun i hi => HZ.out i (by omega)))])
  · have hd : ((l1.length : Int) != (l2.length : Int)) = true := by simp; omega
    have HL := Lib.hid hl; clear hl
    go_enter Tryz.func250, Tryz.ntmps250
    go_wp2
    go_ret
    exact ret_bool (Ext.refl _) (by rw [eqB_false.2 (fun h => HL.out (by rw [h]))])

end Go.Proofs.YtldheeicjnncoaaGreat
namespace Go.Proofs.YtldheeicjnncoaaGreat
open Go.RowKit

def primeB (n : Int) : Bool := decide (n = 2 ∨ n = 3 ∨ n = 5 ∨ n = 7)

set_option maxHeartbeats 400000 in
theorem isGroupPrime_ok (n : Int) (w : World) : Calls Tryz.prog 107 #[.int .i64 n] w fun e w' => e = .returned (.bool (primeB n)) ∧ w = w' := by
  by_cases h2 : n = 2
  · subst h2; go_enter Tryz.func107, Tryz.ntmps107; go_wp2; go_ret; exact ⟨ret_b (by decide), rfl⟩
  by_cases h3 : n = 3
  · subst h3; go_enter Tryz.func107, Tryz.ntmps107; go_wp2; go_ret; exact ⟨ret_b (by decide), rfl⟩
  by_cases h5 : n = 5
  · subst h5; go_enter Tryz.func107, Tryz.ntmps107; go_wp2; go_ret; exact ⟨ret_b (by decide), rfl⟩
  by_cases h7 : n = 7
  · subst h7; go_enter Tryz.func107, Tryz.ntmps107; go_wp2; go_ret; exact ⟨ret_b (by decide), rfl⟩
  have e2 : (n == 2) = false := by simp [h2]
  have e3 : (n == 3) = false := by simp [h3]
  have e5 : (n == 5) = false := by simp [h5]
  have e7 : (n == 7) = false := by simp [h7]
  have hf : primeB n = false := by simp [primeB, h2, h3, h5, h7]
  have HF := Lib.hid hf
  clear h2 h3 h5 h7 hf
  go_enter Tryz.func107, Tryz.ntmps107
  go_wp2; go_ret; exact ⟨ret_b HF.out.symm, rfl⟩

set_option maxHeartbeats 400000 in
theorem l01Prime_ok (n : Int) (w : World) : Calls Tryz.prog 265 #[.int .i64 n] w fun e w' => e = .returned (.bool (primeB n)) ∧ w = w' := by
  by_cases h2 : n = 2
  · subst h2; go_enter Tryz.func265, Tryz.ntmps265; go_wp2; go_ret; exact ⟨ret_b (by decide), rfl⟩
  by_cases h3 : n = 3
  · subst h3; go_enter Tryz.func265, Tryz.ntmps265; go_wp2; go_ret; exact ⟨ret_b (by decide), rfl⟩
  by_cases h5 : n = 5
  · subst h5; go_enter Tryz.func265, Tryz.ntmps265; go_wp2; go_ret; exact ⟨ret_b (by decide), rfl⟩
  by_cases h7 : n = 7
  · subst h7; go_enter Tryz.func265, Tryz.ntmps265; go_wp2; go_ret; exact ⟨ret_b (by decide), rfl⟩
  have e2 : (n == 2) = false := by simp [h2]
  have e3 : (n == 3) = false := by simp [h3]
  have e5 : (n == 5) = false := by simp [h5]
  have e7 : (n == 7) = false := by simp [h7]
  have hf : primeB n = false := by simp [primeB, h2, h3, h5, h7]
  have HF := Lib.hid hf
  clear h2 h3 h5 h7 hf
  go_enter Tryz.func265, Tryz.ntmps265
  go_wp2; go_ret; exact ⟨ret_b HF.out.symm, rfl⟩

def unitV (n k : Nat) : List Int := (List.replicate n 0).set k 1

set_option maxHeartbeats 400000 in
theorem unitVector_ok (n k : Nat) (w : World) (hk : k < n) (hn : n ≤ 1000) : Calls Tryz.prog 195 #[.int .i64 n, .int .i64 k] w (Ret w fun w' v => Own w.heap.size w' v (unitV n k)) := by
  go_enter Tryz.func195, Tryz.ntmps195
  go_wp2_with (at_make; refine wp_make_ints rfl _ _ rfl w.heap.size n w.heap.size rfl _ rfl rfl rfl (by omega) (Nat.le_refl _) ?_; intro w1 ho1 hg1 _; have hc1 := ho1.cell k (by simpa using hk); have hf1 := ho1.frozen k)
  go_ret
  obtain ⟨h1, h2⟩ := ho1.store k 1
  exact ⟨_, rfl, grown_own hg1 h2 (fun j hj hlt => by cases hj; omega), h1⟩

set_option maxHeartbeats 400000 in
theorem l07Unit_ok (n k : Nat) (w : World) (hk : k < n) (hn : n ≤ 1000) : Calls Tryz.prog 149 #[.int .i64 n, .int .i64 k] w (Ret w fun w' v => Own w.heap.size w' v (unitV n k)) := by
  go_enter Tryz.func149, Tryz.ntmps149
  go_wp2_with (at_make; refine wp_make_ints rfl _ _ rfl w.heap.size n w.heap.size rfl _ rfl rfl rfl (by omega) (Nat.le_refl _) ?_; intro w1 ho1 hg1 _; have hc1 := ho1.cell k (by simpa using hk); have hf1 := ho1.frozen k)
  go_ret
  obtain ⟨h1, h2⟩ := ho1.store k 1
  exact ⟨_, rfl, grown_own hg1 h2 (fun j hj hlt => by cases hj; omega), h1⟩

set_option maxHeartbeats 400000 in
theorem l01Own_ok (w : World) (v : Value) (l : List Int) (S : Nat → Prop) (hv : Ints S w v l) (hl : l.length ≤ 1048576) :
    Calls Tryz.prog 86 #[v] w (Ret w fun w' r => Own w.heap.size w' r l) := by
  obtain ⟨a, cap, rfl, _, _⟩ := hv.shape
  go_enter Tryz.func86, Tryz.ntmps86
  go_wp2_with (at_builtin; refine wp_app_ints rfl _ _ rfl w.heap.size _ [] rfl (World.ownsRow_lit w #[] 0 (Nat.le_refl _) (by decide) rfl) _ l rfl S (hv.ext (World.grownBy_alloc _ _ _)) (by simp; omega) (by simp) ?_; intro v' w1 ho1 hg1 hn1)
  go_ret
  exact ⟨_, rfl, grown_own (World.grownBy_alloc _ _ _) hg1 (fun j hj hlt => by have := own_blk hj; omega), ho1⟩

end Go.Proofs.YtldheeicjnncoaaGreat
namespace Go.Proofs.YtldheeicjnncoaaGreat
open Go.RowKit

def expB (o e : List Int) : Bool := decide (e.length = o.length) && allB e.length (fun i => inB (gt e i) 0 (gt o i - 1))

set_option maxHeartbeats 400000 in
theorem isExponents_ok (w : World) (p v : Value) (P : Pr) (e : List Int) (S S' : Nat → Prop) (hp : PresP S w p P) (hv : Ints S' w v e) (ho : ∀ i, i < P.orders.length → 0 ≤ gt P.orders i ∧ gt P.orders i ≤ 7) :
    Calls Tryz.prog 128 #[p, v] w fun e1 w' => e1 = .returned (.bool (expB P.orders e)) ∧ w = w' := by
  obtain ⟨pb, po, rfl⟩ := hp.shape
  obtain ⟨a, cap, rfl, _, _⟩ := hv.shape
  obtain ⟨ao, capo, hco, hoi⟩ := hp.ordAt
  have HO := Lib.hid ho; clear ho
  by_cases hl : e.length = P.orders.length
  · have hd : ((e.length : Int) != (P.orders.length : Int)) = false := by simp [hl]
    have hl1 : e.length ≤ P.orders.length ∧ P.orders.length ≤ e.length := by omega
    have HL := Lib.hid hl; clear hl
    go_enter Tryz.func128, Tryz.ntmps128
    go_wp2
    go_loop [17] (fun i => ∃ k : Nat, i = .int .i64 k ∧ k ≤ e.length ∧ ∀ i, i < k → inB (gt e i) 0 (gt P.orders i - 1) = true) (fun i => e.length - (intOf i).toNat)
    case atStart => exact ⟨0, rfl, by omega, fun i hi => by omega⟩
    case round =>
      obtain ⟨k, rfl, hk, hz⟩ := hrel
      have HZ := Lib.hid hz; clear hz
      by_cases hlt : k < e.length
      · obtain ⟨b, off, rfl, _, _, hc⟩ := Ints.at hv k hlt
        obtain ⟨b2, off2, rfl, _, _, hc2⟩ := Ints.at hoi k (by omega)
        have ho1 := (HO.out k (by omega)).1
        have ho2 := (HO.out k (by omega)).2
        cases hx : inB (gt e k) 0 (gt P.orders k - 1) with
        | true =>
          go_wp2_with (go_at_call 87; refine (inside_ok _ _ _ _).mono ?_; rintro e1 w1 ⟨rfl, rfl⟩)
          go_round
          case rel => exact ⟨k + 1, by go_num, by omega, fun i hi => by
            rcases Nat.lt_or_ge i k with h1 | h1
            · exact HZ.out i h1
            · have : i = k := by omega
              rw [this, hx]⟩
          case measure => simp [intOf]; omega
        | false =>
          go_wp2_with (go_at_call 87; refine (inside_ok _ _ _ _).mono ?_; rintro e1 w1 ⟨rfl, rfl⟩)
          go_ret
          exact ⟨ret_b (by rw [expB, allB_false hlt hx, Bool.and_false]), rfl⟩
      · go_wp2
        go_ret
        exact ⟨ret_b (by rw [expB, allB_true.2 (fun i hi => HZ.out i (by omega)), Bool.and_true, decide_eq_true HL.out]), rfl⟩
  · have hd : ((e.length : Int) != (P.orders.length : Int)) = true := by simp; omega
    have HL := Lib.hid hl; clear hl
    go_enter Tryz.func128, Tryz.ntmps128
    go_wp2
    go_ret
    exact ⟨ret_b (by rw [expB, decide_eq_false HL.out, Bool.false_and]), rfl⟩

/-- some draws -/
def Dr (w w' : World) : Prop := ∃ n, w' = w.drewN n
theorem Dr.refl (w : World) : Dr w w := ⟨0, rfl⟩
theorem Dr.step {w w' : World} (h : Dr w w') (n : Nat) : Dr w (w'.drewN n) := by
  obtain ⟨m, rfl⟩ := h; exact ⟨m + n, by rw [World.drewN_drewN]⟩
theorem Dr.ext {w w' : World} (h : Dr w w') : Ext w w' := by
  obtain ⟨n, rfl⟩ := h; exact grown_drewN _ _ _

/-- a read-only call: it may draw -/
def Rd (w : World) (v : Value) (e : Ending) (w' : World) : Prop := e = .returned v ∧ Dr w w'

theorem rd_b {w w' : World} {a b : Bool} (hd : Dr w w') (h : b = a) : Rd w (.bool a) (.returned (.bool b)) w' := ⟨by rw [h], hd⟩
/-- a read-only call inside a region that draws -/
theorem quiet_rd {f : FuncId} {args : Array Value} {w : World} {n : Nat} {v : Value} (h : Calls Tryz.prog f args (w.drewN n) (Rd (w.drewN n) v)) :
    Calls Tryz.prog f args (w.drewN n) fun e w'' => e = .returned v ∧ ∃ m, w'' = w.drewN m :=
  Calls.quiet_of (h.mono fun _ _ h => h)
theorem quiet_eq {f : FuncId} {args : Array Value} {w : World} {n : Nat} {v : Value} (h : Calls Tryz.prog f args (w.drewN n) fun e w' => e = .returned v ∧ w.drewN n = w') :
    Calls Tryz.prog f args (w.drewN n) fun e w'' => e = .returned v ∧ ∃ m, w'' = w.drewN m :=
  Calls.quiet_of_same (h.mono fun _ _ h => ⟨h.1, h.2.symm⟩)

def expZB (o e : List Int) (z : Int) : Bool := decide (e.length = o.length) && allB e.length (fun i => inB (gt e i) 0 (gt o i - 1) && !(decide ((i : Int) ≤ z) && (gt e i != 0)))

set_option maxHeartbeats 1000000 in
theorem l07Exponents_ok (w : World) (vo v : Value) (o e : List Int) (z : Int) (S S' : Nat → Prop) (hoi : Ints S w vo o) (hv : Ints S' w v e) (ho : ∀ i, i < o.length → 0 ≤ gt o i ∧ gt o i ≤ 7) :
    Calls Tryz.prog 283 #[vo, v, .int .i64 z] w (Rd w (.bool (expZB o e z))) := by
  obtain ⟨ao, capo, rfl, _, _⟩ := hoi.shape
  obtain ⟨a, cap, rfl, _, _⟩ := hv.shape
  have HO := Lib.hid ho; clear ho
  by_cases hl : e.length = o.length
  · have hd : ((e.length : Int) != (o.length : Int)) = false := by simp [hl]
    have hl1 : e.length ≤ o.length ∧ o.length ≤ e.length := by omega
    have HL := Lib.hid hl; clear hl
    go_enter Tryz.func283, Tryz.ntmps283
    go_wp2
    go_loopw [7] (fun i wr => ∃ k : Nat, i = .int .i64 k ∧ k ≤ e.length ∧ Dr w wr ∧ ∀ i, i < k → (inB (gt e i) 0 (gt o i - 1) && !(decide ((i : Int) ≤ z) && (gt e i != 0))) = true) (fun i _ => e.length - (intOf i).toNat)
    case atStart => exact ⟨0, rfl, by omega, Dr.refl _, fun i hi => by omega⟩
    case round =>
      obtain ⟨k, rfl, hk, hdr, hz⟩ := hrel
      have HZ := Lib.hid hz; clear hz
      by_cases hlt : k < e.length
      · obtain ⟨b, off, rfl, _, _, hc⟩ := Ints.at (hv.ext hdr.ext) k hlt
        obtain ⟨b2, off2, rfl, _, _, hc2⟩ := Ints.at (hoi.ext hdr.ext) k (by omega)
        have ho1 := (HO.out k (by omega)).1
        have ho2 := (HO.out k (by omega)).2
        have hk1 : (k : Int) < e.length := by omega
        have hk2 : (k : Int) < o.length := by omega
        clear hl1
        cases hx : inB (gt e k) 0 (gt o k - 1) with
        | true =>
          by_cases hkz : (k : Int) ≤ z
          · have hdz : decide ((k : Int) ≤ z) = true := by simpa using hkz
            by_cases h0 : gt e k = 0
            · have hb : (gt e k != 0) = false := by simp [h0]
              have H0 := Lib.hid h0; clear h0
              have hs1 : IntKind.i64.wrap (gt o k - 1) = gt o k - 1 := IntWalk.i64_in _ (by omega)
              go_wp2
              go_quiet ((go_at_call 184; exact quiet_eq (l01In_ok _ _ _ _)))
              clear hs1
              go_wp2
              go_roundw
              case rel => exact ⟨k + 1, by go_num, by omega, hdr.step _, fun i hi => by
                rcases Nat.lt_or_ge i k with h1 | h1
                · exact HZ.out i h1
                · have : i = k := by omega
                  rw [this, hx, H0.out]; simp⟩
              case measure => simp [intOf]; omega
            · have hb : (gt e k != 0) = true := by simp [h0]
              have H0 := Lib.hid h0; clear h0
              have hs1 : IntKind.i64.wrap (gt o k - 1) = gt o k - 1 := IntWalk.i64_in _ (by omega)
              go_wp2
              go_quiet ((go_at_call 184; exact quiet_eq (l01In_ok _ _ _ _)))
              clear hs1
              go_wp2
              go_ret
              exact rd_b (hdr.step _) (by rw [expZB, allB_false hlt (by rw [hx, hdz, hb]; rfl), Bool.and_false])
          · have hdz : decide ((k : Int) ≤ z) = false := by simpa using hkz
            have HK := Lib.hid hkz; clear hkz
            have hs1 : IntKind.i64.wrap (gt o k - 1) = gt o k - 1 := IntWalk.i64_in _ (by omega)
            go_wp2
            go_quiet ((go_at_call 184; exact quiet_eq (l01In_ok _ _ _ _)))
            clear hs1
            go_wp2
            go_roundw
            case rel => exact ⟨k + 1, by go_num, by omega, hdr.step _, fun i hi => by
              rcases Nat.lt_or_ge i k with h1 | h1
              · exact HZ.out i h1
              · have : i = k := by omega
                rw [this, hx, hdz]; simp⟩
            case measure => simp [intOf]; omega
        | false =>
          have hs1 : IntKind.i64.wrap (gt o k - 1) = gt o k - 1 := IntWalk.i64_in _ (by omega)
          go_wp2
          go_quiet ((go_at_call 184; exact quiet_eq (l01In_ok _ _ _ _)))
          clear hs1
          go_wp2
          go_ret
          exact rd_b (hdr.step _) (by rw [expZB, allB_false hlt (by rw [hx]; rfl), Bool.and_false])
      · go_wp2
        go_ret
        exact rd_b hdr (by rw [expZB, allB_true.2 (fun i hi => HZ.out i (by omega)), Bool.and_true, decide_eq_true HL.out])
  · have hd : ((e.length : Int) != (o.length : Int)) = true := by simp; omega
    have HL := Lib.hid hl; clear hl
    go_enter Tryz.func283, Tryz.ntmps283
    go_wp2
    go_ret
    exact rd_b (Dr.refl _) (by rw [expZB, decide_eq_false HL.out, Bool.false_and])

end Go.Proofs.YtldheeicjnncoaaGreat
namespace Go.Proofs.YtldheeicjnncoaaGreat
open Go.RowKit

/-- a vector of zeros -/
def zeros (n : Nat) : List Int := List.replicate n 0

def rImgTo (at_ : List Int → List Int → List Int) (cs : List (List Int)) (i : Nat) (x out : List Int) : Nat → List Int
  | 0 => out
  | k + 1 => iter (gt x (i + 1 + k)).toNat (fun out => at_ out (gt cs k)) (rImgTo at_ cs i x out k)

def rAt (P : Pr) : Nat → Nat → List Int → List Int → List Int
  | 0, _, _, _ => zeros P.orders.length
  | f + 1, i, A, B =>
    let left := iter (gt B i).toNat (fun l => rImgTo (rAt P f (i + 1)) (gt P.conj i) i l (zeros P.orders.length) f) (A.set i 0)
    let rest := rAt P f (i + 1) left (B.set i 0)
    let c := gt A i + gt B i
    if gt P.orders i ≤ c then (rAt P f (i + 1) (gt P.powers i) rest).set i (c - gt P.orders i) else rest.set i c

/-- the image under conjugation by generator i; f + i + 1 is the number of generators -/
def rImage (P : Pr) (f i : Nat) (x : List Int) : List Int := rImgTo (rAt P f (i + 1)) (gt P.conj i) i x (zeros P.orders.length) f

theorem zeros_vec {P : Pr} (hP : Valid P) : Vec P.orders (zeros P.orders.length) := by
  refine ⟨by simp [zeros], fun i hi => ?_⟩
  have := hP.ord7 i hi
  unfold zeros; rw [gt_replicate]; omega

def AtVec (P : Pr) (f : Nat) : Prop := ∀ i A B, i + f = P.orders.length → Vec P.orders A → Vec P.orders B → Vec P.orders (rAt P f i A B)

theorem rImgTo_vec {P : Pr} (hP : Valid P) (f i : Nat) (hi : i + (f + 1) = P.orders.length) (hat : AtVec P f) (x out : List Int) (ho : Vec P.orders out) (k : Nat) (hk : k ≤ f) :
    Vec P.orders (rImgTo (rAt P f (i + 1)) (gt P.conj i) i x out k) := by
  induction k with
  | zero => exact ho
  | succ k ih =>
    unfold rImgTo
    exact iter_inv (Vec P.orders) _ (fun y hy => hat _ _ _ (by omega) hy ((hP.cv i (by omega)).2 k (by omega)).1) _ _ (ih (by omega))

theorem rAt_vec {P : Pr} (hP : Valid P) (f : Nat) : AtVec P f := by
  induction f with
  | zero => intro i A B _ _ _; exact zeros_vec hP
  | succ f ih =>
    intro i A B hi hA hB
    have ho := hP.ord7 i (by omega)
    have hAi := hA.2 i (by omega)
    have hBi := hB.2 i (by omega)
    have hl : Vec P.orders (iter (gt B i).toNat (fun l => rImgTo (rAt P f (i + 1)) (gt P.conj i) i l (zeros P.orders.length) f) (A.set i 0)) :=
      iter_inv (Vec P.orders) _ (fun y hy => rImgTo_vec hP f i hi ih _ _ (zeros_vec hP) f (Nat.le_refl _)) _ _ (hA.set i 0 ⟨by omega, fun _ => by omega⟩)
    have hr := ih (i + 1) _ _ (by omega) hl (hB.set i 0 ⟨by omega, fun _ => by omega⟩)
    simp only [rAt]
    split
    · exact (ih (i + 1) _ _ (by omega) (hP.pv i (by omega)).1 hr).set i _ ⟨by omega, fun _ => by omega⟩
    · exact hr.set i _ ⟨by omega, fun _ => by omega⟩

def AtOk (P : Pr) (f : Nat) : Prop :=
  ∀ (w : World) (pv a b : Value) (i : Nat) (A B : List Int) (Sp Sa Sb : Nat → Prop), i + f = P.orders.length → PresV Sp w pv P → Ints Sa w a A → Ints Sb w b B → Vec P.orders A → Vec P.orders B →
    Calls Tryz.prog 346 #[pv, .int .i64 i, a, b] w (Ret w fun w' v => Own w.heap.size w' v (rAt P f i A B))

set_option maxHeartbeats 2000000 in
theorem l08Image_of (P : Pr) (hP : Valid P) (f : Nat) (ih : AtOk P f) (w : World) (pv x : Value) (i : Nat) (X : List Int) (Sp Sx : Nat → Prop) (hi : i + (f + 1) = P.orders.length) (hp : PresV Sp w pv P)
    (hx : Ints Sx w x X) (hX : Vec P.orders X) :
    Calls Tryz.prog 376 #[pv, .int .i64 i, x] w (Ret w fun w' v => Own w.heap.size w' v (rImage P f i X)) := by
  obtain ⟨vo, vp, vc, rfl, h3⟩ := hp
  obtain ⟨ax, capx, rfl, _, _⟩ := hx.shape
  have hn6 := hP.n6
  have hB := PresP.box h3 28
  obtain ⟨ao, capo, hco, hoi⟩ := hB.ordAt
  go_enter Tryz.func376, Tryz.ntmps376
  go_wp2_with (at_make; refine wp_make_ints rfl _ _ rfl (w.heap.size + 1) P.orders.length (w.heap.size + 1) (by simp) _ rfl rfl rfl (by omega) (by simp) ?_; intro w1 ho1 hg1 _)
  have hw1 : Ext (w.alloc (.cells #[vo, vp, vc] 28)) w1 := hg1
  have hBx : PresP Any w1 (.pointer (some ⟨w.heap.size, 0, none⟩)) P := hB.ext hw1
  have hxx : Ints Sx w1 (.slice ax X.length capx) X := (hx.ext (World.grownBy_alloc _ _ _)).ext hw1
  have hgw : Ext w w1 := grown_trans (World.grownBy_alloc _ _ _) hw1
  have hic : i < P.conj.length := by rw [hP.cl]; omega
  have hlc : f ≤ (gt P.conj i).length := by rw [(hP.cv i (by omega)).1]; omega
  clear hco hoi hg1 hw1 hx hB
  go_loopw [8, 9] (fun v j wr => ∃ k : Nat, j = .int .i64 ((i : Int) + 1 + k) ∧ k ≤ f ∧ Ext w1 wr ∧ Own (w.heap.size + 1) wr v (rImgTo (rAt P f (i + 1)) (gt P.conj i) i X (zeros P.orders.length) k)) (fun _ j _ => P.orders.length - (intOf j).toNat)
  case atStart => exact ⟨0, by simp, by omega, Ext.refl _, ho1⟩
  case round =>
    clear ho1
    obtain ⟨k, rfl, hk, hg, hO⟩ := hrel
    by_cases hlt : k < f
    · have hxk := hX.2 (i + 1 + k) (by omega)
      have hx7 := hP.ord7 (i + 1 + k) (by omega)
      have hx0 : 0 ≤ gt X (i + 1 + k) := hxk.1
      have hx1 : gt X (i + 1 + k) ≤ 7 := by omega
      clear hxk hx7
      have hvk := rImgTo_vec hP f i hi (rAt_vec hP f) X _ (zeros_vec hP) k hk
      have HV := Lib.hid hvk; clear hvk
      have hcond : (i : Int) + 1 + k < P.orders.length := by omega
      go_wp2
      go_loopw [8, 10] (fun v mm wr => ∃ m : Nat, mm = .int .i64 m ∧ m ≤ (gt X (i + 1 + k)).toNat ∧ Ext w1 wr ∧ Own (w.heap.size + 1) wr v (iter m (fun out => rAt P f (i + 1) out (gt (gt P.conj i) k)) (rImgTo (rAt P f (i + 1)) (gt P.conj i) i X (zeros P.orders.length) k))) (fun _ mm _ => (gt X (i + 1 + k)).toNat - (intOf mm).toNat)
      case atStart => exact ⟨0, rfl, by omega, hg, hO⟩
      case round =>
        clear hg hO
        obtain ⟨m, rfl, hm, hg, hO⟩ := hrel
        have hxw := hxx.ext hg
        obtain ⟨bx, ox, rfl, _, _, hcx⟩ := Ints.at hxw (i + 1 + k) (by rw [hX.1]; omega)
        have hle : X.length ≤ P.orders.length ∧ P.orders.length ≤ X.length := by rw [hX.1]; omega
        have hix : ((i : Int) + 1 + k).toNat = i + 1 + k := by omega
        by_cases hlt2 : (m : Int) < gt X (i + 1 + k)
        · obtain ⟨vo9, vp9, vc9, _, _, hc0, hc1, hc2, h39⟩ := (hBx.ext hg).at
          obtain ⟨ac, capc, rfl, _, _⟩ := Sl.shape h39.c
          obtain ⟨bc, oc, ac2, capc2, rfl, _, _, hcc, hrc⟩ := Rows3.at h39.c i hic
          obtain ⟨bd, od, ad2, capd2, rfl, _, _, hcd, hid⟩ := Rows2.at hrc k (by omega)
          have hvm : Vec P.orders (iter m (fun out => rAt P f (i + 1) out (gt (gt P.conj i) k)) (rImgTo (rAt P f (i + 1)) (gt P.conj i) i X (zeros P.orders.length) k)) :=
            iter_inv (Vec P.orders) _ (fun y hy => rAt_vec hP f _ _ _ (by omega) hy ((hP.cv i (by omega)).2 k (by omega)).1) _ _ HV.out
          have hcv := ((hP.cv i (by omega)).2 k (by omega)).1
          have hOi := hO.ints (by rw [hvm.1]; omega)
          have HVm := Lib.hid hvm; clear hvm
          have HCv := Lib.hid hcv; clear hcv
          have e1 : ∀ w', Ext wr w' → w'.cell? ⟨w.heap.size, 0, none⟩ = some vo9 := fun w' h => h.cell hc0 (by simp)
          have e2 : ∀ w', Ext wr w' → w'.cell? ⟨w.heap.size, 1, none⟩ = some vp9 := fun w' h => h.cell (by simpa using hc1) (by simp)
          have e3 : ∀ w', Ext wr w' → w'.cell? ⟨w.heap.size, 2, none⟩ = some (.slice (some ⟨bc, oc, none⟩) P.conj.length capc) := fun w' h => h.cell (by simpa using hc2) (by simp)
          have e4 : ∀ w', Ext wr w' → w'.cell? ⟨bc, oc + i, none⟩ = some (.slice (some ⟨bd, od, none⟩) (gt P.conj i).length capc2) := fun w' h => h.cell hcc (by simp)
          have e5 : ∀ w', Ext wr w' → w'.cell? ⟨bd, od + k, none⟩ = some (.slice ad2 (gt (gt P.conj i) k).length capd2) := fun w' h => h.cell hcd (by simp)
          have s1 : IntKind.i64.wrap ((i : Int) + 1 + k - i) = (k : Int) + 1 := by rw [show (i : Int) + 1 + k - i = (k : Int) + 1 by omega]; exact IntWalk.i64_in _ (by omega)
          have s2 : IntKind.i64.wrap (k : Int) = (k : Int) := IntWalk.i64_in _ (by omega)
          have s3 : IntKind.i64.wrap ((i : Int) + 1) = (i : Int) + 1 := IntWalk.i64_in _ (by omega)
          have b1 : (0 : Int) ≤ k := by omega
          have b2 : (k : Int) < (gt P.conj i).length := by omega
          have b3 : (i : Int) < P.conj.length := by omega
          go_wp2
          clear hc0 hc1 hc2 hcc hcd
          go_region_held3 (fun w' => Ext wr w') (first | exact grown_drew _ _ | exact hg6)
            (first | (go_at_call 346; refine Calls.mono (Calls.rel (w0 := wr) (by assumption) (ih _ _ _ _ (i + 1) _ (gt (gt P.conj i) k) Any Any Any (by omega) ⟨_, _, _, rfl, Pres3.ext h39 (by assumption)⟩ (Ints.ext hOi (by assumption)) (Ints.ext hid (by assumption)) HVm.out HCv.out)) ?_; rintro e6 w6 ⟨v6, rfl, hg6, hsz6, hO6⟩))
          clear e1 e2 e3 e4 e5 s1 s2 s3
          go_wp2
          go_roundw
          case rel => exact ⟨m + 1, by go_num, by omega, grown_trans hg hg6, hO6.weak (by have := hg.size; omega)⟩
          case measure => simp [intOf]; omega
        · have hme : m = (gt X (i + 1 + k)).toNat := by omega
          subst hme
          go_wp2
          go_roundw
          case rel => exact ⟨k + 1, by go_num, by omega, hg, hO⟩
          case measure => simp [intOf]; omega
    · have hke : k = f := by omega
      subst hke
      go_wp2
      go_ret
      exact ⟨_, rfl, grown_trans hgw hg, hO.weak (by omega)⟩

end Go.Proofs.YtldheeicjnncoaaGreat
namespace Go.Proofs.YtldheeicjnncoaaGreat
open Go.RowKit

/-- v[:h] -/
theorem run_head (w : World) (a : Option Addr) (n cap : Nat) (k : Int) (h0 : 0 ≤ k) (h1 : k ≤ cap) :
    (Instr.slice 24 (.slice a n cap) none (some (.int .i64 k)) none).run Tryz.prog w = .ok (.slice a k.toNat cap) w := by
  rw [run_slice_h w 24 a n cap (by kernel_rfl) .i64 k h0 h1]
  have : (sizeOf (Tryz.prog.elem 24)).run Tryz.prog w = .ok 1 w := by kernel_rfl
  rw [this]
  simp only [Result.andThen, sliced, Nat.sub_zero, Nat.zero_mul]
  have e : (a.map fun x => x.add 0) = a := by cases a <;> simp [Addr.add]
  split
  · rfl
  · rw [e]

theorem head_ints {S : Nat → Prop} {w : World} {a : Option Addr} {n cap : Nat} {xs : List Int} (h : Ints S w (.slice a n cap) xs) (k : Nat) (hk : k ≤ xs.length) : Ints S w (.slice a k cap) (xs.take k) := by
  obtain ⟨a', cap', hv, hl, hc⟩ := h
  cases hv
  have hlen : (xs.take k).length = k := by simp; omega
  refine ⟨a, cap, by rw [hlen], ⟨by omega, by omega, hl.2.2⟩, fun i hi => ?_⟩
  obtain ⟨b, off, u, h1, h2, h3, h4, h5⟩ := hc i (by omega)
  refine ⟨b, off, u, h1, h2, h3, h4, ?_⟩
  have : gt (xs.take k) i = gt xs i := by simp only [gt, List.getD_eq_getElem?_getD, List.getElem?_take]; rw [if_pos (by omega)]
  rw [this]; exact h5

def tailB (o : List Int) (i : Nat) (e : List Int) : Bool := expB o e && isZeroB (e.take (i + 1))

theorem expB_vec {o e : List Int} : expB o e = true ↔ Vec o e := by
  unfold expB Vec
  rw [Bool.and_eq_true, decide_eq_true_eq, allB_true]
  constructor
  · rintro ⟨h1, h2⟩
    exact ⟨h1, fun i hi => by have := inB_true.1 (h2 i (by omega)); omega⟩
  · rintro ⟨h1, h2⟩
    exact ⟨h1, fun i hi => by have := h2 i (by omega); exact inB_true.2 (by omega)⟩

theorem isZeroB_true {l : List Int} : isZeroB l = true ↔ ∀ i, i < l.length → gt l i = 0 := by
  unfold isZeroB; rw [allB_true]; simp

theorem gt_take {l : List Int} {k i : Nat} (h : i < k) : gt (l.take k) i = gt l i := by
  simp only [gt, List.getD_eq_getElem?_getD, List.getElem?_take]; rw [if_pos h]

theorem gt_big {l : List Int} {i : Nat} (h : l.length ≤ i) : gt l i = 0 := by
  simp only [gt, List.getD_eq_getElem?_getD]; rw [List.getElem?_eq_none h]; rfl

theorem tailB_vec {o e : List Int} {i : Nat} : tailB o i e = true ↔ Vec o e ∧ ZeroTo i e := by
  unfold tailB
  rw [Bool.and_eq_true, expB_vec, isZeroB_true]
  constructor
  · rintro ⟨h1, h2⟩
    refine ⟨h1, fun k hk => ?_⟩
    by_cases hl : k < e.length
    · have := h2 k (by simp; omega)
      rwa [gt_take (by omega)] at this
    · exact gt_big (by omega)
  · rintro ⟨h1, h2⟩
    refine ⟨h1, fun k hk => ?_⟩
    simp at hk
    rw [gt_take (by omega)]; exact h2 k (by omega)

theorem expZB_vec {o e : List Int} {i : Nat} : expZB o e i = true ↔ Vec o e ∧ ZeroTo i e := by
  rw [← tailB_vec]
  unfold expZB tailB expB
  rw [Bool.and_eq_true, Bool.and_eq_true, Bool.and_eq_true, allB_true, allB_true, isZeroB_true]
  constructor
  · rintro ⟨h1, h2⟩
    refine ⟨⟨h1, fun k hk => ((Bool.and_eq_true _ _).mp (h2 k hk)).1⟩, fun k hk => ?_⟩
    rw [List.length_take] at hk
    rw [gt_take (by omega)]
    have := ((Bool.and_eq_true _ _).mp (h2 k (by omega))).2
    simp at this
    rcases this with h | h
    · omega
    · exact h
  · rintro ⟨⟨h1, h2⟩, h3⟩
    refine ⟨h1, fun k hk => ?_⟩
    rw [Bool.and_eq_true]
    refine ⟨h2 k hk, ?_⟩
    simp
    rcases Nat.lt_or_ge i k with hki | hki
    · exact .inl hki
    · have := h3 k (by rw [List.length_take]; omega)
      rw [gt_take (by omega)] at this
      exact .inr this

set_option maxHeartbeats 400000 in
theorem tailVector_ok (w : World) (p v : Value) (P : Pr) (e : List Int) (i : Nat) (S S' : Nat → Prop) (hp : PresP S w p P) (hv : Ints S' w v e) (ho : ∀ i, i < P.orders.length → 0 ≤ gt P.orders i ∧ gt P.orders i ≤ 7)
    (hi : i < P.orders.length) (hn : P.orders.length ≤ 6) :
    Calls Tryz.prog 190 #[p, .int .i64 i, v] w fun e1 w' => e1 = .returned (.bool (tailB P.orders i e)) ∧ w = w' := by
  obtain ⟨a, cap, rfl, hcap, _⟩ := hv.shape
  cases hx : expB P.orders e with
  | false =>
    have HX := Lib.hid hx; clear hx
    go_enter Tryz.func190, Tryz.ntmps190
    have hx2 := HX.out
    go_wp2_with (go_at_call 128; refine (isExponents_ok _ _ _ P e S S' hp hv ho).mono ?_; rintro e1 w1 ⟨rfl, rfl⟩)
    go_ret
    exact ⟨ret_b (by rw [tailB, HX.out, Bool.false_and]), rfl⟩
  | true =>
    have hvec := expB_vec.1 hx
    have hle : P.orders.length ≤ e.length := by rw [hvec.1]; omega
    have hs := fun w => run_head w a e.length cap ((i : Int) + 1) (by omega) (by omega)
    have hh := head_ints hv (i + 1) (by omega)
    have HX := Lib.hid hx
    clear hvec
    go_enter Tryz.func190, Tryz.ntmps190
    go_wp2_with (first
      | (go_at_call 128; refine (isExponents_ok _ _ _ P e S S' hp hv ho).mono ?_; rintro e1 w1 ⟨rfl, rfl⟩)
      | (go_at_call 186; refine (isZero_ok _ _ _ S' hh).mono ?_; rintro e1 w1 ⟨rfl, rfl⟩))
    go_ret
    exact ⟨ret_b (by rw [tailB, HX.out, Bool.true_and]), rfl⟩

theorem primeB_true {n : Int} : primeB n = true ↔ n = 2 ∨ n = 3 ∨ n = 5 ∨ n = 7 := by simp [primeB]

theorem prodTo_pos {l : List Int} (k : Nat) (h : ∀ i, i < k → 1 ≤ gt l i) : 1 ≤ prodTo l k := by
  induction k with
  | zero => simp [prodTo]
  | succ k ih =>
    have h1 := ih (fun i hi => h i (by omega))
    have h2 := h k (by omega)
    have := Int.mul_le_mul h1 h2 (by omega) (by omega)
    simp only [prodTo]; omega

theorem prodTo_mono {l : List Int} (k n : Nat) (hkn : k ≤ n) (h : ∀ i, i < n → 1 ≤ gt l i) : prodTo l k ≤ prodTo l n := by
  induction n with
  | zero => have : k = 0 := by omega
            rw [this]; exact Int.le_refl _
  | succ n ih =>
    rcases Nat.lt_or_ge n k with h1 | h1
    · have : k = n + 1 := by omega
      rw [this]; exact Int.le_refl _
    · have h2 := ih h1 (fun i hi => h i (by omega))
      have h3 := h n (by omega)
      have h4 := prodTo_pos (l := l) n (fun i hi => h i (by omega))
      have h5 : prodTo l n * 1 ≤ prodTo l n * gt l n := Int.mul_le_mul_of_nonneg_left h3 (by omega)
      simp only [prodTo]
      omega

open Classical in
noncomputable def validB (P : Pr) : Bool := decide (Valid P)
theorem validB_true {P : Pr} (h : Valid P) : validB P = true := by simp [validB, h]
theorem validB_false {P : Pr} (h : ¬ Valid P) : validB P = false := by simp [validB, h]
theorem valid_of {P : Pr} (h : validB P = true) : Valid P := by simpa [validB] using h
theorem Valid.pos {P : Pr} (h : Valid P) (i : Nat) (hi : i < P.orders.length) : 1 ≤ gt P.orders i := by have := h.ord7 i hi; omega

theorem Valid.pre {P : Pr} (h : Valid P) (k : Nat) (hk : k ≤ P.orders.length) : prodTo P.orders k ≤ 729 :=
  Int.le_trans (prodTo_mono k _ hk (fun i hi => h.pos i hi)) h.le729

set_option maxHeartbeats 2000000 in
theorem isPresentation_ok (w : World) (pv : Value) (P : Pr) (S : Nat → Prop) (hp : PresV S w pv P) :
    Calls Tryz.prog 91 #[pv] w (Ret w fun _ v => v = .bool (validB P)) := by
  obtain ⟨vo, vp, vc, rfl, h3⟩ := hp
  have hBx := PresP.box h3 28
  have hg0 : Ext w (w.alloc (.cells #[vo, vp, vc] 28)) := World.grownBy_alloc _ _ _
  go_enter Tryz.func91, Tryz.ntmps91
  obtain ⟨ao, capo, hco, hoi⟩ := hBx.ordAt
  obtain ⟨ap, capp, hcp, hpi⟩ := hBx.powAt
  obtain ⟨ac, capc, hcc, hci⟩ := hBx.conjAt
  by_cases h6 : P.orders.length ≤ 6
  rotate_left
  · have hd : decide ((6 : Int) < (P.orders.length : Int)) = true := by simp; omega
    go_wp2
    go_ret
    exact ret_bool hg0 (validB_false (fun h => h6 h.n6)).symm
  have hd6 : decide ((6 : Int) < (P.orders.length : Int)) = false := by simp; omega
  by_cases hpl : P.powers.length = P.orders.length
  rotate_left
  · have hd : ((P.powers.length : Int) != (P.orders.length : Int)) = true := by simp; omega
    have HP := Lib.hid hpl; clear hpl
    go_wp2
    go_ret
    exact ret_bool hg0 (validB_false (fun h => HP.out h.pl)).symm
  have hdp : ((P.powers.length : Int) != (P.orders.length : Int)) = false := by simp [hpl]
  by_cases hcl : P.conj.length = P.orders.length
  rotate_left
  · have hd : ((P.conj.length : Int) != (P.orders.length : Int)) = true := by simp; omega
    have HP := Lib.hid hpl; clear hpl
    have HC := Lib.hid hcl; clear hcl
    go_wp2
    go_ret
    exact ret_bool hg0 (validB_false (fun h => HC.out h.cl)).symm
  have hdc : ((P.conj.length : Int) != (P.orders.length : Int)) = false := by simp [hcl]
  have hpl2 : P.powers.length ≤ P.orders.length ∧ P.orders.length ≤ P.powers.length := by omega
  have hcl2 : P.conj.length ≤ P.orders.length ∧ P.orders.length ≤ P.conj.length := by omega
  have HP := Lib.hid hpl; clear hpl
  have HC := Lib.hid hcl; clear hcl
  go_wp2
  clear hd6 hdp hdc
  generalize hw0 : w.alloc (.cells #[vo, vp, vc] 28) = w0 at *
  clear hw0
  go_loop [4, 32] (fun pr i => ∃ k : Nat, i = .int .i64 k ∧ pr = .int .i64 (prodTo P.orders k) ∧ k ≤ P.orders.length ∧ prodTo P.orders k ≤ 729 ∧ ∀ i, i < k → primeB (gt P.orders i) = true) (fun _ i => P.orders.length - (intOf i).toNat)
  case atStart => exact ⟨0, rfl, rfl, by omega, by simp [prodTo], fun i hi => by omega⟩
  case round =>
    obtain ⟨k, rfl, rfl, hk, hle, hz⟩ := hrel
    have hp1 : 1 ≤ prodTo P.orders k := prodTo_pos k (fun i hi => by have := primeB_true.1 (hz i hi); omega)
    have HZ := Lib.hid hz; clear hz
    by_cases hlt : k < P.orders.length
    · obtain ⟨b, off, rfl, _, _, hc⟩ := Ints.at hoi k hlt
      cases hx : primeB (gt P.orders k) with
      | false =>
        have HX := Lib.hid hx
        go_wp2_with (go_at_call 107; refine (isGroupPrime_ok _ _).mono ?_; rintro e1 w1 ⟨rfl, rfl⟩)
        go_ret
        exact ret_bool hg0 (validB_false (fun h => by have := primeB_true.2 (h.ord k hlt); rw [HX.out] at this; cases this)).symm
      | true =>
        have hpr := primeB_true.1 hx
        have hg7 : 2 ≤ gt P.orders k ∧ gt P.orders k ≤ 7 := by omega
        have hg20 : 2 ≤ gt P.orders k := hg7.1
        have hg70 : gt P.orders k ≤ 7 := hg7.2
        have hm0 : 0 ≤ prodTo P.orders k * gt P.orders k := Int.mul_nonneg (by omega) (by omega)
        have hm1 : prodTo P.orders k * gt P.orders k ≤ 5103 := by
          have h1 : prodTo P.orders k * gt P.orders k ≤ 729 * gt P.orders k := Int.mul_le_mul_of_nonneg_right hle (by omega)
          omega
        have hsucc : prodTo P.orders (k + 1) = prodTo P.orders k * gt P.orders k := rfl
        have HSC := Lib.hid hsucc; clear hsucc hpr hg7
        by_cases h729 : prodTo P.orders k * gt P.orders k ≤ 729
        · go_wp2_with (go_at_call 107; refine (isGroupPrime_ok _ _).mono ?_; rintro e1 w1 ⟨rfl, rfl⟩)
          go_round
          case rel => exact ⟨k + 1, by go_num, by rw [HSC.out], by omega, by rw [HSC.out]; exact h729, fun i hi => by
            rcases Nat.lt_or_ge i k with h1 | h1
            · exact HZ.out i h1
            · have : i = k := by omega
              rw [this]; exact hx⟩
          case measure => simp [intOf]; omega
        · go_wp2_with (go_at_call 107; refine (isGroupPrime_ok _ _).mono ?_; rintro e1 w1 ⟨rfl, rfl⟩)
          go_ret
          exact ret_bool hg0 (validB_false (fun h => by have := h.pre (k + 1) hlt; rw [HSC.out] at this; omega)).symm
    · have hke : k = P.orders.length := by omega
      subst hke
      have hord : ∀ i, i < P.orders.length → 0 ≤ gt P.orders i ∧ gt P.orders i ≤ 7 := fun i hi => by have := primeB_true.1 (HZ.out i hi); omega
      have HO := Lib.hid hord; clear hord
      have HLE := Lib.hid hle; clear hle hp1
      go_wp2
      clear hcc hcp hco
      go_loop [50] (fun i => ∃ k : Nat, i = .int .i64 k ∧ k ≤ P.orders.length ∧ ∀ i, i < k → tailB P.orders i (gt P.powers i) = true ∧ (gt P.conj i).length = P.orders.length - 1 - i ∧ ∀ j, j < P.orders.length - 1 - i → tailB P.orders i (gt (gt P.conj i) j) = true) (fun i => P.orders.length - (intOf i).toNat)
      case atStart => exact ⟨0, rfl, by omega, fun i hi => by omega⟩
      case round =>
        obtain ⟨k, rfl, hk, hz⟩ := hrel
        have HZ2 := Lib.hid hz; clear hz
        by_cases hlt : k < P.orders.length
        · obtain ⟨ap, capp, hcp, hpi⟩ := hBx.powAt
          obtain ⟨ac, capc, hcc, hci⟩ := hBx.conjAt
          obtain ⟨b1, o1, a2, cap2, rfl, _, _, hc2, hi2⟩ := Rows2.at hpi k (by omega)
          obtain ⟨b3, o3, a4, cap4, rfl, _, _, hc4, hi4⟩ := Rows3.at hci k (by omega)
          have hbad1 : tailB P.orders k (gt P.powers k) = false → validB P = false := fun hx => validB_false (fun h => by have := tailB_vec.2 (h.pv k hlt); rw [hx] at this; cases this)
          have hbad2 : ¬ (gt P.conj k).length = P.orders.length - 1 - k → validB P = false := fun hx => validB_false (fun h => hx (h.cv k hlt).1)
          have hbad3 : ∀ j, j < P.orders.length - 1 - k → tailB P.orders k (gt (gt P.conj k) j) = false → validB P = false := fun j hj hx => validB_false (fun h => by have := tailB_vec.2 ((h.cv k hlt).2 j hj); rw [hx] at this; cases this)
          have HB1 := Lib.hid hbad1; have HB2 := Lib.hid hbad2; have HB3 := Lib.hid hbad3; clear hbad1 hbad2 hbad3
          cases hx : tailB P.orders k (gt P.powers k) with
          | false =>
            have HX := Lib.hid hx
            go_wp2_with (go_at_call 190; refine (tailVector_ok _ _ _ P _ k Any Any hBx hi2 HO.out hlt h6).mono ?_; rintro e1 w1 ⟨rfl, rfl⟩)
            go_ret
            exact ret_bool hg0 (HB1.out HX.out).symm
          | true =>
            have HX := Lib.hid hx
            by_cases hlen : (gt P.conj k).length = P.orders.length - 1 - k
            · have hd : (((gt P.conj k).length : Int) != (P.orders.length : Int) - 1 - k) = false := by simp; omega
              have hl2 : (gt P.conj k).length ≤ P.orders.length - 1 - k ∧ P.orders.length - 1 - k ≤ (gt P.conj k).length := by omega
              have HLN := Lib.hid hlen; clear hlen
              go_wp2_with (go_at_call 190; refine (tailVector_ok _ _ _ P _ k Any Any hBx hi2 HO.out hlt h6).mono ?_; rintro e1 w1 ⟨rfl, rfl⟩)
              clear hd hx hcp hc2
              go_loop [80] (fun i => ∃ j : Nat, i = .int .i64 j ∧ j ≤ (gt P.conj k).length ∧ ∀ i, i < j → tailB P.orders k (gt (gt P.conj k) i) = true) (fun i => (gt P.conj k).length - (intOf i).toNat)
              case atStart => exact ⟨0, rfl, by omega, fun i hi => by omega⟩
              case round =>
                obtain ⟨j, rfl, hj, hz⟩ := hrel
                have HZ3 := Lib.hid hz; clear hz
                by_cases hlt2 : j < (gt P.conj k).length
                · obtain ⟨b5, o5, a6, cap6, rfl, _, _, hc6, hi6⟩ := Rows2.at hi4 j hlt2
                  cases hy : tailB P.orders k (gt (gt P.conj k) j) with
                  | false =>
                    have HY := Lib.hid hy
                    go_wp2_with (go_at_call 190; refine (tailVector_ok _ _ _ P _ k Any Any hBx hi6 HO.out hlt h6).mono ?_; rintro e1 w1 ⟨rfl, rfl⟩)
                    go_ret
                    exact ret_bool hg0 (HB3.out j (by omega) HY.out).symm
                  | true =>
                    have HY := Lib.hid hy
                    go_wp2_with (go_at_call 190; refine (tailVector_ok _ _ _ P _ k Any Any hBx hi6 HO.out hlt h6).mono ?_; rintro e1 w1 ⟨rfl, rfl⟩)
                    go_round
                    case rel => exact ⟨j + 1, by go_num, by omega, fun i hi => by
                      rcases Nat.lt_or_ge i j with h1 | h1
                      · exact HZ3.out i h1
                      · have : i = j := by omega
                        rw [this]; exact HY.out⟩
                    case measure => simp [intOf]; omega
                · have hje : j = (gt P.conj k).length := by omega
                  go_wp2
                  go_round
                  case rel => exact ⟨k + 1, by go_num, by omega, fun i hi => by
                    rcases Nat.lt_or_ge i k with h1 | h1
                    · exact HZ2.out i h1
                    · have : i = k := by omega
                      rw [this]; exact ⟨HX.out, HLN.out, fun i hi => HZ3.out i (by omega)⟩⟩
                  case measure => simp [intOf]; omega
            · have hd : (((gt P.conj k).length : Int) != (P.orders.length : Int) - 1 - k) = true := by simp; omega
              have HLN := Lib.hid hlen; clear hlen
              go_wp2_with (go_at_call 190; refine (tailVector_ok _ _ _ P _ k Any Any hBx hi2 HO.out hlt h6).mono ?_; rintro e1 w1 ⟨rfl, rfl⟩)
              go_ret
              exact ret_bool hg0 (HB2.out HLN.out).symm
        · have hke : k = P.orders.length := by omega
          subst hke
          go_wp2
          go_ret
          refine ret_bool hg0 (validB_true ?_).symm
          exact ⟨HLE.out, h6, HP.out, HC.out, fun i hi => primeB_true.1 (HZ.out i hi), fun i hi => tailB_vec.1 (HZ2.out i hi).1,
            fun i hi => ⟨(HZ2.out i hi).2.1, fun j hj => tailB_vec.1 ((HZ2.out i hi).2.2 j hj)⟩⟩

end Go.Proofs.YtldheeicjnncoaaGreat
namespace Go.Proofs.YtldheeicjnncoaaGreat
open Go.RowKit

/-- the capped product -/
def capTo (l : List Int) : Nat → Int
  | 0 => 1
  | k + 1 => if capTo l k ≤ 729 then capTo l k * gt l k else capTo l k

theorem capTo_le {l : List Int} (n : Nat) (h : ∀ i, i < n → 1 ≤ gt l i) : (capTo l n ≤ 729 ↔ prodTo l n ≤ 729) ∧ (capTo l n ≤ 729 → capTo l n = prodTo l n) := by
  induction n with
  | zero => simp [capTo, prodTo]
  | succ n ih =>
    obtain ⟨h1, h2⟩ := ih (fun i hi => h i (by omega))
    simp only [capTo]
    split
    · rename_i hc
      rw [h2 hc]; exact ⟨Iff.rfl, fun _ => rfl⟩
    · rename_i hc
      have h3 := prodTo_mono (l := l) n (n + 1) (by omega) h
      have h4 : ¬ prodTo l n ≤ 729 := fun h => hc (h1.2 h)
      exact ⟨⟨fun h => absurd h hc, fun h => absurd (Int.le_trans h3 h) h4⟩, fun h => absurd h hc⟩

theorem capTo_bd {l : List Int} (n : Nat) (h : ∀ i, i < n → 1 ≤ gt l i ∧ gt l i ≤ 7) : 1 ≤ capTo l n ∧ capTo l n ≤ 5103 := by
  induction n with
  | zero => simp [capTo]
  | succ n ih =>
    have h1 := ih (fun i hi => h i (by omega))
    have h2 := h n (by omega)
    simp only [capTo]
    split
    · have h3 : capTo l n * gt l n ≤ 729 * gt l n := Int.mul_le_mul_of_nonneg_right (by omega) (by omega)
      have h4 := Int.mul_le_mul h1.1 h2.1 (by omega) (by omega)
      omega
    · omega

set_option maxHeartbeats 400000 in
theorem l07Product_ok (w : World) (v : Value) (l : List Int) (S : Nat → Prop) (hv : Ints S w v l) (ho : ∀ i, i < l.length → 1 ≤ gt l i ∧ gt l i ≤ 7) :
    Calls Tryz.prog 197 #[v] w fun e w' => e = .returned (.int .i64 (capTo l l.length)) ∧ w = w' := by
  obtain ⟨a, cap, rfl, _, _⟩ := hv.shape
  have HO := Lib.hid ho; clear ho
  go_enter Tryz.func197, Tryz.ntmps197
  go_wp2
  go_loop [3, 4] (fun pr i => ∃ k : Nat, i = .int .i64 k ∧ pr = .int .i64 (capTo l k) ∧ k ≤ l.length) (fun _ i => l.length - (intOf i).toNat)
  case atStart => exact ⟨0, rfl, rfl, by omega⟩
  case round =>
    obtain ⟨k, rfl, rfl, hk⟩ := hrel
    by_cases hlt : k < l.length
    · obtain ⟨b, off, rfl, _, _, hc⟩ := Ints.at hv k hlt
      have h1 := HO.out k hlt
      have hb := capTo_bd (l := l) k (fun i hi => HO.out i (by omega))
      have hb0 : 1 ≤ capTo l k := hb.1
      have hsucc : capTo l (k + 1) = if capTo l k ≤ 729 then capTo l k * gt l k else capTo l k := rfl
      have HSC := Lib.hid hsucc; clear hsucc hb
      by_cases h729 : capTo l k ≤ 729
      · have hm0 : 0 ≤ capTo l k * gt l k := Int.mul_nonneg (by omega) (by omega)
        have hm1 : capTo l k * gt l k ≤ 5103 := by
          have h1 : capTo l k * gt l k ≤ 729 * gt l k := Int.mul_le_mul_of_nonneg_right h729 (by omega)
          omega
        go_wp2
        go_round
        case rel => exact ⟨k + 1, by go_num, by rw [HSC.out, if_pos h729], by omega⟩
        case measure => simp [intOf]; omega
      · go_wp2
        go_round
        case rel => exact ⟨k + 1, by go_num, by rw [HSC.out, if_neg h729], by omega⟩
        case measure => simp [intOf]; omega
    · have hke : k = l.length := by omega
      subst hke
      go_wp2
      go_ret
      exact ⟨rfl, rfl⟩

/-- the order of a group -/
def ordP (P : Pr) : Int := prodTo P.orders P.orders.length

theorem Valid.ordP_pos {P : Pr} (h : Valid P) : 1 ≤ ordP P := prodTo_pos _ (fun i hi => h.pos i hi)

end Go.Proofs.YtldheeicjnncoaaGreat
namespace Go.Proofs.YtldheeicjnncoaaGreat

/-- Keep j: entries up to j are as they were -/
theorem tvec_keep {P : Pr} (hP : Valid P) (f j : Nat) (hf : P.orders.length ≤ f + 1 + j)
    (ih : ∀ (e : List Int) (i : Nat), Vec P.orders e → i < P.orders.length → P.orders.length ≤ f + i → ∀ k, k < i → gt (tgen P f e i) k = gt e k)
    (c : List Int) (hc : Vec P.orders c) (hz : ZeroTo j c) (e : List Int) (he : Vec P.orders e) : ∀ k, k ≤ j → gt (tvec (tgen P f) e c) k = gt e k := by
  have hstep : ∀ m, m ≤ P.orders.length → Vec P.orders (tvecTo (tgen P f) c e m) ∧ ∀ k, k ≤ j → gt (tvecTo (tgen P f) c e m) k = gt e k := by
    intro m
    induction m with
    | zero => intro _; exact ⟨he, fun k _ => rfl⟩
    | succ m ihm =>
      intro hm
      obtain ⟨h1, h2⟩ := ihm (by omega)
      unfold tvecTo
      by_cases h0 : gt c m = 0
      · rw [h0]; exact ⟨h1, h2⟩
      · have hmj : ¬ m ≤ j := fun h => h0 (hz m h)
        refine iter_inv (fun y => Vec P.orders y ∧ ∀ k, k ≤ j → gt y k = gt e k) _ (fun y hy => ⟨tgen_vec hP f y m hy.1 (by omega) (by omega), fun k hk => ?_⟩) _ _ ⟨h1, h2⟩
        rw [ih y m hy.1 (by omega) (by omega) k (by omega)]; exact hy.2 k hk
  intro k hk
  exact (hstep c.length (by rw [hc.1]; omega)).2 k hk

theorem tgen_entries {P : Pr} (hP : Valid P) (f : Nat) : ∀ (e : List Int) (j : Nat), Vec P.orders e → j < P.orders.length → P.orders.length ≤ f + j →
    (∀ k, k < j → gt (tgen P f e j) k = gt e k) ∧ gt (tgen P f e j) j = if gt e j + 1 = gt P.orders j then 0 else gt e j + 1 := by
  induction f with
  | zero => intro e j _ hj hf; omega
  | succ f ih =>
    intro e j he hj hf
    have ihk : ∀ (e : List Int) (i : Nat), Vec P.orders e → i < P.orders.length → P.orders.length ≤ f + i → ∀ k, k < i → gt (tgen P f e i) k = gt e k := fun e i a b c k hk => (ih e i a b c).1 k hk
    have hl := he.1
    have hzl : j + 1 + (e.drop (j + 1)).length ≤ e.length := by simp; omega
    have hz := he.zeroed j (e.drop (j + 1)).length hzl
    have hx := he.2 j hj
    have ho := hP.ord7 j hj
    have hlz := length_zeroed e j (e.drop (j + 1)).length hzl
    obtain ⟨e2, he2⟩ : ∃ e2, e2 = (if gt e j + 1 = gt P.orders j then tvec (tgen P f) (((zeroed e j (e.drop (j + 1)).length).set j (gt e j + 1)).set j 0) (gt P.powers j) else (zeroed e j (e.drop (j + 1)).length).set j (gt e j + 1)) := ⟨_, rfl⟩
    have hvk : ∀ c, Vec P.orders c → ZeroTo j c → ∀ x, Vec P.orders x → Vec P.orders (tvec (tgen P f) x c) := fun c hc hz x hx =>
      tvec_vec hc (fun e i he hi h0 => tgen_vec hP f e i he hi (by
        have : ¬ i ≤ j := fun h => h0 (hz i h)
        omega)) hx
    have hkeep : ∀ k, k < j → gt (zeroed e j (e.drop (j + 1)).length) k = gt e k := fun k hk => by rw [gt_zeroed _ _ _ _ hzl, if_neg (by omega)]
    have h2 : Vec P.orders e2 ∧ (∀ k, k < j → gt e2 k = gt e k) ∧ gt e2 j = if gt e j + 1 = gt P.orders j then 0 else gt e j + 1 := by
      rw [he2]
      split
      · rename_i hc
        rw [List.set_set]
        have hv0 : Vec P.orders ((zeroed e j (e.drop (j + 1)).length).set j 0) := hz.set j 0 ⟨by omega, fun _ => by omega⟩
        have hk := tvec_keep hP f j (by omega) ihk _ (hP.pv j hj).1 (hP.pv j hj).2 _ hv0
        refine ⟨hvk _ (hP.pv j hj).1 (hP.pv j hj).2 _ hv0, fun k hkj => ?_, ?_⟩
        · rw [hk k (by omega), gt_set_ne _ _ _ _ (by omega)]; exact hkeep k hkj
        · rw [hk j (Nat.le_refl _), gt_set_eq _ _ _ (by omega)]
      · rename_i hc
        refine ⟨hz.set j _ ⟨by omega, fun _ => by omega⟩, fun k hkj => ?_, ?_⟩
        · rw [gt_set_ne _ _ _ _ (by omega)]; exact hkeep k hkj
        · rw [gt_set_eq _ _ _ (by omega)]
    have hstep : ∀ m, m ≤ (e.drop (j + 1)).length → Vec P.orders (tconjTo (tgen P f) (gt P.conj j) (e.drop (j + 1)) e2 m) ∧ ∀ k, k ≤ j → gt (tconjTo (tgen P f) (gt P.conj j) (e.drop (j + 1)) e2 m) k = gt e2 k := by
      intro m
      induction m with
      | zero => intro _; exact ⟨h2.1, fun k _ => rfl⟩
      | succ m ihm =>
        intro hm
        obtain ⟨h3, h4⟩ := ihm (by omega)
        have hmm : m < P.orders.length - 1 - j := by simp at hm; omega
        have hc := (hP.cv j hj).2 m hmm
        unfold tconjTo
        refine iter_inv (fun y => Vec P.orders y ∧ ∀ k, k ≤ j → gt y k = gt e2 k) _ (fun y hy => ⟨hvk _ hc.1 hc.2 _ hy.1, fun k hk => ?_⟩) _ _ ⟨h3, h4⟩
        rw [tvec_keep hP f j (by omega) ihk _ hc.1 hc.2 _ hy.1 k hk]; exact hy.2 k hk
    have hfin := hstep _ (Nat.le_refl _)
    have hdef : tgen P (f + 1) e j = tconjTo (tgen P f) (gt P.conj j) (e.drop (j + 1)) e2 (e.drop (j + 1)).length := by rw [he2]; rfl
    rw [hdef]
    exact ⟨fun k hk => by rw [hfin.2 k (by omega)]; exact h2.2.1 k hk, by rw [hfin.2 j (Nat.le_refl _)]; exact h2.2.2⟩

/-- the program's product by a generator, and by a vector -/
def tg (P : Pr) (e : List Int) (j : Nat) : List Int := tgen P P.orders.length e j
def tv (P : Pr) (e f : List Int) : List Int := tvec (tg P) e f

theorem tg_vec {P : Pr} (hP : Valid P) (e : List Int) (j : Nat) (he : Vec P.orders e) (hj : j < P.orders.length) : Vec P.orders (tg P e j) := tgen_vec hP _ e j he hj (by omega)
theorem tv_vec {P : Pr} (hP : Valid P) (e f : List Int) (he : Vec P.orders e) (hf : Vec P.orders f) : Vec P.orders (tv P e f) := tvec_vec hf (fun e j he hj _ => tg_vec hP e j he hj) he

end Go.Proofs.YtldheeicjnncoaaGreat
namespace Go.Proofs.YtldheeicjnncoaaGreat

theorem iter_add {α : Type} (f : α → α) (n k : Nat) (x : α) : iter (n + k) f x = iter n f (iter k f x) := by
  induction n with
  | zero => rw [Nat.zero_add]; rfl
  | succ n ih => rw [Nat.succ_add]; show f (iter (n + k) f x) = f (iter n f (iter k f x)); rw [ih]
theorem iter_rel {α β : Type} (R : α → β → Prop) (f : α → α) (g : β → β) (h : ∀ x y, R x y → R (f x) (g y)) (n : Nat) (x : α) (y : β) (hxy : R x y) : R (iter n f x) (iter n g y) := by
  induction n with
  | zero => exact hxy
  | succ n ih => exact h _ _ ih
theorem iter_congr {α : Type} (Q : α → Prop) (f g : α → α) (hQ : ∀ x, Q x → Q (f x)) (h : ∀ x, Q x → f x = g x) (n : Nat) (x : α) (hx : Q x) : iter n f x = iter n g x := by
  induction n with
  | zero => rfl
  | succ n ih =>
    show f (iter n f x) = g (iter n g x)
    rw [← ih]; exact h _ (iter_inv Q f hQ n x hx)

/-- a monoid on the members of S -/
structure MonOn {α : Type} (S : α → Prop) (m : α → α → α) (e : α) : Prop where
  cl : ∀ x y, S x → S y → S (m x y)
  one : S e
  ass : ∀ x y z, S x → S y → S z → m (m x y) z = m x (m y z)
  el : ∀ x, S x → m e x = x
  er : ∀ x, S x → m x e = x

/-- entries of x from index i on, each as often as it says brought to bear on out -/
def acc {α : Type} (g : α → Nat → α) (x : List Int) (i : Nat) (out : α) : Nat → α
  | 0 => out
  | k + 1 => iter (gt x (i + k)).toNat (fun y => g y (i + k)) (acc g x i out k)

theorem acc_front {α : Type} (g : α → Nat → α) (x : List Int) (i : Nat) (out : α) (k : Nat) : acc g x i out (k + 1) = acc g x (i + 1) (iter (gt x i).toNat (fun y => g y i) out) k := by
  induction k with
  | zero => rfl
  | succ k ih =>
    rw [acc, ih]
    show _ = iter (gt x (i + 1 + k)).toNat (fun y => g y (i + 1 + k)) _
    rw [show i + (k + 1) = i + 1 + k by omega]

theorem acc_inv {α : Type} (Q : α → Prop) (g : α → Nat → α) (x : List Int) (i : Nat) (out : α) (k : Nat) (ho : Q out) (h : ∀ y j, Q y → i ≤ j → j < i + k → gt x j ≠ 0 → Q (g y j)) : Q (acc g x i out k) := by
  induction k with
  | zero => exact ho
  | succ k ih =>
    have h1 := ih (fun y j hy a b c => h y j hy a (by omega) c)
    by_cases h0 : gt x (i + k) = 0
    · rw [acc, h0]; exact h1
    · exact iter_inv Q _ (fun y hy => h y (i + k) hy (by omega) (by omega) h0) _ _ h1

theorem acc_rel {α β : Type} (R : α → β → Prop) (g : α → Nat → α) (g' : β → Nat → β) (x : List Int) (i : Nat) (out : α) (out' : β) (k : Nat) (ho : R out out') (h : ∀ y z j, R y z → i ≤ j → j < i + k → gt x j ≠ 0 → R (g y j) (g' z j)) :
    R (acc g x i out k) (acc g' x i out' k) := by
  induction k with
  | zero => exact ho
  | succ k ih =>
    have h1 := ih (fun y z j hy a b c => h y z j hy a (by omega) c)
    by_cases h0 : gt x (i + k) = 0
    · rw [acc, acc, h0]; exact h1
    · exact iter_rel R _ _ (fun y z hy => h y z (i + k) hy (by omega) (by omega) h0) _ _ _ h1

theorem acc_congr {α : Type} (g : α → Nat → α) (x x' : List Int) (i : Nat) (out : α) (k : Nat) (h : ∀ j, i ≤ j → j < i + k → gt x j = gt x' j) : acc g x i out k = acc g x' i out k := by
  induction k with
  | zero => rfl
  | succ k ih => rw [acc, acc, ih (fun j a b => h j a (by omega)), h (i + k) (by omega) (by omega)]

theorem acc_zero {α : Type} (g : α → Nat → α) (x : List Int) (i : Nat) (out : α) (k : Nat) (h : ∀ j, i ≤ j → j < i + k → gt x j = 0) : acc g x i out k = out := by
  induction k with
  | zero => rfl
  | succ k ih => rw [acc, ih (fun j a b => h j a (by omega)), h (i + k) (by omega) (by omega)]; rfl

theorem acc_split {α : Type} (g : α → Nat → α) (x : List Int) (i : Nat) (out : α) (a b : Nat) : acc g x i out (a + b) = acc g x (i + a) (acc g x i out a) b := by
  induction b with
  | zero => rfl
  | succ b ih =>
    show acc g x i out ((a + b) + 1) = _
    rw [acc, acc, ih, show i + (a + b) = i + a + b by omega]

theorem rImgTo_acc (at_ : List Int → List Int → List Int) (cs : List (List Int)) (i : Nat) (x out : List Int) (k : Nat) :
    rImgTo at_ cs i x out k = acc (fun y j => at_ y (gt cs (j - i - 1))) x (i + 1) out k := by
  induction k with
  | zero => rfl
  | succ k ih => rw [rImgTo, acc, ih]; simp only [show i + 1 + k - i - 1 = k by omega]

theorem tvecTo_acc (g : List Int → Nat → List Int) (f e : List Int) (k : Nat) : tvecTo g f e k = acc g f 0 e k := by
  induction k with
  | zero => rfl
  | succ k ih => rw [tvecTo, acc, ih, Nat.zero_add]

theorem tconjTo_acc (g : List Int → Nat → List Int) (cs : List (List Int)) (e : List Int) (j : Nat) (out : List Int) (k : Nat) :
    tconjTo g cs (e.drop (j + 1)) out k = acc (fun y l => tvec g y (gt cs (l - j - 1))) e (j + 1) out k := by
  induction k with
  | zero => rfl
  | succ k ih =>
    rw [tconjTo, acc, ih]
    have : gt (e.drop (j + 1)) k = gt e (j + 1 + k) := by simp [gt]
    simp only [this, show j + 1 + k - j - 1 = k by omega]

section
variable {α : Type} {S : α → Prop} {m : α → α → α} {e : α}

/-- powers -/
theorem MonOn.pow_cl (M : MonOn S m e) {h y : α} (hh : S h) (hy : S y) (k : Nat) : S (iter k (fun y => m y h) y) := iter_inv S _ (fun y hy => M.cl y h hy hh) k y hy
theorem MonOn.pow_out (M : MonOn S m e) {h y : α} (hh : S h) (hy : S y) (k : Nat) : iter k (fun y => m y h) y = m y (iter k (fun y => m y h) e) := by
  induction k with
  | zero => exact (M.er y hy).symm
  | succ k ih =>
    show m (iter k (fun y => m y h) y) h = m y (m (iter k (fun y => m y h) e) h)
    rw [ih, M.ass y _ h hy (M.pow_cl hh M.one k) hh]
theorem MonOn.pow_add (M : MonOn S m e) {h : α} (hh : S h) (a b : Nat) : iter (a + b) (fun y => m y h) e = m (iter a (fun y => m y h) e) (iter b (fun y => m y h) e) := by
  rw [Nat.add_comm, iter_add, M.pow_out hh (M.pow_cl hh M.one a)]

/-- the product of powers of members, from index i on, k of them -/
def npr (m : α → α → α) (h : Nat → α) (x : List Int) (i : Nat) (out : α) (k : Nat) : α := acc (fun y j => m y (h j)) x i out k

theorem npr_cl (M : MonOn S m e) {h : Nat → α} {x : List Int} {i : Nat} {out : α} {k : Nat} (ho : S out) (hh : ∀ j, i ≤ j → j < i + k → S (h j)) : S (npr m h x i out k) :=
  acc_inv S _ x i out k ho (fun y j hy a b _ => M.cl y _ hy (hh j a b))

theorem npr_out (M : MonOn S m e) {h : Nat → α} {x : List Int} {i : Nat} {out : α} {k : Nat} (ho : S out) (hh : ∀ j, i ≤ j → j < i + k → S (h j)) : npr m h x i out k = m out (npr m h x i e k) := by
  induction k with
  | zero => exact (M.er out ho).symm
  | succ k ih =>
    have hh' : ∀ j, i ≤ j → j < i + k → S (h j) := fun j a b => hh j a (by omega)
    have h1 := ih hh'
    unfold npr at h1 ⊢
    rw [acc, acc, h1]
    have c1 : S (npr m h x i e k) := npr_cl M M.one hh'
    have hk := hh (i + k) (by omega) (by omega)
    unfold npr at c1
    rw [M.pow_out hk (M.cl _ _ ho c1), M.pow_out hk c1, M.ass _ _ _ ho c1 (M.pow_cl hk M.one _)]

theorem npr_front (M : MonOn S m e) {h : Nat → α} {x : List Int} {i : Nat} {k : Nat} (hh : ∀ j, i ≤ j → j < i + (k + 1) → S (h j)) :
    npr m h x i e (k + 1) = m (iter (gt x i).toNat (fun y => m y (h i)) e) (npr m h x (i + 1) e k) := by
  have h1 : npr m h x i e (k + 1) = npr m h x (i + 1) (iter (gt x i).toNat (fun y => m y (h i)) e) k := acc_front _ x i e k
  rw [h1]
  exact npr_out M (M.pow_cl (hh i (by omega) (by omega)) M.one _) (fun j a b => hh j (by omega) (by omega))

/-- members h hold the relations of a presentation from index i on -/
structure Holds (P : Pr) (S : α → Prop) (m : α → α → α) (e : α) (h : Nat → α) (i : Nat) : Prop where
  mem : ∀ j, i ≤ j → j < P.orders.length → S (h j)
  pw : ∀ j, i ≤ j → j < P.orders.length → iter (gt P.orders j).toNat (fun y => m y (h j)) e = npr m h (gt P.powers j) (j + 1) e (P.orders.length - (j + 1))
  cj : ∀ j k, i ≤ j → j < k → k < P.orders.length → m (h k) (h j) = m (h j) (npr m h (gt (gt P.conj j) (k - j - 1)) (j + 1) e (P.orders.length - (j + 1)))

theorem Holds.up {P : Pr} {h : Nat → α} {i i' : Nat} (H : Holds P S m e h i) (hi : i ≤ i') : Holds P S m e h i' :=
  ⟨fun j a b => H.mem j (by omega) b, fun j a b => H.pw j (by omega) b, fun j k a b c => H.cj j k (by omega) b c⟩

/-- the image behind a generator -/
theorem vd_image {P : Pr} (hP : Valid P) (M : MonOn S m e) {h : Nat → α} {i f : Nat} (hi : i + (f + 1) = P.orders.length) (H : Holds P S m e h i)
    (ih : ∀ A B, Vec P.orders A → Vec P.orders B → npr m h (rAt P f (i + 1) A B) (i + 1) e f = m (npr m h A (i + 1) e f) (npr m h B (i + 1) e f)) (x : List Int) :
    m (npr m h x (i + 1) e f) (h i) = m (h i) (npr m h (rImage P f i x) (i + 1) e f) := by
  have hm : ∀ j, i ≤ j → j < P.orders.length → S (h j) := H.mem
  have hN : ∀ y, S (npr m h y (i + 1) e f) := fun y => npr_cl M M.one (fun j a b => hm j (by omega) (by omega))
  unfold rImage
  rw [rImgTo_acc]
  have hsi := hm i (by omega) (by omega)
  have hR : (fun (y : α) (z : List Int) => S y ∧ Vec P.orders z ∧ m y (h i) = m (h i) (npr m h z (i + 1) e f)) (npr m h x (i + 1) e f)
      (acc (fun y j => rAt P f (i + 1) y (gt (gt P.conj i) (j - i - 1))) x (i + 1) (zeros P.orders.length) f) := by
    unfold npr
    refine acc_rel (fun (y : α) (z : List Int) => S y ∧ Vec P.orders z ∧ m y (h i) = m (h i) (npr m h z (i + 1) e f)) _ _ x (i + 1) _ _ f ⟨M.one, zeros_vec hP, ?_⟩ ?_
    · have h0 : npr m h (zeros P.orders.length) (i + 1) e f = e := acc_zero _ _ _ _ _ (fun j _ _ => gt_replicate _ _)
      rw [h0, M.el _ hsi, M.er _ hsi]
    · rintro y z j ⟨h1, h2, h3⟩ a b _
      have hc := (hP.cv i (by omega)).2 (j - i - 1) (by omega)
      have hj := hm j (by omega) (by omega)
      refine ⟨M.cl _ _ h1 hj, rAt_vec hP f _ _ _ (by omega) h2 hc.1, ?_⟩
      have h4 := ih z _ h2 hc.1
      have h5 := H.cj i j (by omega) (by omega) (by omega)
      have hf : P.orders.length - (i + 1) = f := by omega
      rw [hf] at h5
      have c1 := hN z
      have c2 := hN (gt (gt P.conj i) (j - i - 1))
      unfold npr at h3 h4 h5 c1 c2 ⊢
      rw [h4, M.ass _ _ _ h1 hj hsi, h5, ← M.ass _ _ _ h1 hsi c2, h3, M.ass _ _ _ hsi c1 c2]
  exact hR.2.2

/-- von Dyck's law for the reference's product -/
theorem vd_at {P : Pr} (hP : Valid P) (M : MonOn S m e) {h : Nat → α} (f : Nat) : ∀ (i : Nat), i + f = P.orders.length → Holds P S m e h i → ∀ A B, Vec P.orders A → Vec P.orders B →
    npr m h (rAt P f i A B) i e f = m (npr m h A i e f) (npr m h B i e f) := by
  induction f with
  | zero => intro i _ _ A B _ _; exact (M.el e M.one).symm
  | succ f ih =>
    intro i hi H A B hA hB
    have IH := ih (i + 1) (by omega) (H.up (by omega))
    have hm : ∀ j, i ≤ j → j < P.orders.length → S (h j) := H.mem
    have hN : ∀ y, S (npr m h y (i + 1) e f) := fun y => npr_cl M M.one (fun j a b => hm j (by omega) (by omega))
    have hsi := hm i (by omega) (by omega)
    have hW : ∀ k, S (iter k (fun y => m y (h i)) e) := fun k => M.pow_cl hsi M.one k
    have him := vd_image hP M hi H IH
    have hset : ∀ (y : List Int) (c : Int), npr m h (y.set i c) (i + 1) e f = npr m h y (i + 1) e f := fun y c =>
      acc_congr _ _ _ _ _ _ (fun j a _ => gt_set_ne _ _ _ _ (by omega))
    have hfr : ∀ y, npr m h y i e (f + 1) = m (iter (gt y i).toNat (fun y => m y (h i)) e) (npr m h y (i + 1) e f) := fun y => npr_front M (fun j a b => hm j a (by omega))
    have ho := hP.ord7 i (by omega)
    have hAi := hA.2 i (by omega)
    have hBi := hB.2 i (by omega)
    -- the left factor drawn through
    have hleft : ∀ b : Nat, Vec P.orders (iter b (fun l => rImgTo (rAt P f (i + 1)) (gt P.conj i) i l (zeros P.orders.length) f) (A.set i 0)) ∧
        m (npr m h A (i + 1) e f) (iter b (fun y => m y (h i)) e) = m (iter b (fun y => m y (h i)) e) (npr m h (iter b (fun l => rImgTo (rAt P f (i + 1)) (gt P.conj i) i l (zeros P.orders.length) f) (A.set i 0)) (i + 1) e f) := by
      intro b
      induction b with
      | zero =>
        refine ⟨hA.set i 0 ⟨by omega, fun _ => by omega⟩, ?_⟩
        show m _ e = m e (npr m h (A.set i 0) (i + 1) e f)
        rw [hset, M.er _ (hN A), M.el _ (hN A)]
      | succ b ihb =>
        obtain ⟨v1, e1⟩ := ihb
        have v2 : Vec P.orders (rImgTo (rAt P f (i + 1)) (gt P.conj i) i (iter b (fun l => rImgTo (rAt P f (i + 1)) (gt P.conj i) i l (zeros P.orders.length) f) (A.set i 0)) (zeros P.orders.length) f) :=
          rImgTo_vec hP f i hi (rAt_vec hP f) _ _ (zeros_vec hP) f (Nat.le_refl _)
        refine ⟨v2, ?_⟩
        have e2 := him (iter b (fun l => rImgTo (rAt P f (i + 1)) (gt P.conj i) i l (zeros P.orders.length) f) (A.set i 0))
        show m _ (m (iter b (fun y => m y (h i)) e) (h i)) = m (m (iter b (fun y => m y (h i)) e) (h i)) (npr m h (rImage P f i _) (i + 1) e f)
        rw [← M.ass _ _ _ (hN A) (hW b) hsi, e1, M.ass _ _ _ (hW b) (hN _) hsi, e2, ← M.ass _ _ _ (hW b) hsi (hN _)]
    obtain ⟨vl, el⟩ := hleft (gt B i).toNat
    have vB : Vec P.orders (B.set i 0) := hB.set i 0 ⟨by omega, fun _ => by omega⟩
    have er := IH _ _ vl vB
    rw [hset B 0] at er
    have vr := rAt_vec hP f (i + 1) _ _ (by omega) vl vB
    rw [hfr A, hfr B]
    -- both sides to one form
    have key : m (m (iter (gt A i).toNat (fun y => m y (h i)) e) (npr m h A (i + 1) e f)) (m (iter (gt B i).toNat (fun y => m y (h i)) e) (npr m h B (i + 1) e f)) =
        m (iter ((gt A i).toNat + (gt B i).toNat) (fun y => m y (h i)) e) (npr m h (rAt P f (i + 1) (iter (gt B i).toNat (fun l => rImgTo (rAt P f (i + 1)) (gt P.conj i) i l (zeros P.orders.length) f) (A.set i 0)) (B.set i 0)) (i + 1) e f) := by
      rw [er, M.pow_add hsi, M.ass _ _ _ (hW _) (hN _) (M.cl _ _ (hW _) (hN _)), ← M.ass _ _ _ (hN A) (hW _) (hN _), el, M.ass _ _ _ (hW _) (hN _) (hN _), ← M.ass _ _ _ (hW _) (hW _) (M.cl _ _ (hN _) (hN _))]
    rw [key, hfr]
    simp only [rAt]
    by_cases hc : gt P.orders i ≤ gt A i + gt B i
    · rw [if_pos hc]
      have vp := (hP.pv i (by omega)).1
      have v3 := rAt_vec hP f (i + 1) _ _ (by omega) vp vr
      rw [hset, gt_set_eq _ _ _ (by rw [v3.1]; omega), IH _ _ vp vr]
      have hsum : (gt A i).toNat + (gt B i).toNat = (gt A i + gt B i - gt P.orders i).toNat + (gt P.orders i).toNat := by omega
      rw [hsum, M.pow_add hsi, H.pw i (by omega) (by omega), show P.orders.length - (i + 1) = f by omega, M.ass _ _ _ (hW _) (hN _) (hN _)]
    · rw [if_neg hc, hset, gt_set_eq _ _ _ (by rw [vr.1]; omega)]
      have hsum : (gt A i).toNat + (gt B i).toNat = (gt A i + gt B i).toNat := by omega
      rw [hsum]

/-- a product in three pieces: ahead of index j, at j, behind j -/
theorem npr_three (M : MonOn S m e) {h : Nat → α} {y : List Int} {i j n : Nat} (hij : i ≤ j) (hj : j < n) (hh : ∀ l, i ≤ l → l < n → S (h l)) :
    npr m h y i e (n - i) = m (m (npr m h y i e (j - i)) (iter (gt y j).toNat (fun y => m y (h j)) e)) (npr m h y (j + 1) e (n - (j + 1))) := by
  have h1 : npr m h y i e (n - i) = npr m h y (j + 1) (iter (gt y j).toNat (fun y => m y (h j)) (npr m h y i e (j - i))) (n - (j + 1)) := by
    unfold npr
    rw [show n - i = (j - i) + ((n - (j + 1)) + 1) by omega, acc_split, acc_front, show i + (j - i) = j by omega]
  have c1 : S (npr m h y i e (j - i)) := npr_cl M M.one (fun l a b => hh l a (by omega))
  rw [h1, npr_out M (M.pow_cl (hh j hij hj) c1 _) (fun l a b => hh l (by omega) (by omega)), M.pow_out (hh j hij hj) c1]

/-- von Dyck's law for the program's collection -/
theorem vd_gen {P : Pr} (hP : Valid P) (M : MonOn S m e) {h : Nat → α} {i : Nat} (H : Holds P S m e h i) (f : Nat) : ∀ (E : List Int) (j : Nat), Vec P.orders E → i ≤ j → j < P.orders.length → P.orders.length ≤ f + j →
    npr m h (tgen P f E j) i e (P.orders.length - i) = m (npr m h E i e (P.orders.length - i)) (h j) := by
  have hm : ∀ j, i ≤ j → j < P.orders.length → S (h j) := H.mem
  have hN : ∀ y, S (npr m h y i e (P.orders.length - i)) := fun y => npr_cl M M.one (fun j a b => hm j a (by omega))
  induction f with
  | zero => intro E j _ _ hj hf; omega
  | succ f ih =>
    intro E j hE hij hj hf
    have hsj := hm j hij hj
    have hT : ∀ y, S (npr m h y (j + 1) e (P.orders.length - (j + 1))) := fun y => npr_cl M M.one (fun l a b => hm l (by omega) (by omega))
    have hpre : ∀ y, S (npr m h y i e (j - i)) := fun y => npr_cl M M.one (fun l a b => hm l a (by omega))
    have hW : ∀ k, S (iter k (fun y => m y (h j)) e) := fun k => M.pow_cl hsj M.one k
    have hvk : ∀ c, Vec P.orders c → ZeroTo j c → ∀ x, Vec P.orders x → Vec P.orders (tvec (tgen P f) x c) := fun c hc hz x hx =>
      tvec_vec hc (fun e i he hi h0 => tgen_vec hP f e i he hi (by
        have : ¬ i ≤ j := fun h => h0 (hz i h)
        omega)) hx
    have hvm : ∀ c, Vec P.orders c → ZeroTo j c → ∀ x, Vec P.orders x →
        npr m h (tvec (tgen P f) x c) i e (P.orders.length - i) = m (npr m h x i e (P.orders.length - i)) (npr m h c (j + 1) e (P.orders.length - (j + 1))) := by
      intro c hc hz x hx
      unfold tvec
      rw [tvecTo_acc, hc.1, show P.orders.length = (j + 1) + (P.orders.length - (j + 1)) by omega, acc_split, acc_zero (tgen P f) c 0 x (j + 1) (fun l _ b => hz l (by omega)), show 0 + (j + 1) = j + 1 by omega,
        show (j + 1) + (P.orders.length - (j + 1)) = P.orders.length by omega]
      have hR := acc_rel (fun (y : α) (z : List Int) => S y ∧ Vec P.orders z ∧ npr m h z i e (P.orders.length - i) = y) (fun y l => m y (h l)) (tgen P f) c (j + 1) (npr m h x i e (P.orders.length - i)) x (P.orders.length - (j + 1))
        ⟨hN x, hx, rfl⟩ (by
          rintro y z l ⟨h1, h2, h3⟩ a b _
          refine ⟨M.cl _ _ h1 (hm l (by omega) (by omega)), tgen_vec hP f z l h2 (by omega) (by omega), ?_⟩
          rw [ih z l h2 (by omega) (by omega) (by omega), h3])
      rw [hR.2.2]
      exact npr_out M (hN x) (fun l a b => hm l (by omega) (by omega))
    have hl := hE.1
    have hzl : j + 1 + (E.drop (j + 1)).length ≤ E.length := by simp; omega
    have hz := hE.zeroed j (E.drop (j + 1)).length hzl
    have hx := hE.2 j hj
    have ho := hP.ord7 j hj
    have hlz := length_zeroed E j (E.drop (j + 1)).length hzl
    have hN3 : ∀ c : Int, npr m h ((zeroed E j (E.drop (j + 1)).length).set j c) i e (P.orders.length - i) = m (npr m h E i e (j - i)) (iter c.toNat (fun y => m y (h j)) e) := by
      intro c
      rw [npr_three M hij hj hm, gt_set_eq _ _ _ (by omega)]
      have e1 : npr m h ((zeroed E j (E.drop (j + 1)).length).set j c) i e (j - i) = npr m h E i e (j - i) :=
        acc_congr _ _ _ _ _ _ (fun l a b => by rw [gt_set_ne _ _ _ _ (by omega), gt_zeroed _ _ _ _ hzl, if_neg (by omega)])
      have e2 : npr m h ((zeroed E j (E.drop (j + 1)).length).set j c) (j + 1) e (P.orders.length - (j + 1)) = e :=
        acc_zero _ _ _ _ _ (fun l a b => by
          rw [gt_set_ne _ _ _ _ (by omega), gt_zeroed _ _ _ _ hzl, if_pos ⟨by omega, by simp; omega⟩])
      rw [e1, e2, M.er _ (M.cl _ _ (hpre E) (hW _))]
    obtain ⟨e2, he2⟩ : ∃ e2, e2 = (if gt E j + 1 = gt P.orders j then tvec (tgen P f) (((zeroed E j (E.drop (j + 1)).length).set j (gt E j + 1)).set j 0) (gt P.powers j) else (zeroed E j (E.drop (j + 1)).length).set j (gt E j + 1)) := ⟨_, rfl⟩
    have h2 : Vec P.orders e2 ∧ npr m h e2 i e (P.orders.length - i) = m (m (npr m h E i e (j - i)) (iter (gt E j).toNat (fun y => m y (h j)) e)) (h j) := by
      have hs : m (npr m h E i e (j - i)) (iter (gt E j + 1).toNat (fun y => m y (h j)) e) = m (m (npr m h E i e (j - i)) (iter (gt E j).toNat (fun y => m y (h j)) e)) (h j) := by
        rw [show (gt E j + 1).toNat = (gt E j).toNat + 1 by omega]
        exact (M.ass _ _ _ (hpre E) (hW _) hsj).symm
      rw [he2]
      split
      · rename_i hc
        rw [List.set_set]
        have hv0 : Vec P.orders ((zeroed E j (E.drop (j + 1)).length).set j 0) := hz.set j 0 ⟨by omega, fun _ => by omega⟩
        refine ⟨hvk _ (hP.pv j hj).1 (hP.pv j hj).2 _ hv0, ?_⟩
        rw [hvm _ (hP.pv j hj).1 (hP.pv j hj).2 _ hv0, hN3, ← H.pw j hij hj, ← hs, hc]
        show m (m _ e) _ = _
        rw [M.er _ (hpre E)]
      · rename_i hc
        exact ⟨hz.set j _ ⟨by omega, fun _ => by omega⟩, by rw [hN3, hs]⟩
    have hdef : tgen P (f + 1) E j = tconjTo (tgen P f) (gt P.conj j) (E.drop (j + 1)) e2 (E.drop (j + 1)).length := by rw [he2]; rfl
    have hdl : (E.drop (j + 1)).length = P.orders.length - (j + 1) := by simp; omega
    rw [hdef, tconjTo_acc, hdl]
    have cQ : S (m (npr m h E i e (j - i)) (iter (gt E j).toNat (fun y => m y (h j)) e)) := M.cl _ _ (hpre E) (hW _)
    have hR := acc_rel (fun (y : α) (z : List Int) => S y ∧ Vec P.orders z ∧ npr m h z i e (P.orders.length - i) = m (m (m (npr m h E i e (j - i)) (iter (gt E j).toNat (fun y => m y (h j)) e)) y) (h j))
      (fun y l => m y (h l)) (fun y l => tvec (tgen P f) y (gt (gt P.conj j) (l - j - 1))) E (j + 1) e e2 (P.orders.length - (j + 1))
      ⟨M.one, h2.1, by rw [h2.2, M.er _ cQ]⟩ (by
        rintro y z l ⟨h3, h4, h5⟩ a b _
        have hc := (hP.cv j hj).2 (l - j - 1) (by omega)
        have hsl := hm l (by omega) (by omega)
        refine ⟨M.cl _ _ h3 hsl, hvk _ hc.1 hc.2 _ h4, ?_⟩
        rw [hvm _ hc.1 hc.2 _ h4, h5, M.ass _ _ _ (M.cl _ _ cQ h3) hsj (hT _), ← H.cj j l hij (by omega) (by omega), ← M.ass _ _ _ (M.cl _ _ cQ h3) hsl hsj, M.ass _ _ _ cQ h3 hsl])
    rw [hR.2.2, npr_three M hij hj hm (y := E)]
    rfl

theorem vd_tg {P : Pr} (hP : Valid P) (M : MonOn S m e) {h : Nat → α} {i : Nat} (H : Holds P S m e h i) (E : List Int) (j : Nat) (hE : Vec P.orders E) (hij : i ≤ j) (hj : j < P.orders.length) :
    npr m h (tg P E j) i e (P.orders.length - i) = m (npr m h E i e (P.orders.length - i)) (h j) := vd_gen hP M H _ E j hE hij hj (by omega)

theorem vd_tv {P : Pr} (hP : Valid P) (M : MonOn S m e) {h : Nat → α} {i : Nat} (hi : i ≤ P.orders.length) (H : Holds P S m e h i) (E F : List Int) (hE : Vec P.orders E) (hF : Vec P.orders F) (hz : ∀ k, k < i → gt F k = 0) :
    npr m h (tv P E F) i e (P.orders.length - i) = m (npr m h E i e (P.orders.length - i)) (npr m h F i e (P.orders.length - i)) := by
  have hm : ∀ j, i ≤ j → j < P.orders.length → S (h j) := H.mem
  have hN : ∀ y, S (npr m h y i e (P.orders.length - i)) := fun y => npr_cl M M.one (fun j a b => hm j a (by omega))
  unfold tv tvec
  rw [tvecTo_acc, hF.1, show P.orders.length = i + (P.orders.length - i) by omega, acc_split, acc_zero (tg P) F 0 E i (fun l _ b => hz l (by omega)), show 0 + i = i by omega,
    show i + (P.orders.length - i) = P.orders.length by omega]
  have hR := acc_rel (fun (y : α) (z : List Int) => S y ∧ Vec P.orders z ∧ npr m h z i e (P.orders.length - i) = y) (fun y l => m y (h l)) (tg P) F i (npr m h E i e (P.orders.length - i)) E (P.orders.length - i)
    ⟨hN E, hE, rfl⟩ (by
      rintro y z l ⟨h1, h2, h3⟩ a b _
      refine ⟨M.cl _ _ h1 (hm l (by omega) (by omega)), tg_vec hP z l h2 (by omega), ?_⟩
      rw [vd_tg hP M H z l h2 (by omega) (by omega), h3])
  rw [hR.2.2]
  exact npr_out M (hN E) (fun l a b => hm l (by omega) (by omega))

end

end Go.Proofs.YtldheeicjnncoaaGreat
