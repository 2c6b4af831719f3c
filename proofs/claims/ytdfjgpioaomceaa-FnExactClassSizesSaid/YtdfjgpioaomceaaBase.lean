/-
  Words of this claim's own for memory: how a slice reads as a list (Sl, Ints, Rows, Rows3), how a Presentation reads (PresV, PresP), what a call hands back (Ret, Mut).
  No condition: this text only lays words and their small laws.
-/
import Derived.Test.YtdfjgpioaomceaaRows
import Derived.WalkKit
import Derived.WalkSpells
import Derived.WalkLawsBesides
import Derived.Lib.Hide
import Derived.Laws.AppendOwnNone
import Derived.Maps.AppendAt
import Derived.Deep.QuietTactic
import Derived.BigQuiet
import Derived.Deep.DeepCutAuto
namespace Go.Proofs.Ytdfjgpioaomceaa
open Go.RowKit

/-- the element at an index -/
def gt {α : Type} [Inhabited α] (xs : List α) (i : Nat) : α := xs.getD i default

theorem gt_eq {α : Type} [Inhabited α] (xs : List α) (i : Nat) (h : i < xs.length) : gt xs i = xs[i] := by
  simp [gt, h]

theorem gt_append_left {α : Type} [Inhabited α] (xs ys : List α) (i : Nat) (h : i < xs.length) : gt (xs ++ ys) i = gt xs i := by
  simp [gt, List.getElem?_append_left h]

theorem gt_concat {α : Type} [Inhabited α] (xs : List α) (x : α) : gt (xs ++ [x]) xs.length = x := by
  simp [gt]

theorem gt_set_eq {α : Type} [Inhabited α] (xs : List α) (i : Nat) (x : α) (h : i < xs.length) : gt (xs.set i x) i = x := by
  simp [gt, h]

theorem gt_set_ne {α : Type} [Inhabited α] (xs : List α) (i j : Nat) (x : α) (h : i ≠ j) : gt (xs.set i x) j = gt xs j := by
  simp [gt, List.getElem?_set_ne h]

theorem take_succ_gt {α : Type} [Inhabited α] (xs : List α) (k : Nat) (h : k < xs.length) : xs.take (k + 1) = xs.take k ++ [gt xs k] := by
  rw [gt_eq xs k h, List.take_succ_eq_append_getElem h]

theorem gt_map {α β : Type} [Inhabited α] [Inhabited β] (f : α → β) (xs : List α) (i : Nat) (h : i < xs.length) : gt (xs.map f) i = f (gt xs i) := by
  simp [gt, h]

theorem ext_gt {α : Type} [Inhabited α] {xs ys : List α} (h : xs.length = ys.length) (hg : ∀ i, i < xs.length → gt xs i = gt ys i) : xs = ys := by
  apply List.ext_getElem h
  intro i h1 h2
  rw [← gt_eq xs i h1, ← gt_eq ys i h2]; exact hg i h1

/-- a slice whose elements read as xs; its array's block (if there is an element) lies in S -/
def Sl {α : Type} [Inhabited α] (El : World → Value → α → Prop) (S : Nat → Prop) (w : World) (v : Value) (xs : List α) : Prop :=
  ∃ a cap, v = .slice a xs.length cap ∧ (xs.length ≤ cap ∧ xs.length ≤ 9223372036854775807 ∧ (a = none → cap = 0)) ∧
    ∀ i, i < xs.length → ∃ b off u, a = some ⟨b, off, none⟩ ∧ S b ∧ b < w.heap.size ∧ w.cell? ⟨b, off + i, none⟩ = some u ∧ El w u (gt xs i)

/-- an integer cell -/
def IntEl (_ : World) (u : Value) (x : Int) : Prop := u = .int .i64 x

abbrev Ints (S : Nat → Prop) (w : World) (v : Value) (l : List Int) : Prop := Sl IntEl S w v l
abbrev Rows2 (S : Nat → Prop) (w : World) (v : Value) (l : List (List Int)) : Prop := Sl (fun w u x => Ints S w u x) S w v l
abbrev Rows3 (S : Nat → Prop) (w : World) (v : Value) (l : List (List (List Int))) : Prop := Sl (fun w u x => Rows2 S w u x) S w v l

/-- w' has all of w's blocks as they were -/
abbrev Ext (w w' : World) : Prop := w.grownBy w' none

theorem Ext.refl (w : World) : Ext w w := ⟨rfl, rfl, rfl, Nat.le_refl _, fun _ _ _ => rfl⟩
theorem grown_refl (w : World) (r : Option Nat) : w.grownBy w r := ⟨rfl, rfl, rfl, Nat.le_refl _, fun _ _ _ => rfl⟩
theorem grown_drew (w : World) (r : Option Nat) : w.grownBy w.drew r := ⟨rfl, rfl, rfl, Nat.le_refl _, fun _ _ _ => rfl⟩
theorem grown_drewN (w : World) (n : Nat) (r : Option Nat) : w.grownBy (w.drewN n) r := ⟨rfl, rfl, rfl, Nat.le_refl _, fun _ _ _ => rfl⟩

theorem grown_trans {a b c : World} {r : Option Nat} (h : a.grownBy b r) (k : b.grownBy c r) : a.grownBy c r :=
  ⟨k.os.trans h.os, k.tape.trans h.tape, k.output.trans h.output, Nat.le_trans h.size k.size,
   fun i hi hne => (k.block i (Nat.lt_of_lt_of_le hi h.size) hne).trans (h.block i hi hne)⟩

theorem grown_of_ext {a b : World} (r : Option Nat) (h : Ext a b) : a.grownBy b r :=
  ⟨h.os, h.tape, h.output, h.size, fun i hi _ => h.block i hi (by simp)⟩

/-- a step that writes one block of the call's own -/
theorem grown_own {a b c : World} {r : Option Nat} {q : Option Nat} (h : a.grownBy b r) (k : b.grownBy c q) (hq : ∀ j, q = some j → j < a.heap.size → r = some j) : a.grownBy c r :=
  ⟨k.os.trans h.os, k.tape.trans h.tape, k.output.trans h.output, Nat.le_trans h.size k.size,
   fun i hi hne => (k.block i (Nat.lt_of_lt_of_le hi h.size) (fun e => hne (hq i e.symm hi).symm)).trans (h.block i hi hne)⟩

theorem Ext.below {a b : World} (h : Ext a b) : Below a.heap.size a b :=
  ⟨h.os, h.tape, h.output, h.size, fun k hk => h.block k hk (by simp)⟩

theorem Sl.shape {α : Type} [Inhabited α] {El : World → Value → α → Prop} {S : Nat → Prop} {w : World} {v : Value} {xs : List α} (h : Sl El S w v xs) :
    ∃ a cap, v = .slice a xs.length cap ∧ xs.length ≤ cap ∧ xs.length ≤ 9223372036854775807 := by
  obtain ⟨a, cap, hv, hl, _⟩ := h; exact ⟨a, cap, hv, hl.1, hl.2.1⟩

theorem Sl.at {α : Type} [Inhabited α] {El : World → Value → α → Prop} {S : Nat → Prop} {w : World} {a : Option Addr} {n cap : Nat} {xs : List α} (h : Sl El S w (.slice a n cap) xs) (i : Nat) (hi : i < xs.length) :
    ∃ b off u, a = some ⟨b, off, none⟩ ∧ S b ∧ b < w.heap.size ∧ w.cell? ⟨b, off + i, none⟩ = some u ∧ El w u (gt xs i) := by
  obtain ⟨a', cap', hv, _, hc⟩ := h
  cases hv
  exact hc i hi

/-- the address of an integer's cell -/
theorem Ints.at {S : Nat → Prop} {w : World} {a : Option Addr} {n cap : Nat} {xs : List Int} (h : Sl IntEl S w (.slice a n cap) xs) (i : Nat) (hi : i < xs.length) :
    ∃ b off, a = some ⟨b, off, none⟩ ∧ S b ∧ b < w.heap.size ∧ w.cell? ⟨b, off + i, none⟩ = some (.int .i64 (gt xs i)) := by
  obtain ⟨b, off, u, h1, h2, h3, h4, h5⟩ := h.at i hi
  have h5 : u = .int .i64 (gt xs i) := h5
  exact ⟨b, off, h1, h2, h3, by rw [h4, h5]⟩

theorem Sl.nil_of_none {α : Type} [Inhabited α] {El : World → Value → α → Prop} {S : Nat → Prop} {w : World} {n cap : Nat} {xs : List α} (h : Sl El S w (.slice none n cap) xs) : xs = [] ∧ cap = 0 := by
  obtain ⟨a', cap', hv, hl, hc⟩ := h
  cases hv
  refine ⟨?_, hl.2.2 rfl⟩
  cases xs with
  | nil => rfl
  | cons x l => obtain ⟨b, off, u, h, _⟩ := hc 0 (by simp); cases h

/-- what is read in blocks that have not turned reads as it did -/
theorem Sl.mono {α : Type} [Inhabited α] {El El' : World → Value → α → Prop} {S S' : Nat → Prop} {w w' : World} {v : Value} {xs : List α} (h : Sl El S w v xs)
    (hb : ∀ k, S k → k < w.heap.size → S' k ∧ k < w'.heap.size ∧ w'.heap[k]? = w.heap[k]?) (he : ∀ u x, El w u x → El' w' u x) : Sl El' S' w' v xs := by
  obtain ⟨a, cap, hv, hl, hc⟩ := h
  refine ⟨a, cap, hv, hl, fun i hi => ?_⟩
  obtain ⟨b, off, u, ha, hS, hlt, hu, hx⟩ := hc i hi
  obtain ⟨hS', hlt', hk⟩ := hb b hS hlt
  exact ⟨b, off, u, ha, hS', hlt', (World.cell?_of_block (w := w) hk).trans hu, he _ _ hx⟩

theorem Ints.mono {S S' : Nat → Prop} {w w' : World} {v : Value} {xs : List Int} (h : Ints S w v xs)
    (hb : ∀ k, S k → k < w.heap.size → S' k ∧ k < w'.heap.size ∧ w'.heap[k]? = w.heap[k]?) : Ints S' w' v xs := Sl.mono h hb (fun _ _ h => h)
theorem Rows2.mono {S S' : Nat → Prop} {w w' : World} {v : Value} {xs : List (List Int)} (h : Rows2 S w v xs)
    (hb : ∀ k, S k → k < w.heap.size → S' k ∧ k < w'.heap.size ∧ w'.heap[k]? = w.heap[k]?) : Rows2 S' w' v xs := Sl.mono h hb (fun _ _ h => Ints.mono h hb)
theorem Rows3.mono {S S' : Nat → Prop} {w w' : World} {v : Value} {xs : List (List (List Int))} (h : Rows3 S w v xs)
    (hb : ∀ k, S k → k < w.heap.size → S' k ∧ k < w'.heap.size ∧ w'.heap[k]? = w.heap[k]?) : Rows3 S' w' v xs := Sl.mono h hb (fun _ _ h => Rows2.mono h hb)

/-- the frame of a step: blocks in S have not turned -/
theorem frame_of {S S' : Nat → Prop} {w w' : World} {r : Option Nat} (hg : w.grownBy w' r) (hS : ∀ k, S k → k < w.heap.size → S' k ∧ r ≠ some k) :
    ∀ k, S k → k < w.heap.size → S' k ∧ k < w'.heap.size ∧ w'.heap[k]? = w.heap[k]? :=
  fun k hk hlt => ⟨(hS k hk hlt).1, Nat.lt_of_lt_of_le hlt hg.size, hg.block k hlt (fun e => (hS k hk hlt).2 e.symm)⟩

theorem frame_ext {S : Nat → Prop} {w w' : World} (hg : Ext w w') : ∀ k, S k → k < w.heap.size → S k ∧ k < w'.heap.size ∧ w'.heap[k]? = w.heap[k]? :=
  frame_of hg (fun _ h _ => ⟨h, by simp⟩)

theorem Ints.ext {S : Nat → Prop} {w w' : World} {v : Value} {xs : List Int} (h : Ints S w v xs) (hg : Ext w w') : Ints S w' v xs := h.mono (frame_ext hg)
theorem Rows2.ext {S : Nat → Prop} {w w' : World} {v : Value} {xs : List (List Int)} (h : Rows2 S w v xs) (hg : Ext w w') : Rows2 S w' v xs := Rows2.mono h (frame_ext hg)
theorem Rows3.ext {S : Nat → Prop} {w w' : World} {v : Value} {xs : List (List (List Int))} (h : Rows3 S w v xs) (hg : Ext w w') : Rows3 S w' v xs := Rows3.mono h (frame_ext hg)

theorem Ints.sub {S S' : Nat → Prop} {w : World} {v : Value} {xs : List Int} (h : Ints S w v xs) (hS : ∀ k, S k → k < w.heap.size → S' k) : Ints S' w v xs :=
  h.mono (fun k hk hlt => ⟨hS k hk hlt, hlt, rfl⟩)
theorem Rows2.sub {S S' : Nat → Prop} {w : World} {v : Value} {xs : List (List Int)} (h : Rows2 S w v xs) (hS : ∀ k, S k → k < w.heap.size → S' k) : Rows2 S' w v xs :=
  Rows2.mono h (fun k hk hlt => ⟨hS k hk hlt, hlt, rfl⟩)
theorem Rows3.sub {S S' : Nat → Prop} {w : World} {v : Value} {xs : List (List (List Int))} (h : Rows3 S w v xs) (hS : ∀ k, S k → k < w.heap.size → S' k) : Rows3 S' w v xs :=
  Rows3.mono h (fun k hk hlt => ⟨hS k hk hlt, hlt, rfl⟩)

/-- a presentation's data -/
structure Pr where
  orders : List Int
  powers : List (List Int)
  conj : List (List (List Int))
  deriving Inhabited

/-- three slices read as a presentation -/
structure Pres3 (S : Nat → Prop) (w : World) (vo vp vc : Value) (P : Pr) : Prop where
  o : Ints S w vo P.orders
  p : Rows2 S w vp P.powers
  c : Rows3 S w vc P.conj

theorem Pres3.mono {S S' : Nat → Prop} {w w' : World} {vo vp vc : Value} {P : Pr} (h : Pres3 S w vo vp vc P)
    (hb : ∀ k, S k → k < w.heap.size → S' k ∧ k < w'.heap.size ∧ w'.heap[k]? = w.heap[k]?) : Pres3 S' w' vo vp vc P :=
  ⟨Ints.mono h.o hb, Rows2.mono h.p hb, Rows3.mono h.c hb⟩
theorem Pres3.ext {S : Nat → Prop} {w w' : World} {vo vp vc : Value} {P : Pr} (h : Pres3 S w vo vp vc P) (hg : Ext w w') : Pres3 S w' vo vp vc P := h.mono (frame_ext hg)

/-- a pointer to a presentation -/
def PresP (S : Nat → Prop) (w : World) (v : Value) (P : Pr) : Prop :=
  ∃ b off vo vp vc, v = .pointer (some ⟨b, off, none⟩) ∧ S b ∧ b < w.heap.size ∧ w.cell? ⟨b, off, none⟩ = some vo ∧ w.cell? ⟨b, off + 1, none⟩ = some vp ∧ w.cell? ⟨b, off + 2, none⟩ = some vc ∧
    Pres3 S w vo vp vc P

theorem PresP.mono {S S' : Nat → Prop} {w w' : World} {v : Value} {P : Pr} (h : PresP S w v P)
    (hb : ∀ k, S k → k < w.heap.size → S' k ∧ k < w'.heap.size ∧ w'.heap[k]? = w.heap[k]?) : PresP S' w' v P := by
  obtain ⟨b, off, vo, vp, vc, hv, hS, hlt, h0, h1, h2, h3⟩ := h
  obtain ⟨hS', hlt', hk⟩ := hb b hS hlt
  exact ⟨b, off, vo, vp, vc, hv, hS', hlt', (World.cell?_of_block (w := w) hk).trans h0, (World.cell?_of_block (w := w) hk).trans h1, (World.cell?_of_block (w := w) hk).trans h2, h3.mono hb⟩
theorem PresP.ext {S : Nat → Prop} {w w' : World} {v : Value} {P : Pr} (h : PresP S w v P) (hg : Ext w w') : PresP S w' v P := h.mono (frame_ext hg)
theorem PresP.sub {S S' : Nat → Prop} {w : World} {v : Value} {P : Pr} (h : PresP S w v P) (hS : ∀ k, S k → k < w.heap.size → S' k) : PresP S' w v P :=
  h.mono (fun k hk hlt => ⟨hS k hk hlt, hlt, rfl⟩)

theorem PresP.shape {S : Nat → Prop} {w : World} {v : Value} {P : Pr} (h : PresP S w v P) : ∃ b off, v = .pointer (some ⟨b, off, none⟩) := by
  obtain ⟨b, off, _, _, _, hv, _⟩ := h; exact ⟨b, off, hv⟩

theorem PresP.at {S : Nat → Prop} {w : World} {b off : Nat} {P : Pr} (h : PresP S w (.pointer (some ⟨b, off, none⟩)) P) :
    ∃ vo vp vc, S b ∧ b < w.heap.size ∧ w.cell? ⟨b, off, none⟩ = some vo ∧ w.cell? ⟨b, off + 1, none⟩ = some vp ∧ w.cell? ⟨b, off + 2, none⟩ = some vc ∧ Pres3 S w vo vp vc P := by
  obtain ⟨b', off', vo, vp, vc, hv, h⟩ := h
  cases hv
  exact ⟨vo, vp, vc, h⟩

/-- the orders of a presentation behind a pointer -/
theorem PresP.ordAt {S : Nat → Prop} {w : World} {b off : Nat} {P : Pr} (h : PresP S w (.pointer (some ⟨b, off, none⟩)) P) :
    ∃ a cap, w.cell? ⟨b, off, none⟩ = some (.slice a P.orders.length cap) ∧ Ints S w (.slice a P.orders.length cap) P.orders := by
  obtain ⟨vo, vp, vc, _, _, h0, _, _, hq⟩ := h.at
  obtain ⟨a, cap, rfl, _, _⟩ := hq.o.shape
  exact ⟨a, cap, h0, hq.o⟩
theorem PresP.powAt {S : Nat → Prop} {w : World} {b off : Nat} {P : Pr} (h : PresP S w (.pointer (some ⟨b, off, none⟩)) P) :
    ∃ a cap, w.cell? ⟨b, off + 1, none⟩ = some (.slice a P.powers.length cap) ∧ Rows2 S w (.slice a P.powers.length cap) P.powers := by
  obtain ⟨vo, vp, vc, _, _, _, h0, _, hq⟩ := h.at
  obtain ⟨a, cap, rfl, _, _⟩ := Sl.shape hq.p
  exact ⟨a, cap, h0, hq.p⟩
theorem PresP.conjAt {S : Nat → Prop} {w : World} {b off : Nat} {P : Pr} (h : PresP S w (.pointer (some ⟨b, off, none⟩)) P) :
    ∃ a cap, w.cell? ⟨b, off + 2, none⟩ = some (.slice a P.conj.length cap) ∧ Rows3 S w (.slice a P.conj.length cap) P.conj := by
  obtain ⟨vo, vp, vc, _, _, _, _, h0, hq⟩ := h.at
  obtain ⟨a, cap, rfl, _, _⟩ := Sl.shape hq.c
  exact ⟨a, cap, h0, hq.c⟩
/-- a row, as a slice -/
theorem Rows2.at {S : Nat → Prop} {w : World} {a : Option Addr} {n cap : Nat} {xs : List (List Int)} (h : Sl (fun w u x => Ints S w u x) S w (.slice a n cap) xs) (i : Nat) (hi : i < xs.length) :
    ∃ b off a' cap', a = some ⟨b, off, none⟩ ∧ S b ∧ b < w.heap.size ∧ w.cell? ⟨b, off + i, none⟩ = some (.slice a' (gt xs i).length cap') ∧ Ints S w (.slice a' (gt xs i).length cap') (gt xs i) := by
  obtain ⟨b, off, u, h1, h2, h3, h4, h5⟩ := Sl.at h i hi
  obtain ⟨a', cap', rfl, _, _⟩ := Sl.shape h5
  exact ⟨b, off, a', cap', h1, h2, h3, h4, h5⟩
theorem Rows3.at {S : Nat → Prop} {w : World} {a : Option Addr} {n cap : Nat} {xs : List (List (List Int))} (h : Sl (fun w u x => Rows2 S w u x) S w (.slice a n cap) xs) (i : Nat) (hi : i < xs.length) :
    ∃ b off a' cap', a = some ⟨b, off, none⟩ ∧ S b ∧ b < w.heap.size ∧ w.cell? ⟨b, off + i, none⟩ = some (.slice a' (gt xs i).length cap') ∧ Rows2 S w (.slice a' (gt xs i).length cap') (gt xs i) := by
  obtain ⟨b, off, u, h1, h2, h3, h4, h5⟩ := Sl.at h i hi
  obtain ⟨a', cap', rfl, _, _⟩ := Sl.shape h5
  exact ⟨b, off, a', cap', h1, h2, h3, h4, h5⟩

/-- a presentation by value -/
def PresV (S : Nat → Prop) (w : World) (v : Value) (P : Pr) : Prop := ∃ vo vp vc, v = .agg #[vo, vp, vc] ∧ Pres3 S w vo vp vc P

/-- a call that hands back a value; what was there is as it was -/
def Ret (w : World) (φ : World → Value → Prop) (e : Ending) (w' : World) : Prop := ∃ v, e = .returned v ∧ Ext w w' ∧ φ w' v
/-- a call that writes one block -/
def Mut (w : World) (r : Option Nat) (φ : World → Value → Prop) (e : Ending) (w' : World) : Prop := ∃ v, e = .returned v ∧ w.grownBy w' r ∧ φ w' v

/-- a contract seen from an earlier world -/
theorem Calls.rel {f : FuncId} {args : Array Value} {w w0 : World} {φ : World → Value → Prop} (h0 : Ext w0 w) (h : Calls Try.prog f args w (Ret w φ)) :
    Calls Try.prog f args w fun e w' => ∃ v, e = .returned v ∧ Ext w0 w' ∧ w0.heap.size ≤ w.heap.size ∧ φ w' v :=
  h.mono fun _ _ ⟨v, he, hg, hv⟩ => ⟨v, he, grown_trans h0 hg, h0.size, hv⟩

def Any : Nat → Prop := fun _ => True
/-- blocks from B on -/
def From (B : Nat) : Nat → Prop := fun k => B ≤ k
/-- blocks other than the one that is written -/
def Off (r : Option Nat) : Nat → Prop := fun k => r ≠ some k

/-- a vector of the call's own -/
abbrev Own (base : Nat) (w : World) (v : Value) (l : List Int) : Prop := w.ownsRow base 2 1 v l.length (l.map (Value.int .i64))

theorem Try.infoInt : (Try.prog.info? 2).map (fun i => (i.zero, i.size, i.bytes)) = some (some (.int .i64 0), 1, 8) := by kernel_rfl

theorem ints_of_own {base : Nat} {S : Nat → Prop} {w : World} {v : Value} {l : List Int} (h : Own base w v l) (hl : l.length ≤ 9223372036854775807) (hS : ∀ k, v.ownBlock = some k → S k) : Ints S w v l := by
  have hlt := h.lt
  obtain ⟨_, h⟩ := h
  rcases h with ⟨hv, hn⟩ | ⟨g, cap, cur, hv, hg, hb, hnc, hcm, hsz, hx⟩
  · exact ⟨none, 0, by rw [hv, hn], ⟨by omega, hl, fun _ => rfl⟩, fun i hi => by omega⟩
  · subst hv
    refine ⟨_, cap, rfl, ⟨hnc, hl, fun h => by cases h⟩, fun i hi => ⟨g, 0, .int .i64 (gt l i), rfl, hS g rfl, (hlt g rfl).2, ?_, rfl⟩⟩
    have h1 : (cur.toList.take (l.length * 1))[i]? = (l.map (Value.int .i64))[i]? := by rw [hx]
    simp only [World.cell?, hb, Nat.zero_add, Option.isSome_none, Bool.false_eq_true, if_false]
    rw [List.getElem?_take_of_lt (by omega)] at h1
    rw [← Array.getElem?_toList, h1]
    simp [gt, hi]

theorem Own.len {base : Nat} {w : World} {v : Value} {l : List Int} (_ : Own base w v l) : True := trivial

theorem own_blk {b off n cap j : Nat} {sp : Option Nat} (h : (Value.slice (some ⟨b, off, sp⟩) n cap).ownBlock = some j) : j = b := by
  have : some b = some j := h
  cases this; rfl

/-- a row of one-cell elements of the call's own -/
abbrev OwnV (base E : Nat) (w : World) (v : Value) (xs : List Value) : Prop := w.ownsRow base E 1 v xs.length xs

theorem Own.v {base : Nat} {w : World} {v : Value} {l : List Int} (h : Own base w v l) : OwnV base 2 w v (l.map (Value.int .i64)) := by
  unfold OwnV; rw [List.length_map]; exact h
theorem Own.of {base : Nat} {w : World} {v : Value} {l : List Int} (h : OwnV base 2 w v (l.map (Value.int .i64))) : Own base w v l := by
  unfold OwnV at h; rw [List.length_map] at h; exact h

/-- append onto a row of the call's own, of elements of one cell, whatever the source -/
theorem wp_app (T E : Nat) (z : Value) (bytes : Nat) (hT : Try.prog.underlying T = some (.slice E)) (hE : (Try.prog.info? E).map (fun i => (i.zero, i.size, i.bytes)) = some (some z, 1, bytes))
    (hzs : z.cells.size = 1) (hbt : bytes ≤ 64) {ops : Array Oper} {rest : List Oper} {o : Oper} {a : Act} {Q : Exit → Act → World → Prop} {w : World} (hgd : o.guard = none) (s x : Operand)
    (ho : o.op = Op.call { callee := Callee.builtin Builtin.append, args := #[s, x], argTypes := #[T, T] }) (base : Nat) (v : Value) (xs : List Value) (hs : a.eval s = v) (hown : OwnV base E w v xs)
    (sa : Option Addr) (m c : Nat) (news : List Value) (hx : a.eval x = .slice sa m c) (hl : news.length = m) (hsn : sa = none → c = 0)
    (hnews : ∀ j, j < m → ∃ b off, sa = some ⟨b, off, none⟩ ∧ w.cell? ⟨b, off + j, none⟩ = some (gt news j)) (h1 : ∀ u, u ∈ news → u.oneCell' = true) (hlen : xs.length + m ≤ 2147483648) (hbase : base ≤ w.heap.size)
    (h : ∀ v' w', OwnV base E w' v' (xs ++ news) → w.grownBy w' v.ownBlock → (v' = .slice none 0 0 ↔ v = .slice none 0 0 ∧ m = 0) → v'.ownBlock = v.ownBlock ∨ v'.ownBlock = some w.heap.size → wpList Try.prog ops Q rest (a.put o.dst v') w') :
    wpList Try.prog ops Q (o :: rest) a w := by
  obtain ⟨i0, hi, hz0, hz1, hz2⟩ := info_parts hE
  cases sa with
  | none =>
    have hc := hsn rfl
    have hm : m = 0 := by
      rcases Nat.eq_zero_or_pos m with h | h
      · exact h
      · obtain ⟨b, off, hh, _⟩ := hnews 0 h; cases hh
    subst hm; subst hc
    have hn : news = [] := List.eq_nil_of_length_eq_zero hl
    subst hn
    exact wpList_append_own_none hgd s x T ho base E i0 1 hT hi v xs.length xs hs hown hx (h v w (by simpa using hown) (grown_refl _ _) (by simp) (.inl rfl))
  | some ad =>
    refine wpList_append_own_at w hgd s x T ho base E i0 z 1 bytes hT hi hz0 hz1 hz2 hzs (by decide) v xs.length xs hs hown ad m c news hx (by omega) ?_ h1 ?_ ?_ hbase ?_
    · intro j u hu
      have hj : j < m := by
        rcases Nat.lt_or_ge j m with h | h
        · exact h
        · rw [List.getElem?_eq_none (by omega)] at hu; cases hu
      obtain ⟨b, off, hh, hc⟩ := hnews j hj
      cases hh
      have : gt news j = u := by
        simp only [gt, List.getD_eq_getElem?_getD, hu]; rfl
      rw [this] at hc
      unfold Addr.add
      split
      · rename_i hj0; subst hj0; exact hc
      · exact hc
    · unfold maxLen; omega
    · have := Nat.mul_le_mul hlen hbt
      omega
    · intro v' w' h2 h3 h4 h5
      exact h v' w' (by unfold OwnV; rw [List.length_append, hl]; exact h2) h3 h4 h5

end Go.Proofs.Ytdfjgpioaomceaa
