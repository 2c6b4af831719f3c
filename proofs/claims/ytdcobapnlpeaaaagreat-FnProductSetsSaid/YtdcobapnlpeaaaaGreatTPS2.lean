/-
  append of a row that lay there before: the list takes it out of the set of blocks that it avoids.
  [][]int64{row} as a list of the call's own.
  The library's sort at [][]int64, laid from the shelf.
  A row that the call has built, sorted by the library: any elements of one cell. (After the library's Sort/OwnSortedInts, at a general reading.)
  impl.elementsOf.
  The reference's test of a sequence: spec.l10Element, l10Elements, l01Same2, l12Is, IsSubgroup, l13Two.
  Small things of the subgroup statements.
  impl.meet, impl.productSize.
  impl.conjugates, impl.conjugateSubgroup.
  The reference's intersections, conjugates and sizes of product sets: spec.l13Meet, l13Conj, l13Size; impl.productSize.
  impl.productSize: the size of a product set.
  Sizes of product sets on both sides; the reference's conjugate of a subgroup: spec.l13Conj, l13Size, impl.productSize.
  The subgroup of a list.
  ProductSize, SubgroupMeet, DoubleCosetSize on both sides.
  slices.Grow at rows, laid from the shelf.
  slices.Concat at rows: the rows of all lists, in order.
  What the program's public subgroup functions answer on subgroups (printed by gen_auxw.py).
  Moebius values of the lattice: the sum over all subgroups above one; the number of generating lists.
  Plain: the elements of a consistent presentation as a type with products; subgroups, cosets, their counting.
  Plain: Hall subgroups as sequences: the orders, the way up to one, their one class, the one ascending list.
  Plain: sizes of subgroups: the size of one divides that of a greater one; the equations of the law of product sets.
  impl.isSubset; impl.SubgroupIndex and impl.IsSubset on subgroups.
  IsProductSubgroup on both sides.
  laws.FnProductSets answers true (printed by gen_lps.py).
-/
import Derived.Test.YtdcobapnlpeaaaaGreatTPS1
import Derived.Maps.OwnSet
import Derived.Maps.StringElems
import Derived.StringKeys
import Derived.Laws.BitsAllLaws
import Derived.Shelf.SlSortCmp.NoneTotal
import Derived.Sort.OwnSortedInts
import Derived.Shelf.Spec.SlicesGrow
namespace Go.Proofs.YtdcobapnlpeaaaaGreat
open Go.RowKit
theorem wp_app_take {ops : Array Oper} {rest : List Oper} {o : Oper} {a : Act} {Q : Exit → Act → World → Prop} {w : World} (hgd : o.guard = none) (s x : Operand)
  (ho : o.op = Op.call { callee := Callee.builtin Builtin.append, args := #[s, x], argTypes := #[25, 25] }) (B : Nat) (A A' F : Nat → Prop) (w0 : World) (v u : Value) (xs : List (List Int)) (y : List Int) (hs : a.eval s = v)
  (hown : SlOA OwnIn 24 B A w0 v xs) (hu : OwnIn F w0 u y) (hF : ∀ k, F k → k < w0.heap.size → A k ∧ B ≤ k) (hA' : ∀ k, A' k → A k ∧ ¬ F k) (hAl : ∀ k, A k → k < w0.heap.size) (hw : w = w0.alloc (.cells #[u] 24))
  (hx : a.eval x = .slice (some ⟨w0.heap.size, 0, none⟩) 1 1) (hlen : xs.length ≤ 1000000) (hbase : B ≤ w0.heap.size)
  (h : ∀ v' w', SlOA OwnIn 24 B A' w' v' (xs ++ [y]) → w0.grownBy w' v.ownBlock → (v'.ownBlock = v.ownBlock ∨ ∀ k, v'.ownBlock = some k → w0.heap.size ≤ k) → wpList Tryz.prog ops Q rest (a.put o.dst v') w') :
  wpList Tryz.prog ops Q (o :: rest) a w := by
 subst hw
 obtain ⟨vs, G, hvl, hO, hG, hd, hE, hr, hr2⟩ := hown
 have hga : Ext w0 (w0.alloc (.cells #[u] 24)) := World.grownBy_alloc _ _ _
 refine wp_app 25 24 (.slice none 0 0) 24 und_rows Tryz.infoRow rfl (by decide) hgd s x ho B v vs hs (hO.kept hga (by cases hv : v.ownBlock <;> simp)) (some ⟨w0.heap.size, 0, none⟩) 1 1 [u] hx rfl (by simp) ?_ ?_ (by simp; omega) (by have := hga.size; omega) ?_
 ·intro j hj
  have : j = 0 := by omega
  subst this
  exact ⟨_, _, rfl, by rw [World.cell?_alloc_at _ _ _ _ rfl]; rfl⟩
 ·intro u' hu'
  simp at hu'; subst hu'; exact rdOwn.one hu
 ·intro v' w' k1 k2 _ k4
  have hg : w0.grownBy w' v.ownBlock := grown_trans (grown_of_ext _ hga) k2
  have hown2 : v'.ownBlock = v.ownBlock ∨ ∀ k, v'.ownBlock = some k → w0.heap.size ≤ k := by
   rcases k4 with h | h
   ·exact .inl h
   ·refine .inr (fun k hk => ?_)
    rw [h] at hk
    have : (w0.alloc (.cells #[u] 24)).heap.size = k := by simpa using hk
    simp at this
    omega
  have hown : ∀ k, v'.ownBlock = some k → v.ownBlock = some k ∨ w0.heap.size ≤ k := fun k hk => by
   rcases k4 with h | h
   ·exact .inl (by rw [← h]; exact hk)
   ·rw [h] at hk
    have : (w0.alloc (.cells #[u] 24)).heap.size = k := by simpa using hk
    simp at this
    exact .inr (by omega)
  refine h v' w' ⟨vs ++ [u], fun i k => if i < xs.length then G i k else F k ∧ k < w0.heap.size, by simp [hvl], k1, ?_, ?_, ?_, ?_, ?_⟩ hg hown2
  ·intro i k hi hk
   split at hk
   ·rename_i hlt
    obtain ⟨a1, a2, a3⟩ := hG i k hlt hk
    exact ⟨a1, fun e => (hown k e).elim a2 (fun h => by omega), Nat.lt_of_lt_of_le a3 hg.size⟩
   ·obtain ⟨b1, b2⟩ := hF k hk.1 hk.2
    exact ⟨b2, fun e => (hown k e).elim (fun h => hr2 k h b1) (fun h => by have := hk.2; omega), Nat.lt_of_lt_of_le hk.2 hg.size⟩
  ·intro i j k hi hj hk hk'
   simp only [List.length_append, List.length_singleton] at hi hj
   split at hk <;> split at hk'
   ·exact hd i j k (by assumption) (by assumption) hk hk'
   ·exact absurd (hF k hk'.1 hk'.2).1 (hr i k (by assumption) hk)
   ·exact absurd (hF k hk.1 hk.2).1 (hr j k (by assumption) hk')
   ·omega
  ·intro i hi
   simp only [List.length_append, List.length_singleton] at hi
   by_cases hlt : i < xs.length
   ·rw [gt_append_left _ _ _ (by omega), gt_append_left _ _ _ hlt]
    simp only [if_pos hlt]
    exact rdOwn.mono (hE i hlt) (fun k hk hkl => ⟨hk, Nat.lt_of_lt_of_le hkl hg.size, hg.block k hkl (fun e => (hG i k hlt hk).2.1 e.symm)⟩)
   ·have hi2 : i = xs.length := by omega
    subst hi2
    rw [gt_concat, ← hvl, gt_concat]
    simp only [hvl, Nat.lt_irrefl, if_false]
    exact rdOwn.mono hu (fun k hk hkl => ⟨⟨hk, hkl⟩, Nat.lt_of_lt_of_le hkl hg.size, hg.block k hkl (fun e => hr2 k e.symm (hF k hk hkl).1)⟩)
  ·intro i k hi hk ha
   obtain ⟨c1, c2⟩ := hA' k ha
   split at hk
   ·rename_i hlt; exact hr i k hlt hk c1
   ·exact c2 hk.1
  ·intro k hk ha
   obtain ⟨c1, _⟩ := hA' k ha
   rcases hown k hk with h | h
   ·exact hr2 k h c1
   ·have := hAl k c1; omega
end Go.Proofs.YtdcobapnlpeaaaaGreat
namespace Go.Proofs.YtdcobapnlpeaaaaGreat
open Go.RowKit
theorem rowsOne {B : Nat} {w2 : World} {u : Value} {y : List Int} (hu : OwnIn (From B) w2 u y) (hB : B ≤ w2.heap.size) : RowsO B (w2.alloc (.cells #[u] 24)) (.slice (some ⟨w2.heap.size, 0, none⟩) 1 1) [y] := by
 have hga : Ext w2 (w2.alloc (.cells #[u] 24)) := World.grownBy_alloc _ _ _
 refine ⟨[u], fun _ k => B ≤ k ∧ k < w2.heap.size, rfl, World.ownsRow_lit w2 #[u] 1 hB (by decide) rfl, fun i k hi hk => ?_, fun i j k hi hj _ _ => ?_, fun i hi => ?_⟩
 ·exact ⟨hk.1, fun e => by have := own_blk e; omega, Nat.lt_of_lt_of_le hk.2 hga.size⟩
 ·simp at hi hj; omega
 ·have : i = 0 := by simpa using hi
  subst this
  exact rdOwn.mono hu (fun k hk hkl => ⟨⟨hk, hkl⟩, Nat.lt_of_lt_of_le hkl hga.size, hga.block k hkl (by simp)⟩)
end Go.Proofs.YtdcobapnlpeaaaaGreat
namespace Go.Proofs.YtdcobapnlpeaaaaGreat
open Go.Proofs Go.Shelf Go.RowKit Go.Lib Go.Sort
def Tryz.sortRows_ren : Go.Shelf.Ren := ⟨fun | 6 => 247 | 15 => 297 | 14 => 296 | 28 => 332 | 29 => 333 | 20 => 324 | 21 => 325 | 22 => 326 | 23 => 327 | 24 => 328 | 25 => 329 | 26 => 330 | 27 => 331 | 46 => 351 | 47 => 352 | 48 => 353 | 49 => 354 | 50 => 355 | 57 => 367 | n => n, fun | 22 => 25 | 24 => 24 | 25 => 195 | 3 => 3 | 39 => 139 | 0 => 0 | 53 => 266 | 55 => 62 | 4 => 4 | 46 => 260 | 45 => 259 | 50 => 193 | 5 => 5 | 9 => 9 | 66 => 281 | 70 => 285 | 76 => 296 | 77 => 297 | n => n, fun | n => n⟩
theorem Tryz.sortRows : Go.Proofs.SlLaysF.n6 Tryz.prog Tryz.sortRows_ren := {
  mixed := by kernel_rfl
  f6 := ⟨Tryz.f247.name, by decide, Tryz.func247.trans (congrArg some (by kernel_rfl))⟩
  f14 := ⟨Tryz.f296.name, by decide, Tryz.func296.trans (congrArg some (by kernel_rfl))⟩
  f15 := Tryz.func297.trans (congrArg some (by kernel_rfl))
  f20 := ⟨Tryz.f324.name, by decide, Tryz.func324.trans (congrArg some (by kernel_rfl))⟩
  f21 := ⟨Tryz.f325.name, by decide, Tryz.func325.trans (congrArg some (by kernel_rfl))⟩
  f22 := ⟨Tryz.f326.name, by decide, Tryz.func326.trans (congrArg some (by kernel_rfl))⟩
  f23 := ⟨Tryz.f327.name, by decide, Tryz.func327.trans (congrArg some (by kernel_rfl))⟩
  f24 := ⟨Tryz.f328.name, by decide, Tryz.func328.trans (congrArg some (by kernel_rfl))⟩
  f25 := ⟨Tryz.f329.name, by decide, Tryz.func329.trans (congrArg some (by kernel_rfl))⟩
  f26 := ⟨Tryz.f330.name, by decide, Tryz.func330.trans (congrArg some (by kernel_rfl))⟩
  f27 := ⟨Tryz.f331.name, by decide, Tryz.func331.trans (congrArg some (by kernel_rfl))⟩
  f28 := Tryz.func332.trans (congrArg some (by kernel_rfl))
  f29 := Tryz.func333.trans (congrArg some (by kernel_rfl))
  f46 := ⟨Tryz.f351.name, by decide, Tryz.func351.trans (congrArg some (by kernel_rfl))⟩
  f47 := Tryz.func352.trans (congrArg some (by kernel_rfl))
  f48 := Tryz.func353.trans (congrArg some (by kernel_rfl))
  f49 := ⟨Tryz.f354.name, by decide, Tryz.func354.trans (congrArg some (by kernel_rfl))⟩
  f50 := ⟨Tryz.f355.name, by decide, Tryz.func355.trans (congrArg some (by kernel_rfl))⟩
  f57 := ⟨Tryz.f367.name, by decide, Tryz.func367.trans (congrArg some (by kernel_rfl))⟩
  t0 := Tryz.underlying0
  a0 := Tryz.isAgg0
  z0 := Tryz.sizeOf0
  v0 := Tryz.zeroValue0
  t3 := Tryz.underlying3
  a3 := Tryz.isAgg3
  z3 := Tryz.sizeOf3
  v3 := Tryz.zeroValue3
  t4 := Tryz.underlying4
  a4 := Tryz.isAgg4
  z4 := Tryz.sizeOf4
  v4 := Tryz.zeroValue4
  t5 := Tryz.underlying5
  a5 := Tryz.isAgg5
  z5 := Tryz.sizeOf5
  v5 := Tryz.zeroValue5
  t9 := Tryz.underlying9
  a9 := Tryz.isAgg9
  z9 := Tryz.sizeOf9
  v9 := Tryz.zeroValue9
  t22 := Tryz.underlying25
  a22 := Tryz.isAgg25
  z22 := Tryz.sizeOf25
  v22 := Tryz.zeroValue25
  a24 := Tryz.isAgg24
  z24 := Tryz.sizeOf24
  t25 := Tryz.underlying195
  a25 := Tryz.isAgg195
  z25 := Tryz.sizeOf195
  v25 := Tryz.zeroValue195
  t39 := Tryz.underlying139
  a39 := Tryz.isAgg139
  z39 := Tryz.sizeOf139
  v39 := Tryz.zeroValue139
  t45 := Tryz.underlying259
  a45 := Tryz.isAgg259
  z45 := Tryz.sizeOf259
  v45 := Tryz.zeroValue259
  t46 := Tryz.underlying260
  a46 := Tryz.isAgg260
  z46 := Tryz.sizeOf260
  v46 := Tryz.zeroValue260
  t50 := Tryz.underlying193
  a50 := Tryz.isAgg193
  z50 := Tryz.sizeOf193
  v50 := Tryz.zeroValue193
  t53 := Tryz.underlying266
  a53 := Tryz.isAgg266
  z53 := Tryz.sizeOf266
  v53 := Tryz.zeroValue266
  t55 := Tryz.underlying62
  a55 := Tryz.isAgg62
  z55 := Tryz.sizeOf62
  v55 := Tryz.zeroValue62
  t66 := Tryz.underlying281
  a66 := Tryz.isAgg281
  z66 := Tryz.sizeOf281
  v66 := Tryz.zeroValue281
  t70 := Tryz.underlying285
  a70 := Tryz.isAgg285
  z70 := Tryz.sizeOf285
  v70 := Tryz.zeroValue285
  t76 := Tryz.underlying296
  a76 := Tryz.isAgg296
  z76 := Tryz.sizeOf296
  v76 := Tryz.zeroValue296
  t77 := Tryz.underlying297
  a77 := Tryz.isAgg297
  z77 := Tryz.sizeOf297
  v77 := Tryz.zeroValue297 }
end Go.Proofs.YtdcobapnlpeaaaaGreat
namespace Go.Proofs.YtdcobapnlpeaaaaGreat
open Go.Proofs Go.Shelf Go.RowKit Go.Lib Go.Sort
section
variable {α : Type} [Inhabited α] {enc : α → Value}
theorem holds_of_blockV {w : World} {g : Nat} {cur : Array Value} {e : TypeId} {ss : List α} (hb : w.heap[g]? = some (.cells cur e (0, 0))) (ht : cur.toList.take ss.length = ss.map enc) : Go.Sort.Holds enc w g 0 ss.toArray := by
 intro j hj
 have hj' : j < ss.length := by simpa using hj
 refine ⟨?_, by simp [World.frozen?, hb]⟩
 have h1 : (cur.toList.take ss.length)[j]? = (ss.map enc)[j]? := by rw [ht]
 rw [List.getElem?_take_of_lt hj'] at h1
 simp only [World.cell?, hb, Nat.zero_add]
 simp only [Option.isSome_none, Bool.false_eq_true, if_false]
 rw [← Array.getElem?_toList, h1]
 simp [hj']
theorem heap_sortedV {w : World} {g n : Nat} {os : Array Obj} {cur : Array Value} {e : TypeId} {fr : Nat × Nat} (d : Array α) (hb : w.heap[g]? = some (.cells cur e fr)) :
  (sortWorld enc w g 0 n d os).heap[g]? = some (.cells (putCells enc 0 d cur) e fr) := by
 have hg : g < w.heap.size := (Array.getElem?_eq_some_iff.1 hb).1
 unfold sortWorld
 rw [heap_grow_old _ _ (by simpa using hg)]
 simp [putRow, mapBlock, Sort.ahead, Array.getElem?_modify, hb, onCells]
theorem grownBy_sortedV {w : World} {g n : Nat} {os : Array Obj} (d : Array α) : w.grownBy (sortWorld enc w g 0 n d os) (some g) := by
 unfold sortWorld
 refine ⟨rfl, rfl, rfl, by simp, fun k hk hne => ?_⟩
 rw [heap_grow_old _ _ (by simpa using hk)]
 have : g ≠ k := fun e => hne (by rw [e])
 simp [putRow, mapBlock, Sort.ahead, Array.getElem?_modify, this]
theorem take_putCellsV (cur : Array Value) (ts : List α) (h : ts.length ≤ cur.size) : (putCells enc 0 ts.toArray cur).toList.take ts.length = ts.map enc := by
 apply List.ext_getElem?
 intro j
 by_cases hj : j < ts.length
 ·rw [List.getElem?_take_of_lt hj, Array.getElem?_toList]
  simp [putCells, hj, show j < cur.size by omega]
 ·rw [List.getElem?_take_eq_none (by omega), List.getElem?_eq_none (by simp; omega)]
theorem ownsRow_sortedV {w : World} {base g cap n : Nat} {e : TypeId} {os : Array Obj} {cur : Array Value} {ss ts : List α} (hl : ts.length = ss.length) (hbase : base ≤ g) (hb : w.heap[g]? = some (.cells cur e (0, 0)))
  (h1 : ss.length ≤ cap) (h2 : cap ≤ maxLen) (h3 : cur.size = cap * 1) :
  (sortWorld enc w g 0 n ts.toArray os).ownsRow base e 1 (.slice (some ⟨g, 0, none⟩) ss.length cap) ss.length (ts.map enc) :=
 ⟨by simp [hl], .inr ⟨g, cap, _, rfl, hbase, heap_sortedV _ hb, h1, h2, by simp [putCells, h3], by rw [Nat.mul_one, ← hl]; exact take_putCellsV cur ts (by omega)⟩⟩
end
def encAt (vs : List Value) (k : Nat) : Value := if k < vs.length then gt vs k else .slice none 0 0
def cfAt (L : List (List Int)) (i j : Nat) : Int := cmpL (gt L i) (gt L j)
theorem ltOf_true {L : List (List Int)} {x y : Nat} : ltOf (cfAt L) x y = true ↔ cmpL (gt L x) (gt L y) < 0 := by unfold ltOf; rw [decide_eq_true_iff]; rfl
theorem ltOf_false {L : List (List Int)} {x y : Nat} : ltOf (cfAt L) x y = false ↔ 0 ≤ cmpL (gt L x) (gt L y) := by
 unfold ltOf; rw [decide_eq_false_iff_not]; show ¬ (cmpL (gt L x) (gt L y) < 0) ↔ _; omega
theorem swo_cfAt (L : List (List Int)) : SWO (ltOf (cfAt L)) where
 irrefl x := by
  have := (cmpL_zero (gt L x) (gt L x)).2 rfl
  rw [ltOf_false]; omega
 trans x y z h k := by
  rw [ltOf_true] at *
  have h1 := cmpL_le_trans (gt L x) (gt L y) (gt L z) (by omega) (by omega)
  have h2 : cmpL (gt L x) (gt L z) ≠ 0 := by
   intro e
   rw [cmpL_zero] at e
   rw [e] at h
   have := cmpL_swap (gt L z) (gt L y)
   omega
  omega
 ntrans x y z h k := by
  rw [ltOf_false] at *
  have h1 := cmpL_swap (gt L x) (gt L y)
  have h2 := cmpL_swap (gt L y) (gt L z)
  have h3 := cmpL_swap (gt L x) (gt L z)
  have h4 := cmpL_le_trans (gt L z) (gt L y) (gt L x) (by omega) (by omega)
  omega
theorem encAt_one {vs : List Value} (h : ∀ i, i < vs.length → (gt vs i).oneCell' = true) : OneCell (encAt vs) := by
 intro k
 unfold encAt
 split
 ·exact h k (by assumption)
 ·rfl
theorem gt_inj {α : Type} [Inhabited α] {l : List α} (h : l.Nodup) {i j : Nat} (hi : i < l.length) (hj : j < l.length) (he : gt l i = gt l j) : i = j := by
 simp only [gt, List.getD_eq_getElem?_getD, List.getElem?_eq_getElem hi, List.getElem?_eq_getElem hj, Option.getD_some] at he
 rcases Nat.lt_trichotomy i j with h1 | h1 | h1
 ·exact absurd he (List.pairwise_iff_getElem.1 h i j hi hj h1)
 ·exact h1
 ·exact absurd he.symm (List.pairwise_iff_getElem.1 h j i hj hi h1)
theorem sortRows_ok (w : World) (v : Value) (L : List (List Int)) (B : Nat) (hL : RowsO B w v L) (hne : 0 < L.length) (hlen : L.length ≤ 1000000) :
  Calls Tryz.prog 247 #[v, .func (.func 245) #[] #[]] w fun e w' => e = .returned (.tuple #[]) ∧ RowsO B w' v (sortL L) ∧ w.grownBy w' v.ownBlock := by
 obtain ⟨vs, G, hvl, hO, hG, hd, hE⟩ := hL
 obtain ⟨_, ⟨rfl, h0⟩ | ⟨g, cap, cur, rfl, hBg, hb, hnc, hcm, hsz, hx⟩⟩ := hO
 ·omega
 have hgs : g < w.heap.size := (Array.getElem?_eq_some_iff.1 hb).1
 have hone : OneCell (encAt vs) := encAt_one fun i hi => by
  exact rdOwn.one (hE i (by omega))
 have hmap : (List.range L.length).map (encAt vs) = vs := by
  apply List.ext_getElem (by simp [hvl])
  intro j h1 h2
  simp [encAt, gt, h2]
 have hH : Go.Sort.Holds (encAt vs) w g 0 (List.range L.length).toArray := holds_of_blockV hb (by rw [hmap, List.length_range, ← hvl]; simpa using hx)
 have eg : ∀ args w, (callFunc 245 args).run Tryz.prog w = .ok (.enter 245 args) w := enters_of Tryz.func245 (by kernel_rfl) rfl
 have hcmp : CmpReads Tryz.prog 245 #[] (encAt vs) (cfAt L) g 0 (List.range L.length).toArray.size w := by
  intro m os dk _ x y
  have hgr : w.grownBy (sortWorld (encAt vs) w g 0 m dk os) (some g) := grownBy_sortedV dk
  have hread : ∀ k, Ints Any (sortWorld (encAt vs) w g 0 m dk os) (encAt vs k) (gt L k) := by
   intro k
   by_cases hk : k < vs.length
   ·have he := (hE k (by omega)).ints
    unfold encAt
    rw [if_pos hk]
    exact Ints.mono he (fun b hb2 hlt => ⟨trivial, Nat.lt_of_lt_of_le hlt hgr.size, hgr.block b hlt (fun e => (hG k b (by omega) hb2).2.1 (by cases e; rfl))⟩)
   ·have h1 : gt L k = [] := by simp [gt, show ¬ k < L.length by omega]; rfl
    unfold encAt
    rw [if_neg hk, h1]
    exact ⟨none, 0, rfl, ⟨by simp, by simp, fun _ => rfl⟩, fun i hi => by simp at hi⟩
  refine (sCompare_ok _ _ _ _ _ _ _ (hread x) (hread y)).mono ?_
  rintro e w' ⟨rfl, rfl⟩
  exact ⟨rfl, 0, rfl⟩
 have hcon := Any.slices_SortFunc Tryz.sortRows (encAt vs) hone (cfAt L) (swo_cfAt L) 245 #[] g 0 cap (List.range L.length).toArray w eg hcmp.lays hH hgs (by simp; omega)
 change Calls Tryz.prog 247 _ _ _ at hcon
 have hsz2 : (List.range L.length).toArray.size = vs.length := by simp [hvl]
 rw [hsz2] at hcon
 refine hcon.mono ?_
 rintro e w' ⟨he, d', n, os, ⟨hs1, _, hperm⟩, hsorted, rfl⟩
 have hts : d'.toList.length = L.length := by simpa [hvl] using hs1
 have hP : d'.toList.Perm (List.range L.length) := by
  have h1 : d'.extract 0 vs.length = d' := by
   apply Array.ext'
   rw [hvl, ← hts]; simp
  have h2 : (List.range L.length).toArray.extract 0 vs.length = (List.range L.length).toArray := by
   apply Array.ext'
   rw [hvl]; simp
  rw [h1, h2] at hperm
  simpa using hperm
 have hin : ∀ i, i < L.length → gt d'.toList i < L.length := fun i hi => by
  have := hP.subset (gt_mem (l := d'.toList) (i := i) (by omega))
  simpa using this
 have hnd : d'.toList.Nodup := hP.symm.nodup List.nodup_range
 have hmapL : (List.range L.length).map (gt L) = L := by
  apply List.ext_getElem (by simp)
  intro j h1 h2
  simp [gt, h2]
 have hsort : d'.toList.map (gt L) = sortL L := by
  refine sortL_unique ?_ ?_
  ·have := hP.map (gt L)
   rwa [hmapL] at this
  ·refine List.pairwise_iff_getElem.2 ?_
   intro i j hi hj hij
   have hi' : i < d'.size := by simpa using hi
   have hj' : j < d'.size := by simpa using hj
   have h1 := hsorted i j (Nat.zero_le _) hij (by rw [hs1, hsz2] at hj'; exact hj')
   rw [ltOf_false, getElem!_pos d' i hi', getElem!_pos d' j hj'] at h1
   have h2 := cmpL_swap (gt L d'[j]) (gt L d'[i])
   simp only [List.getElem_map, Array.getElem_toList]
   omega
 have hgr : w.grownBy (sortWorld (encAt vs) w g 0 n d' os) (some g) := grownBy_sortedV d'
 have hgv : ∀ i, i < L.length → gt (d'.toList.map (encAt vs)) i = gt vs (gt d'.toList i) := fun i hi => by
  have h1 : gt (d'.toList.map (encAt vs)) i = encAt vs (gt d'.toList i) := gt_map _ _ _ (by omega)
  rw [h1]; unfold encAt; rw [if_pos (by rw [hvl]; exact hin i hi)]
 have hgL : ∀ i, i < L.length → gt (sortL L) i = gt L (gt d'.toList i) := fun i hi => by
  rw [← hsort]; exact gt_map _ _ _ (by omega)
 have hsl : (sortL L).length = L.length := (sortL_perm L).length_eq
 refine ⟨he, ⟨d'.toList.map (encAt vs), fun i k => G (gt d'.toList i) k, by simp [hsl, ← hts], ?_, ?_, ?_, ?_⟩, hgr⟩
 ·have := ownsRow_sortedV (enc := encAt vs) (n := n) (os := os) (ss := List.range L.length) (ts := d'.toList) (by rw [hts, List.length_range]) hBg hb (by rw [List.length_range, ← hvl]; exact hnc) hcm hsz
  rw [List.length_range, ← hvl] at this
  unfold OwnV
  rw [show (d'.toList.map (encAt vs)).length = vs.length by rw [List.length_map, hts, hvl]]
  simpa using this
 ·intro i k hi hk
  obtain ⟨a1, a2, a3⟩ := hG _ k (hin i (by omega)) hk
  exact ⟨a1, a2, Nat.lt_of_lt_of_le a3 hgr.size⟩
 ·intro i j k hi hj hk hk'
  exact gt_inj hnd (by omega) (by omega) (hd _ _ k (hin i (by omega)) (hin j (by omega)) hk hk')
 ·intro i hi
  show OwnIn _ _ _ _
  rw [hgv i (by omega), hgL i (by omega)]
  have he := hE _ (hin i (by omega))
  exact rdOwn.mono he (fun b hb2 hlt => ⟨hb2, Nat.lt_of_lt_of_le hlt hgr.size, hgr.block b hlt (fun e => (hG _ b (hin i (by omega)) hb2).2.1 (by cases e; rfl))⟩)
end Go.Proofs.YtdcobapnlpeaaaaGreat
namespace Go.Proofs.YtdcobapnlpeaaaaGreat
open Go.RowKit
def Rest (m : Nat) (F : Nat → Nat → Prop) (i n : Nat) : Nat → Prop := fun k => k < m ∧ ∃ j, i ≤ j ∧ j < n ∧ F j k
theorem SlOA.nil {α : Type} [Inhabited α] (El : (Nat → Prop) → World → Value → α → Prop) (E B : Nat) (A : Nat → Prop) (w : World) : SlOA El E B A w (.slice none 0 0) ([] : List α) :=
 ⟨[], fun _ _ => False, rfl, World.ownsRow_nil _ _ _ _, by simp, by simp, by simp, by simp, by simp [Value.ownBlock]⟩
set_option maxRecDepth 100000 in
set_option maxHeartbeats 4000000 in
theorem elementsOf_ok (P : Pr) (G : Grp P) (w : World) (p uv : Value) (U : List (List Int)) (Sp Su : Nat → Prop) (hp : PresP Sp w p P) (hu : Rows2 Su w uv U) (hU : SeqOk P U) (hl : U.length ≤ 6) :
  Calls Tryz.prog 162 #[p, uv] w (Ret w fun w' v => RowsO w.heap.size w' v (sortL (elsP P U U.length))) := by
 have hP := G.v
 have hn6 := hP.n6
 obtain ⟨pb, po, rfl⟩ := hp.shape
 obtain ⟨ao, capo, hco0, hoi⟩ := hp.ordAt
 obtain ⟨au, capu, rfl, _, _⟩ := Sl.shape hu
 have hUz : ∀ z ∈ U, dep z < z.length := fun z hz => by have := hU.1 z hz; rw [this.1.1]; exact this.2.1
 have HU := Lib.hid hU; clear hU
 go_enter Tryz.func162, Tryz.ntmps162
 go_wp2_with (first | (at_make; refine wp_make_ints rfl _ _ rfl w.heap.size P.orders.length w.heap.size rfl _ rfl rfl rfl (by omega) (Nat.le_refl _) ?_; intro w1 ho1 hg1 hlt1) | fail)
 have hz1 : OwnIn (From w.heap.size) w1 (.slice (some ⟨w.heap.size, 0, none⟩) P.orders.length P.orders.length) (zeros P.orders.length) := OwnIn.of ho1 (by simp [zeros]; omega) (fun j h1 _ => h1)
 have hO1 := rowsOne hz1 hg1.size
 have hga : Ext w1 (w1.alloc (.cells #[.slice (some ⟨w.heap.size, 0, none⟩) P.orders.length P.orders.length] 24)) := World.grownBy_alloc _ _ _
 have hg2 := grown_trans hg1 hga
 clear ho1 hz1 hga hg1 hlt1
 generalize hw2 : w1.alloc (.cells #[.slice (some ⟨w.heap.size, 0, none⟩) P.orders.length P.orders.length] 24) = w2 at *
 clear hw2
 refine Calls.mono (pivots_ok _ U w2 Su (Rows2.ext hu hg2) hUz (by omega)) ?_
 rintro e3 w3 ⟨pv, rfl, hg3, hV3⟩
 have hg03 := grown_trans hg2 hg3
 have hO3 := SlO.ext rdOwn hO1 hg3
 clear hO1 hg2 hg3 hUz
 have hpvs : ∃ az capz, pv = .slice az U.length capz := by
  rcases hV3.form with ⟨h1, h2⟩ | ⟨g, cp, h1, _⟩
  ·have h3 : U.length = 0 := by unfold depV at h2; rw [List.map_eq_nil_iff] at h2; rw [h2]; rfl
   exact ⟨none, 0, by rw [h1, h3]⟩
  ·exact ⟨_, _, by rw [h1]; unfold depV; rw [List.length_map]⟩
 obtain ⟨ap, capp, rfl⟩ := hpvs
 go_wp2
 go_loopw [5, 21] (fun ov iv wr => ∃ (k : Nat) (v4 : Value), v4 = ov ∧ iv = .int .i64 k ∧ k ≤ U.length ∧ Ext w3 wr ∧ RowsO w.heap.size wr v4 (elsP P U k)) (fun _ iv _ => U.length - (intOf iv).toNat)
 case atStart => exact ⟨0, _, rfl, rfl, by omega, Ext.refl _, hO3⟩
 case round =>
  clear hO3
  obtain ⟨k, v4, rfl, rfl, hk, hg, hO⟩ := hrel
  have hXl0 := elsP_len hP HU.out k hk
  have hX729 := prodU_729 hP HU.out k hk
  by_cases hlt : k < U.length
  ·have hlt' : (k : Int) < U.length := by omega
   have hdi : gt (depV U) k = .int .i64 (dep (gt U k)) := by unfold depV; rw [gt_map _ _ _ hlt]
   have hpf : ∃ g, ap = some ⟨g, 0, none⟩ := by
    rcases hV3.form with ⟨h1, h2⟩ | ⟨g, cp, h1, _⟩
    ·unfold depV at h2; rw [List.map_eq_nil_iff] at h2; rw [h2] at hlt; simp at hlt
    ·simp only [Value.slice.injEq] at h1; exact ⟨g, h1.1⟩
   obtain ⟨gp, rfl⟩ := hpf
   have hcp3 := hV3.cell k (by unfold depV; rw [List.length_map]; exact hlt)
   rw [hdi] at hcp3
   clear hdi
   have hcp := hg.cell hcp3 (by simp)
   clear hcp3
   obtain ⟨d, hd⟩ : ∃ d, d = dep (gt U k) := ⟨_, rfl⟩
   obtain ⟨z, hz⟩ : ∃ z, z = gt U k := ⟨_, rfl⟩
   have hdn : d < P.orders.length := by rw [hd]; exact (HU.out.1 _ (gtMem hlt)).2.1
   have hzV : Vec P.orders z := by rw [hz]; exact (HU.out.1 _ (gtMem hlt)).1
   obtain ⟨o, ho⟩ : ∃ o, o = (gt P.orders d).toNat := ⟨_, rfl⟩
   have ho7 := hP.ord7 d hdn
   have hoo : gt P.orders d = (o : Int) := by omega
   obtain ⟨X, hX⟩ : ∃ X, X = elsP P U k := ⟨_, rfl⟩
   have hXn : elsP P U (k + 1) = X.flatMap (stepE P z o) := by rw [hX, ho, hd, hz]; rfl
   have hXV : ∀ x ∈ X, Vec P.orders x := by rw [hX]; exact elsP_sub G.sub_all (fun z hz => (HU.out.1 z hz).1) k hk
   rw [← hd] at hcp
   rw [← hX] at hO hXl0
   have hXl : X.length ≤ 729 := by omega
   have hX1 : 1 ≤ X.length := by omega
   clear hXl0 hX729
   obtain ⟨vs, F, hvl, hOv, hF, hFd, hFE⟩ := hO
   obtain ⟨gx, capx, hv4⟩ : ∃ gx capx, v4 = .slice (some ⟨gx, 0, none⟩) X.length capx := by
    rcases hOv.form with ⟨h1, h2⟩ | ⟨g, cp, h1, _⟩
    ·rw [h2] at hvl; simp at hvl; omega
    ·exact ⟨g, cp, by rw [h1, hvl]⟩
   subst hv4
   have HX := Lib.hid (And.intro hXn (And.intro hXV (And.intro hX (And.intro hd (And.intro hz ho))))); clear hXn hXV hX hd ho
   obtain ⟨wo, rfl⟩ : ∃ wo : World, wo = wr := ⟨_, rfl⟩
   have hgw := grown_trans hg03 hg
   obtain ⟨bo, oo, rfl, _, _, hcod⟩ := Ints.at (hoi.ext hgw) d hdn
   have hc0 := hgw.cell hco0 (by simp)
   obtain ⟨bu, ou, a2, cap2, hau, _, _, hcu, hui⟩ := Rows2.at hu k hlt
   subst hau
   rw [← hz] at hcu hui
   have hcu := hgw.cell hcu (by simp)
   clear hz
   have hdn' : (d : Int) < P.orders.length := by omega
   have HC := Lib.hid (And.intro hc0 (And.intro hcod hcu)); clear hc0 hcod hcu
   go_wp2
   clear hcp
   go_loopw [8, 28] (fun nv jv wr => ∃ (j : Nat) (v5 : Value), v5 = nv ∧ jv = .int .i64 j ∧ j ≤ X.length ∧ Ext wo wr ∧ SlOA OwnIn 24 w.heap.size (Rest wo.heap.size F j X.length) wr v5 ((X.take j).flatMap (stepE P z o)) ∧ Hid (∀ b, v5.ownBlock = some b → wo.heap.size ≤ b)) (fun _ jv _ => X.length - (intOf jv).toNat)
   case atStart => exact ⟨0, _, rfl, rfl, by omega, Ext.refl _, SlOA.nil _ _ _ _ _, Lib.hid (fun b hb => by simp [Value.ownBlock] at hb)⟩
   case round =>
    obtain ⟨j, v5, rfl, rfl, hj, hgm, hA, hob⟩ := hrel
    by_cases hjl : j < X.length
    ·have hjl' : (j : Int) < X.length := by omega
     have hxE := hFE j hjl
     obtain ⟨ax, cx, hvx, _, _⟩ := hxE.ints.shape
     have hcx := hgm.cell (hOv.cell j (by omega)) (by simp)
     rw [hvx] at hcx hxE
     have hc0 := hgm.cell HC.out.1 (by simp)
     have hcod := hgm.cell HC.out.2.1 (by simp)
     rw [hoo] at hcod
     have hxV := HX.out.2.1 _ (gtMem hjl)
     have hxe : rMul P (gt X j) (pw P z 0) = gt X j := G.grp.er _ hxV
     have hpl : ((X.take j).flatMap (stepE P z o)).length ≤ 729 * 7 := by
      rw [flatMap_len, List.length_take]
      exact Nat.mul_le_mul (by omega) (by omega)
     have HPL := Lib.hid (And.intro hxV (And.intro hxe hpl)); clear hxV hxe hpl hvx
     obtain ⟨x, hx⟩ : ∃ x, x = gt X j := ⟨_, rfl⟩
     rw [← hx] at hcx hxE HPL
     have HXJ := Lib.hid hx; clear hx
     have hxE2 := rdOwn.mono (F' := F j) hxE (fun b hb hlt => ⟨hb, Nat.lt_of_lt_of_le hlt hgm.size, hgm.block b hlt (by simp)⟩)
     go_wp2
     clear hc0 hcod hcx
     go_loopw [8, 10, 39] (fun nv xv tv wr => ∃ (t : Nat) (v6 : Value) (Y : List Int) (A Fx : Nat → Prop), v6 = nv ∧ tv = .int .i64 t ∧ t ≤ o ∧ Ext wo wr ∧ OwnIn Fx wr xv Y ∧ SlOA OwnIn 24 w.heap.size A wr v6 ((X.take j).flatMap (stepE P z o) ++ stepE P z t x) ∧
       Hid (Y = rMul P x (pw P z t) ∧ (∀ b, Fx b → b < wr.heap.size → A b ∧ w.heap.size ≤ b) ∧ (∀ b, Rest wo.heap.size F (j + 1) X.length b → A b ∧ ¬ Fx b) ∧ (∀ b, A b → b < wr.heap.size) ∧ ∀ b, v6.ownBlock = some b → wo.heap.size ≤ b)) (fun _ _ tv _ => o - (intOf tv).toNat)
     case atStart =>
      refine ⟨0, v5, x, Rest wo.heap.size F j X.length, F j, rfl, rfl, by omega, hgm, hxE2, ?_, Lib.hid ⟨HPL.out.2.1.symm, fun b hb _ => ?_, fun b hb => ?_, fun b hb => Nat.lt_of_lt_of_le hb.1 hgm.size, hob.out⟩⟩
      ·unfold stepE; rw [List.range_zero, List.map_nil, List.append_nil]; exact hA
      ·obtain ⟨f1, _, f3⟩ := hF j b hjl hb
       exact ⟨⟨f3, j, Nat.le_refl _, hjl, hb⟩, f1⟩
      ·obtain ⟨h1, i, h2, h3, h4⟩ := hb
       exact ⟨⟨h1, i, by omega, h3, h4⟩, fun h => by have := hFd i j b h3 hjl h4 h; omega⟩
     case round =>
      clear hxE2 hA hob hxE
      obtain ⟨t, v6, Y, A, Fx, rfl, rfl, ht, hgi, hxv, hA, hH⟩ := hrel
      by_cases htl : t < o
      ·have htl' : (t : Int) < o := by omega
       obtain ⟨ay, cy, hvy, _, _⟩ := hxv.ints.shape
       subst hvy
       have hgwr := grown_trans hgw hgi
       have hYV : Vec P.orders Y := by rw [hH.out.1]; exact G.mulV HPL.out.1 (G.pw_vec hzV t)
       have hYn : tv P Y z = rMul P x (pw P z (t + 1)) := by rw [G.tv_eq hYV hzV, hH.out.1, G.step_mul HPL.out.1 hzV]
       have hsl : ((X.take j).flatMap (stepE P z o) ++ stepE P z t x).length ≤ 1000000 := by
        rw [List.length_append, stepE_len]; have := HPL.out.2.2; omega
       have hYV2 := G.mulV HPL.out.1 (G.pw_vec hzV (t + 1))
       have HY := Lib.hid (And.intro hYV (And.intro hYn (And.intro hsl hYV2))); clear hYV hYn hsl hYV2
       have hcur := hgi.cell HC.out.2.2 (by simp)
       go_wp2_with (first | (at_builtin; refine wp_app_take rfl _ _ rfl w.heap.size A (Rest wo.heap.size F (j + 1) X.length) Fx wr v6 _ _ Y rfl hA hxv hH.out.2.1 hH.out.2.2.1 hH.out.2.2.2.1 rfl rfl HY.out.2.2.1 hgwr.size ?_; intro v7 w7 hA7 hg7 hob7; have hcur7 := grown_own hgi hg7 (fun b hb hlt => by have := hH.out.2.2.2.2 b hb; omega); have hcu7 := hcur7.cell HC.out.2.2 (by simp)) | fail)
       have hxv7 : Ints Any w7 (.slice ay Y.length cy) Y := Ints.mono hxv.ints (fun b hb hlt => ⟨trivial, Nat.lt_of_lt_of_le hlt hg7.size, hg7.block b hlt (fun e => by
        obtain ⟨a1, _⟩ := hH.out.2.1 b hb hlt
        exact (hA.avoids b e.symm).1 a1)⟩)
       have hgw7 := grown_trans hgw hcur7
       refine Calls.mono (multiply_ok P hP w7 _ _ _ Y z Sp Any Su (hp.ext hgw7) hxv7 (Ints.ext hui hgw7) HY.out.1 hzV) ?_
       rintro eC wC ⟨vC, rfl, hgC, hOC⟩
       rw [HY.out.2.1] at hOC
       have hOC2 : OwnIn (fun b => w7.heap.size ≤ b ∧ b < wC.heap.size) wC vC (rMul P x (pw P z (t + 1))) := OwnIn.of hOC (by rw [HY.out.2.2.2.1]; omega) (fun j h1 h2 => ⟨h1, h2⟩)
       have hA8 : SlOA OwnIn 24 w.heap.size (fun b => Rest wo.heap.size F (j + 1) X.length b ∨ (w7.heap.size ≤ b ∧ b < wC.heap.size)) wC v7 ((X.take j).flatMap (stepE P z o) ++ stepE P z (t + 1) x) := by
        rw [stepE_succ, ← List.append_assoc, ← hH.out.1]
        exact (hA7.more (fun b hb => hb.elim .inl (fun h => .inr h.1))).ext rdOwn hgC
       have hH2 : Hid ((∀ b, (w7.heap.size ≤ b ∧ b < wC.heap.size) → b < wC.heap.size → (Rest wo.heap.size F (j + 1) X.length b ∨ (w7.heap.size ≤ b ∧ b < wC.heap.size)) ∧ w.heap.size ≤ b) ∧ (∀ b, Rest wo.heap.size F (j + 1) X.length b → (Rest wo.heap.size F (j + 1) X.length b ∨ (w7.heap.size ≤ b ∧ b < wC.heap.size)) ∧ ¬ (w7.heap.size ≤ b ∧ b < wC.heap.size)) ∧
         (∀ b, Rest wo.heap.size F (j + 1) X.length b ∨ (w7.heap.size ≤ b ∧ b < wC.heap.size) → b < wC.heap.size) ∧ ∀ b, v7.ownBlock = some b → wo.heap.size ≤ b) := by
        refine Lib.hid ⟨fun b hb _ => ⟨.inr hb, by have := hgw7.size; omega⟩, fun b hb => ⟨.inl hb, fun h => by have := hb.1; have := hcur7.size; omega⟩, fun b hb => ?_, fun b hb => ?_⟩
        ·rcases hb with h | h
         ·have := h.1; have := hcur7.size; have := hgC.size; omega
         ·exact h.2
        ·rcases hob7 with h | h
         ·exact hH.out.2.2.2.2 b (by rw [← h]; exact hb)
         ·have := h b hb; have := hgi.size; omega
       clear hA hH hxv hA7 hob7 hOC hxv7 hcu7 hcur
       go_wp2
       go_roundw
       case rel => exact ⟨t + 1, v7, _, _, _, rfl, by go_num, by omega, grown_trans hcur7 hgC, hOC2, hA8, Lib.hid ⟨rfl, hH2.out⟩⟩
       case measure => simp [intOf]; omega
      ·have hte : t = o := by omega
       subst hte
       have hst := flatMap_take_succ X (stepE P z t) j hjl
       rw [← HXJ.out] at hst
       have hA9 : SlOA OwnIn 24 w.heap.size (Rest wo.heap.size F (j + 1) X.length) wr v6 ((X.take (j + 1)).flatMap (stepE P z t)) := by
        rw [hst]; exact hA.less (fun b hb => (hH.out.2.2.1 b hb).1)
       have hob9 := Lib.hid hH.out.2.2.2.2
       clear hst hA hH hxv
       go_wp2
       go_roundw
       case rel => exact ⟨j + 1, v6, rfl, by go_num, by omega, hgi, hA9, hob9⟩
       case measure => simp [intOf]; omega
    ·have hje : j = X.length := by omega
     subst hje
     have hO9 : RowsO w.heap.size wr v5 (elsP P U (k + 1)) := by
      rw [HX.out.1]
      have := hA.o
      rw [List.take_length] at this
      exact this
     clear hA hob
     go_wp2
     go_roundw
     case rel => exact ⟨k + 1, v5, rfl, by go_num, by omega, grown_trans hg hgm, hO9⟩
     case measure => simp [intOf]; omega
  ·have hke : k = U.length := by omega
   subst hke
   have hne : 0 < (elsP P U U.length).length := by omega
   have hl9 : (elsP P U U.length).length ≤ 1000000 := by omega
   obtain ⟨az, capz, hvz, _, _⟩ := SlD.shape (hO.toD (by omega))
   have HN := Lib.hid (And.intro hne hl9); clear hXl0 hX729 hne hl9
   subst hvz
   go_wp2_with fail
   refine Calls.mono (sortRows_ok wr _ (elsP P U U.length) w.heap.size hO HN.out.1 HN.out.2) ?_
   rintro eS wS ⟨rfl, hOS, hgS⟩
   have hgwS : Ext w wS := grown_own (grown_trans hg03 hg) hgS (fun b hb hlt => by have := (hO.lt b hb).1; omega)
   clear hO
   go_wp2
   go_ret
   exact ⟨_, rfl, hgwS, hOS⟩
end Go.Proofs.YtdcobapnlpeaaaaGreat
namespace Go.Proofs.YtdcobapnlpeaaaaGreat
open Go.RowKit
set_option maxRecDepth 100000 in
set_option maxHeartbeats 2000000 in
theorem l13Two_ok (P : Pr) (w : World) (pv uv vv : Value) (U V : List (List Int)) (Sp Su Sv : Nat → Prop) (hpv : PresV Sp w pv P) (hu : Rows2 Su w uv U) (hv : Rows2 Sv w vv V) :
  Calls Tryz.prog 130 #[pv, uv, vv] w (Ret w fun _ v => ∃ r : Bool, v = .bool r ∧ (r = true ↔ rconsB P = true ∧ SubB P U ∧ SubB P V)) := by
 obtain ⟨vo, vp, vc, rfl, h3⟩ := hpv
 have hp0 := PresP.box h3 28
 have hg0 : Ext w (w.alloc (.cells #[vo, vp, vc] 28)) := World.grownBy_alloc _ _ _
 obtain ⟨vo6, vp6, vc6, _, _, hc0, hc1, hc2, h36⟩ := hp0.at
 simp only [Nat.zero_add] at hc1 hc2
 have hu0 := Rows2.ext hu hg0
 have hv0 := Rows2.ext hv hg0
 obtain ⟨au, capu, rfl, _, _⟩ := Sl.shape hu
 obtain ⟨av, capv, rfl, _, _⟩ := Sl.shape hv
 clear hp0 hu hv
 have hE := sIsSubgroup_ok P (w.alloc (.cells #[vo, vp, vc] 28)) _ _ U Any Su ⟨_, _, _, rfl, h36⟩ hu0
 go_enter Tryz.func130, Tryz.ntmps130
 go_wp2_with fail
 generalize hw0 : w.alloc (.cells #[vo, vp, vc] 28) = w0 at *
 clear hw0
 refine Calls.mono hE ?_
 rintro e1 w1 ⟨v1, rfl, hg1, r1, rfl, hr1⟩
 clear hE
 have hb0 := hg1.cell hc0 (by simp)
 have hb1 := hg1.cell hc1 (by simp)
 have hb2 := hg1.cell hc2 (by simp)
 clear hc0 hc1 hc2
 cases r1 with
 | false =>
  have HR := Lib.hid hr1; clear hr1
  go_wp2
  go_ret
  exact ⟨_, rfl, grown_trans hg0 hg1, false, rfl, by
   simp only [Bool.false_eq_true, false_iff]
   rintro ⟨h, h2, _⟩
   have := HR.out.2 ⟨h, h2⟩; cases this⟩
 | true =>
  obtain ⟨hr, hS⟩ := hr1.1 rfl
  have G := grp_of_r hr
  have HR := Lib.hid (And.intro hr hS); clear hr hS hr1
  go_wp2_with fail
  clear hb0 hb1 hb2
  refine Calls.mono (l12Is_ok P G w1 _ _ V Any Sv ⟨_, _, _, rfl, Pres3.ext h36 hg1⟩ (Rows2.ext hv0 hg1)) ?_
  rintro e2 w2 ⟨v2, rfl, hg2, r2, rfl, hr2⟩
  have HR2 := Lib.hid hr2; clear hr2
  go_wp2
  go_ret
  exact ⟨_, rfl, grown_trans hg0 (grown_trans hg1 hg2), r2, rfl, by rw [HR2.out]; exact ⟨fun h => ⟨HR.out.1, HR.out.2, h⟩, fun h => h.2.2⟩⟩
end Go.Proofs.YtdcobapnlpeaaaaGreat
namespace Go.Proofs.YtdcobapnlpeaaaaGreat
open Go.RowKit
theorem elemsIn_len {P : Pr} (hP : Valid P) (H : List Int → Prop) : (elemsIn P H).length ≤ 729 := by
 have h1 := elemsTo_len P H (ordP P).toNat
 rw [elemsTo_all] at h1
 have h2 : ordP P ≤ 729 := hP.le729
 omega
end Go.Proofs.YtdcobapnlpeaaaaGreat
namespace Go.Proofs.YtdcobapnlpeaaaaGreat
open Go.RowKit
def inTo (E : List (List Int)) (K : List Int → Prop) (k : Nat) (x : List Int) : Prop := x ∈ E.take k ∧ K x
theorem inTo_succ {E : List (List Int)} {K : List Int → Prop} {k : Nat} (hk : k < E.length) (hK : K (gt E k)) : (fun x => inTo E K k x ∨ x ∈ [gt E k]) = inTo E K (k + 1) := by
 funext x
 unfold inTo
 rw [take_succ_gt E k hk]
 simp only [List.mem_append, List.mem_singleton, eq_iff_iff]
 constructor
 ·rintro (⟨h1, h2⟩ | h)
  ·exact ⟨.inl h1, h2⟩
  ·exact ⟨.inr h, by rw [h]; exact hK⟩
 ·rintro ⟨h | h, h2⟩
  ·exact .inl ⟨h, h2⟩
  ·exact .inr h
theorem inTo_skip {E : List (List Int)} {K : List Int → Prop} {k : Nat} (hk : k < E.length) (hK : ¬ K (gt E k)) : inTo E K (k + 1) = inTo E K k := by
 funext x
 unfold inTo
 rw [take_succ_gt E k hk]
 simp only [List.mem_append, List.mem_singleton, eq_iff_iff]
 constructor
 ·rintro ⟨h | h, h2⟩
  ·exact ⟨h, h2⟩
  ·exact absurd (by rw [← h]; exact h2) hK
 ·rintro ⟨h, h2⟩
  exact ⟨.inl h, h2⟩
theorem inTo_zero (E : List (List Int)) (K : List Int → Prop) : inTo E K 0 = fun _ => False := by
 funext x; unfold inTo; simp
theorem inTo_all {P : Pr} {H K : List Int → Prop} (hP : Valid P) (S : Sub P H) (E : List (List Int)) (hE : E = elemsIn P H) : inTo E K E.length = fun x => H x ∧ K x := by
 funext x
 unfold inTo
 rw [List.take_length, hE, elemsIn_mem hP S.vec]
theorem rows2One {S S' : Nat → Prop} {w : World} {u : Value} {X : List Int} (h : Ints S w u X) (hS : ∀ k, S k → k < w.heap.size → S' k) (hn : S' w.heap.size) : Rows2 S' (w.alloc (.cells #[u] 24)) (.slice (some ⟨w.heap.size, 0, none⟩) 1 1) [X] := by
 refine ⟨_, 1, rfl, ⟨by simp, by simp, fun h => by cases h⟩, fun i hi => ?_⟩
 have : i = 0 := by simpa using hi
 subst this
 have hg : Ext w (w.alloc (.cells #[u] 24)) := World.grownBy_alloc _ _ _
 refine ⟨w.heap.size, 0, u, rfl, hn, by simp, by rw [World.cell?_alloc_at _ _ _ _ rfl]; rfl, ?_⟩
 exact Ints.mono h (fun k hk hlt => ⟨hS k hk hlt, Nat.lt_of_lt_of_le hlt hg.size, hg.block k hlt (by simp)⟩)
set_option maxRecDepth 100000 in
set_option maxHeartbeats 8000000 in
theorem meet_ok (P : Pr) (G : Grp P) (w : World) (p uv vv : Value) (H K : List Int → Prop) (Sp Su Sv : Nat → Prop) (S : Sub P H) (R : Sub P K) (hp : PresP Sp w p P) (hu : Rows2 Su w uv (cseq P H)) (hv : Rows2 Sv w vv (cseq P K)) :
  Calls Tryz.prog 174 #[p, uv, vv] w (Ret w fun w' v => RowsO w.heap.size w' v (cseq P (fun x => H x ∧ K x))) := by
 have hP := G.v
 have hn6 := hP.n6
 obtain ⟨pb, po, rfl⟩ := hp.shape
 have hlH := G.cseq_len S
 have hlK := G.cseq_len R
 have hsH := (G.seq_facts S).1
 have hsK := (G.seq_facts R).1
 obtain ⟨au, capu, rfl, _, _⟩ := Sl.shape hu
 obtain ⟨av, capv, rfl, _, _⟩ := Sl.shape hv
 have hsel : ∃ (H1 K1 : List Int → Prop) (u1 v1 : Value), Sub P H1 ∧ Sub P K1 ∧ Rows2 Any w u1 (cseq P H1) ∧ Rows2 Any w v1 (cseq P K1) ∧ (fun x => H1 x ∧ K1 x) = (fun x => H x ∧ K x) ∧
   ((prodU P (cseq P K) (cseq P K).length < prodU P (cseq P H) (cseq P H).length ∧ u1 = .slice av (cseq P K).length capv ∧ v1 = .slice au (cseq P H).length capu) ∨
    (¬ prodU P (cseq P K) (cseq P K).length < prodU P (cseq P H) (cseq P H).length ∧ u1 = .slice au (cseq P H).length capu ∧ v1 = .slice av (cseq P K).length capv)) := by
  have hu' := Rows2.sub hu (S' := Any) (fun _ _ _ => trivial)
  have hv' := Rows2.sub hv (S' := Any) (fun _ _ _ => trivial)
  by_cases h : prodU P (cseq P K) (cseq P K).length < prodU P (cseq P H) (cseq P H).length
  ·exact ⟨K, H, _, _, R, S, hv', hu', funext fun x => propext ⟨fun h => ⟨h.2, h.1⟩, fun h => ⟨h.2, h.1⟩⟩, .inl ⟨h, rfl, rfl⟩⟩
  ·exact ⟨H, K, _, _, S, R, hu', hv', rfl, .inr ⟨h, rfl, rfl⟩⟩
 obtain ⟨H1, K1, u1, v1, S1, R1, hu1, hv1, hHK, hsel⟩ := hsel
 have hlH1 := G.cseq_len S1
 have hE := G.els_sorted S1
 have hs1 := (G.seq_facts S1).1
 have HX := Lib.hid (And.intro hsH (And.intro hsK (And.intro hHK (And.intro hE hs1)))); clear hsH hsK hHK hE hs1
 obtain ⟨E, hEe⟩ : ∃ E, E = elemsIn P H1 := ⟨_, rfl⟩
 have hEl : E.length ≤ 729 := by rw [hEe]; exact elemsIn_len hP H1
 have HE := Lib.hid hEe; clear hEe
 go_enter Tryz.func174, Tryz.ntmps174
 go_wp2_with fail
 refine Calls.mono (sizeOf_ok P hP w _ _ (cseq P H) Sp Su hp hu HX.out.1 (by omega)) ?_
 rintro eA wA ⟨vA, rfl, hgA, rfl⟩
 go_wp2_with fail
 refine Calls.mono (sizeOf_ok P hP wA _ _ (cseq P K) Sp Sv (hp.ext hgA) (Rows2.ext hv hgA) HX.out.2.1 (by omega)) ?_
 rintro eB wB ⟨vB, rfl, hgB, rfl⟩
 have hgw := grown_trans hgA hgB
 obtain ⟨m1, hm1⟩ : ∃ m1, m1 = prodU P (cseq P H) (cseq P H).length := ⟨_, rfl⟩
 obtain ⟨m2, hm2⟩ : ∃ m2, m2 = prodU P (cseq P K) (cseq P K).length := ⟨_, rfl⟩
 rw [← hm1, ← hm2] at hsel ⊢
 clear hm1 hm2 hu hv
 rcases hsel with ⟨hc, rfl, rfl⟩ | ⟨hc, rfl, rfl⟩
 all_goals
  go_wp2_with fail
  clear hc
  refine Calls.mono (newSequence_ok P wB _ Sp (fun _ => False) (hp.ext hgw) hn6) ?_
  rintro e1 w1 ⟨v1, rfl, hg1, sb, gb, rfl, hs⟩
  have hgb := hs.tab.lt
  have hsb := hs.sB
  have hsl := hs.slt
  have hgw1 := grown_trans hgw hg1
  go_wp2_with fail
  refine Calls.mono (elementsOf_ok P G w1 _ _ (cseq P H1) Sp Any (hp.ext hgw1) (Rows2.ext hu1 hgw1) HX.out.2.2.2.2 (by omega)) ?_
  rintro e2 w2 ⟨v2, rfl, hg2, hO⟩
  rw [HX.out.2.2.2.1, ← HE.out] at hO
  have hgw2 := grown_trans hgw1 hg2
  have hER := RowsD.rows (SlO.toD hO (by omega))
  obtain ⟨ae, cape, hve, _, _⟩ := Sl.shape hER
  subst hve
  have hER2 : Rows2 (fun j => w1.heap.size ≤ j) w2 (.slice ae E.length cape) E := hER
  have hs2 := hs.ext hg2
  have hwB := hgw.size
  clear hO hER hs
  go_wp2
  go_loopw [25] (fun iv wr => ∃ (k : Nat) (b : List (List Int)), iv = .int .i64 k ∧ k ≤ E.length ∧ Ext w wr ∧ SeqAt wB.heap.size (fun _ => False) wr sb gb (.pointer (some ⟨pb, po, none⟩)) P.orders.length b ∧ Rows2 (fun j => w1.heap.size ≤ j) wr (.slice ae E.length cape) E ∧ Hid (Ind P (genP P (inTo E K1 k)) (gt b))) (fun iv _ => E.length - (intOf iv).toNat)
  case atStart => exact ⟨0, _, rfl, by omega, hgw2, hs2, hER2, Lib.hid (by rw [inTo_zero, G.genP_none]; exact G.ind_one)⟩
  case round =>
   clear hs2 hER2
   obtain ⟨k, b, rfl, hk, hg, hs, hER, hI⟩ := hrel
   by_cases hlt : k < E.length
   ·have hlt' : (k : Int) < E.length := by omega
    obtain ⟨bb, off, a2, cap2, rfl, _, _, hc, hr⟩ := Rows2.at hER k hlt
    have hXV : Vec P.orders (gt E k) := S1.vec _ ((elemsIn_mem hP S1.vec _).1 (by rw [← HE.out]; exact gtMem hlt))
    have HXV := Lib.hid hXV; clear hXV
    go_wp2_with fail
    clear hc
    refine Calls.mono (isMember_ok P G wr _ _ _ K1 (gt E k) Sp Any _ R1 (hp.ext hg) (Rows2.ext hv1 hg) hr HXV.out) ?_
    rintro e3 w3 ⟨v3, rfl, hg3, r, rfl, hr3⟩
    have hg03 := grown_trans hg hg3
    cases r with
    | false =>
     have hI2 : Hid (Ind P (genP P (inTo E K1 (k + 1))) (gt b)) := Lib.hid (by rw [inTo_skip hlt (fun h => by have := hr3.2 h; cases this)]; exact hI.out)
     have hs3 := hs.ext hg3
     have hER3 := Rows2.ext hER hg3
     clear hr3
     go_wp2
     go_roundw
     case rel => exact ⟨k + 1, b, by go_num, by omega, hg03, hs3, hER3, hI2⟩
     case measure => simp [intOf]; omega
    | true =>
     have hin := inTo_succ hlt (hr3.1 rfl)
     have HIN := Lib.hid hin; clear hin hr3
     have hga : Ext w3 (w3.alloc (.cells #[.slice a2 (gt E k).length cap2] 24)) := World.grownBy_alloc _ _ _
     have hg3s := hg3.size
     have hws := hs.slt
     have hwt := hs.tab.lt
     have hlit := rows2One (S' := fun j => ¬ (j = gb ∨ j = sb)) (Ints.ext hr hg3) (fun j hj hlt => by omega) (by omega)
     have hgwa := grown_trans hg03 hga
     have hadd := add_ok P G (w3.alloc (.cells #[.slice a2 (gt E k).length cap2] 24)) sb gb wB.heap.size _ _ [gt E k] b _ (hp.mono (fun j _ hj => ⟨by omega, Nat.lt_of_lt_of_le hj hgwa.size, hgwa.block j hj (by simp)⟩)) ((hs.ext hg3).ext hga) hI.out (fun x hx => by rw [List.mem_singleton.1 hx]; exact HXV.out) hlit (by simp)
     have HA := Lib.hid hadd; clear hadd
     go_wp2_with fail
     refine Calls.mono HA.out ?_
     rintro e4 w4 ⟨b4, g4, rfl, hg4, hs4, hA4, _, _⟩
     rw [genP_or, HIN.out] at hA4
     have hgw4 : Ext w w4 := grown_own hgwa hg4 (fun j hj hlt => by cases hj; omega)
     have hER4 : Rows2 (fun j => w1.heap.size ≤ j) w4 (.slice (some ⟨bb, off, none⟩) E.length cape) E := Rows2.mono hER (fun j hj hlt => ⟨hj, Nat.lt_of_lt_of_le hlt (Nat.le_trans hg3.size (Nat.le_trans hga.size hg4.size)), (hg4.block j (Nat.lt_of_lt_of_le hlt (Nat.le_trans hg3.size hga.size)) (fun e => by cases e; omega)).trans ((hga.block j (Nat.lt_of_lt_of_le hlt hg3.size) (by simp)).trans (hg3.block j hlt (by simp)))⟩)
     have HA4 := Lib.hid hA4; clear hA4 HA hlit
     go_wp2
     go_roundw
     case rel => exact ⟨k + 1, b4, by go_num, by omega, hgw4, hs4, hER4, HA4⟩
     case measure => simp [intOf]; omega
   ·have hke : k = E.length := by omega
    have hI2 : Hid (Ind P (fun x => H x ∧ K x) (gt b)) := Lib.hid (by
     have h := hI.out
     rw [hke, inTo_all hP S1 E HE.out, genP_self (S1.and R1), HX.out.2.2.1] at h
     exact h)
    subst hke
    clear hI
    go_wp2_with fail
    refine Calls.mono (canonical_ok P G wr sb gb wB.heap.size _ b _ _ _ (hp.ext hg) hs hI2.out) ?_
    rintro e5 w5 ⟨v5, rfl, hg5, hO5⟩
    go_wp2
    go_ret
    exact ⟨_, rfl, grown_trans hg hg5, hO5.weak hg.size⟩
end Go.Proofs.YtdcobapnlpeaaaaGreat
namespace Go.Proofs.YtdcobapnlpeaaaaGreat
open Go.RowKit
def conjL (P : Pr) (L : List (List Int)) (X : List Int) : List (List Int) := L.map (fun y => rConj P y X)
end Go.Proofs.YtdcobapnlpeaaaaGreat
namespace Go.Proofs.YtdcobapnlpeaaaaGreat
open Go.RowKit
open Classical in
noncomputable def inF (E : List (List Int)) (K : List Int → Prop) (k : Nat) : List (List Int) := (E.take k).filter (fun x => decide (K x))
theorem inF_succ {E : List (List Int)} {K : List Int → Prop} {k : Nat} (hk : k < E.length) (hK : K (gt E k)) : inF E K (k + 1) = inF E K k ++ [gt E k] := by
 unfold inF
 rw [take_succ_gt E k hk, List.filter_append]
 simp [hK]
theorem inF_skip {E : List (List Int)} {K : List Int → Prop} {k : Nat} (hk : k < E.length) (hK : ¬ K (gt E k)) : inF E K (k + 1) = inF E K k := by
 unfold inF
 rw [take_succ_gt E k hk, List.filter_append]
 simp [hK]
theorem inF_len (E : List (List Int)) (K : List Int → Prop) (k : Nat) : (inF E K k).length ≤ E.length := by
 unfold inF
 have h1 := List.length_filter_le (fun x => (by classical exact decide (K x) : Bool)) (E.take k)
 rw [List.length_take] at h1
 have : ((E.take k).filter (fun x => (by classical exact decide (K x) : Bool))).length ≤ E.length := by omega
 exact this
theorem inF_mem {P : Pr} (hP : Valid P) {H K : List Int → Prop} (S : Sub P H) {E : List (List Int)} (hE : E = elemsIn P H) (x : List Int) : x ∈ inF E K E.length ↔ (H x ∧ K x) := by
 unfold inF
 rw [List.take_length, hE, List.mem_filter, elemsIn_mem hP S.vec]
 simp
set_option maxRecDepth 100000 in
set_option maxHeartbeats 4000000 in
theorem l13Meet_ok (P : Pr) (G : Grp P) (w : World) (pv uv vv : Value) (H K : List Int → Prop) (Sp Su Sv : Nat → Prop) (S : Sub P H) (R : Sub P K) (hpv : PresV Sp w pv P) (hu : Rows2 Su w uv (cseq P H)) (hv : Rows2 Sv w vv (cseq P K)) :
  Calls Tryz.prog 201 #[pv, uv, vv] w (Ret w fun w' v => Rows2 Any w' v (cseq P (fun x => H x ∧ K x))) := by
 have hP := G.v
 have hn6 := hP.n6
 obtain ⟨vo, vp, vc, rfl, h3⟩ := hpv
 have hp0 := PresP.box h3 28
 have hg0 : Ext w (w.alloc (.cells #[vo, vp, vc] 28)) := World.grownBy_alloc _ _ _
 have hu0 := Rows2.ext hu hg0
 have hv0 := Rows2.ext hv hg0
 obtain ⟨au, capu, rfl, _, _⟩ := Sl.shape hu
 obtain ⟨av, capv, rfl, _, _⟩ := Sl.shape hv
 obtain ⟨vo6, vp6, vc6, _, _, hc0, hc1, hc2, h36⟩ := hp0.at
 simp only [Nat.zero_add] at hc1 hc2
 have hbx : ∀ w', Ext (w.alloc (.cells #[vo, vp, vc] 28)) w' → w'.cell? ⟨w.heap.size, 0, none⟩ = some vo6 ∧ w'.cell? ⟨w.heap.size, 1, none⟩ = some vp6 ∧ w'.cell? ⟨w.heap.size, 2, none⟩ = some vc6 := fun w' h => ⟨h.cell hc0 (by simp), h.cell hc1 (by simp), h.cell hc2 (by simp)⟩
 have HB := Lib.hid hbx; clear hbx hp0 hu hv
 have hE := l12Elements_ok P G (w.alloc (.cells #[vo, vp, vc] 28)) _ _ H Any Su S ⟨_, _, _, rfl, h36⟩ hu0
 obtain ⟨E, hEe⟩ : ∃ E, E = elemsIn P H := ⟨_, rfl⟩
 have hEl : E.length ≤ 729 := by rw [hEe]; exact elemsIn_len hP H
 rw [← hEe] at hE
 have HE := Lib.hid hEe; clear hEe
 go_enter Tryz.func201, Tryz.ntmps201
 go_wp2_with fail
 clear hc0 hc1 hc2
 generalize hw0 : w.alloc (.cells #[vo, vp, vc] 28) = w0 at *
 clear hw0
 refine Calls.mono hE ?_
 rintro e1 w1 ⟨v1, rfl, hg1, hO⟩
 clear hE
 have hER := RowsD.rows (hO.toD (by omega))
 obtain ⟨ae, cape, hve, _, _⟩ := Sl.shape hER
 subst hve
 have hER1 : Rows2 Any w1 (.slice ae E.length cape) E := Rows2.sub hER (fun _ _ _ => trivial)
 clear hO hER
 go_wp2
 go_loopw [8, 9] (fun ov iv wr => ∃ (i : Nat) (v4 : Value), v4 = ov ∧ iv = .int .i64 i ∧ i ≤ E.length ∧ Ext w1 wr ∧ ShQ (fun _ => False) w1.heap.size wr v4 (inF E K i)) (fun _ iv _ => E.length - (intOf iv).toNat)
 case atStart => exact ⟨0, _, rfl, rfl, by omega, World.grownBy_alloc _ _ _, by
  have : inF E K 0 = [] := by simp [inF]
  rw [this]; exact ShQ.lit _ _ _ (Nat.le_refl _)⟩
 case round =>
  obtain ⟨i, v4, rfl, rfl, hi, hg, hQ⟩ := hrel
  have hg0r := grown_trans hg1 hg
  by_cases hlt : i < E.length
  ·have hlt' : (i : Int) < E.length := by omega
   obtain ⟨bb, off, a2, cap2, rfl, _, _, hc, hr⟩ := Rows2.at hER1 i hlt
   have hcr := hg.cell hc (by simp)
   have hXV : Vec P.orders (gt E i) := S.vec _ ((elemsIn_mem hP S.vec _).1 (by rw [← HE.out]; exact gtMem hlt))
   have hfl := inF_len E K i
   have HXV := Lib.hid (And.intro hXV hfl); clear hXV hfl
   have e1 : ∀ w', Ext wr w' → w'.cell? ⟨w.heap.size, 0, none⟩ = some vo6 := fun w' h => (HB.out w' (grown_trans hg0r h)).1
   have e2 : ∀ w', Ext wr w' → w'.cell? ⟨w.heap.size, 1, none⟩ = some vp6 := fun w' h => (HB.out w' (grown_trans hg0r h)).2.1
   have e3 : ∀ w', Ext wr w' → w'.cell? ⟨w.heap.size, 2, none⟩ = some vc6 := fun w' h => (HB.out w' (grown_trans hg0r h)).2.2
   have e4 : ∀ w', Ext wr w' → w'.cell? ⟨bb, off + i, none⟩ = some (.slice a2 (gt E i).length cap2) := fun w' h => h.cell hcr (by simp)
   clear hcr
   go_wp2
   go_region_held3 (fun w' => Ext wr w') (first | exact grown_drew _ _ | assumption)
    (first
     | (go_at_call 278; refine Calls.mono (Calls.rel (w0 := wr) (by assumption) (l12Has_ok P G _ _ _ _ K (gt E i) Any Any Any R ⟨_, _, _, rfl, Pres3.ext h36 (grown_trans hg0r (by assumption))⟩ (Rows2.sub (Rows2.ext hv0 (grown_trans hg0r (by assumption))) (fun _ _ _ => trivial)) (Ints.sub (Ints.ext hr (grown_trans hg (by assumption))) (fun _ _ _ => trivial)) HXV.out.1)) ?_; rintro eA wA ⟨vA, rfl, hgA, hsA, r, rfl, hrA⟩; have HRA := Lib.hid hrA; clear hrA))
   clear e1 e2 e3 e4
   have hgA1 := grown_trans hg hgA
   have hcA := hgA1.cell hc (by simp)
   cases r with
   | false =>
    have hst := inF_skip hlt (fun h => by have := HRA.out.2 h; cases this)
    have HST := Lib.hid hst; clear hst
    go_wp2
    go_roundw
    case rel => exact ⟨i + 1, v4, rfl, by go_num, by omega, hgA1, by rw [HST.out]; exact hQ.ext hgA⟩
    case measure => simp [intOf]; omega
   | true =>
    have hst := inF_succ hlt (HRA.out.1 rfl)
    have HST := Lib.hid hst; clear hst
    have hrA : Ints (fun k => ¬ False ∧ v4.ownBlock ≠ some k) wA (.slice a2 (gt E i).length cap2) (gt E i) := Ints.mono hr (fun k _ hk => ⟨⟨id, fun e => by have := (hQ.lt k e).1; omega⟩, Nat.lt_of_lt_of_le hk hgA1.size, hgA1.block k hk (by simp)⟩)
    go_wp2_with (first | (at_builtin; refine wp_shq_app rfl _ _ rfl (fun _ => False) w1.heap.size v4 _ (inF E K i) (gt E i) rfl wA (hQ.ext hgA) rfl hrA rfl (by have := HXV.out.2; omega) hgA1.size ?_; intro v5 w5 hQ5 hg5 hb5; have hgw5 := grown_own hgA1 hg5 (fun j hj hlt => by have := (hQ.lt j hj).1; omega)) | fail)
    clear hcA
    go_roundw
    case rel => exact ⟨i + 1, v5, rfl, by go_num, by omega, hgw5, by rw [HST.out]; exact hQ5⟩
    case measure => simp [intOf]; omega
  ·have hie : i = E.length := by omega
   subst hie
   have hgen : genP P (fun x => x ∈ inF E K E.length) = fun x => H x ∧ K x := genP_list (S.and R) (inF_mem hP S HE.out)
   have hvec : ∀ x ∈ inF E K E.length, Vec P.orders x := fun x hx => S.vec x ((inF_mem hP S HE.out x).1 hx).1
   have hfl := inF_len E K E.length
   have HG := Lib.hid (And.intro hgen (And.intro hvec hfl)); clear hgen hvec hfl
   obtain ⟨hb0, hb1, hb2⟩ := HB.out wr hg0r
   have hQR := hQ.rows
   obtain ⟨aq, capq, hvq, _, _⟩ := Sl.shape hQR
   subst hvq
   go_wp2_with fail
   clear hb0 hb1 hb2
   refine Calls.mono (l12Close_ok P G wr _ _ (inF E K E.length) Any Any ⟨_, _, _, rfl, Pres3.ext h36 hg0r⟩ hQR HG.out.2.1 (by have := HG.out.2.2; omega)) ?_
   rintro eF wF ⟨vF, rfl, hgF, hRF⟩
   rw [HG.out.1] at hRF
   go_wp2
   go_ret
   exact ⟨_, rfl, grown_trans hg0 (grown_trans hg0r hgF), hRF⟩
end Go.Proofs.YtdcobapnlpeaaaaGreat
namespace Go.Proofs.YtdcobapnlpeaaaaGreat
open Go.RowKit
noncomputable def prodSz (P : Pr) (H K : List Int → Prop) : Int :=
 prodU P (cseq P H) (cseq P H).length * prodU P (cseq P K) (cseq P K).length / prodU P (cseq P (fun x => H x ∧ K x)) (cseq P (fun x => H x ∧ K x)).length
set_option maxRecDepth 100000 in
set_option maxHeartbeats 4000000 in
theorem productSize_ok (P : Pr) (G : Grp P) (w : World) (p uv vv : Value) (H K : List Int → Prop) (Sp Su Sv : Nat → Prop) (S : Sub P H) (R : Sub P K) (hp : PresP Sp w p P) (hu : Rows2 Su w uv (cseq P H)) (hv : Rows2 Sv w vv (cseq P K)) :
  Calls Tryz.prog 172 #[p, uv, vv] w (Ret w fun _ v => v = .int .i64 (prodSz P H K)) := by
 have hP := G.v
 have hn6 := hP.n6
 obtain ⟨pb, po, rfl⟩ := hp.shape
 have hlH := G.cseq_len S
 have hlK := G.cseq_len R
 have hlM := G.cseq_len (S.and R)
 have hsH := (G.seq_facts S).1
 have hsK := (G.seq_facts R).1
 have hsM := (G.seq_facts (S.and R)).1
 have hbH := prodU_729 hP hsH _ (Nat.le_refl _)
 have hbK := prodU_729 hP hsK _ (Nat.le_refl _)
 have hbM := prodU_729 hP hsM _ (Nat.le_refl _)
 have hE : prodSz P H K = prodU P (cseq P H) (cseq P H).length * prodU P (cseq P K) (cseq P K).length / prodU P (cseq P (fun x => H x ∧ K x)) (cseq P (fun x => H x ∧ K x)).length := rfl
 obtain ⟨au, capu, rfl, _, _⟩ := Sl.shape hu
 obtain ⟨av, capv, rfl, _, _⟩ := Sl.shape hv
 obtain ⟨a, ha⟩ : ∃ a, a = prodU P (cseq P H) (cseq P H).length := ⟨_, rfl⟩
 obtain ⟨b, hb⟩ : ∃ b, b = prodU P (cseq P K) (cseq P K).length := ⟨_, rfl⟩
 obtain ⟨c, hc⟩ : ∃ c, c = prodU P (cseq P (fun x => H x ∧ K x)) (cseq P (fun x => H x ∧ K x)).length := ⟨_, rfl⟩
 rw [← ha] at hbH hE
 rw [← hb] at hbK hE
 rw [← hc] at hbM hE
 have hab0 : 0 ≤ a * b := Int.mul_nonneg (by omega) (by omega)
 have hab1 : a * b ≤ 729 * 729 := Int.mul_le_mul (by omega) (by omega) (by omega) (by omega)
 have hq0 : 0 ≤ a * b / c := Int.ediv_nonneg hab0 (by omega)
 have hq1 : a * b / c ≤ a * b := Int.ediv_le_self _ hab0
 have e1 : IntKind.i64.wrap (a * b) = a * b := IntWalk.i64_in _ (by omega)
 have e2 : (a * b).tdiv c = a * b / c := Int.tdiv_eq_ediv_of_nonneg hab0
 have e3 : IntKind.i64.wrap (a * b / c) = a * b / c := IntWalk.i64_in _ (by omega)
 have hc0 : (c == 0) = false := by simp; omega
 have HX := Lib.hid (And.intro hsH (And.intro hsK (And.intro hsM (And.intro hE (And.intro ha (And.intro hb hc)))))); clear hsH hsK hsM hE ha hb hc
 go_enter Tryz.func172, Tryz.ntmps172
 go_wp2_with fail
 refine Calls.mono (sizeOf_ok P hP w _ _ (cseq P H) Sp Su hp hu HX.out.1 (by omega)) ?_
 rintro eA wA ⟨vA, rfl, hgA, rfl⟩
 rw [← HX.out.2.2.2.2.1]
 go_wp2_with fail
 refine Calls.mono (sizeOf_ok P hP wA _ _ (cseq P K) Sp Sv (hp.ext hgA) (Rows2.ext hv hgA) HX.out.2.1 (by omega)) ?_
 rintro eB wB ⟨vB, rfl, hgB, rfl⟩
 rw [← HX.out.2.2.2.2.2.1]
 have hgw := grown_trans hgA hgB
 go_wp2_with fail
 refine Calls.mono (meet_ok P G wB _ _ _ H K Sp Su Sv S R (hp.ext hgw) (Rows2.ext hu hgw) (Rows2.ext hv hgw)) ?_
 rintro eC wC ⟨vC, rfl, hgC, hOC⟩
 have hgwC := grown_trans hgw hgC
 have hMR := RowsD.rows (SlO.toD hOC (by omega))
 obtain ⟨am, capm, hvm, _, _⟩ := Sl.shape hMR
 subst hvm
 go_wp2_with fail
 refine Calls.mono (sizeOf_ok P hP wC _ _ (cseq P (fun x => H x ∧ K x)) Sp _ (hp.ext hgwC) hMR HX.out.2.2.1 (by omega)) ?_
 rintro eD wD ⟨vD, rfl, hgD, rfl⟩
 rw [← HX.out.2.2.2.2.2.2]
 go_wp2
 go_ret
 exact ⟨_, rfl, grown_trans hgwC hgD, by rw [HX.out.2.2.2.1]; rfl⟩
end Go.Proofs.YtdcobapnlpeaaaaGreat
namespace Go.Proofs.YtdcobapnlpeaaaaGreat
open Go.RowKit
set_option maxRecDepth 100000 in
set_option maxHeartbeats 4000000 in
theorem l13Size_ok (P : Pr) (G : Grp P) (w : World) (pv uv vv : Value) (H K : List Int → Prop) (Sp Su Sv : Nat → Prop) (S : Sub P H) (R : Sub P K) (hpv : PresV Sp w pv P) (hu : Rows2 Su w uv (cseq P H)) (hv : Rows2 Sv w vv (cseq P K)) :
  Calls Tryz.prog 173 #[pv, uv, vv] w (Ret w fun _ v => v = .int .i64 (prodSz P H K)) := by
 have hP := G.v
 have hn6 := hP.n6
 have hlH := G.cseq_len S
 have hlK := G.cseq_len R
 have hlM := G.cseq_len (S.and R)
 have hsH := (G.seq_facts S).1
 have hsK := (G.seq_facts R).1
 have hsM := (G.seq_facts (S.and R)).1
 have hbH := prodU_729 hP hsH _ (Nat.le_refl _)
 have hbK := prodU_729 hP hsK _ (Nat.le_refl _)
 have hbM := prodU_729 hP hsM _ (Nat.le_refl _)
 have hE : prodSz P H K = prodU P (cseq P H) (cseq P H).length * prodU P (cseq P K) (cseq P K).length / prodU P (cseq P (fun x => H x ∧ K x)) (cseq P (fun x => H x ∧ K x)).length := rfl
 obtain ⟨vo, vp, vc, rfl, h3⟩ := hpv
 have hp0 := PresP.box h3 28
 have hg0 : Ext w (w.alloc (.cells #[vo, vp, vc] 28)) := World.grownBy_alloc _ _ _
 have hu0 := Rows2.ext hu hg0
 have hv0 := Rows2.ext hv hg0
 obtain ⟨au, capu, rfl, _, _⟩ := Sl.shape hu
 obtain ⟨av, capv, rfl, _, _⟩ := Sl.shape hv
 obtain ⟨vo6, vp6, vc6, _, _, hc0, hc1, hc2, h36⟩ := hp0.at
 simp only [Nat.zero_add] at hc1 hc2
 obtain ⟨a, ha⟩ : ∃ a, a = prodU P (cseq P H) (cseq P H).length := ⟨_, rfl⟩
 obtain ⟨b, hb⟩ : ∃ b, b = prodU P (cseq P K) (cseq P K).length := ⟨_, rfl⟩
 obtain ⟨c, hc⟩ : ∃ c, c = prodU P (cseq P (fun x => H x ∧ K x)) (cseq P (fun x => H x ∧ K x)).length := ⟨_, rfl⟩
 rw [← ha] at hbH hE
 rw [← hb] at hbK hE
 rw [← hc] at hbM hE
 have hab0 : 0 ≤ a * b := Int.mul_nonneg (by omega) (by omega)
 have hab1 : a * b ≤ 729 * 729 := Int.mul_le_mul (by omega) (by omega) (by omega) (by omega)
 have hq0 : 0 ≤ a * b / c := Int.ediv_nonneg hab0 (by omega)
 have hq1 : a * b / c ≤ a * b := Int.ediv_le_self _ hab0
 have e1 : IntKind.i64.wrap (a * b) = a * b := IntWalk.i64_in _ (by omega)
 have e2 : (a * b).tdiv c = a * b / c := Int.tdiv_eq_ediv_of_nonneg hab0
 have e3 : IntKind.i64.wrap (a * b / c) = a * b / c := IntWalk.i64_in _ (by omega)
 have hcz : (c == 0) = false := by simp; omega
 have hcn : ¬ c = 0 := by omega
 have hcp : (0 : Int) < c := by omega
 have HX := Lib.hid (And.intro hsH (And.intro hsK (And.intro hsM (And.intro hE (And.intro ha (And.intro hb hc)))))); clear hsH hsK hsM hE ha hb hc hp0 hu hv
 go_enter Tryz.func173, Tryz.ntmps173
 go_wp2
 generalize hw0 : w.alloc (.cells #[vo, vp, vc] 28) = w0 at *
 clear hw0
 have f1 : ∀ w', Ext w0 w' → w'.cell? ⟨w.heap.size, 0, none⟩ = some vo6 := fun w' h => h.cell hc0 (by simp)
 have f2 : ∀ w', Ext w0 w' → w'.cell? ⟨w.heap.size, 1, none⟩ = some vp6 := fun w' h => h.cell hc1 (by simp)
 have f3 : ∀ w', Ext w0 w' → w'.cell? ⟨w.heap.size, 2, none⟩ = some vc6 := fun w' h => h.cell hc2 (by simp)
 clear hc0 hc1 hc2
 go_region_held3 (fun w' => Ext w0 w') (first | exact grown_drew _ _ | assumption)
  (first
   | (revert hMR; intro hMR; go_at_call 232; refine Calls.mono (Calls.rel (w0 := w0) (by assumption) (l12Order_ok P hP _ _ _ (cseq P (fun x => H x ∧ K x)) Any Any ⟨_, _, _, rfl, Pres3.ext h36 (by assumption)⟩ hMR HX.out.2.2.1 (by omega))) ?_; rintro eD wD ⟨vD, rfl, hgD, hsD, hvD⟩; rw [← HX.out.2.2.2.2.2.2] at hvD; subst hvD)
   | (go_at_call 201; refine Calls.mono (Calls.rel (w0 := w0) (by assumption) (l13Meet_ok P G _ _ _ _ H K Any Any Any S R ⟨_, _, _, rfl, Pres3.ext h36 (by assumption)⟩ (Rows2.sub (Rows2.ext hu0 (by assumption)) (fun _ _ _ => trivial)) (Rows2.sub (Rows2.ext hv0 (by assumption)) (fun _ _ _ => trivial)))) ?_; rintro eC wC ⟨vC, rfl, hgC, hsC, hMR⟩; obtain ⟨am, capm, hvm, _, _⟩ := Sl.shape hMR; subst hvm)
   | (revert hgA; intro hgA; go_at_call 232; refine Calls.mono (Calls.rel (w0 := w0) (by assumption) (l12Order_ok P hP _ _ _ (cseq P K) Any Any ⟨_, _, _, rfl, Pres3.ext h36 (by assumption)⟩ (Rows2.sub (Rows2.ext hv0 (by assumption)) (fun _ _ _ => trivial)) HX.out.2.1 (by omega))) ?_; rintro eB wB ⟨vB, rfl, hgB, hsB, hvB⟩; rw [← HX.out.2.2.2.2.2.1] at hvB; subst hvB)
   | (go_at_call 232; refine Calls.mono (Calls.rel (w0 := w0) (by assumption) (l12Order_ok P hP _ _ _ (cseq P H) Any Any ⟨_, _, _, rfl, Pres3.ext h36 (by assumption)⟩ (Rows2.sub (Rows2.ext hu0 (by assumption)) (fun _ _ _ => trivial)) HX.out.1 (by omega))) ?_; rintro eA wA ⟨vA, rfl, hgA, hsA, hvA⟩; rw [← HX.out.2.2.2.2.1] at hvA; subst hvA))
 clear f1 f2 f3
 go_wp2
 go_ret
 exact ⟨_, rfl, grown_trans hg0 hgD, by rw [HX.out.2.2.2.1]; rfl⟩
end Go.Proofs.YtdcobapnlpeaaaaGreat
namespace Go.Proofs.YtdcobapnlpeaaaaGreat
def twoOk (P : Pr) (U V : List (List Int)) : Prop := rconsB P = true ∧ SubB P U ∧ SubB P V
end Go.Proofs.YtdcobapnlpeaaaaGreat
namespace Go.Proofs.YtdcobapnlpeaaaaGreat
open Go.RowKit
open Classical in
noncomputable def twoC (P : Pr) (U V : List (List Int)) : Int := if twoOk P U V then 0 else 1
open Classical in
noncomputable def pszV (P : Pr) (U V : List (List Int)) : Int := if twoOk P U V then prodSz P (gU P U) (gU P V) else 0
open Classical in
noncomputable def meetL (P : Pr) (U V : List (List Int)) : List (List Int) := if twoOk P U V then cseq P (fun x => gU P U x ∧ gU P V x) else []
theorem two_bad {P : Pr} {U V : List (List Int)} (h : ¬ twoOk P U V) : twoC P U V = 1 ∧ pszV P U V = 0 ∧ meetL P U V = [] := by
 unfold twoC pszV meetL; rw [if_neg h, if_neg h, if_neg h]; exact ⟨rfl, rfl, rfl⟩
theorem two_ok {P : Pr} {U V : List (List Int)} (h : twoOk P U V) : twoC P U V = 0 ∧ pszV P U V = prodSz P (gU P U) (gU P V) ∧ meetL P U V = cseq P (fun x => gU P U x ∧ gU P V x) := by
 unfold twoC pszV meetL; rw [if_pos h, if_pos h, if_pos h]; exact ⟨rfl, rfl, rfl⟩
theorem meetL_len (P : Pr) (U V : List (List Int)) : (meetL P U V).length ≤ 729 := by
 by_cases h : twoOk P U V
 ·have G := grp_of_r h.1
  rw [(two_ok h).2.2]
  have h1 : (cseq P (fun x => gU P U x ∧ gU P V x)).length ≤ P.orders.length := G.cseq_len ((G.subB h.2.1).and (G.subB h.2.2))
  have := G.v.n6
  omega
 ·rw [(two_bad h).2.2]; simp
set_option maxRecDepth 100000 in
set_option maxHeartbeats 4000000 in
theorem iProdSz_ok (P : Pr) (w : World) (pv uv vv : Value) (U V : List (List Int)) (Sp Su Sv : Nat → Prop) (hpv : PresV Sp w pv P) (hu : Rows2 Su w uv U) (hv : Rows2 Sv w vv V) :
  Calls Tryz.prog 74 #[pv, uv, vv] w (Ret w fun _ v => v = .tuple #[.int .i64 (pszV P U V), .int .i64 (twoC P U V)]) := by
 obtain ⟨vo, vp, vc, rfl, h3⟩ := hpv
 have hp0 := PresP.box h3 28
 have hg0 : Ext w (w.alloc (.cells #[vo, vp, vc] 28)) := World.grownBy_alloc _ _ _
 have hs0 : (w.alloc (.cells #[vo, vp, vc] 28)).heap.size = w.heap.size + 1 := by simp
 have hu0 := Rows2.ext hu hg0
 have hv0 := Rows2.ext hv hg0
 obtain ⟨au, capu, rfl, _, _⟩ := Sl.shape hu
 obtain ⟨av, capv, rfl, _, _⟩ := Sl.shape hv
 have hg1 : Ext (w.alloc (.cells #[vo, vp, vc] 28)) ((w.alloc (.cells #[vo, vp, vc] 28)).alloc (.cells #[.slice au U.length capu, .slice av V.length capv] 25)) := World.grownBy_alloc _ _ _
 have hl := rows3Two hu0 hv0
 have hcon := areSubgroups_ok P _ _ _ [U, V] Any Any (hp0.ext hg1) hl
 rw [hs0] at hcon
 clear hl hu hv
 go_enter Tryz.func74, Tryz.ntmps74
 go_wp2_with fail
 refine Calls.mono hcon ?_
 rintro e1 w1 ⟨v1, rfl, hgA, r1, rfl, hr1⟩
 clear hcon
 have hr1 : r1 = true ↔ twoOk P U V := by rw [hr1]; unfold twoOk; simp
 have hg01 := grown_trans hg1 hgA
 have HS := Lib.hid hs0; clear hs0
 generalize hw0 : w.alloc (.cells #[vo, vp, vc] 28) = w0 at *
 clear hw0 hg1 hgA
 cases r1 with
 | false =>
  obtain ⟨hc, hL, _⟩ := two_bad (P := P) (U := U) (V := V) (fun h => by have := hr1.2 h; cases this)
  have HC := Lib.hid (And.intro hc hL); clear hc hL hr1
  go_wp2
  go_ret2
  exact ⟨_, rfl, grown_trans hg0 hg01, by rw [HC.out.1, HC.out.2]; rfl⟩
 | true =>
  have hok := hr1.1 rfl
  have G := grp_of_r hok.1
  obtain ⟨hc, hL, _⟩ := two_ok hok
  have hU := hok.2.1.2
  have hV := hok.2.2.2
  have HC := Lib.hid (And.intro hc (And.intro hL hok)); clear hc hL hr1 hok
  have hu1 : Rows2 Su w1 (.slice au U.length capu) (cseq P (gU P U)) := by rw [← hU]; exact Rows2.ext hu0 hg01
  have hv1 : Rows2 Sv w1 (.slice av V.length capv) (cseq P (gU P V)) := by rw [← hV]; exact Rows2.ext hv0 hg01
  have HUV := Lib.hid (And.intro hU hV); clear hU hV
  go_wp2_with fail
  refine Calls.mono (productSize_ok P G w1 _ _ _ (gU P U) (gU P V) Any Su Sv (G.subB HC.out.2.2.2.1) (G.subB HC.out.2.2.2.2) (hp0.ext hg01) hu1 hv1) ?_
  rintro e2 w2 ⟨v2, rfl, hg2, rfl⟩
  go_wp2
  go_ret2
  exact ⟨_, rfl, grown_trans hg0 (grown_trans hg01 hg2), by rw [HC.out.1, HC.out.2.1]; rfl⟩
set_option maxRecDepth 100000 in
set_option maxHeartbeats 4000000 in
theorem sProdSz_ok (P : Pr) (w : World) (pv uv vv : Value) (U V : List (List Int)) (Sp Su Sv : Nat → Prop) (hpv : PresV Sp w pv P) (hu : Rows2 Su w uv U) (hv : Rows2 Sv w vv V) :
  Calls Tryz.prog 75 #[pv, uv, vv] w (Ret w fun _ v => v = .tuple #[.int .i64 (pszV P U V), .int .i64 (twoC P U V)]) := by
 obtain ⟨vo, vp, vc, rfl, h3⟩ := hpv
 have hp0 := PresP.box h3 28
 have hg0 : Ext w (w.alloc (.cells #[vo, vp, vc] 28)) := World.grownBy_alloc _ _ _
 have hu0 := Rows2.ext hu hg0
 have hv0 := Rows2.ext hv hg0
 obtain ⟨au, capu, rfl, _, _⟩ := Sl.shape hu
 obtain ⟨av, capv, rfl, _, _⟩ := Sl.shape hv
 obtain ⟨vo6, vp6, vc6, _, _, hc0, hc1, hc2, h36⟩ := hp0.at
 simp only [Nat.zero_add] at hc1 hc2
 have hbx : ∀ w', Ext (w.alloc (.cells #[vo, vp, vc] 28)) w' → w'.cell? ⟨w.heap.size, 0, none⟩ = some vo6 ∧ w'.cell? ⟨w.heap.size, 1, none⟩ = some vp6 ∧ w'.cell? ⟨w.heap.size, 2, none⟩ = some vc6 := fun w' h => ⟨h.cell hc0 (by simp), h.cell hc1 (by simp), h.cell hc2 (by simp)⟩
 have HB := Lib.hid hbx; clear hbx
 have hE := l13Two_ok P (w.alloc (.cells #[vo, vp, vc] 28)) _ _ _ U V Any Su Sv ⟨_, _, _, rfl, h36⟩ hu0 hv0
 clear hp0 hu hv
 go_enter Tryz.func75, Tryz.ntmps75
 go_wp2_with fail
 clear hc0 hc1 hc2
 generalize hw0 : w.alloc (.cells #[vo, vp, vc] 28) = w0 at *
 clear hw0
 refine Calls.mono hE ?_
 rintro e1 w1 ⟨v1, rfl, hg1, r1, rfl, hr1⟩
 clear hE
 obtain ⟨hb0, hb1, hb2⟩ := HB.out w1 hg1
 cases r1 with
 | false =>
  obtain ⟨hc, hL, _⟩ := two_bad (P := P) (U := U) (V := V) (fun h => by have := hr1.2 h; cases this)
  have HC := Lib.hid (And.intro hc hL); clear hc hL hr1
  go_wp2
  go_ret2
  exact ⟨_, rfl, grown_trans hg0 hg1, by rw [HC.out.1, HC.out.2]; rfl⟩
 | true =>
  have hok : twoOk P U V := hr1.1 rfl
  have G := grp_of_r hok.1
  obtain ⟨hc, hL, _⟩ := two_ok hok
  have hU := hok.2.1.2
  have hV := hok.2.2.2
  have HC := Lib.hid (And.intro hc (And.intro hL hok)); clear hc hL hr1 hok
  have hu1 : Rows2 Su w1 (.slice au U.length capu) (cseq P (gU P U)) := by rw [← hU]; exact Rows2.ext hu0 hg1
  have hv1 : Rows2 Sv w1 (.slice av V.length capv) (cseq P (gU P V)) := by rw [← hV]; exact Rows2.ext hv0 hg1
  have HUV := Lib.hid (And.intro hU hV); clear hU hV
  go_wp2_with fail
  clear hb0 hb1 hb2
  refine Calls.mono (l13Size_ok P G w1 _ _ _ (gU P U) (gU P V) Any Su Sv (G.subB HC.out.2.2.2.1) (G.subB HC.out.2.2.2.2) ⟨_, _, _, rfl, Pres3.ext h36 hg1⟩ hu1 hv1) ?_
  rintro e2 w2 ⟨v2, rfl, hg2, rfl⟩
  go_wp2
  go_ret2
  exact ⟨_, rfl, grown_trans hg0 (grown_trans hg1 hg2), by rw [HC.out.1, HC.out.2.1]; rfl⟩
set_option maxRecDepth 100000 in
set_option maxHeartbeats 4000000 in
theorem iMeet_ok (P : Pr) (w : World) (pv uv vv : Value) (U V : List (List Int)) (Sp Su Sv : Nat → Prop) (hpv : PresV Sp w pv P) (hu : Rows2 Su w uv U) (hv : Rows2 Sv w vv V) :
  Calls Tryz.prog 76 #[pv, uv, vv] w (Ret w fun w' v => ∃ a n c, v = .tuple #[.slice a n c, .int .i64 (twoC P U V)] ∧ RowsO w.heap.size w' (.slice a n c) (meetL P U V)) := by
 obtain ⟨vo, vp, vc, rfl, h3⟩ := hpv
 have hp0 := PresP.box h3 28
 have hg0 : Ext w (w.alloc (.cells #[vo, vp, vc] 28)) := World.grownBy_alloc _ _ _
 have hs0 : (w.alloc (.cells #[vo, vp, vc] 28)).heap.size = w.heap.size + 1 := by simp
 have hu0 := Rows2.ext hu hg0
 have hv0 := Rows2.ext hv hg0
 obtain ⟨au, capu, rfl, _, _⟩ := Sl.shape hu
 obtain ⟨av, capv, rfl, _, _⟩ := Sl.shape hv
 have hg1 : Ext (w.alloc (.cells #[vo, vp, vc] 28)) ((w.alloc (.cells #[vo, vp, vc] 28)).alloc (.cells #[.slice au U.length capu, .slice av V.length capv] 25)) := World.grownBy_alloc _ _ _
 have hl := rows3Two hu0 hv0
 have hcon := areSubgroups_ok P _ _ _ [U, V] Any Any (hp0.ext hg1) hl
 rw [hs0] at hcon
 clear hl hu hv
 go_enter Tryz.func76, Tryz.ntmps76
 go_wp2_with fail
 refine Calls.mono hcon ?_
 rintro e1 w1 ⟨v1, rfl, hgA, r1, rfl, hr1⟩
 clear hcon
 have hr1 : r1 = true ↔ twoOk P U V := by rw [hr1]; unfold twoOk; simp
 have hg01 := grown_trans hg1 hgA
 have HS := Lib.hid hs0; clear hs0
 generalize hw0 : w.alloc (.cells #[vo, vp, vc] 28) = w0 at *
 clear hw0 hg1 hgA
 cases r1 with
 | false =>
  obtain ⟨hc, _, hL⟩ := two_bad (P := P) (U := U) (V := V) (fun h => by have := hr1.2 h; cases this)
  have HC := Lib.hid (And.intro hc hL); clear hc hL hr1
  go_wp2
  go_ret2
  exact ⟨_, rfl, grown_trans hg0 hg01, none, 0, 0, by rw [HC.out.1]; rfl, by rw [HC.out.2]; exact SlO.nil _ _ _ _⟩
 | true =>
  have hok := hr1.1 rfl
  have G := grp_of_r hok.1
  have hn6 := G.v.n6
  obtain ⟨hc, _, hL⟩ := two_ok hok
  have hU := hok.2.1.2
  have hV := hok.2.2.2
  have hml := meetL_len P U V
  have HC := Lib.hid (And.intro hc (And.intro hL hok)); clear hc hL hr1 hok
  have hu1 : Rows2 Su w1 (.slice au U.length capu) (cseq P (gU P U)) := by rw [← hU]; exact Rows2.ext hu0 hg01
  have hv1 : Rows2 Sv w1 (.slice av V.length capv) (cseq P (gU P V)) := by rw [← hV]; exact Rows2.ext hv0 hg01
  have HUV := Lib.hid (And.intro hU hV); clear hU hV
  go_wp2_with fail
  refine Calls.mono (meet_ok P G w1 _ _ _ (gU P U) (gU P V) Any Su Sv (G.subB HC.out.2.2.2.1) (G.subB HC.out.2.2.2.2) (hp0.ext hg01) hu1 hv1) ?_
  rintro e2 w2 ⟨v2, rfl, hg2, hO⟩
  rw [← HC.out.2.1] at hO
  obtain ⟨az, capz, hvz, _, _⟩ := SlD.shape (hO.toD (by omega))
  subst hvz
  have hs1 := hg01.size
  go_wp2
  go_ret2
  exact ⟨_, rfl, grown_trans hg0 (grown_trans hg01 hg2), _, _, _, by rw [HC.out.1]; rfl, hO.weak (by have := HS.out; omega)⟩
end Go.Proofs.YtdcobapnlpeaaaaGreat
namespace Go.Proofs.YtdcobapnlpeaaaaGreat
open Go.Proofs Go.Shelf Go.RowKit Go.Lib
def Tryz.growRows_ren : Go.Shelf.Ren := ⟨fun | 4 => 253 | n => n, fun | 22 => 25 | 25 => 24 | 3 => 3 | 4 => 4 | 9 => 9 | 20 => 20 | 0 => 0 | n => n, fun | n => n⟩
theorem Tryz.growRows : Go.Proofs.Lays8.n4 Tryz.prog Tryz.growRows_ren := {
  mixed := by kernel_rfl
  f4 := ⟨Tryz.f253.name, by decide, Tryz.func253.trans (congrArg some (by kernel_rfl))⟩
  t0 := Tryz.underlying0
  a0 := Tryz.isAgg0
  z0 := Tryz.sizeOf0
  v0 := Tryz.zeroValue0
  t3 := Tryz.underlying3
  a3 := Tryz.isAgg3
  z3 := Tryz.sizeOf3
  v3 := Tryz.zeroValue3
  t4 := Tryz.underlying4
  a4 := Tryz.isAgg4
  z4 := Tryz.sizeOf4
  v4 := Tryz.zeroValue4
  t9 := Tryz.underlying9
  a9 := Tryz.isAgg9
  z9 := Tryz.sizeOf9
  v9 := Tryz.zeroValue9
  t20 := Tryz.underlying20
  a20 := Tryz.isAgg20
  z20 := Tryz.sizeOf20
  v20 := Tryz.zeroValue20
  t22 := Tryz.underlying25
  a22 := Tryz.isAgg25
  z22 := Tryz.sizeOf25
  v22 := Tryz.zeroValue25 }
theorem growRows_ok (n : Nat) (hn : n ≤ 1000000) (w : World) : Calls Tryz.prog 253 #[.slice none 0 0, .int .i64 n] w (Ret w fun w' v => OwnV w.heap.size 24 w' v []) := by
 rcases Nat.eq_zero_or_pos n with rfl | h0
 ·have h := Any8.slices_Grow_room Tryz.growRows none 0 0 0 w (by omega) (by omega) (by omega) (by omega)
  change Calls Tryz.prog 253 _ _ _ at h
  refine h.mono ?_
  rintro e w' ⟨rfl, rfl⟩
  exact ⟨_, rfl, Ext.refl _, World.ownsRow_nil _ _ _ _⟩
 ·obtain ⟨i0, hi, hz0, hz1, hz2⟩ := info_parts Tryz.infoRow
  have hmax : 0 + n ≤ maxLen := by unfold maxLen; omega
  have h := Any8.slices_Grow_grow Tryz.growRows i0 (.slice none 0 0) hi hz0 (by rw [hz1]; decide) none 0 0 n [] w (by omega) (by omega) (by rw [hz2]; omega) (by omega) (by simp) (fun _ => rfl) (fun a ha => by cases ha)
  change Calls Tryz.prog 253 _ _ _ at h
  refine h.mono ?_
  rintro e w' ⟨rfl, rfl⟩
  have hge := grownCap_ge w (0 + n) 0 24
  have hle := grownCap_le_maxLen w (0 + n) 0 24 hmax
  refine ⟨_, rfl, grown_trans (grown_drew w none) (World.grownBy_alloc _ _ _), rfl, .inr ⟨w.heap.size, _, _, rfl, Nat.le_refl _, Array.getElem?_push_size (xs := w.heap), Nat.zero_le _, hle, ?_, by simp⟩⟩
  simp only [Array.size_append, size_zeroCells, List.size_toArray, List.length_nil]
  have e1 : (Value.cells (.slice none 0 0)).size = 1 := rfl
  have hge2 : 0 + n ≤ grownCap w (0 + n) 0 24 := hge
  rw [e1]
  show 0 + (0 + n - 0) * 1 + (grownCap w (0 + n) 0 24 - (0 + n)) * 1 = grownCap w (0 + n) 0 24 * 1
  omega
end Go.Proofs.YtdcobapnlpeaaaaGreat
namespace Go.Proofs.YtdcobapnlpeaaaaGreat
open Go.RowKit
def flatTo (us : List (List (List Int))) : Nat → List (List Int)
 | 0 => []
 | k + 1 => flatTo us k ++ gt us k
theorem flatTo_len (us : List (List (List Int))) (b : Nat) (h : ∀ u ∈ us, u.length ≤ b) (k : Nat) (hk : k ≤ us.length) : (flatTo us k).length ≤ b * k := by
 induction k with
 | zero => simp [flatTo]
 | succ k ih =>
  have h1 := ih (by omega)
  have h2 := h _ (gt_mem (l := us) (i := k) (by omega))
  simp only [flatTo, List.length_append, Nat.mul_succ]; omega
set_option maxRecDepth 100000 in
set_option maxHeartbeats 4000000 in
theorem concatRows_ok (w : World) (lv : Value) (us : List (List (List Int))) (Sr : Nat → Prop) (hl : Rows3 Sr w lv us) (hb : ∀ u ∈ us, u.length ≤ 1000) (hn : us.length ≤ 100) :
  Calls Tryz.prog 175 #[lv] w (Ret w fun w' v => Rows2 Any w' v (flatTo us us.length)) := by
 obtain ⟨al, capl, rfl, _, _⟩ := Sl.shape hl
 have hfl : ∀ k, k ≤ us.length → (flatTo us k).length ≤ 100000 := fun k hk => by have := flatTo_len us 1000 hb k hk; omega
 have HF := Lib.hid (And.intro hfl hb); clear hfl hb
 go_enter Tryz.func175, Tryz.ntmps175
 go_wp2
 go_loopw [3, 11] (fun sv iv wr => ∃ k : Nat, sv = .int .i64 ((flatTo us k).length : Nat) ∧ iv = .int .i64 k ∧ k ≤ us.length ∧ w = wr) (fun _ iv _ => us.length - (intOf iv).toNat)
 case atStart => exact ⟨0, rfl, rfl, by omega, rfl⟩
 case round =>
  obtain ⟨k, rfl, rfl, hk, rfl⟩ := hrel
  have hfk := HF.out.1 k hk
  by_cases hlt : k < us.length
  ·have hlt' : (k : Int) < us.length := by omega
   obtain ⟨b, off, a2, cap2, rfl, _, _, hc, hr⟩ := Rows3.at hl k hlt
   have hfk2 := HF.out.1 (k + 1) hlt
   have hst : (flatTo us (k + 1)).length = (flatTo us k).length + (gt us k).length := by simp only [flatTo, List.length_append]
   obtain ⟨m, hm⟩ : ∃ m, m = (flatTo us k).length := ⟨_, rfl⟩
   obtain ⟨m2, hm2⟩ : ∃ m2, m2 = (gt us k).length := ⟨_, rfl⟩
   rw [← hm] at hfk hst ⊢
   rw [← hm2] at hc hr hst
   have hmm : m + m2 ≤ 100000 := by omega
   have hw : IntKind.i64.wrap ((m : Int) + (m2 : Int)) = ((m + m2 : Nat) : Int) := by rw [IntWalk.i64_in _ (by omega)]; omega
   have hnn : ¬ ((m + m2 : Nat) : Int) < 0 := by omega
   have HS := Lib.hid (And.intro hst (And.intro hm hm2)); clear hst hm hm2 hfk2
   go_wp2
   go_roundw
   case rel => exact ⟨k + 1, by rw [HS.out.1, Int.natCast_add], by go_num, by omega, trivial⟩
   case measure => simp [intOf]; omega
  ·have hke : k = us.length := by omega
   subst hke
   obtain ⟨m, hm⟩ : ∃ m, m = (flatTo us us.length).length := ⟨_, rfl⟩
   rw [← hm] at hfk ⊢
   clear hm
   go_wp2_with fail
   refine Calls.mono (growRows_ok m (by omega) w) ?_
   rintro e1 w1 ⟨v1, rfl, hg1, hO1⟩
   go_wp2
   go_loopw [6, 27] (fun ov iv wr => ∃ (k : Nat) (v4 : Value) (vs : List Value), v4 = ov ∧ iv = .int .i64 k ∧ k ≤ us.length ∧ Ext w wr ∧ OwnV w.heap.size 24 wr v4 vs ∧ Hid (vs.length = (flatTo us k).length ∧ ∀ i, i < vs.length → Ints Any w (gt vs i) (gt (flatTo us k) i))) (fun _ iv _ => us.length - (intOf iv).toNat)
   case atStart => exact ⟨0, v1, [], rfl, rfl, by omega, hg1, hO1, Lib.hid ⟨rfl, fun i hi => by simp at hi⟩⟩
   case round =>
    clear hO1
    obtain ⟨k, v4, vs, rfl, rfl, hk, hg, hO, hV⟩ := hrel
    by_cases hlt : k < us.length
    ·have hlt' : (k : Int) < us.length := by omega
     obtain ⟨b, off, a2, cap2, rfl, _, _, hc, hr⟩ := Rows3.at hl k hlt
     have hcr := hg.cell hc (by simp)
     obtain ⟨vs2, hvl2, hvs2⟩ := Sl.vals hr
     have hnil : a2 = none → cap2 = 0 := by
      obtain ⟨a', cap', hv, hl', _⟩ := hr
      cases hv; exact hl'.2.2
     have hlk := HF.out.2 _ (gt_mem hlt)
     have hfk := HF.out.1 k hk
     have hnews : ∀ j, j < (gt us k).length → ∃ b off, a2 = some ⟨b, off, none⟩ ∧ wr.cell? ⟨b, off + j, none⟩ = some (gt vs2 j) := fun j hj => by
      obtain ⟨⟨b, off, h1, h2⟩, _⟩ := hvs2 j hj
      exact ⟨b, off, h1, hg.cell h2 (by simp)⟩
     have hone : ∀ u, u ∈ vs2 → u.oneCell' = true := fun u hu => by
      obtain ⟨j, hj, rfl⟩ := List.getElem_of_mem hu
      rw [← gt_eq vs2 j hj]
      exact rdInts.one (hvs2 j (by omega)).2
     have hnew : Hid ((vs ++ vs2).length = (flatTo us (k + 1)).length ∧ ∀ i, i < (vs ++ vs2).length → Ints Any w (gt (vs ++ vs2) i) (gt (flatTo us (k + 1)) i)) := by
      refine Lib.hid ⟨by simp only [List.length_append, flatTo, hV.out.1, hvl2], fun i hi => ?_⟩
      simp only [flatTo]
      by_cases h : i < vs.length
      ·rw [gt_append_left _ _ _ h, gt_append_left _ _ _ (by rw [← hV.out.1]; exact h)]
       exact hV.out.2 i h
      ·have hi2 : i - vs.length < (gt us k).length := by simp only [List.length_append] at hi; omega
       have e1 : gt (vs ++ vs2) i = gt vs2 (i - vs.length) := by
        simp only [gt, List.getD_eq_getElem?_getD]
        rw [List.getElem?_append_right (by omega)]
       have e2 : gt (flatTo us k ++ gt us k) i = gt (gt us k) (i - vs.length) := by
        rw [hV.out.1]
        simp only [gt, List.getD_eq_getElem?_getD]
        rw [List.getElem?_append_right (by rw [← hV.out.1]; omega)]
       rw [e1, e2]
       exact Ints.sub (hvs2 _ hi2).2 (fun _ _ _ => trivial)
     have hlen : vs.length + (gt us k).length ≤ 2147483648 := by rw [hV.out.1]; omega
     have HN := Lib.hid (And.intro hnews (And.intro hone (And.intro hvl2 (And.intro hnil hlen)))); clear hnews hone hvl2 hvs2 hlen hnil hlk hfk hc
     go_wp2_with (first | (at_builtin; refine wp_app 25 24 (.slice none 0 0) 24 und_rows Tryz.infoRow rfl (by decide) rfl _ _ rfl w.heap.size v4 vs rfl hO a2 (gt us k).length cap2 vs2 rfl HN.out.2.2.1 HN.out.2.2.2.1 HN.out.1 HN.out.2.1 HN.out.2.2.2.2 hg.size ?_; intro v5 w5 hO5 hg5 _ _; have hgw5 := grown_own hg hg5 (fun j hj hlt => by have := (hO.lt j hj).1; omega)) | fail)
     clear hcr
     go_roundw
     case rel => exact ⟨k + 1, v5, _, rfl, by go_num, by omega, hgw5, hO5, hnew⟩
     case measure => simp [intOf]; omega
    ·have hke : k = us.length := by omega
     subst hke
     have hR : Rows2 Any wr v4 (flatTo us us.length) := by
      have hl9 := HF.out.1 us.length (Nat.le_refl _)
      rcases hO.form with ⟨rfl, rfl⟩ | ⟨g, cp, rfl, hcp, hgB, hgs⟩
      ·have h0 : flatTo us us.length = [] := List.eq_nil_of_length_eq_zero hV.out.1.symm
       rw [h0]
       exact ⟨none, 0, rfl, ⟨by simp, by simp, fun _ => rfl⟩, fun i hi => by simp at hi⟩
      ·refine ⟨_, cp, by rw [hV.out.1], ⟨by rw [← hV.out.1]; exact hcp, by omega, fun h => by cases h⟩, fun i hi => ⟨g, 0, gt vs i, rfl, trivial, hgs, ?_, ?_⟩⟩
       ·rw [Nat.zero_add]; exact hO.cell i (by rw [hV.out.1]; exact hi)
       ·exact Ints.ext (hV.out.2 i (by rw [hV.out.1]; exact hi)) hg
     obtain ⟨az, capz, hvz, _, _⟩ := Sl.shape hR
     subst hvz
     clear hV hO
     go_wp2
     go_ret
     exact ⟨_, rfl, hg, hR⟩
end Go.Proofs.YtdcobapnlpeaaaaGreat
namespace Go.Proofs.YtdcobapnlpeaaaaGreat
open Go.RowKit
set_option maxRecDepth 100000 in
set_option maxHeartbeats 4000000 in
theorem iJoin_ok (P : Pr) (hr : rconsB P = true) (w : World) (pv uv vv : Value) (U V : List (List Int)) (Sp Su Sv : Nat → Prop) (hpv : PresV Sp w pv P) (hu : Rows2 Su w uv U) (hv : Rows2 Sv w vv V) (hU : SubB P U) (hV : SubB P V) :
  Calls Tryz.prog 77 #[pv, uv, vv] w (Ret w fun w' v => ∃ a n c, v = .tuple #[.slice a n c, .int .i64 0] ∧ RowsO w.heap.size w' (.slice a n c) (cseq P (gU P (U ++ V)))) := by
 have G := grp_of_r hr
 have hn6 := G.v.n6
 obtain ⟨vo, vp, vc, rfl, h3⟩ := hpv
 have hp0 := PresP.box h3 28
 have hg0 : Ext w (w.alloc (.cells #[vo, vp, vc] 28)) := World.grownBy_alloc _ _ _
 have hs0 : (w.alloc (.cells #[vo, vp, vc] 28)).heap.size = w.heap.size + 1 := by simp
 have hu0 := Rows2.ext hu hg0
 have hv0 := Rows2.ext hv hg0
 obtain ⟨au, capu, rfl, _, _⟩ := Sl.shape hu
 obtain ⟨av, capv, rfl, _, _⟩ := Sl.shape hv
 have hg1 : Ext (w.alloc (.cells #[vo, vp, vc] 28)) ((w.alloc (.cells #[vo, vp, vc] 28)).alloc (.cells #[.slice au U.length capu, .slice av V.length capv] 25)) := World.grownBy_alloc _ _ _
 have hl := rows3Two hu0 hv0
 have hcon := areSubgroups_ok P _ _ _ [U, V] Any Any (hp0.ext hg1) hl
 rw [hs0] at hcon
 clear hl hu hv
 have hulU : U.length ≤ P.orders.length := G.sub_len hU
 have hulV : V.length ≤ P.orders.length := G.sub_len hV
 have HH := Lib.hid (And.intro hr (And.intro hU ( And.intro hV ((trivial : True))))); clear hr hU hV
 go_enter Tryz.func77, Tryz.ntmps77
 go_wp2_with fail
 refine Calls.mono hcon ?_
 rintro e1 w1 ⟨v1, rfl, hgA, r1, rfl, hr1⟩
 clear hcon
 obtain rfl : r1 = true := hr1.2 (by have := HH.out; simp only [List.mem_cons, List.mem_nil_iff, or_false]; exact ⟨this.1, fun u hu => by rcases hu with rfl | rfl; exact this.2.1; exact this.2.2.1⟩)
 clear hr1
 have hg01 := grown_trans hg1 hgA
 have HS := Lib.hid hs0; clear hs0
 generalize hw0 : (w.alloc (.cells #[vo, vp, vc] 28)) = w0 at *
 clear hw0 hg1 hgA
 have hp1 := hp0.ext hg01
 have hu1 := Rows2.ext hu0 hg01
 have hv1 := Rows2.ext hv0 hg01
 have hUVv : ∀ x ∈ U ++ V, Vec P.orders x := fun x hx => (List.mem_append.1 hx).elim (HH.out.2.1.1 x) (HH.out.2.2.1.1 x)
 have HVV := Lib.hid hUVv; clear hUVv
 have hga : Ext w1 (w1.alloc (.cells #[.slice au U.length capu, .slice av V.length capv] 25)) := World.grownBy_alloc _ _ _
 have hlit := rows3Two hu1 hv1
 have hcc := concatRows_ok (w1.alloc (.cells #[.slice au U.length capu, .slice av V.length capv] 25)) _ [U, V] Any hlit (fun u hu => by simp at hu; rcases hu with rfl | rfl <;> omega) (by simp)
 have hfl : flatTo [U, V] [U, V].length = U ++ V := by simp [flatTo, gt]
 rw [hfl] at hcc
 have HCC := Lib.hid hcc; clear hcc hlit hfl
 go_wp2_with fail
 refine Calls.mono HCC.out ?_
 rintro e3 w3 ⟨v3, rfl, hg3, hR3⟩
 clear HCC
 have hg03 := grown_trans hg01 (grown_trans hga hg3)
 obtain ⟨ac, capc, hvc, _, _⟩ := Sl.shape hR3
 rw [List.length_append] at hvc
 subst hvc
 go_wp2_with fail
 refine Calls.mono (generated_ok P G w3 _ _ (U ++ V) Any Any (hp0.ext hg03) hR3 HVV.out (by rw [List.length_append]; omega)) ?_
 rintro e4 w4 ⟨v4, rfl, hg4, hO4⟩
 have hS4 : Sub P (gU P (U ++ V)) := G.genP_sub HVV.out
 have hcl : (cseq P (gU P (U ++ V))).length ≤ P.orders.length := G.cseq_len hS4
 obtain ⟨ad, nd, capd, hvd⟩ : ∃ a n c, v4 = .slice a n c := by
  obtain ⟨a, c, h⟩ := RowsO.shapeC hO4 (by show (cseq P (gU P (U ++ V))).length ≤ _; omega)
  exact ⟨a, _, c, h⟩
 subst hvd
 have hg04 := grown_trans hg03 hg4
 go_wp2
 go_ret2
 exact ⟨_, rfl, grown_trans hg0 hg04, _, _, _, rfl, hO4.weak (by have := hg03.size; have := hg0.size; omega)⟩
end Go.Proofs.YtdcobapnlpeaaaaGreat
namespace Go.Proofs.YtdcobapnlpeaaaaGreat
open Go.RowKit
section
variable {P : Pr} (G : Grp P)
include G
theorem Grp.order_elems {H : List Int → Prop} (S : Sub P H) : prodU P (cseq P H) (cseq P H).length = (elemsIn P H).length := by
 rw [← G.els_sorted S, (sortL_perm _).length_eq]
 exact (elsP_len G.v (G.seq_facts S).1 _ (Nat.le_refl _)).symm
omit G in
theorem elemsIn_nodup {P : Pr} (hP : Valid P) (H : List Int → Prop) : (elemsIn P H).Nodup :=
 List.nodup_iff_pairwise_ne.2 ((elemsIn_asc hP H).imp (fun {a b} h e => by subst e; omega))
end
section
variable {P : Pr} (G : Grp P)
include G
end
end Go.Proofs.YtdcobapnlpeaaaaGreat
namespace Go.Proofs.YtdcobapnlpeaaaaGreat
def El {P : Pr} (_ : Grp P) : Type := {x : List Int // Vec P.orders x}
section
variable {P : Pr} {G : Grp P}
instance : Mul (El G) := ⟨fun x y => ⟨rMul P x.1 y.1, G.mulV x.2 y.2⟩⟩
instance : One (El G) := ⟨⟨zeros P.orders.length, G.oneV⟩⟩
instance : Inv (El G) := ⟨fun x => ⟨rInv P x.1, G.invV x.2⟩⟩
theorem El.ass (x y z : El G) : x * y * z = x * (y * z) := Subtype.ext (G.ass x.2 y.2 z.2)
theorem El.ol (x : El G) : 1 * x = x := Subtype.ext (G.grp.el _ x.2)
theorem El.or (x : El G) : x * 1 = x := Subtype.ext (G.grp.er _ x.2)
theorem El.il (x : El G) : x⁻¹ * x = 1 := Subtype.ext (G.inv_mul x.2)
theorem El.ir (x : El G) : x * x⁻¹ = 1 := Subtype.ext (G.mul_inv x.2)
theorem El.ilc (x y : El G) : x⁻¹ * (x * y) = y := by rw [← El.ass, El.il, El.ol]
theorem El.irc (x y : El G) : x * (x⁻¹ * y) = y := by rw [← El.ass, El.ir, El.ol]
theorem El.inv_of {x y : El G} (h : x * y = 1) : y = x⁻¹ := by rw [← El.ilc x y, h, El.or]
theorem El.mi (x y : El G) : (x * y)⁻¹ = y⁻¹ * x⁻¹ := (El.inv_of (by rw [El.ass, El.irc, El.ir])).symm
theorem El.ii (x : El G) : x⁻¹⁻¹ = x := (El.inv_of (El.il x)).symm
structure SG (H : El G → Prop) : Prop where
 one : H 1
 mul : ∀ x y, H x → H y → H (x * y)
 inv : ∀ x, H x → H x⁻¹
theorem els_ex (G : Grp P) : ∃ l : List (El G), l.Nodup ∧ ∀ x, x ∈ l := by
 have key : ∀ m : List (List Int), m.Nodup → ∃ l : List (El G), l.Nodup ∧ ∀ x : El G, x ∈ l ↔ x.1 ∈ m := by
  intro m
  induction m with
  | nil => intro _; exact ⟨[], List.nodup_nil, fun x => by simp⟩
  | cons a m ih =>
   intro h
   obtain ⟨h1, h2⟩ := List.nodup_cons.1 h
   obtain ⟨l, hl, hm⟩ := ih h2
   by_cases ha : Vec P.orders a
   ·obtain ⟨y, hy⟩ : ∃ y : El G, y.1 = a := ⟨⟨a, ha⟩, rfl⟩
    refine ⟨y :: l, List.nodup_cons.2 ⟨fun hh => h1 (hy ▸ (hm _).1 hh), hl⟩, fun x => ?_⟩
    rw [List.mem_cons, List.mem_cons, hm x]
    exact ⟨fun hh => hh.elim (fun e => .inl (by rw [e]; exact hy)) .inr, fun hh => hh.elim (fun e => .inl (Subtype.ext (e.trans hy.symm))) .inr⟩
   ·refine ⟨l, hl, fun x => ?_⟩
    rw [hm x, List.mem_cons]
    exact ⟨.inr, fun hh => hh.elim (fun e => absurd (e ▸ x.2) ha) id⟩
 obtain ⟨l, h1, h2⟩ := key (elemsIn P (Vec P.orders)) (elemsIn_nodup G.v _)
 exact ⟨l, h1, fun x => (h2 x).2 ((elemsIn_mem G.v (fun _ h => h)) x.1 |>.2 x.2)⟩
noncomputable def els (G : Grp P) : List (El G) := Classical.choose (els_ex G)
theorem els_nodup (G : Grp P) : (els G).Nodup := (Classical.choose_spec (els_ex G)).1
theorem els_mem (G : Grp P) (x : El G) : x ∈ els G := (Classical.choose_spec (els_ex G)).2 x
open Classical in
noncomputable def elsIn (H : El G → Prop) : List (El G) := (els G).filter (fun x => decide (H x))
theorem elsIn_nodup (H : El G → Prop) : (elsIn H).Nodup := (els_nodup G).filter _
theorem elsIn_mem {H : El G → Prop} {x : El G} : x ∈ elsIn H ↔ H x := by
 classical
 unfold elsIn; rw [List.mem_filter, decide_eq_true_iff]; exact ⟨fun h => h.2, fun h => ⟨els_mem G x, h⟩⟩
noncomputable def cd (H : El G → Prop) : Nat := (elsIn H).length
theorem cd_list {H : El G → Prop} {l : List (El G)} (h1 : l.Nodup) (h2 : ∀ x, x ∈ l ↔ H x) : cd H = l.length :=
 ((List.perm_ext_iff_of_nodup (elsIn_nodup H) h1).2 (fun x => elsIn_mem.trans (h2 x).symm)).length_eq
theorem cd_pos {H : El G → Prop} (S : SG H) : 0 < cd H := List.length_pos_of_mem (elsIn_mem.2 S.one)
def eqv (N : El G → Prop) (x y : El G) : Prop := N (x⁻¹ * y)
theorem eqv_refl {N : El G → Prop} (S : SG N) (x : El G) : eqv N x x := by unfold eqv; rw [El.il]; exact S.one
theorem eqv_symm {N : El G → Prop} (S : SG N) {x y : El G} (h : eqv N x y) : eqv N y x := by
 have := S.inv _ h
 rwa [El.mi, El.ii] at this
theorem eqv_trans {N : El G → Prop} (S : SG N) {x y z : El G} (h : eqv N x y) (k : eqv N y z) : eqv N x z := by
 have := S.mul _ _ h k
 rwa [El.ass, El.irc] at this
theorem flat_len {α β : Type} (l : List α) (f : α → List β) (n : Nat) (h : ∀ x ∈ l, (f x).length = n) : (l.flatMap f).length = l.length * n := flatMap_len' l f n h
theorem cd_mul {N B : El G → Prop} (S : SG N) {ts : List (El G)} (hn : ts.Nodup) (hc : ∀ t ∈ ts, ∀ n, N n → B (t * n)) (h1 : ∀ t ∈ ts, ∀ u ∈ ts, eqv N t u → t = u) (h2 : ∀ x, B x → ∃ t ∈ ts, eqv N t x) : cd B = ts.length * cd N := by
 rw [cd_list (H := B) (l := ts.flatMap (fun t => (elsIn N).map (fun n => t * n))) ?_ ?_]
 ·exact flat_len _ _ _ (fun x _ => List.length_map ..)
 ·refine List.nodup_iff_pairwise_ne.2 (List.pairwise_flatMap.2 ⟨fun t _ => ?_, ?_⟩)
  ·rw [List.pairwise_map]
   refine (List.nodup_iff_pairwise_ne.1 (elsIn_nodup N)).imp (fun {a b} hab e => hab ?_)
   have := congrArg (fun z => t⁻¹ * z) e
   simpa only [El.ilc] using this
  ·refine (List.nodup_iff_pairwise_ne.1 hn).imp_of_mem (fun {a b} ha hb hab x hx y hy e => hab (h1 a ha b hb ?_))
   obtain ⟨n, hn1, rfl⟩ := List.mem_map.1 hx
   obtain ⟨m, hm1, rfl⟩ := List.mem_map.1 hy
   unfold eqv
   have e2 : a⁻¹ * b = n * m⁻¹ := by
    have e3 : b = a * n * m⁻¹ := by rw [e, El.ass, El.ir, El.or]
    rw [e3, El.ass, El.ilc]
   rw [e2]
   exact S.mul _ _ (elsIn_mem.1 hn1) (S.inv _ (elsIn_mem.1 hm1))
 ·intro x
  rw [List.mem_flatMap]
  constructor
  ·rintro ⟨t, ht, hx⟩
   obtain ⟨n, hn1, rfl⟩ := List.mem_map.1 hx
   exact hc t ht n (elsIn_mem.1 hn1)
  ·intro hx
   obtain ⟨t, ht, h⟩ := h2 x hx
   exact ⟨t, ht, List.mem_map.2 ⟨t⁻¹ * x, elsIn_mem.2 h, El.irc t x⟩⟩
open Classical in
noncomputable def rp (N : El G → Prop) (x : El G) : El G := ((els G).find? (fun t => decide (eqv N t x))).getD 1
theorem rp_eqv {N : El G → Prop} (S : SG N) (x : El G) : eqv N (rp N x) x := by
 classical
 unfold rp
 cases h : (els G).find? (fun t => decide (eqv N t x)) with
 | none =>
  have := List.find?_eq_none.1 h x (els_mem G x)
  exact absurd (decide_eq_true (eqv_refl S x)) this
 | some t =>
  have h2 := List.find?_some h
  exact of_decide_eq_true h2
theorem rp_one {N : El G → Prop} (S : SG N) {x y : El G} (h : eqv N x y) : rp N x = rp N y := by
 classical
 unfold rp
 have : (fun t => decide (eqv N t x)) = fun t => decide (eqv N t y) := funext fun t => by
  rw [decide_eq_decide]
  exact ⟨fun k => eqv_trans S k h, fun k => eqv_trans S k (eqv_symm S h)⟩
 rw [this]
noncomputable def trv (N B : El G → Prop) : List (El G) := elsIn (fun x => B x ∧ rp N x = x)
theorem trv_mem {N B : El G → Prop} {x : El G} : x ∈ trv N B ↔ B x ∧ rp N x = x := elsIn_mem
theorem rp_in {N B : El G → Prop} (S : SG N) (R : SG B) (h : ∀ x, N x → B x) {x : El G} (hx : B x) : rp N x ∈ trv N B := by
 have h1 := rp_eqv S x
 refine trv_mem.2 ⟨?_, rp_one S h1⟩
 have h2 := R.mul _ _ hx (h _ (eqv_symm S h1))
 rwa [El.irc] at h2
theorem trv_one {N B : El G → Prop} (S : SG N) {t u : El G} (ht : t ∈ trv N B) (hu : u ∈ trv N B) (h : eqv N t u) : t = u := by
 rw [← (trv_mem.1 ht).2, ← (trv_mem.1 hu).2]; exact rp_one S h
theorem cd_trv {N B : El G → Prop} (S : SG N) (R : SG B) (h : ∀ x, N x → B x) : cd B = (trv N B).length * cd N :=
 cd_mul S (elsIn_nodup _) (fun _ ht n hn => R.mul _ _ (trv_mem.1 ht).1 (h n hn)) (fun _ ht _ hu e => trv_one S ht hu e) (fun x hx => ⟨rp N x, rp_in S R h hx, rp_eqv S x⟩)
end
end Go.Proofs.YtdcobapnlpeaaaaGreat
namespace Go.Proofs.YtdcobapnlpeaaaaGreat
open Go.RowKit
section
variable {P : Pr} {G : Grp P}
def toE (G : Grp P) (H : List Int → Prop) : El G → Prop := fun x => H x.1
theorem toE_sg {H : List Int → Prop} (S : Sub P H) : SG (toE G H) := ⟨S.one, fun _ _ h k => S.mul _ _ h k, fun _ h => S.inv _ h⟩
theorem order_cd {H : List Int → Prop} (S : Sub P H) : prodU P (cseq P H) (cseq P H).length = (cd (toE G H) : Int) := by
 rw [G.order_elems S]
 have h1 : ((elsIn (toE G H)).map (fun x : El G => x.1)).Nodup := by
  refine List.nodup_iff_pairwise_ne.2 ?_
  rw [List.pairwise_map]
  exact (List.nodup_iff_pairwise_ne.1 (elsIn_nodup _)).imp (fun {a b} hab e => hab (Subtype.ext e))
 have h2 := (List.perm_ext_iff_of_nodup (elemsIn_nodup G.v H) h1).2 (fun x => by
  rw [elemsIn_mem G.v S.vec, List.mem_map]
  constructor
  ·intro hx
   exact ⟨⟨x, S.vec x hx⟩, elsIn_mem.2 hx, rfl⟩
  ·rintro ⟨y, hy, rfl⟩
   exact elsIn_mem.1 hy)
 rw [h2.length_eq, List.length_map]
 rfl
end
end Go.Proofs.YtdcobapnlpeaaaaGreat
namespace Go.Proofs.YtdcobapnlpeaaaaGreat
open Go.RowKit
section
variable {P : Pr} (G : Grp P)
noncomputable def szP (P : Pr) (H : List Int → Prop) : Int := prodU P (cseq P H) (cseq P H).length
include G in
theorem Grp.sz_pos {H : List Int → Prop} (S : Sub P H) : 1 ≤ szP P H := by
 unfold szP; rw [order_cd (G := G) S]
 have := cd_pos (toE_sg (G := G) S)
 omega
include G in
theorem Grp.sz_729 {H : List Int → Prop} (S : Sub P H) : szP P H ≤ 729 := (prodU_729 G.v (G.seq_facts S).1 _ (Nat.le_refl _)).2
include G in
theorem Grp.sz_mul {H K : List Int → Prop} (S : Sub P H) (R : Sub P K) (h : ∀ x, H x → K x) : ∃ m : Int, 1 ≤ m ∧ szP P K = m * szP P H := by
 have e := cd_trv (toE_sg (G := G) S) (toE_sg (G := G) R) (fun x hx => h x.1 hx)
 have p := cd_pos (toE_sg (G := G) R)
 refine ⟨(trv (toE G H) (toE G K)).length, ?_, ?_⟩
 ·rcases Nat.eq_zero_or_pos (trv (toE G H) (toE G K)).length with h0 | h0
  ·rw [h0, Nat.zero_mul] at e; omega
  ·omega
 ·unfold szP; rw [order_cd (G := G) S, order_cd (G := G) R, e]; push_cast; rfl
theorem prodSz_sz (P : Pr) (H K : List Int → Prop) : prodSz P H K = szP P H * szP P K / szP P (fun x => H x ∧ K x) := rfl
include G in
theorem Grp.psz_mul {H K : List Int → Prop} (S : Sub P H) (R : Sub P K) : prodSz P H K * szP P (fun x => H x ∧ K x) = szP P H * szP P K := by
 have SR := S.and R
 obtain ⟨m, _, hm⟩ := G.sz_mul SR S (fun _ h => h.1)
 have h1 := G.sz_pos SR
 rw [prodSz_sz]
 refine Int.ediv_mul_cancel ⟨m * szP P K, ?_⟩
 rw [hm, Int.mul_assoc, Int.mul_comm m, Int.mul_assoc, Int.mul_comm (szP P K) m]
theorem prodSz_comm (P : Pr) (H K : List Int → Prop) : prodSz P H K = prodSz P K H := by
 rw [prodSz_sz, prodSz_sz, Int.mul_comm, show (fun x => H x ∧ K x) = (fun x => K x ∧ H x) from funext fun x => propext ⟨fun h => ⟨h.2, h.1⟩, fun h => ⟨h.2, h.1⟩⟩]
theorem gU_comm (P : Pr) (U V : List (List Int)) : gU P (U ++ V) = gU P (V ++ U) := by
 have : (fun x => x ∈ U ++ V) = (fun x => x ∈ V ++ U) := funext fun x => propext (by rw [List.mem_append, List.mem_append]; exact Or.comm)
 unfold gU; rw [this]
theorem gU_left {P : Pr} {U V : List (List Int)} (hU : ∀ x ∈ U, Vec P.orders x) (hV : ∀ x ∈ V, Vec P.orders x) (G : Grp P) : ∀ x, gU P U x → gU P (U ++ V) x := fun _ hx =>
 hx _ (G.genP_sub (fun y hy => (List.mem_append.1 hy).elim (hU y) (hV y))) (fun _ hy => genP_mem (List.mem_append_left _ hy))
include G in
theorem Grp.idx_mul {A B C : List Int → Prop} (SA : Sub P A) (SB : Sub P B) (SC : Sub P C) (h1 : ∀ x, A x → B x) (h2 : ∀ x, B x → C x) : szP P C / szP P B * (szP P B / szP P A) = szP P C / szP P A := by
 obtain ⟨m, hm, em⟩ := G.sz_mul SA SB h1
 obtain ⟨k, hk, ek⟩ := G.sz_mul SB SC h2
 have pa := G.sz_pos SA
 have pb := G.sz_pos SB
 have d1 : szP P C / szP P B = k := by rw [ek]; exact Int.mul_ediv_cancel k (by omega)
 have d2 : szP P B / szP P A = m := by rw [em]; exact Int.mul_ediv_cancel m (by omega)
 have d3 : szP P C / szP P A = k * m := by rw [ek, em, ← Int.mul_assoc]; exact Int.mul_ediv_cancel (k * m) (by omega)
 rw [d1, d2, d3]
include G in
theorem Grp.idx_bd {A B : List Int → Prop} (SA : Sub P A) (SB : Sub P B) (h : ∀ x, A x → B x) : 1 ≤ szP P B / szP P A ∧ szP P B / szP P A ≤ 729 := by
 obtain ⟨m, hm, em⟩ := G.sz_mul SA SB h
 have pa := G.sz_pos SA
 have pb := G.sz_729 SB
 have d2 : szP P B / szP P A = m := by rw [em]; exact Int.mul_ediv_cancel m (by omega)
 rw [d2]
 refine ⟨hm, ?_⟩
 have : m * 1 ≤ m * szP P A := Int.mul_le_mul_of_nonneg_left pa (by omega)
 omega
end
end Go.Proofs.YtdcobapnlpeaaaaGreat
namespace Go.Proofs.YtdcobapnlpeaaaaGreat
open Go.RowKit
set_option maxRecDepth 100000 in
set_option maxHeartbeats 4000000 in
theorem isSubset_ok (P : Pr) (G : Grp P) (w : World) (p uv vv : Value) (U : List (List Int)) (H : List Int → Prop) (Sp Su Sv : Nat → Prop) (S : Sub P H) (hp : PresP Sp w p P) (hu : Rows2 Su w uv U) (hv : Rows2 Sv w vv (cseq P H)) (hU : ∀ x ∈ U, Vec P.orders x) :
  Calls Tryz.prog 145 #[p, uv, vv] w (Ret w fun _ v => ∃ r : Bool, v = .bool r ∧ (r = true ↔ ∀ x ∈ U, H x)) := by
 obtain ⟨pb, po, rfl⟩ := hp.shape
 obtain ⟨au, capu, rfl, _, hul⟩ := Sl.shape hu
 obtain ⟨av, capv, hvv, _, _⟩ := Sl.shape hv
 obtain ⟨nv, hnv⟩ : ∃ nv, nv = (cseq P H).length := ⟨_, rfl⟩
 rw [← hnv] at hvv
 subst hvv
 have HU := Lib.hid hU; clear hU
 have HN := Lib.hid hnv; clear hnv
 go_enter Tryz.func145, Tryz.ntmps145
 go_wp2
 go_loopw [8, 11] (fun _ iv wr => ∃ (i : Nat), iv = .int .i64 i ∧ i ≤ U.length ∧ Ext w wr ∧ Hid (∀ k, k < i → H (gt U k))) (fun _ iv _ => U.length - (intOf iv).toNat)
 case atStart => exact ⟨0, rfl, by omega, grown_refl _ _, Lib.hid (fun k hk => by omega)⟩
 case round =>
  obtain ⟨i, rfl, hi, hg, hH⟩ := hrel
  by_cases hlt : i < U.length
  ·obtain ⟨b, off, ax, capx, rfl, hbS, hbl, hcb, hxI⟩ := Rows2.at hu i hlt
   have hcr := hg.cell hcb (by simp)
   have hxr := Ints.ext hxI hg
   have hpr := hp.ext hg
   have hvr := Rows2.ext hv hg
   have hxV : Vec P.orders (gt U i) := HU.out _ (gt_mem hlt)
   have hli : (i : Int) < (U.length : Nat) := by omega
   clear hcb hxI
   obtain ⟨x, hx⟩ : ∃ x, x = gt U i := ⟨_, rfl⟩
   rw [← hx] at hcr hxr hxV
   have HX := Lib.hid hx; clear hx
   go_wp2_with fail
   refine Calls.mono (isMember_ok P G wr _ _ _ H x Sp Sv Su S hpr hvr hxr hxV) ?_
   rintro e1 w1 ⟨v1, rfl, hg1, r, rfl, hr⟩
   have HR := Lib.hid hr; clear hr
   cases r with
   | true =>
    go_wp2
    go_roundw
    case rel => exact ⟨i + 1, by go_num, by omega, grown_trans hg hg1, Lib.hid (fun k hk => by
     rcases Nat.lt_or_ge k i with h | h
     ·exact hH.out k h
     ·have : k = i := by omega
      subst this; rw [← HX.out]; have := HR.out; simpa using this)⟩
    case measure => simp [intOf]; omega
   | false =>
    go_wp2
    go_ret
    exact ⟨_, rfl, grown_trans hg hg1, false, rfl, by
     constructor
     ·intro h; cases h
     ·intro h
      have := HR.out.2 (by rw [HX.out]; exact h _ (gt_mem hlt))
      cases this⟩
  ·have hie : i = U.length := by omega
   have hli : ¬ (i : Int) < (U.length : Nat) := by omega
   go_wp2
   go_ret
   exact ⟨_, rfl, hg, .inr ⟨rfl, fun y hy => by
    obtain ⟨m, hm, rfl⟩ := mem_gt hy
    exact hH.out m (by omega)⟩⟩
set_option maxRecDepth 100000 in
set_option maxHeartbeats 4000000 in
theorem iIndex_ok (P : Pr) (hr : rconsB P = true) (w : World) (pv uv vv : Value) (U V : List (List Int)) (Sp Su Sv : Nat → Prop) (hpv : PresV Sp w pv P) (hu : Rows2 Su w uv U) (hv : Rows2 Sv w vv V) (hU : SubB P U) (hV : SubB P V) (hVU : ∀ x, gU P V x → gU P U x) :
  Calls Tryz.prog 79 #[pv, uv, vv] w (Ret w fun _ v => v = .tuple #[.int .i64 (szP P (gU P U) / szP P (gU P V)), .int .i64 0]) := by
 have G := grp_of_r hr
 have hn6 := G.v.n6
 obtain ⟨vo, vp, vc, rfl, h3⟩ := hpv
 have hp0 := PresP.box h3 28
 have hg0 : Ext w (w.alloc (.cells #[vo, vp, vc] 28)) := World.grownBy_alloc _ _ _
 have hs0 : (w.alloc (.cells #[vo, vp, vc] 28)).heap.size = w.heap.size + 1 := by simp
 have hu0 := Rows2.ext hu hg0
 have hv0 := Rows2.ext hv hg0
 obtain ⟨au, capu, rfl, _, _⟩ := Sl.shape hu
 obtain ⟨av, capv, rfl, _, _⟩ := Sl.shape hv
 have hg1 : Ext (w.alloc (.cells #[vo, vp, vc] 28)) ((w.alloc (.cells #[vo, vp, vc] 28)).alloc (.cells #[.slice au U.length capu, .slice av V.length capv] 25)) := World.grownBy_alloc _ _ _
 have hl := rows3Two hu0 hv0
 have hcon := areSubgroups_ok P _ _ _ [U, V] Any Any (hp0.ext hg1) hl
 rw [hs0] at hcon
 clear hl hu hv
 have hulU : U.length ≤ P.orders.length := G.sub_len hU
 have hulV : V.length ≤ P.orders.length := G.sub_len hV
 have HH := Lib.hid (And.intro hr (And.intro hU (And.intro hV hVU))); clear hr hU hV hVU
 go_enter Tryz.func79, Tryz.ntmps79
 go_wp2_with fail
 refine Calls.mono hcon ?_
 rintro e1 w1 ⟨v1, rfl, hgA, r1, rfl, hr1⟩
 clear hcon
 obtain rfl : r1 = true := hr1.2 (by have := HH.out; simp only [List.mem_cons, List.mem_nil_iff, or_false]; exact ⟨this.1, fun u hu => by rcases hu with rfl | rfl; exact this.2.1; exact this.2.2.1⟩)
 clear hr1
 have hg01 := grown_trans hg1 hgA
 have HS := Lib.hid hs0; clear hs0
 generalize hw0 : (w.alloc (.cells #[vo, vp, vc] 28)) = w0 at *
 clear hw0 hg1 hgA
 have hp1 := hp0.ext hg01
 have hu1 := Rows2.ext hu0 hg01
 have hv1 := Rows2.ext hv0 hg01
 have hSU := G.subB HH.out.2.1
 have hSV := G.subB HH.out.2.2.1
 have heU : U = cseq P (gU P U) := HH.out.2.1.2
 have heV : V = cseq P (gU P V) := HH.out.2.2.1.2
 have hfU := G.seq_facts hSU
 have hfV := G.seq_facts hSV
 have hu1' : Rows2 Su w1 (.slice au U.length capu) (cseq P (gU P U)) := heU ▸ hu1
 have hsU := G.sz_pos hSU
 have hsV := G.sz_pos hSV
 have hs7 := G.sz_729 hSU
 have HF := Lib.hid (And.intro hfU (And.intro hfV (And.intro heU (And.intro heV (And.intro hu1' (And.intro hsU (And.intro hsV hs7))))))); clear hfU hfV heU heV hu1' hsU hsV hs7 hSU hSV
 go_wp2_with fail
 refine Calls.mono (isSubset_ok P G w1 _ _ _ V (gU P U) Any Sv Su (G.subB HH.out.2.1) hp1 hv1 HF.out.2.2.2.2.1 HH.out.2.2.1.1) ?_
 rintro e2 w2 ⟨v2, rfl, hg2, r2, rfl, hr2⟩
 obtain rfl : r2 = true := hr2.2 (fun x hx => HH.out.2.2.2 x (genP_mem hx))
 clear hr2
 have hp2 := hp1.ext hg2
 have hu2 := Rows2.ext hu1 hg2
 have hv2 := Rows2.ext hv1 hg2
 clear hp1 hu1 hv1
 have hqU : SeqOk P U := by have := HF.out.1.1; rw [← HF.out.2.2.1] at this; exact this
 have hqV : SeqOk P V := by have := HF.out.2.1.1; rw [← HF.out.2.2.2.1] at this; exact this
 have ezU : prodU P U U.length = szP P (gU P U) := by unfold szP; rw [← HF.out.2.2.1]
 have ezV : prodU P V V.length = szP P (gU P V) := by unfold szP; rw [← HF.out.2.2.2.1]
 have HQ := Lib.hid (And.intro hqU (And.intro hqV (And.intro ezU ezV))); clear hqU hqV ezU ezV
 go_wp2_with fail
 refine Calls.mono (sizeOf_ok P G.v w2 _ _ U Any Su hp2 hu2 HQ.out.1 (by omega)) ?_
 rintro e3 w3 ⟨v3, rfl, hg3, rfl⟩
 rw [HQ.out.2.2.1]
 have hp3 := hp2.ext hg3
 have hv3 := Rows2.ext hv2 hg3
 clear hp2 hu2 hv2
 go_wp2_with fail
 refine Calls.mono (sizeOf_ok P G.v w3 _ _ V Any Sv hp3 hv3 HQ.out.2.1 (by omega)) ?_
 rintro e4 w4 ⟨v4, rfl, hg4, rfl⟩
 rw [HQ.out.2.2.2]
 obtain ⟨x, hx⟩ : ∃ x, x = szP P (gU P U) := ⟨_, rfl⟩
 obtain ⟨y, hy⟩ : ∃ y, y = szP P (gU P V) := ⟨_, rfl⟩
 have hb := HF.out.2.2.2.2.2
 rw [← hx, ← hy] at hb ⊢
 have hy0 : y ≠ 0 := by omega
 have htd : x.tdiv y = x / y := Int.tdiv_eq_ediv_of_nonneg (by omega)
 have hdb : 0 ≤ x / y ∧ x / y ≤ 729 := ⟨Int.ediv_nonneg (by omega) (by omega), Int.le_trans (Int.ediv_le_self _ (by omega)) (by omega)⟩
 have hwr : IntKind.i64.wrap (x / y) = x / y := IntWalk.i64_in _ (by omega)
 have HB := Lib.hid (And.intro hx hy); clear hb hdb hx hy
 go_wp2
 go_ret2
 exact ⟨_, rfl, grown_trans hg0 (grown_trans hg01 (grown_trans hg2 (grown_trans hg3 hg4))), by show _ = _; rw [← HB.out.1, ← HB.out.2]; rfl⟩
end Go.Proofs.YtdcobapnlpeaaaaGreat
namespace Go.Proofs.YtdcobapnlpeaaaaGreat
open Go.RowKit
open Classical in
noncomputable def psV (P : Pr) (U V : List (List Int)) : Bool := if twoOk P U V then decide (prodSz P (gU P U) (gU P V) = prodU P (cseq P (gU P (U ++ V))) (cseq P (gU P (U ++ V))).length) else false
theorem ps_bad {P : Pr} {U V : List (List Int)} (h : ¬ twoOk P U V) : psV P U V = false := by
 unfold psV; rw [if_neg h]
theorem ps_ok {P : Pr} {U V : List (List Int)} (h : twoOk P U V) : psV P U V = (prodSz P (gU P U) (gU P V) == prodU P (cseq P (gU P (U ++ V))) (cseq P (gU P (U ++ V))).length) := by
 unfold psV; rw [if_pos h]
 rw [Bool.eq_iff_iff]; simp
theorem flatTo_two (U V : List (List Int)) : flatTo [U, V] 2 = U ++ V := by simp [flatTo, gt]
set_option maxRecDepth 100000 in
set_option maxHeartbeats 4000000 in
theorem iPs_ok (P : Pr) (w : World) (pv uv vv : Value) (U V : List (List Int)) (Sp Su Sv : Nat → Prop) (hpv : PresV Sp w pv P) (hu : Rows2 Su w uv U) (hv : Rows2 Sv w vv V) :
  Calls Tryz.prog 78 #[pv, uv, vv] w (Ret w fun _ v => v = .tuple #[.bool (psV P U V), .int .i64 (twoC P U V)]) := by
 obtain ⟨vo, vp, vc, rfl, h3⟩ := hpv
 have hp0 := PresP.box h3 28
 have hg0 : Ext w (w.alloc (.cells #[vo, vp, vc] 28)) := World.grownBy_alloc _ _ _
 have hs0 : (w.alloc (.cells #[vo, vp, vc] 28)).heap.size = w.heap.size + 1 := by simp
 have hu0 := Rows2.ext hu hg0
 have hv0 := Rows2.ext hv hg0
 obtain ⟨au, capu, rfl, _, _⟩ := Sl.shape hu
 obtain ⟨av, capv, rfl, _, _⟩ := Sl.shape hv
 have hg1 : Ext (w.alloc (.cells #[vo, vp, vc] 28)) ((w.alloc (.cells #[vo, vp, vc] 28)).alloc (.cells #[.slice au U.length capu, .slice av V.length capv] 25)) := World.grownBy_alloc _ _ _
 have hl := rows3Two hu0 hv0
 have hcon := areSubgroups_ok P _ _ _ [U, V] Any Any (hp0.ext hg1) hl
 rw [hs0] at hcon
 clear hl hu hv
 go_enter Tryz.func78, Tryz.ntmps78
 go_wp2_with fail
 refine Calls.mono hcon ?_
 rintro e1 w1 ⟨v1, rfl, hgA, r1, rfl, hr1⟩
 clear hcon
 have hr1 : r1 = true ↔ twoOk P U V := by rw [hr1]; unfold twoOk; simp
 have hg01 := grown_trans hg1 hgA
 have HS := Lib.hid hs0; clear hs0
 generalize hw0 : w.alloc (.cells #[vo, vp, vc] 28) = w0 at *
 clear hw0 hg1 hgA
 cases r1 with
 | false =>
  have hbad : ¬ twoOk P U V := fun h => by have := hr1.2 h; cases this
  have hc := (two_bad hbad).1
  have hL := ps_bad hbad
  clear hbad
  have HC := Lib.hid (And.intro hc hL); clear hc hL hr1
  go_wp2
  go_ret2
  exact ⟨_, rfl, grown_trans hg0 hg01, by rw [HC.out.1, HC.out.2]; rfl⟩
 | true =>
  have hok := hr1.1 rfl
  have G := grp_of_r hok.1
  have hc := (two_ok hok).1
  have hL := ps_ok hok
  have hn6 := G.v.n6
  have hul : U.length ≤ P.orders.length := G.sub_len hok.2.1
  have hvl : V.length ≤ P.orders.length := G.sub_len hok.2.2
  have hUVv : ∀ x ∈ U ++ V, Vec P.orders x := fun x hx => (List.mem_append.1 hx).elim (hok.2.1.1 x) (hok.2.2.1 x)
  have hU := hok.2.1.2
  have hV := hok.2.2.2
  have HC := Lib.hid (And.intro hc (And.intro hL hok)); clear hc hL hr1 hok
  have hu1 : Rows2 Su w1 (.slice au U.length capu) (cseq P (gU P U)) := by rw [← hU]; exact Rows2.ext hu0 hg01
  have hv1 : Rows2 Sv w1 (.slice av V.length capv) (cseq P (gU P V)) := by rw [← hV]; exact Rows2.ext hv0 hg01
  have HUV := Lib.hid (And.intro hU hV); clear hU hV
  have HVV := Lib.hid hUVv; clear hUVv
  clear hr1
  go_wp2_with fail
  refine Calls.mono (productSize_ok P G w1 _ _ _ (gU P U) (gU P V) Any Su Sv (G.subB HC.out.2.2.2.1) (G.subB HC.out.2.2.2.2) (hp0.ext hg01) hu1 hv1) ?_
  rintro e2 w2 ⟨v2, rfl, hg2, rfl⟩
  obtain ⟨z1, hz1⟩ : ∃ z1, z1 = prodSz P (gU P U) (gU P V) := ⟨_, rfl⟩
  rw [← hz1]
  have HZ1 := Lib.hid hz1; clear hz1
  have hg02 := grown_trans hg01 hg2
  have hga : Ext w2 (w2.alloc (.cells #[.slice au U.length capu, .slice av V.length capv] 25)) := World.grownBy_alloc _ _ _
  have hlit := rows3Two (Rows2.ext hu0 hg02) (Rows2.ext hv0 hg02)
  have hcc := concatRows_ok (w2.alloc (.cells #[.slice au U.length capu, .slice av V.length capv] 25)) _ [U, V] Any hlit (fun u hu => by simp at hu; rcases hu with rfl | rfl <;> omega) (by simp)
  have hfl : flatTo [U, V] [U, V].length = U ++ V := flatTo_two U V
  rw [hfl] at hcc
  have HCC := Lib.hid hcc; clear hcc hlit hfl
  go_wp2_with fail
  refine Calls.mono HCC.out ?_
  rintro e3 w3 ⟨v3, rfl, hg3, hR3⟩
  clear HCC
  have hg03 := grown_trans hg02 (grown_trans hga hg3)
  obtain ⟨ac, capc, hvc, _, _⟩ := Sl.shape hR3
  rw [List.length_append] at hvc
  subst hvc
  go_wp2_with fail
  refine Calls.mono (generated_ok P G w3 _ _ (U ++ V) Any Any (hp0.ext hg03) hR3 HVV.out (by rw [List.length_append]; omega)) ?_
  rintro e4 w4 ⟨v4, rfl, hg4, hO4⟩
  have hS4 : Sub P (gU P (U ++ V)) := G.genP_sub HVV.out
  have hcl : (cseq P (gU P (U ++ V))).length ≤ P.orders.length := G.cseq_len hS4
  have hR4 : Rows2 (From w3.heap.size) w4 v4 (cseq P (gU P (U ++ V))) := RowsD.rows (SlO.toD hO4 (by show (cseq P (gU P (U ++ V))).length ≤ _; omega))
  clear hO4
  obtain ⟨ad, capd, hvd, _, _⟩ := Sl.shape hR4
  subst hvd
  have hg04 := grown_trans hg03 hg4
  have hsq4 := (G.seq_facts hS4).1
  have HS4 := Lib.hid hsq4; clear hsq4
  go_wp2_with fail
  refine Calls.mono (sizeOf_ok P G.v w4 _ _ (cseq P (gU P (U ++ V))) Any _ (hp0.ext hg04) hR4 HS4.out (by omega)) ?_
  rintro e5 w5 ⟨v5, rfl, hg5, rfl⟩
  obtain ⟨z2, hz2⟩ : ∃ z2, z2 = prodU P (cseq P (gU P (U ++ V))) (cseq P (gU P (U ++ V))).length := ⟨_, rfl⟩
  rw [← hz2]
  have HZ2 := Lib.hid hz2; clear hz2
  go_wp2
  go_ret2
  exact ⟨_, rfl, grown_trans hg0 (grown_trans hg04 hg5), by rw [HC.out.1, HC.out.2.1, ← HZ1.out, ← HZ2.out]; rfl⟩
end Go.Proofs.YtdcobapnlpeaaaaGreat
namespace Go.Proofs.YtdcobapnlpeaaaaGreat
open Go.RowKit
attribute [local go_sem ↓] Go.wp_at_zero Go.wp_at_succ
set_option maxRecDepth 100000 in
set_option maxHeartbeats 8000000 in
theorem lawPS_ok (w : World) (cv : Value) (bs : List Int) (S : Nat → Prop) (hb : Bytes S w cv bs) :
  Calls Tryz.prog 11 #[cv] w (Ret w fun _ v => v = .bool true) := by
 obtain ⟨ca, cc, rfl, _, _⟩ := Sl.shape hb
 go_enter Tryz.func11, Tryz.ntmps11
 go_wp2_with fail
 refine Calls.mono (big_ok w _ bs S hb) ?_
 rintro _ _ ⟨rfl, rfl⟩
 by_cases hbg : 4096 < bs.length
 ·have hd : decide (4096 < bs.length) = true := by simp [hbg]
  rw [hd]
  go_wp2
  go_ret
  exact ⟨_, rfl, grown_refl _ _, rfl⟩
 have hd : decide (4096 < bs.length) = false := by simp [hbg]
 rw [hd]; clear hd hbg
 go_wp2_with fail
 refine Calls.mono (DrawProductSize_ok w _ bs S hb) ?_
 rintro e1 w1 ⟨v1, rfl, hg1, vo, vp, vc, rv, sv, P, rfl, hPl, hP, ⟨U, _, _, hU⟩, ⟨V, _, _, hV⟩⟩
 obtain ⟨a1, n1, c1, hy1⟩ : ∃ a n c, vo = .slice a n c := by obtain ⟨a, c, e, _⟩ := hP.o.shape; exact ⟨_, _, _, e⟩
 obtain ⟨a2, n2, c2, hy2⟩ : ∃ a n c, vp = .slice a n c := by obtain ⟨a, c, e, _⟩ := Sl.shape hP.p; exact ⟨_, _, _, e⟩
 obtain ⟨a3, n3, c3, hy3⟩ : ∃ a n c, vc = .slice a n c := by obtain ⟨a, c, e, _⟩ := Sl.shape hP.c; exact ⟨_, _, _, e⟩
 subst hy1 hy2 hy3
 obtain ⟨ra, rn, rc, hr1⟩ : ∃ a n c, rv = .slice a n c := by obtain ⟨a, c, e, _⟩ := Sl.shape hU; exact ⟨_, _, _, e⟩
 obtain ⟨sa, sn, sc, hr2⟩ : ∃ a n c, sv = .slice a n c := by obtain ⟨a, c, e, _⟩ := Sl.shape hV; exact ⟨_, _, _, e⟩
 subst hr1 hr2
 have hgX : Ext w1 (w1.alloc (.cells #[.slice a1 n1 c1, .slice a2 n2 c2, .slice a3 n3 c3] 28)) := World.grownBy_alloc _ _ _
 have hX := Box3.made w1 28 (.slice a1 n1 c1) (.slice a2 n2 c2) (.slice a3 n3 c3)
 have hPX := hP.ext hgX
 have hUX := Rows2.ext hU hgX
 have hVX := Rows2.ext hV hgX
 have hgw := grown_trans hg1 hgX
 have HA0 := Lib.hid (And.intro hPX (And.intro hUX (And.intro hVX hgw))); clear hPX hUX hVX hgw hgX hP hU hV hg1 hb
 obtain ⟨pb, hpb⟩ : ∃ pb, pb = w1.heap.size := ⟨_, rfl⟩
 rw [← hpb] at hX
 have HP := Lib.hid hpb; clear hpb
 go_wp2_with fail
 rw [← HP.out]
 generalize w1.alloc (.cells #[.slice a1 n1 c1, .slice a2 n2 c2, .slice a3 n3 c3] 28) = w2 at *
 clear HP
 obtain ⟨pv, hpv⟩ : ∃ pv, pv = Value.agg #[.slice a1 n1 c1, .slice a2 n2 c2, .slice a3 n3 c3] := ⟨_, rfl⟩
 have hall : ∀ w', Ext w2 w' → Box3 w' pb (.slice a1 n1 c1) (.slice a2 n2 c2) (.slice a3 n3 c3) ∧ PresV (From w.heap.size) w' (.agg #[.slice a1 n1 c1, .slice a2 n2 c2, .slice a3 n3 c3]) P ∧ Rows2 (From w.heap.size) w' (.slice ra rn rc) U ∧ Rows2 (From w.heap.size) w' (.slice sa sn sc) V :=
  fun w' h => ⟨hX.ext h, ⟨_, _, _, rfl, HA0.out.1.ext h⟩, Rows2.ext HA0.out.2.1 h, Rows2.ext HA0.out.2.2.1 h⟩
 clear hpv
 have HA := Lib.hid hall; clear hall hX
 have hgw := grown_refl w2 none
 obtain ⟨b0_, b1_, b2_, b3_, _⟩ := id (HA.out w2 hgw).1
 go_wp2_with fail
 clear b0_ b1_ b2_ b3_
 refine Calls.mono (iProdSz_ok P w2 _ _ _ U V _ _ _ (HA.out w2 hgw).2.1 (HA.out w2 hgw).2.2.1 (HA.out w2 hgw).2.2.2) ?_
 rintro e3 w3 ⟨v3, rfl, hg_, rfl⟩
 replace hgw := grown_trans hgw hg_
 clear hg_
 obtain ⟨b0_, b1_, b2_, b3_, _⟩ := id (HA.out w3 hgw).1
 go_wp2_with fail
 clear b0_ b1_ b2_ b3_
 refine Calls.mono (sProdSz_ok P w3 _ _ _ U V _ _ _ (HA.out w3 hgw).2.1 (HA.out w3 hgw).2.2.1 (HA.out w3 hgw).2.2.2) ?_
 rintro e4 w4 ⟨v4, rfl, hg_, rfl⟩
 replace hgw := grown_trans hgw hg_
 clear hg_
 by_cases h2 : twoOk P U V
 case neg =>
  rw [(two_bad h2).1]
  go_wp2
  go_ret
  exact ⟨_, rfl, grown_trans HA0.out.2.2.2 hgw, rfl⟩
 have hr := h2.1
 have G := grp_of_r hr
 have hn6 := G.v.n6
 have SU := G.subB h2.2.1
 have SV := G.subB h2.2.2
 have SM := SU.and SV
 have hUv := h2.2.1.1
 have hVv := h2.2.2.1
 have SJ : Sub P (gU P (U ++ V)) := G.genP_sub (fun y hy => (List.mem_append.1 hy).elim (hUv y) (hVv y))
 have eU : prodU P U U.length = szP P (gU P U) := by have := h2.2.1.2; unfold szP; exact this ▸ rfl
 have eV : prodU P V V.length = szP P (gU P V) := by have := h2.2.2.2; unfold szP; exact this ▸ rfl
 rw [(two_ok h2).1, (two_ok h2).2.1]
 obtain ⟨n, hn⟩ : ∃ n, n = prodSz P (gU P U) (gU P V) := ⟨_, rfl⟩
 rw [← hn]
 have HN := Lib.hid hn; clear hn
 have HH := Lib.hid (And.intro SU (And.intro SV (And.intro SM (And.intro SJ (And.intro eU eV))))); clear SU SV SM SJ eU eV hUv hVv
 obtain ⟨b0_, b1_, b2_, b3_, _⟩ := id (HA.out w4 hgw).1
 go_wp2_with fail
 clear b0_ b1_ b2_ b3_
 refine Calls.mono (iMeet_ok P w4 _ _ _ U V _ _ _ (HA.out w4 hgw).2.1 (HA.out w4 hgw).2.2.1 (HA.out w4 hgw).2.2.2) ?_
 rintro e5 w5 ⟨v5, rfl, hg_, ma, mn, mc, rfl, hM⟩
 replace hgw := grown_trans hgw hg_
 rw [(two_ok h2).1]
 rw [(two_ok h2).2.2] at hM
 have hcm : (cseq P (fun x => gU P U x ∧ gU P V x)).length ≤ P.orders.length := G.cseq_len HH.out.2.2.1
 have hMr : Rows2 (From w4.heap.size) w5 (.slice ma mn mc) (cseq P (fun x => gU P U x ∧ gU P V x)) := RowsD.rows (SlO.toD hM (by omega))
 have hMx : ∀ w', Ext w5 w' → Rows2 (From w4.heap.size) w' (.slice ma mn mc) (cseq P (fun x => gU P U x ∧ gU P V x)) := fun w' h => Rows2.ext hMr h
 have HM := Lib.hid hMx; clear hMr hMx hM hcm
 have hgM := grown_refl w5 none
 clear hg_
 obtain ⟨b0_, b1_, b2_, b3_, _⟩ := id (HA.out w5 hgw).1
 go_wp2_with fail
 clear b0_ b1_ b2_ b3_
 refine Calls.mono (iJoin_ok P hr w5 _ _ _ U V _ _ _ (HA.out w5 hgw).2.1 (HA.out w5 hgw).2.2.1 (HA.out w5 hgw).2.2.2 h2.2.1 h2.2.2) ?_
 rintro e6 w6 ⟨v6, rfl, hg_, ja, jn, jc, rfl, hJ⟩
 replace hgw := grown_trans hgw hg_
 replace hgM := grown_trans hgM hg_
 have hcj : (cseq P (gU P (U ++ V))).length ≤ P.orders.length := G.cseq_len HH.out.2.2.2.1
 have hJr : Rows2 (From w5.heap.size) w6 (.slice ja jn jc) (cseq P (gU P (U ++ V))) := RowsD.rows (SlO.toD hJ (by omega))
 have hJx : ∀ w', Ext w6 w' → Rows2 (From w5.heap.size) w' (.slice ja jn jc) (cseq P (gU P (U ++ V))) := fun w' h => Rows2.ext hJr h
 have HJ := Lib.hid hJx; clear hJr hJx hJ hcj
 have hgJ := grown_refl w6 none
 clear hg_
 obtain ⟨b0_, b1_, b2_, b3_, _⟩ := id (HA.out w6 hgw).1
 go_wp2_with fail
 clear b0_ b1_ b2_ b3_
 refine Calls.mono (iPs_ok P w6 _ _ _ U V _ _ _ (HA.out w6 hgw).2.1 (HA.out w6 hgw).2.2.1 (HA.out w6 hgw).2.2.2) ?_
 rintro e7 w7 ⟨v7, rfl, hg_, rfl⟩
 replace hgw := grown_trans hgw hg_
 replace hgM := grown_trans hgM hg_
 replace hgJ := grown_trans hgJ hg_
 rw [(two_ok h2).1, ps_ok h2, ← HN.out]
 obtain ⟨d, hd⟩ : ∃ d, d = prodU P (cseq P (gU P (U ++ V))) (cseq P (gU P (U ++ V))).length := ⟨_, rfl⟩
 rw [← hd]
 have HD := Lib.hid hd; clear hd
 clear hg_
 obtain ⟨b0_, b1_, b2_, b3_, _⟩ := id (HA.out w7 hgw).1
 go_wp2_with fail
 clear b0_ b1_ b2_ b3_
 refine Calls.mono (iOrder_ok P hr w7 _ _ U _ _ (HA.out w7 hgw).2.1 (HA.out w7 hgw).2.2.1 h2.2.1) ?_
 rintro e8 w8 ⟨v8, rfl, hg_, rfl⟩
 replace hgw := grown_trans hgw hg_
 replace hgM := grown_trans hgM hg_
 replace hgJ := grown_trans hgJ hg_
 rw [HH.out.2.2.2.2.1]
 obtain ⟨a, ha⟩ : ∃ a, a = szP P (gU P U) := ⟨_, rfl⟩
 rw [← ha]
 have HaE := Lib.hid ha; clear ha
 clear hg_
 obtain ⟨b0_, b1_, b2_, b3_, _⟩ := id (HA.out w8 hgw).1
 go_wp2_with fail
 clear b0_ b1_ b2_ b3_
 refine Calls.mono (iOrder_ok P hr w8 _ _ V _ _ (HA.out w8 hgw).2.1 (HA.out w8 hgw).2.2.2 h2.2.2) ?_
 rintro e9 w9 ⟨v9, rfl, hg_, rfl⟩
 replace hgw := grown_trans hgw hg_
 replace hgM := grown_trans hgM hg_
 replace hgJ := grown_trans hgJ hg_
 rw [HH.out.2.2.2.2.2]
 obtain ⟨b, hb⟩ : ∃ b, b = szP P (gU P V) := ⟨_, rfl⟩
 rw [← hb]
 have HbE := Lib.hid hb; clear hb
 clear hg_
 obtain ⟨b0_, b1_, b2_, b3_, _⟩ := id (HA.out w9 hgw).1
 go_wp2_with fail
 clear b0_ b1_ b2_ b3_
 refine Calls.mono (iOrder_ok P hr w9 _ _ _ _ _ (HA.out w9 hgw).2.1 (HM.out w9 hgM) (G.subB_cseq HH.out.2.2.1)) ?_
 rintro e10 w10 ⟨v10, rfl, hg_, rfl⟩
 replace hgw := grown_trans hgw hg_
 replace hgM := grown_trans hgM hg_
 replace hgJ := grown_trans hgJ hg_
 obtain ⟨c, hc⟩ : ∃ c, c = prodU P (cseq P (fun x => gU P U x ∧ gU P V x)) (cseq P (fun x => gU P U x ∧ gU P V x)).length := ⟨_, rfl⟩
 rw [← hc]
 have HcE := Lib.hid hc; clear hc
 clear hg_
 obtain ⟨b0_, b1_, b2_, b3_, _⟩ := id (HA.out w10 hgw).1
 go_wp2_with fail
 clear b0_ b1_ b2_ b3_
 refine Calls.mono (iOrder_ok P hr w10 _ _ _ _ _ (HA.out w10 hgw).2.1 (HJ.out w10 hgJ) (G.subB_cseq HH.out.2.2.2.1)) ?_
 rintro e11 w11 ⟨v11, rfl, hg_, rfl⟩
 replace hgw := grown_trans hgw hg_
 replace hgM := grown_trans hgM hg_
 replace hgJ := grown_trans hgJ hg_
 rw [← HD.out]
 have hc1 : c = szP P (fun x => gU P U x ∧ gU P V x) := HcE.out
 have hnc : n * c = a * b := by rw [HN.out, hc1, HaE.out, HbE.out]; exact G.psz_mul HH.out.1 HH.out.2.1
 have hcp : 1 ≤ c := by rw [hc1]; exact G.sz_pos HH.out.2.2.1
 have hap : 1 ≤ a ∧ a ≤ 729 := by rw [HaE.out]; exact ⟨G.sz_pos HH.out.1, G.sz_729 HH.out.1⟩
 have hbp : 1 ≤ b ∧ b ≤ 729 := by rw [HbE.out]; exact ⟨G.sz_pos HH.out.2.1, G.sz_729 HH.out.2.1⟩
 have habp : 0 ≤ a * b := Int.mul_nonneg (by omega) (by omega)
 have habq : a * b ≤ 729 * 729 := Int.mul_le_mul hap.2 hbp.2 (by omega) (by omega)
 obtain ⟨q, hq⟩ : ∃ q, q = a * b := ⟨_, rfl⟩
 rw [← hq] at hnc habp habq
 have hw1 : IntKind.i64.wrap (n * c) = q := by rw [hnc]; exact IntWalk.i64_in _ (by omega)
 have hw2 : IntKind.i64.wrap (a * b) = q := by rw [← hq]; exact IntWalk.i64_in _ (by omega)
 have HW := Lib.hid (And.intro hcp (And.intro hap hbp)); clear hcp hap hbp hnc hq hc1 habp habq
 obtain ⟨r, hrE⟩ : ∃ r : Bool, r = (n == d) := ⟨_, rfl⟩
 rw [← hrE]
 have HrE := Lib.hid hrE
 clear hg_
 have eJ : gU P (cseq P (gU P (U ++ V))) = gU P (U ++ V) := G.genP_cseq HH.out.2.2.2.1
 have eM : gU P (cseq P (fun x => gU P U x ∧ gU P V x)) = fun x => gU P U x ∧ gU P V x := G.genP_cseq HH.out.2.2.1
 have i1 : ∀ x, gU P U x → gU P (cseq P (gU P (U ++ V))) x := by rw [eJ]; exact gU_left h2.2.1.1 h2.2.2.1 G
 have i2 : ∀ x, gU P (cseq P (fun x => gU P U x ∧ gU P V x)) x → gU P U x := by rw [eM]; exact fun x h => h.1
 have i3 : ∀ x, gU P (cseq P (fun x => gU P U x ∧ gU P V x)) x → gU P (cseq P (gU P (U ++ V))) x := fun x h => i1 x (i2 x h)
 have HI := Lib.hid (And.intro eJ (And.intro eM (And.intro i1 (And.intro i2 i3)))); clear eJ eM i1 i2 i3
 have hrd : (n == d) = r := hrE.symm
 clear hrE
 obtain ⟨b0_, b1_, b2_, b3_, _⟩ := id (HA.out w11 hgw).1
 go_wp2_with fail
 clear b0_ b1_ b2_ b3_
 refine Calls.mono (iIndex_ok P hr w11 _ _ _ _ U _ _ _ (HA.out w11 hgw).2.1 (HJ.out w11 hgJ) (HA.out w11 hgw).2.2.1 (G.subB_cseq HH.out.2.2.2.1) h2.2.1 HI.out.2.2.1) ?_
 rintro e12 w12 ⟨v12, rfl, hg_, rfl⟩
 replace hgw := grown_trans hgw hg_
 replace hgM := grown_trans hgM hg_
 replace hgJ := grown_trans hgJ hg_
 rw [HI.out.1]
 clear hw1 hw2 hrd
 obtain ⟨x1, hx1⟩ : ∃ x1, x1 = szP P (gU P (U ++ V)) / szP P (gU P U) := ⟨_, rfl⟩
 rw [← hx1]
 have Hx1 := Lib.hid hx1; clear hx1
 clear hg_
 obtain ⟨b0_, b1_, b2_, b3_, _⟩ := id (HA.out w12 hgw).1
 go_wp2_with fail
 clear b0_ b1_ b2_ b3_
 refine Calls.mono (iIndex_ok P hr w12 _ _ _ U _ _ _ _ (HA.out w12 hgw).2.1 (HA.out w12 hgw).2.2.1 (HM.out w12 hgM) h2.2.1 (G.subB_cseq HH.out.2.2.1) HI.out.2.2.2.1) ?_
 rintro e13 w13 ⟨v13, rfl, hg_, rfl⟩
 replace hgw := grown_trans hgw hg_
 replace hgM := grown_trans hgM hg_
 replace hgJ := grown_trans hgJ hg_
 rw [HI.out.2.1]
 obtain ⟨x2, hx2⟩ : ∃ x2, x2 = szP P (gU P U) / szP P (fun x => gU P U x ∧ gU P V x) := ⟨_, rfl⟩
 rw [← hx2]
 have Hx2 := Lib.hid hx2; clear hx2
 clear hg_
 obtain ⟨b0_, b1_, b2_, b3_, _⟩ := id (HA.out w13 hgw).1
 go_wp2_with fail
 clear b0_ b1_ b2_ b3_
 refine Calls.mono (iIndex_ok P hr w13 _ _ _ _ _ _ _ _ (HA.out w13 hgw).2.1 (HJ.out w13 hgJ) (HM.out w13 hgM) (G.subB_cseq HH.out.2.2.2.1) (G.subB_cseq HH.out.2.2.1) HI.out.2.2.2.2) ?_
 rintro e14 w14 ⟨v14, rfl, hg_, rfl⟩
 replace hgw := grown_trans hgw hg_
 replace hgM := grown_trans hgM hg_
 replace hgJ := grown_trans hgJ hg_
 rw [HI.out.1, HI.out.2.1]
 obtain ⟨x3, hx3⟩ : ∃ x3, x3 = szP P (gU P (U ++ V)) / szP P (fun x => gU P U x ∧ gU P V x) := ⟨_, rfl⟩
 rw [← hx3]
 have Hx3 := Lib.hid hx3; clear hx3
 clear hg_
 obtain ⟨b0_, b1_, b2_, b3_, _⟩ := id (HA.out w14 hgw).1
 go_wp2_with fail
 clear b0_ b1_ b2_ b3_
 refine Calls.mono (iPs_ok P w14 _ _ _ V U _ _ _ (HA.out w14 hgw).2.1 (HA.out w14 hgw).2.2.2 (HA.out w14 hgw).2.2.1) ?_
 rintro e15 w15 ⟨v15, rfl, hg_, rfl⟩
 replace hgw := grown_trans hgw hg_
 replace hgM := grown_trans hgM hg_
 replace hgJ := grown_trans hgJ hg_
 have h2' : twoOk P V U := ⟨h2.1, h2.2.2, h2.2.1⟩
 have hps : psV P V U = r := by rw [ps_ok h2', prodSz_comm, gU_comm, HrE.out, HN.out, HD.out]
 rw [(two_ok h2').1, hps]
 clear hps h2'
 have hx : x1 * x2 = x3 := by
  rw [Hx1.out, Hx2.out, Hx3.out]
  exact G.idx_mul HH.out.2.2.1 HH.out.1 HH.out.2.2.2.1 (fun x h => h.1) (gU_left h2.2.1.1 h2.2.2.1 G)
 have hb3 : 1 ≤ x3 ∧ x3 ≤ 729 := by
  rw [Hx3.out]
  exact G.idx_bd HH.out.2.2.1 HH.out.2.2.2.1 (fun x h => gU_left h2.2.1.1 h2.2.2.1 G x h.1)
 have hw3 : IntKind.i64.wrap (x1 * x2) = x3 := by rw [hx]; exact IntWalk.i64_in _ (by omega)
 clear hx hb3
 clear hg_
 go_wp2
 go_ret
 exact ⟨_, rfl, grown_trans HA0.out.2.2.2 hgw, rfl⟩
end Go.Proofs.YtdcobapnlpeaaaaGreat
