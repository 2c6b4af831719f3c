/-
  slices.Concat at integers: the numbers of all rows, in order. cmp.Or at int.
  The library's sort at [][]int64, laid from the shelf.
  A row that the call has built, sorted by the library: any elements of one cell. (After the library's Sort/OwnSortedInts, at a general reading.)
  The order of subgroups as a comparison: by order, then by the entries.
  impl.compareSubgroups, impl.latticeOf$1, cmp.Or at int.
  spec.l03Flat, spec.l01Less, spec.l19Before.
  Lists of subgroups whose rows are shared with older lists.
  The reference's closure: spec.l12Close.
  The reference's test of a sequence: spec.l10Element, l10Elements, l01Same2, l12Is, IsSubgroup, l13Two.
  spec.l19Insert.
  Plain: the list of products, element by element (for impl.elementsOf).
  append of a row that lay there before: the list takes it out of the set of blocks that it avoids.
  [][]int64{row} as a list of the call's own.
  impl.elementsOf.
  Small things of the subgroup statements.
  spec.l19Bits: the mask of a subgroup's sequence.
  Moebius values of the lattice: the sum over all subgroups above one; the number of generating lists.
-/
import Derived.Test.YtdklekdpdbjfiaaGreatK7
import Derived.Test.YtdklekdpdbjfiaaGreatK5
import Derived.Shelf.Spec.SlicesGrow
import Derived.Shelf.SlSortCmp.NoneTotal
import Derived.Sort.OwnSortedInts
import Derived.Test.YtdklekdpdbjfiaaGreatK6
import Derived.Test.YtdklekdpdbjfiaaGreatK2
import Derived.Test.YtdklekdpdbjfiaaGreatK4
/- slices.Concat at integers: the numbers of all rows, in order. cmp.Or at int. -/
namespace Go.Proofs.YtdklekdpdbjfiaaGreat
open Go.Proofs Go.Shelf Go.RowKit
section
open Go.Lib
def Tryz.growInts_ren : Go.Shelf.Ren := ⟨fun | 4 => 156 | n => n, fun | 22 => 22 | 25 => 2 | 3 => 3 | 4 => 4 | 9 => 9 | 20 => 20 | 0 => 0 | n => n, fun | n => n⟩
theorem Tryz.growInts : Go.Proofs.Lays8.n4 Tryz.prog Tryz.growInts_ren := {
  mixed := by kernel_rfl
  f4 := ⟨Tryz.f156.name, by decide, Tryz.func156.trans (congrArg some (by kernel_rfl))⟩
  t0 := Tryz.underlying0
  a0 := Tryz.isAgg0
  z0 := Tryz.sizeOf0
  v0 := Tryz.zeroValue0
  t3 := Tryz.underlying3
  a3 := Tryz.isAgg3
  z3 := Tryz.sizeOf3
  v3 := Tryz.zeroValue3
  t4 := Tryz.underlying4
  a4 := Tryz.isAgg4
  z4 := Tryz.sizeOf4
  v4 := Tryz.zeroValue4
  t9 := Tryz.underlying9
  a9 := Tryz.isAgg9
  z9 := Tryz.sizeOf9
  v9 := Tryz.zeroValue9
  t20 := Tryz.underlying20
  a20 := Tryz.isAgg20
  z20 := Tryz.sizeOf20
  v20 := Tryz.zeroValue20
  t22 := Tryz.underlying22
  a22 := Tryz.isAgg22
  z22 := Tryz.sizeOf22
  v22 := Tryz.zeroValue22 }

theorem growInts_ok (n : Nat) (hn : n ≤ 1000000) (w : World) : Calls Tryz.prog 156 #[.slice none 0 0, .int .i64 n] w (Ret w fun w' v => Own w.heap.size w' v [] ∧ w.drawn ≤ w'.drawn) := by
  rcases Nat.eq_zero_or_pos n with rfl | h0
  · have h := Any8.slices_Grow_room Tryz.growInts none 0 0 0 w (by omega) (by omega) (by omega) (by omega)
    change Calls Tryz.prog 156 _ _ _ at h
    refine h.mono ?_
    rintro e w' ⟨rfl, rfl⟩
    exact ⟨_, rfl, Ext.refl _, Own.of (World.ownsRow_nil _ _ _ _), Nat.le_refl _⟩
  · obtain ⟨i0, hi, hz0, hz1, hz2⟩ := info_parts Tryz.infoInt
    have hmax : 0 + n ≤ maxLen := by unfold maxLen; omega
    have h := Any8.slices_Grow_grow Tryz.growInts i0 (.int .i64 0) hi hz0 (by rw [hz1]; decide) none 0 0 n [] w (by omega) (by omega) (by rw [hz2]; omega) (by omega) (by simp) (fun _ => rfl) (fun a ha => by cases ha)
    change Calls Tryz.prog 156 _ _ _ at h
    refine h.mono ?_
    rintro e w' ⟨rfl, rfl⟩
    have hge := grownCap_ge w (0 + n) 0 2
    have hle := grownCap_le_maxLen w (0 + n) 0 2 hmax
    refine ⟨_, rfl, grown_trans (grown_drew w none) (World.grownBy_alloc _ _ _), Own.of ⟨rfl, .inr ⟨w.heap.size, _, _, rfl, Nat.le_refl _, Array.getElem?_push_size (xs := w.heap), Nat.zero_le _, hle, ?_, by simp⟩⟩, by first | exact Nat.le_refl _ | exact Nat.le_succ _⟩
    simp only [Array.size_append, size_zeroCells, List.size_toArray, List.length_nil]
    have e1 : (Value.cells (.int .i64 0)).size = 1 := rfl
    have hge2 : 0 + n ≤ grownCap w (0 + n) 0 2 := hge
    rw [e1]
    show 0 + (0 + n - 0) * 1 + (grownCap w (0 + n) 0 2 - (0 + n)) * 1 = grownCap w (0 + n) 0 2 * 1
    omega

end
theorem wp_app_intsD {ops : Array Oper} {rest : List Oper} {o : Oper} {a : Act} {Q : Exit → Act → World → Prop} {w : World} (hgd : o.guard = none) (s x : Operand)
    (ho : o.op = Op.call { callee := Callee.builtin Builtin.append, args := #[s, x], argTypes := #[22, 22] }) (base : Nat) (v : Value) (l : List Int) (hs : a.eval s = v) (hown : Own base w v l)
    (u : Value) (m : List Int) (hx : a.eval x = u) (S : Nat → Prop) (hu : Ints S w u m) (hlen : l.length + m.length ≤ 2147483648) (hbase : base ≤ w.heap.size)
    (h : ∀ v' w', Own base w' v' (l ++ m) → w.grownBy w' v.ownBlock → w.drawn ≤ w'.drawn → wpList Tryz.prog ops Q rest (a.put o.dst v') w') :
    wpList Tryz.prog ops Q (o :: rest) a w := by
  refine append_drawn (Φ := fun a' w' => ∃ v', Own base w' v' (l ++ m) ∧ w.grownBy w' v.ownBlock ∧ a' = a.put o.dst v') hgd ho ?_ ?_
  · exact wp_app_ints hgd s x ho base v l hs hown u m hx S hu hlen hbase (fun v' w' k1 k2 _ => ⟨rfl, v', k1, k2, rfl⟩)
  · rintro a' w' ⟨v', k1, k2, rfl⟩ hd
    exact h v' w' k1 k2 hd

/-- the numbers of the first k rows -/
def rowsTo (us : List (List Int)) : Nat → List Int
  | 0 => []
  | k + 1 => rowsTo us k ++ gt us k

theorem rowsTo_len (us : List (List Int)) (b : Nat) (h : ∀ u ∈ us, u.length ≤ b) (k : Nat) (hk : k ≤ us.length) : (rowsTo us k).length ≤ b * k := by
  induction k with
  | zero => simp [rowsTo]
  | succ k ih =>
    have h1 := ih (by omega)
    have h2 := h _ (gt_mem (l := us) (i := k) (by omega))
    simp only [rowsTo, List.length_append, Nat.mul_succ]; omega

theorem rowsTo_take (us : List (List Int)) (k : Nat) (hk : k ≤ us.length) : rowsTo us k = (us.take k).flatten := by
  induction k with
  | zero => simp [rowsTo]
  | succ k ih =>
    have hlt : k < us.length := by omega
    rw [rowsTo, ih (by omega), List.take_succ_eq_append_getElem hlt, List.flatten_append]
    simp [gt, hlt]

theorem rowsTo_all (us : List (List Int)) : rowsTo us us.length = us.flatten := by
  rw [rowsTo_take us _ (Nat.le_refl _), List.take_length]

set_option maxRecDepth 100000 in
set_option maxHeartbeats 4000000 in
theorem concatInts_ok (w : World) (lv : Value) (us : List (List Int)) (Sr : Nat → Prop) (hl : Rows2 Sr w lv us) (hb : ∀ u ∈ us, u.length ≤ 1000) (hn : us.length ≤ 100) :
    Calls Tryz.prog 95 #[lv] w (Ret w fun w' v => Own w.heap.size w' v us.flatten ∧ w.drawn ≤ w'.drawn) := by
  obtain ⟨al, capl, rfl, _, _⟩ := Sl.shape hl
  have hfl : ∀ k, k ≤ us.length → (rowsTo us k).length ≤ 100000 := fun k hk => by have := rowsTo_len us 1000 hb k hk; omega
  have HF := Lib.hid (And.intro hfl hb); clear hfl hb
  rw [← rowsTo_all]
  go_enter Tryz.func95, Tryz.ntmps95
  go_wp2
  go_loopw [3, 11] (fun sv iv wr => ∃ k : Nat, sv = .int .i64 ((rowsTo us k).length : Nat) ∧ iv = .int .i64 k ∧ k ≤ us.length ∧ w = wr) (fun _ iv _ => us.length - (intOf iv).toNat)
  case atStart => exact ⟨0, rfl, rfl, by omega, rfl⟩
  case round =>
    obtain ⟨k, rfl, rfl, hk, rfl⟩ := hrel
    have hfk := HF.out.1 k hk
    by_cases hlt : k < us.length
    · have hlt' : (k : Int) < us.length := by omega
      obtain ⟨b, off, a2, cap2, rfl, _, _, hc, hr⟩ := Rows2.at hl k hlt
      have hfk2 := HF.out.1 (k + 1) hlt
      have hst : (rowsTo us (k + 1)).length = (rowsTo us k).length + (gt us k).length := by simp only [rowsTo, List.length_append]
      obtain ⟨m, hm⟩ : ∃ m, m = (rowsTo us k).length := ⟨_, rfl⟩
      obtain ⟨m2, hm2⟩ : ∃ m2, m2 = (gt us k).length := ⟨_, rfl⟩
      rw [← hm] at hfk hst ⊢
      rw [← hm2] at hc hr hst
      have hmm : m + m2 ≤ 100000 := by omega
      have hw : IntKind.i64.wrap ((m : Int) + (m2 : Int)) = ((m + m2 : Nat) : Int) := by rw [IntWalk.i64_in _ (by omega)]; omega
      have hnn : ¬ ((m + m2 : Nat) : Int) < 0 := by omega
      have HS := Lib.hid (And.intro hst (And.intro hm hm2)); clear hst hm hm2 hfk2
      go_wp2
      go_roundw
      case rel => exact ⟨k + 1, by rw [HS.out.1, Int.natCast_add], by go_num, by omega, trivial⟩
      case measure => simp [intOf]; omega
    · have hke : k = us.length := by omega
      subst hke
      obtain ⟨m, hm⟩ : ∃ m, m = (rowsTo us us.length).length := ⟨_, rfl⟩
      rw [← hm] at hfk ⊢
      clear hm
      go_wp2_with fail
      refine Calls.mono (growInts_ok m (by omega) w) ?_
      rintro e1 w1 ⟨v1, rfl, hg1, hO1, hd1⟩
      go_wp2
      go_loopw [6, 27] (fun ov iv wr => ∃ (k : Nat) (v4 : Value), v4 = ov ∧ iv = .int .i64 k ∧ k ≤ us.length ∧ Ext w wr ∧ Own w.heap.size wr v4 (rowsTo us k) ∧ w.drawn ≤ wr.drawn) (fun _ iv _ => us.length - (intOf iv).toNat)
      case atStart => exact ⟨0, v1, rfl, rfl, by omega, hg1, hO1, hd1⟩
      case round =>
        clear hO1
        obtain ⟨k, v4, rfl, rfl, hk, hg, hO, hdr⟩ := hrel
        by_cases hlt : k < us.length
        · have hlt' : (k : Int) < us.length := by omega
          obtain ⟨b, off, a2, cap2, rfl, _, _, hc, hr⟩ := Rows2.at hl k hlt
          have hcr := hg.cell hc (by simp)
          have hr2 := Ints.ext hr hg
          have hlk := HF.out.2 _ (gt_mem hlt)
          have hfk := HF.out.1 k hk
          have hlen : (rowsTo us k).length + (gt us k).length ≤ 2147483648 := by omega
          have HN := Lib.hid (And.intro hr2 hlen); clear hlen hr2 hlk hfk hc
          go_wp2_with (first | (at_builtin; refine wp_app_intsD rfl _ _ rfl w.heap.size _ (rowsTo us k) rfl hO _ (gt us k) rfl _ HN.out.1 HN.out.2 hg.size ?_; intro v5 w5 hO5 hg5 hd5; have hgw5 := grown_own hg hg5 (fun j hj hlt => by have := (hO.lt j hj).1; omega)) | fail)
          clear hcr
          go_roundw
          case rel => exact ⟨k + 1, v5, rfl, by go_num, by omega, hgw5, hO5, Nat.le_trans hdr hd5⟩
          case measure => simp [intOf]; omega
        · have hke : k = us.length := by omega
          subst hke
          obtain ⟨az, capz, nz, hvz⟩ : ∃ az capz nz, v4 = .slice az nz capz := by
            rcases hO.2 with ⟨h1, _⟩ | ⟨g, cp, _, h1, _⟩
            · exact ⟨_, _, _, h1⟩
            · exact ⟨_, _, _, h1⟩
          subst hvz
          go_wp2
          go_ret
          exact ⟨_, rfl, hg, hO, hdr⟩

end Go.Proofs.YtdklekdpdbjfiaaGreat

/- The library's sort at [][]int64, laid from the shelf. -/
namespace Go.Proofs.YtdklekdpdbjfiaaGreat
open Go.Proofs Go.Shelf Go.RowKit Go.Lib Go.Sort
def Tryz.sortRows_ren : Go.Shelf.Ren := ⟨fun | 6 => 216 | 15 => 200 | 14 => 246 | 28 => 240 | 29 => 241 | 20 => 256 | 21 => 257 | 22 => 258 | 23 => 259 | 24 => 260 | 25 => 261 | 26 => 262 | 27 => 263 | 46 => 266 | 47 => 252 | 48 => 253 | 49 => 267 | 50 => 268 | 57 => 269 | n => n, fun | 22 => 23 | 24 => 22 | 25 => 171 | 3 => 3 | 39 => 168 | 0 => 0 | 53 => 198 | 55 => 95 | 4 => 4 | 46 => 191 | 45 => 190 | 50 => 195 | 5 => 5 | 9 => 9 | 66 => 204 | 70 => 208 | 76 => 216 | 77 => 217 | n => n, fun | n => n⟩
theorem Tryz.sortRows : Go.Proofs.SlLaysF.n6 Tryz.prog Tryz.sortRows_ren := {
  mixed := by kernel_rfl
  f6 := ⟨Tryz.f216.name, by decide, Tryz.func216.trans (congrArg some (by kernel_rfl))⟩
  f14 := ⟨Tryz.f246.name, by decide, Tryz.func246.trans (congrArg some (by kernel_rfl))⟩
  f15 := Tryz.func200.trans (congrArg some (by kernel_rfl))
  f20 := ⟨Tryz.f256.name, by decide, Tryz.func256.trans (congrArg some (by kernel_rfl))⟩
  f21 := ⟨Tryz.f257.name, by decide, Tryz.func257.trans (congrArg some (by kernel_rfl))⟩
  f22 := ⟨Tryz.f258.name, by decide, Tryz.func258.trans (congrArg some (by kernel_rfl))⟩
  f23 := ⟨Tryz.f259.name, by decide, Tryz.func259.trans (congrArg some (by kernel_rfl))⟩
  f24 := ⟨Tryz.f260.name, by decide, Tryz.func260.trans (congrArg some (by kernel_rfl))⟩
  f25 := ⟨Tryz.f261.name, by decide, Tryz.func261.trans (congrArg some (by kernel_rfl))⟩
  f26 := ⟨Tryz.f262.name, by decide, Tryz.func262.trans (congrArg some (by kernel_rfl))⟩
  f27 := ⟨Tryz.f263.name, by decide, Tryz.func263.trans (congrArg some (by kernel_rfl))⟩
  f28 := Tryz.func240.trans (congrArg some (by kernel_rfl))
  f29 := Tryz.func241.trans (congrArg some (by kernel_rfl))
  f46 := ⟨Tryz.f266.name, by decide, Tryz.func266.trans (congrArg some (by kernel_rfl))⟩
  f47 := Tryz.func252.trans (congrArg some (by kernel_rfl))
  f48 := Tryz.func253.trans (congrArg some (by kernel_rfl))
  f49 := ⟨Tryz.f267.name, by decide, Tryz.func267.trans (congrArg some (by kernel_rfl))⟩
  f50 := ⟨Tryz.f268.name, by decide, Tryz.func268.trans (congrArg some (by kernel_rfl))⟩
  f57 := ⟨Tryz.f269.name, by decide, Tryz.func269.trans (congrArg some (by kernel_rfl))⟩
  t0 := Tryz.underlying0
  a0 := Tryz.isAgg0
  z0 := Tryz.sizeOf0
  v0 := Tryz.zeroValue0
  t3 := Tryz.underlying3
  a3 := Tryz.isAgg3
  z3 := Tryz.sizeOf3
  v3 := Tryz.zeroValue3
  t4 := Tryz.underlying4
  a4 := Tryz.isAgg4
  z4 := Tryz.sizeOf4
  v4 := Tryz.zeroValue4
  t5 := Tryz.underlying5
  a5 := Tryz.isAgg5
  z5 := Tryz.sizeOf5
  v5 := Tryz.zeroValue5
  t9 := Tryz.underlying9
  a9 := Tryz.isAgg9
  z9 := Tryz.sizeOf9
  v9 := Tryz.zeroValue9
  t22 := Tryz.underlying23
  a22 := Tryz.isAgg23
  z22 := Tryz.sizeOf23
  v22 := Tryz.zeroValue23
  a24 := Tryz.isAgg22
  z24 := Tryz.sizeOf22
  t25 := Tryz.underlying171
  a25 := Tryz.isAgg171
  z25 := Tryz.sizeOf171
  v25 := Tryz.zeroValue171
  t39 := Tryz.underlying168
  a39 := Tryz.isAgg168
  z39 := Tryz.sizeOf168
  v39 := Tryz.zeroValue168
  t45 := Tryz.underlying190
  a45 := Tryz.isAgg190
  z45 := Tryz.sizeOf190
  v45 := Tryz.zeroValue190
  t46 := Tryz.underlying191
  a46 := Tryz.isAgg191
  z46 := Tryz.sizeOf191
  v46 := Tryz.zeroValue191
  t50 := Tryz.underlying195
  a50 := Tryz.isAgg195
  z50 := Tryz.sizeOf195
  v50 := Tryz.zeroValue195
  t53 := Tryz.underlying198
  a53 := Tryz.isAgg198
  z53 := Tryz.sizeOf198
  v53 := Tryz.zeroValue198
  t55 := Tryz.underlying95
  a55 := Tryz.isAgg95
  z55 := Tryz.sizeOf95
  v55 := Tryz.zeroValue95
  t66 := Tryz.underlying204
  a66 := Tryz.isAgg204
  z66 := Tryz.sizeOf204
  v66 := Tryz.zeroValue204
  t70 := Tryz.underlying208
  a70 := Tryz.isAgg208
  z70 := Tryz.sizeOf208
  v70 := Tryz.zeroValue208
  t76 := Tryz.underlying216
  a76 := Tryz.isAgg216
  z76 := Tryz.sizeOf216
  v76 := Tryz.zeroValue216
  t77 := Tryz.underlying217
  a77 := Tryz.isAgg217
  z77 := Tryz.sizeOf217
  v77 := Tryz.zeroValue217 }
end Go.Proofs.YtdklekdpdbjfiaaGreat

/- A row that the call has built, sorted by the library: any elements of one cell. (After the library's Sort/OwnSortedInts, at a general reading.) -/
namespace Go.Proofs.YtdklekdpdbjfiaaGreat
open Go.Proofs Go.Shelf Go.RowKit Go.Lib Go.Sort

section
variable {α : Type} [Inhabited α] {enc : α → Value}
theorem holds_of_blockV {w : World} {g : Nat} {cur : Array Value} {e : TypeId} {ss : List α} (hb : w.heap[g]? = some (.cells cur e (0, 0))) (ht : cur.toList.take ss.length = ss.map enc) : Go.Sort.Holds enc w g 0 ss.toArray := by
  intro j hj
  have hj' : j < ss.length := by simpa using hj
  refine ⟨?_, by simp [World.frozen?, hb]⟩
  have h1 : (cur.toList.take ss.length)[j]? = (ss.map enc)[j]? := by rw [ht]
  rw [List.getElem?_take_of_lt hj'] at h1
  simp only [World.cell?, hb, Nat.zero_add]
  simp only [Option.isSome_none, Bool.false_eq_true, if_false]
  rw [← Array.getElem?_toList, h1]
  simp [hj']

theorem heap_sortedV {w : World} {g n : Nat} {os : Array Obj} {cur : Array Value} {e : TypeId} {fr : Nat × Nat} (d : Array α) (hb : w.heap[g]? = some (.cells cur e fr)) :
    (sortWorld enc w g 0 n d os).heap[g]? = some (.cells (putCells enc 0 d cur) e fr) := by
  have hg : g < w.heap.size := (Array.getElem?_eq_some_iff.1 hb).1
  unfold sortWorld
  rw [heap_grow_old _ _ (by simpa using hg)]
  simp [putRow, mapBlock, Sort.ahead, Array.getElem?_modify, hb, onCells]

theorem grownBy_sortedV {w : World} {g n : Nat} {os : Array Obj} (d : Array α) : w.grownBy (sortWorld enc w g 0 n d os) (some g) := by
  unfold sortWorld
  refine ⟨rfl, rfl, rfl, by simp, fun k hk hne => ?_⟩
  rw [heap_grow_old _ _ (by simpa using hk)]
  have : g ≠ k := fun e => hne (by rw [e])
  simp [putRow, mapBlock, Sort.ahead, Array.getElem?_modify, this]

theorem take_putCellsV (cur : Array Value) (ts : List α) (h : ts.length ≤ cur.size) : (putCells enc 0 ts.toArray cur).toList.take ts.length = ts.map enc := by
  apply List.ext_getElem?
  intro j
  by_cases hj : j < ts.length
  · rw [List.getElem?_take_of_lt hj, Array.getElem?_toList]
    simp [putCells, hj, show j < cur.size by omega]
  · rw [List.getElem?_take_eq_none (by omega), List.getElem?_eq_none (by simp; omega)]

theorem ownsRow_sortedV {w : World} {base g cap n : Nat} {e : TypeId} {os : Array Obj} {cur : Array Value} {ss ts : List α} (hl : ts.length = ss.length) (hbase : base ≤ g) (hb : w.heap[g]? = some (.cells cur e (0, 0)))
    (h1 : ss.length ≤ cap) (h2 : cap ≤ maxLen) (h3 : cur.size = cap * 1) :
    (sortWorld enc w g 0 n ts.toArray os).ownsRow base e 1 (.slice (some ⟨g, 0, none⟩) ss.length cap) ss.length (ts.map enc) :=
  ⟨by simp [hl], .inr ⟨g, cap, _, rfl, hbase, heap_sortedV _ hb, h1, h2, by simp [putCells, h3], by rw [Nat.mul_one, ← hl]; exact take_putCellsV cur ts (by omega)⟩⟩
end

/-- a slice value of the row, nil beyond it -/
def encAt (vs : List Value) (k : Nat) : Value := if k < vs.length then gt vs k else .slice none 0 0
theorem encAt_one {vs : List Value} (h : ∀ i, i < vs.length → (gt vs i).oneCell' = true) : OneCell (encAt vs) := by
  intro k
  unfold encAt
  split
  · exact h k (by assumption)
  · rfl

theorem gt_inj {α : Type} [Inhabited α] {l : List α} (h : l.Nodup) {i j : Nat} (hi : i < l.length) (hj : j < l.length) (he : gt l i = gt l j) : i = j := by
  simp only [gt, List.getD_eq_getElem?_getD, List.getElem?_eq_getElem hi, List.getElem?_eq_getElem hj, Option.getD_some] at he
  rcases Nat.lt_trichotomy i j with h1 | h1 | h1
  · exact absurd he (List.pairwise_iff_getElem.1 h i j hi hj h1)
  · exact h1
  · exact absurd he.symm (List.pairwise_iff_getElem.1 h j i hj hi h1)

end Go.Proofs.YtdklekdpdbjfiaaGreat

/- The order of subgroups as a comparison: by order, then by the entries. -/
namespace Go.Proofs.YtdklekdpdbjfiaaGreat
open Go.Proofs Go.Shelf Go.RowKit Go.Lib Go.Sort

def cmpS (P : Pr) (u v : List (List Int)) : Int := if cmpI (prodU P u u.length) (prodU P v v.length) = 0 then cmpL u.flatten v.flatten else cmpI (prodU P u u.length) (prodU P v v.length)

theorem cmpS_neg {P : Pr} {u v : List (List Int)} : cmpS P u v < 0 ↔ subLt P u v := by
  unfold cmpS subLt
  rcases cmpI_cases (prodU P u u.length) (prodU P v v.length) with ⟨h, k⟩ | ⟨h, k⟩ | ⟨h, k⟩ <;> rw [h]
  · rw [if_neg (by omega)]; exact ⟨fun _ => .inl k, fun _ => by omega⟩
  · rw [if_pos rfl]; exact ⟨fun h => .inr ⟨k, h⟩, fun h => by rcases h with h | h; · omega
                                                              · exact h.2⟩
  · rw [if_neg (by omega)]; exact ⟨fun h => by omega, fun h => by omega⟩

theorem cmpS_swap (P : Pr) (u v : List (List Int)) : cmpS P v u = - cmpS P u v := by
  unfold cmpS
  rw [cmpL_swap u.flatten v.flatten]
  rcases cmpI_cases (prodU P u u.length) (prodU P v v.length) with ⟨h, k⟩ | ⟨h, k⟩ | ⟨h, k⟩ <;> rcases cmpI_cases (prodU P v v.length) (prodU P u u.length) with ⟨h', k'⟩ | ⟨h', k'⟩ | ⟨h', k'⟩ <;> rw [h, h']
  all_goals first | omega | rfl

theorem swo_cmpS (P : Pr) : SWO (ltOf (cmpS P)) where
  irrefl x := by
    have := cmpS_swap P x x
    unfold ltOf; rw [decide_eq_false_iff_not]; omega
  trans x y z h k := by
    unfold ltOf at *
    rw [decide_eq_true_iff] at *
    exact cmpS_neg.2 (subLt_trans (cmpS_neg.1 h) (cmpS_neg.1 k))
  ntrans x y z h k := by
    unfold ltOf at *
    rw [decide_eq_false_iff_not] at *
    intro hz
    have hz' := cmpS_neg.1 hz
    unfold subLt at hz'
    rw [cmpS_neg] at h k
    unfold subLt at h k
    have h1 := cmpL_swap x.flatten y.flatten
    have h2 := cmpL_swap y.flatten z.flatten
    have h3 := cmpL_swap x.flatten z.flatten
    rcases hz' with hz' | ⟨e, hz'⟩
    · have : ¬ prodU P x x.length < prodU P y y.length := fun hh => h (.inl hh)
      have : ¬ prodU P y y.length < prodU P z z.length := fun hh => k (.inl hh)
      omega
    · have hx : ¬ prodU P x x.length < prodU P y y.length := fun hh => h (.inl hh)
      have hy : ¬ prodU P y y.length < prodU P z z.length := fun hh => k (.inl hh)
      have e1 : prodU P x x.length = prodU P y y.length := by omega
      have e2 : prodU P y y.length = prodU P z z.length := by omega
      have c1 : ¬ cmpL x.flatten y.flatten < 0 := fun hh => h (.inr ⟨e1, hh⟩)
      have c2 : ¬ cmpL y.flatten z.flatten < 0 := fun hh => k (.inr ⟨e2, hh⟩)
      have h4 := cmpL_le_trans z.flatten y.flatten x.flatten (by omega) (by omega)
      omega

/-- a list of all subgroups, each once, that the comparison calls sorted -/
theorem latL_of {P : Pr} (G : Grp P) {L L' : List (List (List Int))} (hp : L'.Perm L) (hs : L'.Pairwise (fun x y => 0 ≤ cmpS P y x)) (hn : L.Nodup) (hm : ∀ u, u ∈ L ↔ SubB P u) : LatL P L' := by
  refine ⟨?_, fun u => (hp.mem_iff).trans (hm u)⟩
  have hn' : L'.Nodup := hp.symm.nodup hn
  have hmem : ∀ u ∈ L', SubB P u := fun u hu => (hm u).1 (hp.mem_iff.1 hu)
  refine List.pairwise_iff_getElem.2 fun i j hi hj hij => ?_
  have h1 := List.pairwise_iff_getElem.1 hs i j hi hj hij
  have h2 := List.pairwise_iff_getElem.1 hn' i j hi hj hij
  refine Classical.byContradiction fun hc => ?_
  have := subLt_total G (hmem _ (List.getElem_mem hi)) (hmem _ (List.getElem_mem hj)) h2 hc
  rw [← cmpS_neg] at this
  omega

end Go.Proofs.YtdklekdpdbjfiaaGreat

/- impl.compareSubgroups, impl.latticeOf$1, cmp.Or at int. -/
namespace Go.Proofs.YtdklekdpdbjfiaaGreat
open Go.RowKit

set_option maxHeartbeats 1000000 in
theorem orInt_ok (a b : Int) (w : World) (v : Value) (S : Nat → Prop) (h : Ints S w v [a, b]) :
    Calls Tryz.prog 201 #[v] w fun e w' => e = .returned (.int .i64 (if a = 0 then b else a)) ∧ w' = w := by
  obtain ⟨av, capv, rfl, _, _⟩ := h.shape
  obtain ⟨b0, o0, rfl, _, _, hc0⟩ := Ints.at h 0 (by simp)
  have hc1 : w.cell? ⟨b0, o0 + 1, none⟩ = some (.int .i64 b) := by
    obtain ⟨b1, o1, e, _, _, hc1⟩ := Ints.at h 1 (by simp)
    cases e; exact hc1
  have hc0' : w.cell? ⟨b0, o0, none⟩ = some (.int .i64 a) := hc0
  clear hc0 h
  have hln : (([a, b] : List Int).length : Int) = 2 := rfl
  rw [show ([a, b] : List Int).length = 2 from rfl]
  clear hln
  go_enter Tryz.func201, Tryz.ntmps201
  go_wp2
  go_loopw [8] (fun iv wr => ∃ k : Nat, iv = .int .i64 k ∧ k ≤ 2 ∧ wr = w ∧ (1 ≤ k → a = 0) ∧ (2 ≤ k → b = 0)) (fun iv _ => 2 - (intOf iv).toNat)
  case atStart => exact ⟨0, rfl, by omega, rfl, fun h => by omega, fun h => by omega⟩
  case round =>
    obtain ⟨k, rfl, hk, rfl, ha, hb⟩ := hrel
    by_cases h0 : k = 0
    · subst h0
      clear ha hb hk
      by_cases hz : a = 0
      · subst hz
        go_wp2
        go_roundw
        case rel => exact ⟨1, by go_num, by omega, trivial, by simp, by omega⟩
        case measure => simp [intOf]
      · go_wp2
        exact bodyPost_ret (v := .int .i64 a) (by simp [results, Tryz.results201, go_sem]) rfl ⟨rfl, rfl⟩
    · by_cases h1 : k = 1
      · subst h1
        have ha' := ha (by omega)
        subst ha'
        clear ha hb hk h0
        by_cases hz : b = 0
        · subst hz
          go_wp2
          go_roundw
          case rel => exact ⟨2, by go_num, by omega, trivial, by simp, by simp⟩
          case measure => simp [intOf]
        · go_wp2
          exact bodyPost_ret (v := .int .i64 b) (by simp [results, Tryz.results201, go_sem]) rfl ⟨rfl, rfl⟩
      · have h2 : k = 2 := by omega
        subst h2
        have ha' := ha (by omega)
        have hb' := hb (by omega)
        subst ha'; subst hb'
        clear ha hb hk h0 h1
        go_wp2
        exact bodyPost_ret (v := .int .i64 0) (by simp [results, Tryz.results201, go_sem]) rfl ⟨rfl, rfl⟩

theorem seqOk_row {P : Pr} {U : List (List Int)} (hU : SeqOk P U) : ∀ u ∈ U, u.length = P.orders.length := fun u hu => (hU.1 u hu).1.1

set_option maxRecDepth 100000 in
set_option maxHeartbeats 2000000 in
theorem compareSubgroups_ok (P : Pr) (hP : Valid P) (w : World) (p uv vv : Value) (U V : List (List Int)) (Sp Su Sv : Nat → Prop) (hp : PresP Sp w p P) (hu : Rows2 Su w uv U) (hv : Rows2 Sv w vv V) (hU : SeqOk P U) (hV : SeqOk P V) (hlu : U.length ≤ 100) (hlv : V.length ≤ 100) :
    Calls Tryz.prog 140 #[p, uv, vv] w (Ret w fun w' v => v = .int .i64 (cmpS P U V) ∧ w.drawn ≤ w'.drawn) := by
  have hn6 := hP.n6
  obtain ⟨pb, po, rfl⟩ := hp.shape
  obtain ⟨au, capu, rfl, _, _⟩ := Sl.shape hu
  obtain ⟨av, capv, rfl, _, _⟩ := Sl.shape hv
  have hUl : ∀ u ∈ U, u.length ≤ 1000 := fun u h => by have := seqOk_row hU u h; omega
  have hVl : ∀ u ∈ V, u.length ≤ 1000 := fun u h => by have := seqOk_row hV u h; omega
  have hUf : U.flatten.length ≤ 100000 := by have := rowsTo_len U 1000 hUl _ (Nat.le_refl _); rw [rowsTo_all] at this; omega
  have hVf : V.flatten.length ≤ 100000 := by have := rowsTo_len V 1000 hVl _ (Nat.le_refl _); rw [rowsTo_all] at this; omega
  have hdef : cmpS P U V = if cmpI (prodU P U U.length) (prodU P V V.length) = 0 then cmpL U.flatten V.flatten else cmpI (prodU P U U.length) (prodU P V V.length) := rfl
  have HH := Lib.hid (And.intro (And.intro hU hV) (And.intro (And.intro hUl hVl) (And.intro hUf (And.intro hVf hdef)))); clear hU hV hUl hVl hUf hVf hdef
  go_enter Tryz.func140, Tryz.ntmps140
  go_wp2_with fail
  refine Calls.mono (sizeOfD_ok P hP w _ _ U Sp Su hp hu HH.out.1.1 hlu) ?_
  rintro e1 w1 ⟨v1, rfl, hg1, rfl, hd1⟩
  obtain ⟨a, ha⟩ : ∃ a, a = prodU P U U.length := ⟨_, rfl⟩
  rw [← ha]
  have HA := Lib.hid (And.intro ha hd1); clear ha hd1
  go_wp2_with fail
  refine Calls.mono (sizeOfD_ok P hP w1 _ _ V Sp Sv (hp.ext hg1) (Rows2.ext hv hg1) HH.out.1.2 hlv) ?_
  rintro e2 w2 ⟨v2, rfl, hg2, rfl, hd2⟩
  obtain ⟨b, hb⟩ : ∃ b, b = prodU P V V.length := ⟨_, rfl⟩
  rw [← hb]
  have hdef := HH.out.2.2.2.2
  rw [← HA.out.1, ← hb] at hdef
  have HD := Lib.hid (And.intro hdef hd2); clear hdef hb hd2
  go_wp2_with fail
  refine Calls.mono (cmpI_ok a b w2) ?_
  rintro e3 w3 ⟨rfl, rfl⟩
  obtain ⟨c, hc⟩ : ∃ c, c = cmpI a b := ⟨_, rfl⟩
  rw [← hc]
  have hdef := HD.out.1
  rw [← hc] at hdef
  have HD2 := Lib.hid hdef; clear hdef hc
  have hg12 := grown_trans hg1 hg2
  go_wp2_with fail
  refine Calls.mono (concatInts_ok w3 _ U Su (Rows2.ext hu hg12) HH.out.2.1.1 hlu) ?_
  rintro e4 w4 ⟨v4, rfl, hg4, hO4, hd4⟩
  have hg14 := grown_trans hg12 hg4
  have HD4 := Lib.hid hd4; clear hd4
  go_wp2_with fail
  refine Calls.mono (concatInts_ok w4 _ V Sv (Rows2.ext hv hg14) HH.out.2.1.2 hlv) ?_
  rintro e5 w5 ⟨v5, rfl, hg5, hO5, hd5⟩
  have hI4 : Ints Any w5 v4 U.flatten := Ints.sub (Ints.ext (ints_of_own (S := Any) hO4 (by have := HH.out.2.2.1; omega) (fun _ _ => trivial)) hg5) (fun _ _ _ => trivial)
  have hI5 : Ints Any w5 v5 V.flatten := ints_of_own (S := Any) hO5 (by have := HH.out.2.2.2.1; omega) (fun _ _ => trivial)
  have HI := Lib.hid (And.intro hI4 hI5); clear hI4 hI5 hO4 hO5
  have HD5 := Lib.hid hd5; clear hd5
  go_wp2_with fail
  refine Calls.mono (sCompare_ok v4 v5 U.flatten V.flatten w5 Any Any HI.out.1 HI.out.2) ?_
  rintro e6 w6 ⟨rfl, rfl⟩
  obtain ⟨d, hd⟩ : ∃ d, d = cmpL U.flatten V.flatten := ⟨_, rfl⟩
  rw [← hd]
  have hdef := HD2.out
  rw [← hd] at hdef
  have HD3 := Lib.hid hdef; clear hdef hd HD2 HH HI
  have hga : Ext w6 (w6.alloc (.cells #[.int .i64 c, .int .i64 d] 3)) := World.grownBy_alloc _ _ _
  have hO7 : OwnV w6.heap.size 3 (w6.alloc (.cells #[.int .i64 c, .int .i64 d] 3)) (.slice (some ⟨w6.heap.size, 0, none⟩) 2 2) [.int .i64 c, .int .i64 d] := World.ownsRow_lit w6 #[.int .i64 c, .int .i64 d] 2 (Nat.le_refl _) (by decide) rfl
  have hI7 : Ints Any (w6.alloc (.cells #[.int .i64 c, .int .i64 d] 3)) (.slice (some ⟨w6.heap.size, 0, none⟩) 2 2) [c, d] := by
    refine ⟨_, _, rfl, ⟨by simp, by simp, fun h => by cases h⟩, fun i hi => ⟨w6.heap.size, 0, .int .i64 (gt [c, d] i), rfl, trivial, by simp, ?_, rfl⟩⟩
    have := hO7.cell i (by simpa using hi)
    rw [Nat.zero_add, this]
    have hi2 : i < 2 := by simpa using hi
    have : i = 0 ∨ i = 1 := by omega
    rcases this with rfl | rfl <;> rfl
  have H7 := Lib.hid hI7; clear hI7 hO7
  go_wp2_with fail
  refine Calls.mono (orInt_ok c d _ _ Any H7.out) ?_
  rintro e8 w8 ⟨rfl, rfl⟩
  rw [← HD3.out]
  go_wp2
  go_ret
  exact ⟨_, rfl, grown_trans hg14 (grown_trans hg5 hga), rfl, Nat.le_trans (Nat.le_trans HA.out.2 HD.out.2) (Nat.le_trans HD4.out HD5.out)⟩

set_option maxHeartbeats 1000000 in
theorem latCmp_ok (P : Pr) (hP : Valid P) (w : World) (bx pb po : Nat) (uv vv : Value) (U V : List (List Int)) (Sp Su Sv : Nat → Prop) (hc : w.cell? ⟨bx, 0, none⟩ = some (.pointer (some ⟨pb, po, none⟩))) (hp : PresP Sp w (.pointer (some ⟨pb, po, none⟩)) P)
    (hu : Rows2 Su w uv U) (hv : Rows2 Sv w vv V) (hU : SeqOk P U) (hV : SeqOk P V) (hlu : U.length ≤ 100) (hlv : V.length ≤ 100) :
    Calls Tryz.prog 148 #[uv, vv, .pointer (some ⟨bx, 0, none⟩)] w (Ret w fun w' v => v = .int .i64 (cmpS P U V) ∧ w.drawn ≤ w'.drawn) := by
  go_enter Tryz.func148, Tryz.ntmps148
  go_wp2_with fail
  refine Calls.mono (compareSubgroups_ok P hP w _ uv vv U V Sp Su Sv hp hu hv hU hV hlu hlv) ?_
  rintro e1 w1 ⟨v1, rfl, hg1, rfl, hd1⟩
  obtain ⟨c, hc⟩ : ∃ c, c = cmpS P U V := ⟨_, rfl⟩
  rw [← hc]
  have HC := Lib.hid (And.intro hc hd1); clear hc hd1
  go_wp2
  go_ret
  exact ⟨_, rfl, hg1, congrArg (Value.int .i64) HC.out.1, HC.out.2⟩

end Go.Proofs.YtdklekdpdbjfiaaGreat

/- spec.l03Flat, spec.l01Less, spec.l19Before. -/
namespace Go.Proofs.YtdklekdpdbjfiaaGreat
open Go.RowKit

set_option maxRecDepth 100000 in
set_option maxHeartbeats 2000000 in
theorem l03Flat_ok (w : World) (lv : Value) (us : List (List Int)) (Sr : Nat → Prop) (hl : Rows2 Sr w lv us) (hb : ∀ u ∈ us, u.length ≤ 1000) (hn : us.length ≤ 100) :
    Calls Tryz.prog 231 #[lv] w (Ret w fun w' v => Own w.heap.size w' v us.flatten) := by
  obtain ⟨al, capl, rfl, _, _⟩ := Sl.shape hl
  have hfl : ∀ k, k ≤ us.length → (rowsTo us k).length ≤ 100000 := fun k hk => by have := rowsTo_len us 1000 hb k hk; omega
  have HF := Lib.hid (And.intro hfl hb); clear hfl hb
  rw [← rowsTo_all]
  go_enter Tryz.func231, Tryz.ntmps231
  go_wp2
  go_loopw [3, 4] (fun ov iv wr => ∃ (k : Nat) (v4 : Value), v4 = ov ∧ iv = .int .i64 k ∧ k ≤ us.length ∧ Ext w wr ∧ Own w.heap.size wr v4 (rowsTo us k)) (fun _ iv _ => us.length - (intOf iv).toNat)
  case atStart => exact ⟨0, _, rfl, rfl, by omega, World.grownBy_alloc _ _ _, World.ownsRow_lit w #[] 0 (Nat.le_refl _) (by decide) rfl⟩
  case round =>
    obtain ⟨k, v4, rfl, rfl, hk, hg, hO⟩ := hrel
    by_cases hlt : k < us.length
    · have hlt' : (k : Int) < us.length := by omega
      obtain ⟨b, off, a2, cap2, rfl, _, _, hc, hr⟩ := Rows2.at hl k hlt
      have hcr := hg.cell hc (by simp)
      have hr2 := Ints.ext hr hg
      have hlk := HF.out.2 _ (gt_mem hlt)
      have hfk := HF.out.1 k hk
      have hlen : (rowsTo us k).length + (gt us k).length ≤ 2147483648 := by omega
      have HN := Lib.hid (And.intro hr2 hlen); clear hlen hr2 hlk hfk hc
      go_wp2_with (first | (at_builtin; refine wp_app_ints rfl _ _ rfl w.heap.size _ (rowsTo us k) rfl hO _ (gt us k) rfl _ HN.out.1 HN.out.2 hg.size ?_; intro v5 w5 hO5 hg5 _; have hgw5 := grown_own hg hg5 (fun j hj hlt => by have := (hO.lt j hj).1; omega)) | fail)
      clear hcr
      go_roundw
      case rel => exact ⟨k + 1, v5, rfl, by go_num, by omega, hgw5, hO5⟩
      case measure => simp [intOf]; omega
    · have hke : k = us.length := by omega
      subst hke
      obtain ⟨az, nz, capz, hvz⟩ : ∃ az nz capz, v4 = .slice az nz capz := by
        rcases hO.2 with ⟨h1, _⟩ | ⟨g, cp, _, h1, _⟩
        · exact ⟨_, _, _, h1⟩
        · exact ⟨_, _, _, h1⟩
      subst hvz
      go_wp2
      go_ret
      exact ⟨_, rfl, hg, hO⟩

theorem cmpL_end {X Y : List Int} {k : Nat} (hx : k ≤ X.length) (hy : k ≤ Y.length) (h : k = X.length ∨ k = Y.length) : (cmpL (X.drop k) (Y.drop k) < 0 ↔ X.length < Y.length) := by
  by_cases h1 : k < X.length
  · have h2 : k = Y.length := by omega
    rw [drop_gt h1, List.drop_eq_nil_of_le (show Y.length ≤ k by omega)]
    simp only [cmpL]; omega
  · rw [List.drop_eq_nil_of_le (show X.length ≤ k by omega)]
    by_cases h2 : k < Y.length
    · rw [drop_gt h2]; simp only [cmpL]; omega
    · rw [List.drop_eq_nil_of_le (show Y.length ≤ k by omega)]
      simp only [cmpL]; omega

set_option maxRecDepth 100000 in
set_option maxHeartbeats 4000000 in
theorem l01Less_ok (a b : Value) (X Y : List Int) (w : World) (Sa Sb : Nat → Prop) (ha : Ints Sa w a X) (hb : Ints Sb w b Y) :
    Calls Tryz.prog 230 #[a, b] w (Ret w fun _ v => v = .bool (decide (cmpL X Y < 0))) := by
  obtain ⟨aa, capa, rfl, hla, _⟩ := ha.shape
  obtain ⟨ab, capb, rfl, hlb, _⟩ := hb.shape
  go_enter Tryz.func230, Tryz.ntmps230
  go_wp2
  go_loopw [5] (fun v wr => ∃ k : Nat, v = .int .i64 k ∧ k ≤ X.length ∧ k ≤ Y.length ∧ Ext w wr ∧ Hid (cmpL X Y = cmpL (X.drop k) (Y.drop k))) (fun v _ => X.length - (intOf v).toNat)
  case atStart => exact ⟨0, rfl, by omega, by omega, Ext.refl _, Lib.hid (by simp)⟩
  case round =>
    obtain ⟨k, rfl, hk, hkY, hg, hcmp⟩ := hrel
    by_cases hlt : k < X.length
    · obtain ⟨ba, oa, rfl, _, _, hca⟩ := Ints.at (Ints.ext ha hg) k hlt
      have hlt' : (k : Int) < X.length := by omega
      by_cases hltY : k < Y.length
      · obtain ⟨bb, ob, rfl, _, _, hcb⟩ := Ints.at (Ints.ext hb hg) k hltY
        have hltY' : (k : Int) < Y.length := by omega
        have hc2 := hcmp.out
        rw [drop_gt hlt, drop_gt hltY] at hc2
        simp only [cmpL] at hc2
        obtain ⟨x, hx⟩ : ∃ x, x = gt X k := ⟨_, rfl⟩
        obtain ⟨y, hy⟩ : ∃ y, y = gt Y k := ⟨_, rfl⟩
        rw [← hx] at hca hc2
        rw [← hy] at hcb hc2
        have HC := Lib.hid hc2; clear hc2 hcmp hx hy
        go_wp2
        go_quiet (fail)
        rename_i nq _
        have hgq : Ext w (wr.drewN nq) := grown_trans hg (grown_drewN _ _ _)
        have hca2 : (wr.drewN nq).cell? ⟨ba, oa + k, none⟩ = some (.int .i64 x) := hca
        have hcb2 : (wr.drewN nq).cell? ⟨bb, ob + k, none⟩ = some (.int .i64 y) := hcb
        clear hca hcb
        generalize wr.drewN nq = wq at *
        by_cases hz : x = y
        · subst hz
          have hcn := HC.out
          have h0 : cmpI x x = 0 := by unfold cmpI; simp
          rw [if_pos h0] at hcn
          have HC2 := Lib.hid hcn; clear hcn HC h0
          go_wp2
          go_roundw
          case rel => exact ⟨k + 1, by go_num, by omega, by omega, hgq, HC2⟩
          case measure => simp [intOf]; omega
        · have hcn := HC.out
          have h1 : cmpI x y ≠ 0 := by
            rcases cmpI_cases x y with ⟨h, k⟩ | ⟨h, k⟩ | ⟨h, k⟩ <;> omega
          rw [if_neg h1] at hcn
          have h2 : (decide (cmpL X Y < 0)) = decide (x < y) := by
            rw [hcn]
            rcases cmpI_cases x y with ⟨h, k⟩ | ⟨h, k⟩ | ⟨h, k⟩
            · rw [h]; simp [k]
            · exact absurd k hz
            · rw [h]; simp; omega
          have HC2 := Lib.hid h2; clear hcn HC h1 h2
          have hne : (x != y) = true := by simpa using hz
          go_wp2
          go_quiet (fail)
          rename_i nq2 _
          go_wp2
          go_ret
          exact ⟨_, rfl, grown_trans hgq (grown_drewN _ _ _), congrArg Value.bool HC2.out.symm⟩
      · have hend := cmpL_end hk hkY (.inr (by omega))
        have h2 : (decide (cmpL X Y < 0)) = decide (X.length < Y.length) := by rw [hcmp.out]; exact decide_eq_decide.2 hend
        have HC2 := Lib.hid h2; clear h2 hend hcmp
        have hltY' : ¬ (k : Int) < Y.length := by omega
        go_wp2
        go_ret
        exact ⟨_, rfl, hg, congrArg Value.bool HC2.out.symm⟩
    · have hend := cmpL_end hk hkY (.inl (by omega))
      have h2 : (decide (cmpL X Y < 0)) = decide (X.length < Y.length) := by rw [hcmp.out]; exact decide_eq_decide.2 hend
      have HC2 := Lib.hid h2; clear h2 hend hcmp
      have hlt' : ¬ (k : Int) < X.length := by omega
      go_wp2
      go_ret
      exact ⟨_, rfl, hg, congrArg Value.bool HC2.out.symm⟩

def ltB (P : Pr) (u v : List (List Int)) : Bool := decide (cmpS P u v < 0)
theorem ltB_iff {P : Pr} {u v : List (List Int)} : ltB P u v = true ↔ subLt P u v := by unfold ltB; rw [decide_eq_true_iff]; exact cmpS_neg

set_option maxRecDepth 100000 in
set_option maxHeartbeats 4000000 in
theorem l19Before_ok (P : Pr) (hP : Valid P) (w : World) (pv uv vv : Value) (U V : List (List Int)) (Sp Su Sv : Nat → Prop) (hpv : PresV Sp w pv P) (hu : Rows2 Su w uv U) (hv : Rows2 Sv w vv V) (hU : SeqOk P U) (hV : SeqOk P V) (hlu : U.length ≤ 100) (hlv : V.length ≤ 100) :
    Calls Tryz.prog 193 #[pv, uv, vv] w (Ret w fun _ v => v = .bool (ltB P U V)) := by
  have hn6 := hP.n6
  obtain ⟨vo, vp, vc, rfl, h3⟩ := hpv
  have hp0 := PresP.box h3 31
  have hg0 : Ext w (w.alloc (.cells #[vo, vp, vc] 31)) := World.grownBy_alloc _ _ _
  obtain ⟨vo6, vp6, vc6, _, _, hc0, hc1, hc2, h36⟩ := hp0.at
  simp only [Nat.zero_add] at hc1 hc2
  have hbx : ∀ w', Ext (w.alloc (.cells #[vo, vp, vc] 31)) w' → w'.cell? ⟨w.heap.size, 0, none⟩ = some vo6 ∧ w'.cell? ⟨w.heap.size, 1, none⟩ = some vp6 ∧ w'.cell? ⟨w.heap.size, 2, none⟩ = some vc6 := fun w' h => ⟨h.cell hc0 (by simp), h.cell hc1 (by simp), h.cell hc2 (by simp)⟩
  have HB := Lib.hid hbx; clear hbx hp0
  obtain ⟨au, capu, rfl, _, _⟩ := Sl.shape hu
  obtain ⟨av, capv, rfl, _, _⟩ := Sl.shape hv
  have hUl : ∀ u ∈ U, u.length ≤ 1000 := fun u h => by have := seqOk_row hU u h; omega
  have hVl : ∀ u ∈ V, u.length ≤ 1000 := fun u h => by have := seqOk_row hV u h; omega
  have hUf : U.flatten.length ≤ 100000 := by have := rowsTo_len U 1000 hUl _ (Nat.le_refl _); rw [rowsTo_all] at this; omega
  have hVf : V.flatten.length ≤ 100000 := by have := rowsTo_len V 1000 hVl _ (Nat.le_refl _); rw [rowsTo_all] at this; omega
  have hdef : ltB P U V = decide ((if cmpI (prodU P U U.length) (prodU P V V.length) = 0 then cmpL U.flatten V.flatten else cmpI (prodU P U U.length) (prodU P V V.length)) < 0) := rfl
  have hu0 := Rows2.ext hu hg0
  have hv0 := Rows2.ext hv hg0
  have HH := Lib.hid (And.intro (And.intro hU hV) (And.intro (And.intro hUl hVl) (And.intro hUf (And.intro hVf hdef)))); clear hU hV hUl hVl hUf hVf hdef hu hv
  go_enter Tryz.func193, Tryz.ntmps193
  go_wp2
  clear hc0 hc1 hc2
  generalize hw0 : w.alloc (.cells #[vo, vp, vc] 31) = w0 at *
  clear hw0
  obtain ⟨a, ha⟩ : ∃ a, a = prodU P U U.length := ⟨_, rfl⟩
  obtain ⟨b, hb⟩ : ∃ b, b = prodU P V V.length := ⟨_, rfl⟩
  have hdef := HH.out.2.2.2.2
  rw [← ha, ← hb] at hdef
  have HD := Lib.hid (And.intro hdef (And.intro ha hb)); clear hdef ha hb
  have e1 : ∀ w', Ext w0 w' → w'.cell? ⟨w.heap.size, 0, none⟩ = some vo6 := fun w' h => (HB.out w' h).1
  have e2 : ∀ w', Ext w0 w' → w'.cell? ⟨w.heap.size, 1, none⟩ = some vp6 := fun w' h => (HB.out w' h).2.1
  have e3 : ∀ w', Ext w0 w' → w'.cell? ⟨w.heap.size, 2, none⟩ = some vc6 := fun w' h => (HB.out w' h).2.2
  go_region_held3 (fun w' => Ext w0 w') (first | exact grown_drew _ _ | assumption)
    (first
      | (revert hgA; intro hgA; go_at_call 61; refine Calls.mono (Calls.rel (w0 := w0) (by assumption) (l12Order_ok P hP _ _ _ V Any Any ⟨_, _, _, rfl, Pres3.ext h36 (by assumption)⟩ (Rows2.sub (Rows2.ext hv0 (by assumption)) (fun _ _ _ => trivial)) HH.out.1.2 (by omega))) ?_; rintro eB wB ⟨vB, rfl, hgB, hsB, hvB⟩; rw [← HD.out.2.2] at hvB; subst hvB)
      | (go_at_call 61; refine Calls.mono (Calls.rel (w0 := w0) (by assumption) (l12Order_ok P hP _ _ _ U Any Any ⟨_, _, _, rfl, Pres3.ext h36 (by assumption)⟩ (Rows2.sub (Rows2.ext hu0 (by assumption)) (fun _ _ _ => trivial)) HH.out.1.1 (by omega))) ?_; rintro eA wA ⟨vA, rfl, hgA, hsA, hvA⟩; rw [← HD.out.2.1] at hvA; subst hvA))
  clear e1 e2 e3 hgA hsA hsB
  by_cases hab : a = b
  · subst hab
    have h0 : cmpI a a = 0 := by unfold cmpI; simp
    have hd := HD.out.1
    rw [if_pos h0] at hd
    have HD2 := Lib.hid hd; clear hd h0
    go_wp2_with fail
    refine Calls.mono (l03Flat_ok wB _ U Any (Rows2.sub (Rows2.ext hu0 hgB) (fun _ _ _ => trivial)) HH.out.2.1.1 hlu) ?_
    rintro e4 w4 ⟨v4, rfl, hg4, hO4⟩
    have hg04 := grown_trans hgB hg4
    go_wp2_with fail
    refine Calls.mono (l03Flat_ok w4 _ V Any (Rows2.sub (Rows2.ext hv0 hg04) (fun _ _ _ => trivial)) HH.out.2.1.2 hlv) ?_
    rintro e5 w5 ⟨v5, rfl, hg5, hO5⟩
    have hI4 : Ints Any w5 v4 U.flatten := Ints.sub (Ints.ext (ints_of_own (S := Any) hO4 (by have := HH.out.2.2.1; omega) (fun _ _ => trivial)) hg5) (fun _ _ _ => trivial)
    have hI5 : Ints Any w5 v5 V.flatten := ints_of_own (S := Any) hO5 (by have := HH.out.2.2.2.1; omega) (fun _ _ => trivial)
    have HI := Lib.hid (And.intro hI4 hI5); clear hI4 hI5 hO4 hO5
    go_wp2_with fail
    refine Calls.mono (l01Less_ok v4 v5 U.flatten V.flatten w5 Any Any HI.out.1 HI.out.2) ?_
    rintro e6 w6 ⟨v6, rfl, hg6, hv6⟩
    rw [← HD2.out] at hv6
    obtain ⟨r, hr⟩ : ∃ r, r = ltB P U V := ⟨_, rfl⟩
    rw [← hr] at hv6
    subst hv6
    have HR := Lib.hid hr; clear hr
    go_wp2
    go_ret
    exact ⟨_, rfl, grown_trans hg0 (grown_trans hg04 (grown_trans hg5 hg6)), congrArg Value.bool HR.out⟩
  · have hd := HD.out.1
    have h1 : cmpI a b ≠ 0 := by
      rcases cmpI_cases a b with ⟨h, k⟩ | ⟨h, k⟩ | ⟨h, k⟩ <;> omega
    rw [if_neg h1] at hd
    have hd2 : ltB P U V = decide (a < b) := by
      rw [hd]
      rcases cmpI_cases a b with ⟨h, k⟩ | ⟨h, k⟩ | ⟨h, k⟩
      · rw [h]; simp [k]
      · exact absurd k hab
      · rw [h]; simp; omega
    have HD2 := Lib.hid hd2; clear hd2 hd h1
    have hne : (a != b) = true := by simpa using hab
    go_wp2
    go_ret
    exact ⟨_, rfl, grown_trans hg0 hgB, congrArg Value.bool HD2.out.symm⟩

end Go.Proofs.YtdklekdpdbjfiaaGreat

/- Lists of subgroups whose rows are shared with older lists. -/
namespace Go.Proofs.YtdklekdpdbjfiaaGreat
open Go.RowKit

/-- the slices lie in the call's own vector, their rows in older blocks of S -/
def Sh3 (S : Nat → Prop) (B : Nat) (w : World) (v : Value) (xs : List (List (List Int))) : Prop :=
  ∃ vs, vs.length = xs.length ∧ OwnV B 23 w v vs ∧ ∀ i, i < xs.length → Rows2 (fun k => S k ∧ k < B) w (gt vs i) (gt xs i)

theorem Sh3.kept {S : Nat → Prop} {B : Nat} {w w' : World} {v : Value} {xs : List (List (List Int))} {r : Option Nat} (h : Sh3 S B w v xs) (hg : w.grownBy w' r) (hne : v.ownBlock = none ∨ v.ownBlock ≠ r) (hr : ∀ k, r = some k → B ≤ k) : Sh3 S B w' v xs := by
  obtain ⟨vs, h1, h2, h3⟩ := h
  exact ⟨vs, h1, h2.kept hg hne, fun i hi => Rows2.mono (h3 i hi) (frame_of hg (fun k hk _ => ⟨hk, fun e => by have := hr k e; omega⟩))⟩
theorem Sh3.ext {S : Nat → Prop} {B : Nat} {w w' : World} {v : Value} {xs : List (List (List Int))} (h : Sh3 S B w v xs) (hg : Ext w w') : Sh3 S B w' v xs :=
  h.kept hg (by cases hv : v.ownBlock <;> simp) (fun k hk => by cases hk)
theorem Sh3.lt {S : Nat → Prop} {B : Nat} {w : World} {v : Value} {xs : List (List (List Int))} (h : Sh3 S B w v xs) (k : Nat) (hk : v.ownBlock = some k) : B ≤ k ∧ k < w.heap.size := by
  obtain ⟨vs, h1, h2, h3⟩ := h
  exact h2.lt k hk
theorem Sh3.shape {S : Nat → Prop} {B : Nat} {w : World} {v : Value} {xs : List (List (List Int))} (h : Sh3 S B w v xs) : ∃ a c, v = .slice a xs.length c := by
  obtain ⟨vs, h1, h2, h3⟩ := h
  rcases h2.form with ⟨e1, e2⟩ | ⟨g, cp, e1, _⟩
  · have : xs.length = 0 := by rw [← h1, e2]; rfl
    exact ⟨none, 0, by rw [e1, this]⟩
  · exact ⟨_, _, by rw [e1, h1]⟩

theorem Sh3.rows {S : Nat → Prop} {B : Nat} {w : World} {v : Value} {xs : List (List (List Int))} (h : Sh3 S B w v xs) (hl : xs.length ≤ 1000000) : Rows3 (fun k => S k ∨ B ≤ k) w v xs := by
  obtain ⟨vs, h1, h2, h3⟩ := h
  rcases h2.form with ⟨rfl, e2⟩ | ⟨g, cp, rfl, hc, hB, hgs⟩
  · have : xs = [] := List.eq_nil_of_length_eq_zero (by rw [← h1, e2]; rfl)
    subst this
    exact ⟨none, 0, rfl, ⟨by simp, by simp, fun _ => rfl⟩, fun i hi => by simp at hi⟩
  · refine ⟨_, cp, by rw [h1], ⟨by omega, by omega, fun h => by cases h⟩, fun i hi => ⟨g, 0, gt vs i, rfl, .inr hB, hgs, ?_, Rows2.sub (h3 i hi) (fun k hk _ => .inl hk.1)⟩⟩
    rw [Nat.zero_add]; exact h2.cell i (by omega)

theorem Sh3.nil (S : Nat → Prop) (B : Nat) (w : World) : Sh3 S B w (.slice none 0 0) [] := ⟨[], rfl, World.ownsRow_nil _ _ _ _, by simp⟩
theorem Sh3.lit0 (S : Nat → Prop) (B : Nat) (w : World) (hB : B ≤ w.heap.size) : Sh3 S B (w.alloc (.cells #[] 23)) (.slice (some ⟨w.heap.size, 0, none⟩) 0 0) [] :=
  ⟨[], rfl, World.ownsRow_lit w #[] 0 hB (by decide) rfl, by simp⟩

theorem rows2_one {S : Nat → Prop} {w : World} {v : Value} {xs : List (List Int)} (h : Rows2 S w v xs) : v.oneCell' = true := by obtain ⟨a, cap, rfl, _⟩ := h; rfl

theorem wp_app_r3 {ops : Array Oper} {rest : List Oper} {o : Oper} {a : Act} {Q : Exit → Act → World → Prop} {w : World} (hgd : o.guard = none) (s x : Operand)
    (ho : o.op = Op.call { callee := Callee.builtin Builtin.append, args := #[s, x], argTypes := #[24, 24] }) (S : Nat → Prop) (B : Nat) (v u : Value) (xs : List (List (List Int))) (y : List (List Int)) (hs : a.eval s = v) (w2 : World) (hown : Sh3 S B w2 v xs)
    (hu : Rows2 (fun k => S k ∧ k < B) w2 u y) (hw : w = w2.alloc (.cells #[u] 23)) (hx : a.eval x = .slice (some ⟨w2.heap.size, 0, none⟩) 1 1) (hlen : xs.length ≤ 1000000) (hbase : B ≤ w2.heap.size)
    (h : ∀ v' w', Sh3 S B w' v' (xs ++ [y]) → w2.grownBy w' v.ownBlock → wpList Tryz.prog ops Q rest (a.put o.dst v') w') :
    wpList Tryz.prog ops Q (o :: rest) a w := by
  obtain ⟨vs, h1, h2, h3⟩ := hown
  refine wp_app_v 24 23 (.slice none 0 0) 24 und_r3 Tryz.infoR3 rfl (by decide) hgd s x ho B w2 v u vs hs h2 hw (rows2_one hu) hx (by omega) hbase ?_
  intro v' w' k1 k2
  have hown : ∀ k, v.ownBlock = some k → B ≤ k := fun k hk => (h2.lt k hk).1
  refine h v' w' ⟨vs ++ [u], by simp [h1], k1, fun i hi => ?_⟩ k2
  simp only [List.length_append, List.length_singleton] at hi
  have hfr : ∀ {z : Value} {q : List (List Int)}, Rows2 (fun k => S k ∧ k < B) w2 z q → Rows2 (fun k => S k ∧ k < B) w' z q := fun hz => Rows2.mono hz (frame_of k2 (fun k hk _ => ⟨hk, fun e => by have := hown k e; omega⟩))
  by_cases hlt : i < xs.length
  · rw [gt_append_left _ _ _ (by omega), gt_append_left _ _ _ hlt]
    exact hfr (h3 i hlt)
  · have hi2 : i = xs.length := by omega
    subst hi2
    rw [gt_concat, ← h1, gt_concat]
    exact hfr hu

end Go.Proofs.YtdklekdpdbjfiaaGreat

/- The reference's closure: spec.l12Close. -/
namespace Go.Proofs.YtdklekdpdbjfiaaGreat
open Go.RowKit

/-- the world has grown from w0, and block g is as it was in w1 -/
def HeldB (w0 w1 : World) (g : Nat) (w' : World) : Prop := Ext w0 w' ∧ w'.heap[g]? = w1.heap[g]?
theorem HeldB.cell {w0 w1 w' : World} {g i : Nat} {v : Value} (h : HeldB w0 w1 g w') (hc : w1.cell? ⟨g, i, none⟩ = some v) : w'.cell? ⟨g, i, none⟩ = some v := (World.cell?_of_block (w := w1) h.2).trans hc

end Go.Proofs.YtdklekdpdbjfiaaGreat

/- The reference's test of a sequence: spec.l10Element, l10Elements, l01Same2, l12Is, IsSubgroup, l13Two. -/
namespace Go.Proofs.YtdklekdpdbjfiaaGreat
open Go.RowKit

set_option maxRecDepth 100000 in
set_option maxHeartbeats 2000000 in
theorem l01Same2_ok (v1 v2 : Value) (l1 l2 : List (List Int)) (w : World) (S1 S2 : Nat → Prop) (h1 : Rows2 S1 w v1 l1) (h2 : Rows2 S2 w v2 l2) :
    Calls Tryz.prog 109 #[v1, v2] w (Ret w fun _ v => v = .bool (eqB l1 l2)) := by
  obtain ⟨a, cap, rfl, _, _⟩ := Sl.shape h1
  obtain ⟨a2, cap2, rfl, _, _⟩ := Sl.shape h2
  by_cases hl : l1.length = l2.length
  · have hd : ((l1.length : Int) != (l2.length : Int)) = false := by simp [hl]
    have hl1 : l1.length ≤ l2.length ∧ l2.length ≤ l1.length := by omega
    have HL := Lib.hid hl; clear hl
    go_enter Tryz.func109, Tryz.ntmps109
    go_wp2
    go_loopw [5] (fun i wr => ∃ k : Nat, i = .int .i64 k ∧ k ≤ l1.length ∧ Ext w wr ∧ ∀ i, i < k → gt l1 i = gt l2 i) (fun i _ => l1.length - (intOf i).toNat)
    case atStart => exact ⟨0, rfl, by omega, Ext.refl _, fun i hi => by omega⟩
    case round =>
      obtain ⟨k, rfl, hk, hg, hz⟩ := hrel
      have HZ := Lib.hid hz; clear hz
      by_cases hlt : k < l1.length
      · obtain ⟨b, off, x1, c1, rfl, _, _, hc, hi1⟩ := Rows2.at (Rows2.ext h1 hg) k hlt
        obtain ⟨b2, off2, x2, c2, rfl, _, _, hc2, hi2⟩ := Rows2.at (Rows2.ext h2 hg) k (by omega)
        have e1 : ∀ w', Ext wr w' → w'.cell? ⟨b, off + k, none⟩ = some (.slice x1 (gt l1 k).length c1) := fun w' h => h.cell hc (by simp)
        have e2 : ∀ w', Ext wr w' → w'.cell? ⟨b2, off2 + k, none⟩ = some (.slice x2 (gt l2 k).length c2) := fun w' h => h.cell hc2 (by simp)
        clear hc hc2
        have hlt2 : k < l2.length := by omega
        go_wp2
        cases hx : eqB (gt l1 k) (gt l2 k) with
        | true =>
          have hx2 := Lib.hid hx
          go_region_held3 (fun w' => Ext wr w') (first | exact grown_drew _ _ | assumption)
            (first
              | (go_at_call 174; refine Calls.mono (Calls.rel (w0 := wr) (by assumption) (l01Same_ok _ _ _ _ _ Any Any (Ints.sub (Ints.ext hi1 (by assumption)) (fun _ _ _ => trivial)) (Ints.sub (Ints.ext hi2 (by assumption)) (fun _ _ _ => trivial)))) ?_; rintro eA wA ⟨vA, rfl, hgA, hsA, rfl⟩))
          clear e1 e2
          go_wp2
          go_roundw
          case rel => exact ⟨k + 1, by go_num, by omega, grown_trans hg hgA, fun i hi => by
            rcases Nat.lt_or_ge i k with h1 | h1
            · exact HZ.out i h1
            · have : i = k := by omega
              rw [this]; exact eqB_true.1 hx2.out⟩
          case measure => simp [intOf]; omega
        | false =>
          have hx2 := Lib.hid hx
          go_region_held3 (fun w' => Ext wr w') (first | exact grown_drew _ _ | assumption)
            (first
              | (go_at_call 174; refine Calls.mono (Calls.rel (w0 := wr) (by assumption) (l01Same_ok _ _ _ _ _ Any Any (Ints.sub (Ints.ext hi1 (by assumption)) (fun _ _ _ => trivial)) (Ints.sub (Ints.ext hi2 (by assumption)) (fun _ _ _ => trivial)))) ?_; rintro eA wA ⟨vA, rfl, hgA, hsA, rfl⟩))
          clear e1 e2
          go_wp2
          go_ret
          exact ⟨_, rfl, grown_trans hg hgA, by rw [eqB_false_at (hx := eqB_false.1 hx2.out)]; rfl⟩
      · go_wp2
        go_ret
        exact ⟨_, rfl, hg, by rw [eqB_true.2 (ext_gt HL.out (fun i hi => HZ.out i (by omega)))]; rfl⟩
  · have hd : ((l1.length : Int) != (l2.length : Int)) = true := by simp; omega
    have HL := Lib.hid hl; clear hl
    go_enter Tryz.func109, Tryz.ntmps109
    go_wp2
    go_ret
    exact ⟨_, rfl, Ext.refl _, by rw [eqB_false.2 (fun e => HL.out (by rw [e]))]; rfl⟩

end Go.Proofs.YtdklekdpdbjfiaaGreat

/- spec.l19Insert. -/
namespace Go.Proofs.YtdklekdpdbjfiaaGreat
open Go.RowKit

theorem ins_start (P : Pr) (L : List (List (List Int))) (u : List (List Int)) : Ins P L u 0 [] false :=
  ⟨fun j hj => by omega, fun _ => ⟨by simp, fun j hj => by omega⟩, fun h => by cases h⟩
theorem ins_new {P : Pr} {L : List (List (List Int))} {u : List (List Int)} {k : Nat} {out : List (List (List Int))} {b : Bool} (I : Ins P L u k out b) (hne : gt L k ≠ u) : ∀ j, j < k + 1 → gt L j ≠ u := fun j hj => by
  rcases Nat.lt_succ_iff_lt_or_eq.1 hj with h | h
  · exact I.new j h
  · subst h; exact hne
theorem ins_no {P : Pr} {L : List (List (List Int))} {u : List (List Int)} {k : Nat} {out : List (List (List Int))} (I : Ins P L u k out false) (hk : k < L.length) (hne : gt L k ≠ u) (h : ¬ subLt P u (gt L k)) : Ins P L u (k + 1) (out ++ [gt L k]) false := by
  refine ⟨ins_new I hne, fun _ => ?_, fun h => by cases h⟩
  obtain ⟨h1, h2⟩ := I.no rfl
  refine ⟨by rw [take_succ_gt L k hk, h1], fun j hj => ?_⟩
  rcases Nat.lt_succ_iff_lt_or_eq.1 hj with h3 | h3
  · exact h2 j h3
  · subst h3; exact h
theorem ins_put {P : Pr} {L : List (List (List Int))} {u : List (List Int)} {k : Nat} {out : List (List (List Int))} (I : Ins P L u k out false) (hk : k < L.length) (hne : gt L k ≠ u) (h : subLt P u (gt L k)) : Ins P L u (k + 1) (out ++ [u] ++ [gt L k]) true := by
  refine ⟨ins_new I hne, (fun h => by cases h), fun _ => ?_⟩
  obtain ⟨h1, h2⟩ := I.no rfl
  refine ⟨k, by omega, ?_, h, h2⟩
  have hd : (L.take (k + 1)).drop k = [gt L k] := by
    rw [take_succ_gt L k hk]
    have : k = (L.take k).length := by rw [List.length_take]; omega
    rw [List.drop_append_of_le_length (by omega), List.drop_of_length_le (by omega)]; rfl
  rw [hd, h1]; simp
theorem ins_yes {P : Pr} {L : List (List (List Int))} {u : List (List Int)} {k : Nat} {out : List (List (List Int))} (I : Ins P L u k out true) (hk : k < L.length) (hne : gt L k ≠ u) : Ins P L u (k + 1) (out ++ [gt L k]) true := by
  refine ⟨ins_new I hne, (fun h => by cases h), fun _ => ?_⟩
  obtain ⟨p, h1, h2, h3, h4⟩ := I.yes rfl
  refine ⟨p, by omega, ?_, h3, h4⟩
  have hd : (L.take (k + 1)).drop p = (L.take k).drop p ++ [gt L k] := by
    rw [take_succ_gt L k hk, List.drop_append_of_le_length (by rw [List.length_take]; omega)]
  rw [hd, h2]; simp

set_option linter.unusedSimpArgs false in
set_option maxRecDepth 100000 in
set_option maxHeartbeats 8000000 in
theorem l19Insert_ok (P : Pr) (G : Grp P) (w : World) (pv lv uv : Value) (L : List (List (List Int))) (u : List (List Int)) (Sp S : Nat → Prop) (hpv : PresV Sp w pv P) (hl : Rows3 S w lv L) (hu : Rows2 S w uv u) (hL : ∀ v ∈ L, SubB P v) (hub : SubB P u) (hlp : L.Pairwise (subLt P)) (hlen : L.length ≤ 100000) :
    Calls Tryz.prog 128 #[pv, lv, uv] w (Ret w fun w' r => ∃ R : List (List (List Int)), R.Pairwise (subLt P) ∧ (∀ v, v ∈ R ↔ v ∈ L ∨ v = u) ∧ R.length ≤ L.length + 1 ∧ Rows3 (fun k => S k ∨ w.heap.size ≤ k) w' r R) := by
  have hP := G.v
  have hn6 := hP.n6
  obtain ⟨vo, vp, vc, rfl, h3⟩ := hpv
  have hp0 := PresP.box h3 31
  have hg0 : Ext w (w.alloc (.cells #[vo, vp, vc] 31)) := World.grownBy_alloc _ _ _
  have hs0 : (w.alloc (.cells #[vo, vp, vc] 31)).heap.size = w.heap.size + 1 := by simp
  obtain ⟨vo6, vp6, vc6, _, _, hc0, hc1, hc2, h36⟩ := hp0.at
  simp only [Nat.zero_add] at hc1 hc2
  have hbx : ∀ w', Ext (w.alloc (.cells #[vo, vp, vc] 31)) w' → w'.cell? ⟨w.heap.size, 0, none⟩ = some vo6 ∧ w'.cell? ⟨w.heap.size, 1, none⟩ = some vp6 ∧ w'.cell? ⟨w.heap.size, 2, none⟩ = some vc6 := fun w' h => ⟨h.cell hc0 (by simp), h.cell hc1 (by simp), h.cell hc2 (by simp)⟩
  have hseq : ∀ v, SubB P v → SeqOk P v ∧ v.length ≤ 100 := fun v h1 => by
    have h2 := (G.seq_facts (G.subB h1)).1
    rw [← h1.2] at h2
    have := G.sub_len h1
    exact ⟨h2, by omega⟩
  have HB := Lib.hid (And.intro hbx (And.intro hs0 (And.intro hseq (And.intro hL hub)))); clear hbx hs0 hseq hL hub hp0
  obtain ⟨al, capl, rfl, _, _⟩ := Sl.shape hl
  obtain ⟨au, capu, rfl, _, _⟩ := Sl.shape hu
  have hu0 := Rows2.ext hu hg0
  go_enter Tryz.func128, Tryz.ntmps128
  go_wp2
  clear hc0 hc1 hc2
  generalize hw0 : w.alloc (.cells #[vo, vp, vc] 31) = w0 at *
  clear hw0
  go_loopw [7, 8, 9] (fun ov bv iv wr => ∃ (i : Nat) (placed : Bool) (out : List (List (List Int))) (v7 : Value), v7 = ov ∧ bv = .bool placed ∧ iv = .int .i64 i ∧ i ≤ L.length ∧ out.length ≤ i + 1 ∧ Ext w0 wr ∧ Sh3 S w0.heap.size wr v7 out ∧ Hid (Ins P L u i out placed)) (fun _ _ iv _ => L.length - (intOf iv).toNat)
  case atStart => exact ⟨0, false, [], _, rfl, rfl, rfl, by omega, by simp, World.grownBy_alloc _ _ _, by rw [← HB.out.2.1]; exact Sh3.lit0 _ _ _ (Nat.le_refl _), Lib.hid (ins_start P L u)⟩
  case round =>
    obtain ⟨i, placed, out, v7, rfl, rfl, rfl, hi, hol, hg, hO, hI⟩ := hrel
    by_cases hlt : i < L.length
    · have hlt' : (i : Int) < L.length := by omega
      obtain ⟨bl, ol, a2, cap2, rfl, _, hbl, hcl, hx⟩ := Rows3.at hl i hlt
      have hcr := hg.cell (hg0.cell hcl (by simp)) (by simp)
      have hxb := HB.out.2.2.2.1 _ (gt_mem hlt)
      obtain ⟨x, hxd⟩ : ∃ x, x = gt L i := ⟨_, rfl⟩
      rw [← hxd] at hcl hcr hx hxb
      have hxw := Rows2.ext (Rows2.ext hx hg0) hg
      have huw := Rows2.ext hu0 hg
      have hB0 := HB.out.2.1
      have hxS : Rows2 (fun k => S k ∧ k < w0.heap.size) wr (.slice a2 x.length cap2) x := Rows2.mono hx (fun k hk hlt => ⟨⟨hk, by omega⟩, Nat.lt_of_lt_of_le hlt (Nat.le_trans hg0.size hg.size), (hg.block k (Nat.lt_of_lt_of_le hlt hg0.size) (by simp)).trans (hg0.block k hlt (by simp))⟩)
      have huS : Rows2 (fun k => S k ∧ k < w0.heap.size) wr (.slice au u.length capu) u := Rows2.mono hu (fun k hk hlt => ⟨⟨hk, by omega⟩, Nat.lt_of_lt_of_le hlt (Nat.le_trans hg0.size hg.size), (hg.block k (Nat.lt_of_lt_of_le hlt hg0.size) (by simp)).trans (hg0.block k hlt (by simp))⟩)
      have HX := Lib.hid (And.intro hxb (And.intro hxd (And.intro hxS huS))); clear hxb hxd hxS huS hcl hx
      go_wp2_with fail
      refine Calls.mono (l01Same2_ok _ _ x u wr S S hxw huw) ?_
      rintro eS wS ⟨vS, rfl, hgS, rfl⟩
      have hgs := grown_trans hg hgS
      have hOS := hO.ext hgS
      have hcS := hgS.cell hcr (by simp)
      clear hO hcr
      cases heq : eqB x u with
      | true =>
        have he := eqB_true.1 heq
        have hin : u ∈ L := by rw [← he, HX.out.2.1]; exact gt_mem hlt
        have hRL : Rows3 (fun k => S k ∨ w.heap.size ≤ k) wS (.slice (some ⟨bl, ol, none⟩) L.length capl) L := Rows3.sub (Rows3.ext (Rows3.ext hl hg0) hgs) (fun k hk _ => .inl hk)
        have HIN := Lib.hid (And.intro hin hRL); clear he hin hRL heq hcS
        go_wp2
        go_ret
        exact ⟨_, rfl, grown_trans hg0 hgs, L, hlp, fun v => ⟨.inl, fun h => h.elim id (fun e => e ▸ HIN.out.1)⟩, Nat.le_succ _, HIN.out.2⟩
      | false =>
        have hne : gt L i ≠ u := fun e => by
          rw [← HX.out.2.1] at e
          rw [eqB_true.2 e] at heq; cases heq
        have HNE := Lib.hid hne; clear hne heq
        have hxS2 : Rows2 (fun k => S k ∧ k < w0.heap.size) wS (.slice a2 x.length cap2) x := Rows2.ext HX.out.2.2.1 hgS
        have huS2 : Rows2 (fun k => S k ∧ k < w0.heap.size) wS (.slice au u.length capu) u := Rows2.ext HX.out.2.2.2 hgS
        have HS := Lib.hid (And.intro hxS2 huS2); clear hxS2 huS2 hxw huw
        have e1 : ∀ w', Ext w0 w' → w'.cell? ⟨w.heap.size, 0, none⟩ = some vo6 := fun w' h => (HB.out.1 w' h).1
        have e2 : ∀ w', Ext w0 w' → w'.cell? ⟨w.heap.size, 1, none⟩ = some vp6 := fun w' h => (HB.out.1 w' h).2.1
        have e3 : ∀ w', Ext w0 w' → w'.cell? ⟨w.heap.size, 2, none⟩ = some vc6 := fun w' h => (HB.out.1 w' h).2.2
        cases placed with
        | true =>
          clear e1 e2 e3
          go_wp2
          refine wp_region_held_drew (S := fun w' => Ext w0 w') (by kernel_rfl) (grown_trans hgs (grown_drew _ _)) (fun hHeld => ?_)
          refine wpAnyH_take (i := 0) (v := ?v0) rfl (by kernel_rfl) (by kernel_rfl) (by kernel_rfl) (fun _ _ _ h => h) (Or.inl ⟨by rfl, ?hy0⟩) (by assumption) ?rest0
          case hy0 => (intro w hSw; (try dsimp only at hSw); go_simp; try with_reducible rfl)
          try simp only [Act.put, List.getElem_toArray, List.getElem_cons_succ, List.getElem_cons_zero, List.setIfInBounds_toArray, List.set_cons_zero, List.set_cons_succ]
          refine wpAnyH_take (i := 1) (v := ?v1) rfl (by kernel_rfl) (by kernel_rfl) (by kernel_rfl) (fun _ _ _ h => h) (Or.inl ⟨by rfl, ?hy1⟩) (by assumption) ?rest1
          case hy1 => (intro w hSw; (try dsimp only at hSw); go_simp; try with_reducible rfl)
          try simp only [Act.put, List.getElem_toArray, List.getElem_cons_succ, List.getElem_cons_zero, List.setIfInBounds_toArray, List.set_cons_zero, List.set_cons_succ]
          refine wpAnyH_take (i := 2) (v := ?v2) rfl (by kernel_rfl) (by kernel_rfl) (by kernel_rfl) (fun _ _ _ h => h) (Or.inl ⟨by rfl, ?hy2⟩) (by assumption) ?rest2
          case hy2 => (intro w hSw; (try dsimp only at hSw); go_simp; try with_reducible rfl)
          try simp only [Act.put, List.getElem_toArray, List.getElem_cons_succ, List.getElem_cons_zero, List.setIfInBounds_toArray, List.set_cons_zero, List.set_cons_succ]
          refine wpAnyH_take (i := 3) (v := undef) rfl (by kernel_rfl) (by kernel_rfl) (by kernel_rfl) (fun _ _ _ h => h) (Or.inr ⟨by rfl, rfl⟩) (by assumption) ?_
          try simp only [Act.put, List.getElem_toArray, List.getElem_cons_succ, List.getElem_cons_zero, List.setIfInBounds_toArray, List.set_cons_zero, List.set_cons_succ]
          refine wpAnyH_take (i := 4) (v := undef) rfl (by kernel_rfl) (by kernel_rfl) (by kernel_rfl) (fun _ _ _ h => h) (Or.inr ⟨by rfl, rfl⟩) (by assumption) ?_
          try simp only [Act.put, List.getElem_toArray, List.getElem_cons_succ, List.getElem_cons_zero, List.setIfInBounds_toArray, List.set_cons_zero, List.set_cons_succ]
          refine wpAnyH_take (i := 5) (v := undef) rfl (by kernel_rfl) (by kernel_rfl) (by kernel_rfl) (fun _ _ _ h => h) (Or.inr ⟨by rfl, rfl⟩) (by assumption) ?_
          try simp only [Act.put, List.getElem_toArray, List.getElem_cons_succ, List.getElem_cons_zero, List.setIfInBounds_toArray, List.set_cons_zero, List.set_cons_succ]
          refine wpAnyH_take (i := 6) (v := undef) rfl (by kernel_rfl) (by kernel_rfl) (by kernel_rfl) (fun _ _ _ h => h) (Or.inr ⟨by rfl, rfl⟩) (by assumption) ?_
          try simp only [Act.put, List.getElem_toArray, List.getElem_cons_succ, List.getElem_cons_zero, List.setIfInBounds_toArray, List.set_cons_zero, List.set_cons_succ]
          refine wpAnyH_take (i := 7) (v := undef) rfl (by kernel_rfl) (by kernel_rfl) (by kernel_rfl) (fun _ _ _ h => h) (Or.inr ⟨by rfl, rfl⟩) (by assumption) ?_
          try simp only [Act.put, List.getElem_toArray, List.getElem_cons_succ, List.getElem_cons_zero, List.setIfInBounds_toArray, List.set_cons_zero, List.set_cons_succ]
          refine wpAnyH_take (i := 8) (v := undef) rfl (by kernel_rfl) (by kernel_rfl) (by kernel_rfl) (fun _ _ _ h => h) (Or.inr ⟨by rfl, rfl⟩) (by assumption) ?_
          try simp only [Act.put, List.getElem_toArray, List.getElem_cons_succ, List.getElem_cons_zero, List.setIfInBounds_toArray, List.set_cons_zero, List.set_cons_succ]
          refine wpAnyH_take (i := 9) (v := undef) rfl (by kernel_rfl) (by kernel_rfl) (by kernel_rfl) (fun _ _ _ h => h) (Or.inr ⟨by rfl, rfl⟩) (by assumption) ?_
          try simp only [Act.put, List.getElem_toArray, List.getElem_cons_succ, List.getElem_cons_zero, List.setIfInBounds_toArray, List.set_cons_zero, List.set_cons_succ]
          refine wpAnyH_take (i := 10) (v := ?v10) rfl (by kernel_rfl) (by kernel_rfl) (by kernel_rfl) (fun _ _ _ h => h) (Or.inl ⟨by rfl, ?hy10⟩) (by assumption) ?rest10
          case hy10 => (intro w hSw; (try dsimp only at hSw); go_simp; try with_reducible rfl)
          try simp only [Act.put, List.getElem_toArray, List.getElem_cons_succ, List.getElem_cons_zero, List.setIfInBounds_toArray, List.set_cons_zero, List.set_cons_succ]
          refine wpAnyH_done (by kernel_rfl) ?_ _
          have hI2 := Lib.hid (ins_yes hI.out hlt HNE.out)
          rw [← HX.out.2.1] at hI2
          have hOd := hOS.ext (grown_drew wS none)
          have hcD : wS.drew.cell? ⟨bl, ol + i, none⟩ = some (.slice a2 x.length cap2) := hcS
          have hxD := Rows2.ext HS.out.1 (grown_drew wS none)
          have hgd := grown_trans hgs (grown_drew wS none)
          generalize wS.drew = wD at *
          clear hI hOS hcS
          go_wp2_with (first | (at_builtin; refine wp_app_r3 rfl _ _ rfl S w0.heap.size _ _ out x rfl wD hOd hxD rfl rfl (by omega) hgd.size ?_; intro v8 w8 hO8 hg8; have hg08 := grown_own hgd hg8 (fun b hb hlt => by have := (hOd.lt b hb).1; omega)) | fail)
          clear hcD
          go_roundw
          case rel => exact ⟨i + 1, true, out ++ [x], _, rfl, rfl, by go_num, by omega, by simp; omega, hg08, hO8, hI2⟩
          case measure => simp [intOf]; omega
        | false =>
          have e4 : ∀ w', Ext wS w' → w'.cell? ⟨bl, ol + i, none⟩ = some (.slice a2 x.length cap2) := fun w' h => h.cell hcS (by simp)
          have f1 : ∀ w', Ext wS w' → w'.cell? ⟨w.heap.size, 0, none⟩ = some vo6 := fun w' h => e1 w' (grown_trans hgs h)
          have f2 : ∀ w', Ext wS w' → w'.cell? ⟨w.heap.size, 1, none⟩ = some vp6 := fun w' h => e2 w' (grown_trans hgs h)
          have f3 : ∀ w', Ext wS w' → w'.cell? ⟨w.heap.size, 2, none⟩ = some vc6 := fun w' h => e3 w' (grown_trans hgs h)
          clear e1 e2 e3
          go_wp2
          go_region_held3 (fun w' => Ext wS w') (first | exact grown_drew _ _ | assumption)
            (first
              | (go_at_call 193; refine Calls.mono (Calls.rel (w0 := wS) (by assumption) (l19Before_ok P hP _ _ _ _ u x Any Any Any ⟨_, _, _, rfl, Pres3.ext h36 (grown_trans hgs (by assumption))⟩ (Rows2.sub (Rows2.ext HS.out.2 (by assumption)) (fun _ _ _ => trivial)) (Rows2.sub (Rows2.ext HS.out.1 (by assumption)) (fun _ _ _ => trivial)) (HB.out.2.2.1 u HB.out.2.2.2.2).1 (HB.out.2.2.1 x HX.out.1).1 (HB.out.2.2.1 u HB.out.2.2.2.2).2 (HB.out.2.2.1 x HX.out.1).2)) ?_; rintro eA wA ⟨vA, rfl, hgA, hsA, rfl⟩))
          have hgA0 := grown_trans hgs hgA
          have hOA := hOS.ext hgA
          have hcA := e4 wA hgA
          have hxA := Rows2.ext HS.out.1 hgA
          have huA := Rows2.ext HS.out.2 hgA
          clear e4 f1 f2 f3 hOS hcS
          cases hlb : ltB P u x with
          | true =>
            have hol2 : out.length ≤ i := by rw [(hI.out.no rfl).1, List.length_take]; omega
            have hI2 := ins_put hI.out hlt HNE.out (by rw [← HX.out.2.1]; exact ltB_iff.1 hlb)
            rw [← HX.out.2.1] at hI2
            have HI2 := Lib.hid hI2; clear hI2 hI hlb
            have hB0 := HB.out.2.1
            go_wp2_with (first
              | (revert hO8; intro hO8; at_builtin; refine wp_app_r3 rfl _ _ rfl S w0.heap.size _ _ (out ++ [u]) x rfl w8 hO8 hx8 rfl rfl (by simp; omega) hg08.size ?_; intro v9 w9 hO9 hg9; have hg09 := grown_own hg08 hg9 (fun b hb hlt => by have := (hO8.lt b hb).1; omega))
              | (at_builtin; refine wp_app_r3 rfl _ _ rfl S w0.heap.size _ _ out u rfl wA hOA huA rfl rfl (by omega) hgA0.size ?_; intro v8 w8 hO8 hg8; have hg08 := grown_own hgA0 hg8 (fun b hb hlt => by have := (hOA.lt b hb).1; omega); have hc8 := hg8.cell hcA (fun e => by have h1 : w0.heap.size ≤ bl := (hOA.lt _ e.symm).1; omega); have hx8 : Rows2 (fun k => S k ∧ k < w0.heap.size) w8 (.slice a2 x.length cap2) x := Rows2.mono hxA (frame_of hg8 (fun k hk _ => ⟨hk, fun e => by have := (hOA.lt k e).1; omega⟩)))
              | fail)
            clear hcA hc8
            go_roundw
            case rel => exact ⟨i + 1, true, out ++ [u] ++ [x], _, rfl, rfl, by go_num, by omega, by simp only [List.length_append, List.length_singleton]; omega, hg09, hO9, Lib.hid HI2.out⟩
            case measure => simp [intOf]; omega
          | false =>
            have hI2 := ins_no hI.out hlt HNE.out (by rw [← HX.out.2.1]; exact fun h => by rw [ltB_iff.2 h] at hlb; cases hlb)
            rw [← HX.out.2.1] at hI2
            have HI2 := Lib.hid hI2; clear hI2 hI hlb
            go_wp2_with (first | (at_builtin; refine wp_app_r3 rfl _ _ rfl S w0.heap.size _ _ out x rfl wA hOA hxA rfl rfl (by omega) hgA0.size ?_; intro v8 w8 hO8 hg8; have hg08 := grown_own hgA0 hg8 (fun b hb hlt => by have := (hOA.lt b hb).1; omega)) | fail)
            clear hcA
            go_roundw
            case rel => exact ⟨i + 1, false, out ++ [x], _, rfl, rfl, by go_num, by omega, by simp; omega, hg08, hO8, HI2⟩
            case measure => simp [intOf]; omega
    · have hie : i = L.length := by omega
      have hO2 := hO
      obtain ⟨va, vcp, hv7⟩ := hO.shape
      subst hv7
      have hI2 := hI.out
      rw [hie] at hI2
      have hB0 := HB.out.2.1
      have hsub : ∀ {r : Value} {w' : World} {Z : List (List (List Int))}, Rows3 (fun k => S k ∨ w0.heap.size ≤ k) w' r Z → Rows3 (fun k => S k ∨ w.heap.size ≤ k) w' r Z := fun h => Rows3.sub h (fun k hk _ => hk.imp id (fun h2 => by omega))
      have hnl : ¬ (i : Int) < L.length := by omega
      cases placed with
      | true =>
        have hR := hsub (hO.rows (by omega))
        have HR := Lib.hid (And.intro hI2 hR); clear hI2 hR hI hO hO2 hie
        go_wp2
        go_ret
        exact ⟨_, rfl, grown_trans hg0 hg, out, (ins_end G hlp HB.out.2.2.2.1 HB.out.2.2.2.2 HR.out.1 out rfl).1, (ins_end G hlp HB.out.2.2.2.1 HB.out.2.2.2.2 HR.out.1 out rfl).2, by omega, HR.out.2⟩
      | false =>
        have huS : Rows2 (fun k => S k ∧ k < w0.heap.size) wr (.slice au u.length capu) u := Rows2.mono hu (fun k hk hlt => ⟨⟨hk, by omega⟩, Nat.lt_of_lt_of_le hlt (Nat.le_trans hg0.size hg.size), (hg.block k (Nat.lt_of_lt_of_le hlt hg0.size) (by simp)).trans (hg0.block k hlt (by simp))⟩)
        have HR := Lib.hid hI2
        have HR2 : Hid ((out ++ [u]).length ≤ L.length + 1) := by
          have h1 := (hI2.no rfl).1
          exact Lib.hid (by rw [h1]; simp)
        clear hI2 hI hie
        go_wp2_with (first | (at_builtin; refine wp_app_r3 rfl _ _ rfl S w0.heap.size _ _ out u rfl wr hO huS rfl rfl (by omega) hg.size ?_; intro v8 w8 hO8 hg8; have hg08 := grown_own hg hg8 (fun b hb hlt => by have := (hO.lt b hb).1; omega); obtain ⟨vb, vcq, hv8⟩ := hO8.shape; subst hv8) | fail)
        have hR := hsub (hO8.rows (by simp; omega))
        rw [List.length_append, List.length_singleton] at hR
        go_ret
        exact ⟨_, rfl, grown_trans hg0 hg08, out ++ [u], (ins_end G hlp HB.out.2.2.2.1 HB.out.2.2.2.2 HR.out (out ++ [u]) rfl).1, (ins_end G hlp HB.out.2.2.2.1 HB.out.2.2.2.2 HR.out (out ++ [u]) rfl).2, HR2.out, hR⟩

end Go.Proofs.YtdklekdpdbjfiaaGreat

/- Plain: the list of products, element by element (for impl.elementsOf). -/
namespace Go.Proofs.YtdklekdpdbjfiaaGreat

theorem stepE_len (P : Pr) (u : List Int) (o : Nat) (x : List Int) : (stepE P u o x).length = o := by unfold stepE; simp

theorem flatMap_len (P : Pr) (u : List Int) (o : Nat) (l : List (List Int)) : (l.flatMap (stepE P u o)).length = l.length * o := by
  induction l with
  | nil => simp
  | cons x l ih => rw [List.flatMap_cons, List.length_append, ih, stepE_len, List.length_cons, Nat.add_mul]; omega

/-- as many products as the order says -/
theorem elsP_len {P : Pr} (hP : Valid P) {U : List (List Int)} (hU : SeqOk P U) (k : Nat) (hk : k ≤ U.length) : ((elsP P U k).length : Int) = prodU P U k := by
  induction k with
  | zero => simp [elsP, prodU]
  | succ k ih =>
    have ih := ih (by omega)
    have ho := hP.ord7 (dep (gt U k)) (hU.1 _ (gtMem (by omega))).2.1
    simp only [elsP, prodU]
    rw [flatMap_len, Int.natCast_mul, ih, show (((gt P.orders (dep (gt U k))).toNat : Nat) : Int) = gt P.orders (dep (gt U k)) by omega]

end Go.Proofs.YtdklekdpdbjfiaaGreat

/- append of a row that lay there before: the list takes it out of the set of blocks that it avoids. -/
namespace Go.Proofs.YtdklekdpdbjfiaaGreat
open Go.RowKit

theorem wp_app_take {ops : Array Oper} {rest : List Oper} {o : Oper} {a : Act} {Q : Exit → Act → World → Prop} {w : World} (hgd : o.guard = none) (s x : Operand)
    (ho : o.op = Op.call { callee := Callee.builtin Builtin.append, args := #[s, x], argTypes := #[23, 23] }) (B : Nat) (A A' F : Nat → Prop) (w0 : World) (v u : Value) (xs : List (List Int)) (y : List Int) (hs : a.eval s = v)
    (hown : SlOA OwnIn 22 B A w0 v xs) (hu : OwnIn F w0 u y) (hF : ∀ k, F k → k < w0.heap.size → A k ∧ B ≤ k) (hA' : ∀ k, A' k → A k ∧ ¬ F k) (hAl : ∀ k, A k → k < w0.heap.size) (hw : w = w0.alloc (.cells #[u] 22))
    (hx : a.eval x = .slice (some ⟨w0.heap.size, 0, none⟩) 1 1) (hlen : xs.length ≤ 1000000) (hbase : B ≤ w0.heap.size)
    (h : ∀ v' w', SlOA OwnIn 22 B A' w' v' (xs ++ [y]) → w0.grownBy w' v.ownBlock → (v'.ownBlock = v.ownBlock ∨ ∀ k, v'.ownBlock = some k → w0.heap.size ≤ k) → wpList Tryz.prog ops Q rest (a.put o.dst v') w') :
    wpList Tryz.prog ops Q (o :: rest) a w := by
  subst hw
  obtain ⟨vs, G, hvl, hO, hG, hd, hE, hr, hr2⟩ := hown
  have hga : Ext w0 (w0.alloc (.cells #[u] 22)) := World.grownBy_alloc _ _ _
  refine wp_app 23 22 (.slice none 0 0) 24 und_rows Tryz.infoRow rfl (by decide) hgd s x ho B v vs hs (hO.kept hga (by cases hv : v.ownBlock <;> simp)) (some ⟨w0.heap.size, 0, none⟩) 1 1 [u] hx rfl (by simp) ?_ ?_ (by simp; omega) (by have := hga.size; omega) ?_
  · intro j hj
    have : j = 0 := by omega
    subst this
    exact ⟨_, _, rfl, by rw [World.cell?_alloc_at _ _ _ _ rfl]; rfl⟩
  · intro u' hu'
    simp at hu'; subst hu'; exact rdOwn.one hu
  · intro v' w' k1 k2 _ k4
    have hg : w0.grownBy w' v.ownBlock := grown_trans (grown_of_ext _ hga) k2
    have hown2 : v'.ownBlock = v.ownBlock ∨ ∀ k, v'.ownBlock = some k → w0.heap.size ≤ k := by
      rcases k4 with h | h
      · exact .inl h
      · refine .inr (fun k hk => ?_)
        rw [h] at hk
        have : (w0.alloc (.cells #[u] 22)).heap.size = k := by simpa using hk
        simp at this
        omega
    have hown : ∀ k, v'.ownBlock = some k → v.ownBlock = some k ∨ w0.heap.size ≤ k := fun k hk => by
      rcases k4 with h | h
      · exact .inl (by rw [← h]; exact hk)
      · rw [h] at hk
        have : (w0.alloc (.cells #[u] 22)).heap.size = k := by simpa using hk
        simp at this
        exact .inr (by omega)
    refine h v' w' ⟨vs ++ [u], fun i k => if i < xs.length then G i k else F k ∧ k < w0.heap.size, by simp [hvl], k1, ?_, ?_, ?_, ?_, ?_⟩ hg hown2
    · intro i k hi hk
      split at hk
      · rename_i hlt
        obtain ⟨a1, a2, a3⟩ := hG i k hlt hk
        exact ⟨a1, fun e => (hown k e).elim a2 (fun h => by omega), Nat.lt_of_lt_of_le a3 hg.size⟩
      · obtain ⟨b1, b2⟩ := hF k hk.1 hk.2
        exact ⟨b2, fun e => (hown k e).elim (fun h => hr2 k h b1) (fun h => by have := hk.2; omega), Nat.lt_of_lt_of_le hk.2 hg.size⟩
    · intro i j k hi hj hk hk'
      simp only [List.length_append, List.length_singleton] at hi hj
      split at hk <;> split at hk'
      · exact hd i j k (by assumption) (by assumption) hk hk'
      · exact absurd (hF k hk'.1 hk'.2).1 (hr i k (by assumption) hk)
      · exact absurd (hF k hk.1 hk.2).1 (hr j k (by assumption) hk')
      · omega
    · intro i hi
      simp only [List.length_append, List.length_singleton] at hi
      by_cases hlt : i < xs.length
      · rw [gt_append_left _ _ _ (by omega), gt_append_left _ _ _ hlt]
        simp only [if_pos hlt]
        exact rdOwn.mono (hE i hlt) (fun k hk hkl => ⟨hk, Nat.lt_of_lt_of_le hkl hg.size, hg.block k hkl (fun e => (hG i k hlt hk).2.1 e.symm)⟩)
      · have hi2 : i = xs.length := by omega
        subst hi2
        rw [gt_concat, ← hvl, gt_concat]
        simp only [hvl, Nat.lt_irrefl, if_false]
        exact rdOwn.mono hu (fun k hk hkl => ⟨⟨hk, hkl⟩, Nat.lt_of_lt_of_le hkl hg.size, hg.block k hkl (fun e => hr2 k e.symm (hF k hk hkl).1)⟩)
    · intro i k hi hk ha
      obtain ⟨c1, c2⟩ := hA' k ha
      split at hk
      · rename_i hlt; exact hr i k hlt hk c1
      · exact c2 hk.1
    · intro k hk ha
      obtain ⟨c1, _⟩ := hA' k ha
      rcases hown k hk with h | h
      · exact hr2 k h c1
      · have := hAl k c1; omega

end Go.Proofs.YtdklekdpdbjfiaaGreat

/- [][]int64{row} as a list of the call's own. -/
namespace Go.Proofs.YtdklekdpdbjfiaaGreat
open Go.RowKit

theorem rowsOne {B : Nat} {w2 : World} {u : Value} {y : List Int} (hu : OwnIn (From B) w2 u y) (hB : B ≤ w2.heap.size) : RowsO B (w2.alloc (.cells #[u] 22)) (.slice (some ⟨w2.heap.size, 0, none⟩) 1 1) [y] := by
  have hga : Ext w2 (w2.alloc (.cells #[u] 22)) := World.grownBy_alloc _ _ _
  refine ⟨[u], fun _ k => B ≤ k ∧ k < w2.heap.size, rfl, World.ownsRow_lit w2 #[u] 1 hB (by decide) rfl, fun i k hi hk => ?_, fun i j k hi hj _ _ => ?_, fun i hi => ?_⟩
  · exact ⟨hk.1, fun e => by have := own_blk e; omega, Nat.lt_of_lt_of_le hk.2 hga.size⟩
  · simp at hi hj; omega
  · have : i = 0 := by simpa using hi
    subst this
    exact rdOwn.mono hu (fun k hk hkl => ⟨⟨hk, hkl⟩, Nat.lt_of_lt_of_le hkl hga.size, hga.block k hkl (by simp)⟩)

end Go.Proofs.YtdklekdpdbjfiaaGreat

/- impl.elementsOf. -/
namespace Go.Proofs.YtdklekdpdbjfiaaGreat
open Go.RowKit

theorem SlOA.nil {α : Type} [Inhabited α] (El : (Nat → Prop) → World → Value → α → Prop) (E B : Nat) (A : Nat → Prop) (w : World) : SlOA El E B A w (.slice none 0 0) ([] : List α) :=
  ⟨[], fun _ _ => False, rfl, World.ownsRow_nil _ _ _ _, by simp, by simp, by simp, by simp, by simp [Value.ownBlock]⟩

end Go.Proofs.YtdklekdpdbjfiaaGreat

/- Small things of the subgroup statements. -/
namespace Go.Proofs.YtdklekdpdbjfiaaGreat
open Go.RowKit

theorem elemsIn_len {P : Pr} (hP : Valid P) (H : List Int → Prop) : (elemsIn P H).length ≤ 729 := by
  have h1 := elemsTo_len P H (ordP P).toNat
  rw [elemsTo_all] at h1
  have h2 : ordP P ≤ 729 := hP.le729
  omega

end Go.Proofs.YtdklekdpdbjfiaaGreat

/- spec.l19Bits: the mask of a subgroup's sequence. -/
namespace Go.Proofs.YtdklekdpdbjfiaaGreat
open Go.RowKit

def nums (P : Pr) (E : List (List Int)) : List Nat := E.map (fun x => (num P x).toNat)
theorem nums_take (P : Pr) (E : List (List Int)) (k : Nat) (h : k < E.length) : nums P (E.take (k + 1)) = nums P (E.take k) ++ [(num P (gt E k)).toNat] := by
  unfold nums; rw [take_succ_gt E k h, List.map_append]; rfl

section
variable {P : Pr} (G : Grp P)
include G

theorem Grp.nums_new {H : List Int → Prop} (S : Sub P H) {k : Nat} (hk : k < (elemsIn P H).length) : ¬ (num P (gt (elemsIn P H) k)).toNat ∈ nums P ((elemsIn P H).take k) := by
  intro h
  unfold nums at h
  obtain ⟨x, hx, he⟩ := List.mem_map.1 h
  have hmem := elemsIn_mem G.v S.vec
  obtain ⟨j, hj, rfl⟩ := mem_gt hx
  have hjk : j < k := by rw [List.length_take] at hj; omega
  have hgj : gt ((elemsIn P H).take k) j = gt (elemsIn P H) j := by
    rw [gt_eq _ _ hj, gt_eq _ _ (by omega), List.getElem_take]
  rw [hgj] at he
  have h1 := List.pairwise_iff_getElem.1 (elemsIn_asc G.v H) j k (by omega) hk hjk
  rw [← gt_eq _ _ (by omega), ← gt_eq _ _ hk] at h1
  have b1 := num_bd G.v (S.vec _ ((hmem _).1 (gtMem (l := elemsIn P H) (i := j) (by omega))))
  have b2 := num_bd G.v (S.vec _ ((hmem _).1 (gtMem hk)))
  omega

theorem Grp.nums_all {H : List Int → Prop} (S : Sub P H) {m : Nat} (hm : Bits m (nums P (elemsIn P H))) : m = msk P H := by
  have hmem := elemsIn_mem G.v S.vec
  refine msk_eq (fun t ht => ?_) (fun t ht => ?_)
  · rw [hm t]
    unfold nums
    constructor
    · intro h
      obtain ⟨x, hx, rfl⟩ := List.mem_map.1 h
      have hx2 := (hmem x).1 hx
      rw [(G.num_lt (S.vec x hx2)).2]; exact hx2
    · intro h
      exact List.mem_map.2 ⟨_, (hmem _).2 h, G.num_el ht⟩
  · rw [Bool.eq_false_iff]
    intro e
    have := (hm t).1 e
    unfold nums at this
    obtain ⟨x, hx, rfl⟩ := List.mem_map.1 this
    have := (G.num_lt (S.vec x ((hmem x).1 hx))).1
    omega
end

set_option maxRecDepth 100000 in
set_option maxHeartbeats 4000000 in
theorem l19Bits_ok (P : Pr) (G : Grp P) (w : World) (pv uv : Value) (H : List Int → Prop) (Sp Su : Nat → Prop) (S : Sub P H) (h32 : ordP P ≤ 32) (hpv : PresV Sp w pv P) (hu : Rows2 Su w uv (cseq P H)) :
    Calls Tryz.prog 206 #[pv, uv] w (Ret w fun _ v => v = .int .i64 ((msk P H : Nat) : Int)) := by
  have hP := G.v
  have hn6 := hP.n6
  have hpos := hP.ordP_pos
  obtain ⟨vo, vp, vc, rfl, h3⟩ := hpv
  have hp0 := PresP.box h3 31
  have hg0 : Ext w (w.alloc (.cells #[vo, vp, vc] 31)) := World.grownBy_alloc _ _ _
  have hu0 := Rows2.ext hu hg0
  obtain ⟨au, capu, rfl, _, _⟩ := Sl.shape hu
  obtain ⟨vo6, vp6, vc6, _, _, hc0, hc1, hc2, h36⟩ := hp0.at
  simp only [Nat.zero_add] at hc1 hc2
  have hbx : ∀ w', Ext (w.alloc (.cells #[vo, vp, vc] 31)) w' → w'.cell? ⟨w.heap.size, 0, none⟩ = some vo6 ∧ w'.cell? ⟨w.heap.size, 1, none⟩ = some vp6 ∧ w'.cell? ⟨w.heap.size, 2, none⟩ = some vc6 := fun w' h => ⟨h.cell hc0 (by simp), h.cell hc1 (by simp), h.cell hc2 (by simp)⟩
  have HB := Lib.hid hbx; clear hbx hp0 hu
  have hE := l12Elements_ok P G (w.alloc (.cells #[vo, vp, vc] 31)) _ _ H Any Su S ⟨_, _, _, rfl, h36⟩ hu0
  obtain ⟨E, hEe⟩ : ∃ E, E = elemsIn P H := ⟨_, rfl⟩
  have hEl : E.length ≤ 729 := by rw [hEe]; exact elemsIn_len hP H
  rw [← hEe] at hE
  have HE := Lib.hid hEe; clear hEe
  go_enter Tryz.func206, Tryz.ntmps206
  go_wp2_with fail
  clear hc0 hc1 hc2
  generalize hw0 : w.alloc (.cells #[vo, vp, vc] 31) = w0 at *
  clear hw0
  refine Calls.mono hE ?_
  rintro e1 w1 ⟨v1, rfl, hg1, hO⟩
  clear hE
  have hER := RowsD.rows (hO.toD (by omega))
  obtain ⟨ae, cape, hve, _, _⟩ := Sl.shape hER
  subst hve
  have hER1 : Rows2 Any w1 (.slice ae E.length cape) E := Rows2.sub hER (fun _ _ _ => trivial)
  clear hO hER
  go_wp2
  go_loopw [6, 7] (fun mv iv wr => ∃ (i m : Nat), mv = .int .i64 (m : Int) ∧ iv = .int .i64 i ∧ i ≤ E.length ∧ Ext w1 wr ∧ Hid (Bits m (nums P (E.take i)))) (fun _ iv _ => E.length - (intOf iv).toNat)
  case atStart => exact ⟨0, 0, rfl, rfl, by omega, Ext.refl _, Lib.hid (fun t => by simp [nums])⟩
  case round =>
    obtain ⟨i, m, rfl, rfl, hi, hg, hM⟩ := hrel
    have hg0r := grown_trans hg1 hg
    by_cases hlt : i < E.length
    · have hlt' : (i : Int) < E.length := by omega
      obtain ⟨bb, off, a2, cap2, rfl, _, _, hc, hr⟩ := Rows2.at hER1 i hlt
      have hcr := hg.cell hc (by simp)
      have hXV : Vec P.orders (gt E i) := S.vec _ ((elemsIn_mem hP S.vec _).1 (by rw [← HE.out]; exact gtMem hlt))
      have hnew : ¬ (num P (gt E i)).toNat ∈ nums P (E.take i) := by rw [HE.out]; exact G.nums_new S (by rw [← HE.out]; exact hlt)
      have hstep := nums_take P E i hlt
      have hm32 : m < 4294967296 := by
        have h1 : m < 2 ^ (ordP P).toNat := Nat.lt_pow_two_of_testBit _ (fun t ht => by
          rw [Bool.eq_false_iff]
          intro e
          have := (hM.out t).1 e
          unfold nums at this
          obtain ⟨x, hx, rfl⟩ := List.mem_map.1 this
          have := (G.num_lt (S.vec x ((elemsIn_mem hP S.vec x).1 (by rw [← HE.out]; exact List.mem_of_mem_take hx)))).1
          omega)
        have h2 : (2 : Nat) ^ (ordP P).toNat ≤ 2 ^ 32 := Nat.pow_le_pow_right (by decide) (by omega)
        omega
      have hb := num_bd hP hXV
      obtain ⟨x, hx⟩ : ∃ x, x = gt E i := ⟨_, rfl⟩
      rw [← hx] at hc hcr hr hXV hnew hstep hb
      obtain ⟨y, hy⟩ : ∃ y, y = (num P x).toNat := ⟨_, rfl⟩
      rw [← hy] at hnew hstep
      have hyn : num P x = (y : Int) := by omega
      have hy32 : y < 32 := by omega
      have hM2 := hM.out.app hnew
      rw [← hstep] at hM2
      have hshl := shl_oneI y hy32
      have hp32 : (2 : Nat) ^ y < 2 ^ 32 := Nat.pow_lt_pow_right (by decide) hy32
      obtain ⟨p, hp⟩ : ∃ p, p = 2 ^ y := ⟨_, rfl⟩
      rw [← hp] at hshl hM2 hp32
      have hadd : IntKind.i64.wrap ((m : Int) + (p : Int)) = ((m + p : Nat) : Int) := by
        rw [IntWalk.i64_in _ ⟨by omega, by omega⟩]; omega
      have hshl2 : IntKind.i64.wrap (2 ^ min (IntKind.u64.wrap (y : Int)).toNat 64) = (p : Int) := by
        rw [IntWalk.u64_in _ ⟨by omega, by omega⟩, Int.toNat_natCast, Nat.min_eq_left (by omega)]; exact hshl
      have HX := Lib.hid (And.intro hXV (And.intro hyn hM2)); clear hXV hyn hM2 hnew hstep hb hx hy hp hM hm32 hp32
      have e1 : ∀ w', Ext wr w' → w'.cell? ⟨w.heap.size, 0, none⟩ = some vo6 := fun w' h => (HB.out w' (grown_trans hg0r h)).1
      have e2 : ∀ w', Ext wr w' → w'.cell? ⟨w.heap.size, 1, none⟩ = some vp6 := fun w' h => (HB.out w' (grown_trans hg0r h)).2.1
      have e3 : ∀ w', Ext wr w' → w'.cell? ⟨w.heap.size, 2, none⟩ = some vc6 := fun w' h => (HB.out w' (grown_trans hg0r h)).2.2
      have e4 : ∀ w', Ext wr w' → w'.cell? ⟨bb, off + i, none⟩ = some (.slice a2 x.length cap2) := fun w' h => h.cell hcr (by simp)
      clear hcr hc
      go_wp2
      go_region_held3 (fun w' => Ext wr w') (first | exact grown_drew _ _ | assumption)
        (first
          | (go_at_call 207; refine Calls.mono (Calls.rel (w0 := wr) (by assumption) (l10Number_ok P hP _ _ _ x Any Any ⟨_, _, _, rfl, Pres3.ext h36 (grown_trans hg0r (by assumption))⟩ (Ints.sub (Ints.ext hr (grown_trans hg (by assumption))) (fun _ _ _ => trivial)) HX.out.1)) ?_; rintro eA wA ⟨vA, rfl, hgA, hsA, hvA⟩; rw [HX.out.2.1] at hvA; subst hvA))
      clear e1 e2 e3 e4
      have hgA1 := grown_trans hg hgA
      go_wp2
      clear hshl hshl2 hadd
      go_roundw
      case rel => exact ⟨i + 1, m + p, rfl, by go_num, by omega, hgA1, Lib.hid HX.out.2.2⟩
      case measure => simp [intOf]; omega
    · have hie : i = E.length := by omega
      have hend := hM.out
      rw [hie, List.take_length, HE.out] at hend
      have HN := Lib.hid (G.nums_all S hend)
      have hnl : ¬ (i : Int) < E.length := by omega
      clear hend hie hlt hM
      go_wp2
      go_ret
      exact ⟨_, rfl, grown_trans hg0 hg0r, congrArg (fun z : Nat => Value.int .i64 (z : Int)) HN.out⟩

end Go.Proofs.YtdklekdpdbjfiaaGreat

/- Moebius values of the lattice: the sum over all subgroups above one; the number of generating lists. -/
namespace Go.Proofs.YtdklekdpdbjfiaaGreat
open Go.RowKit

section
variable {P : Pr} (G : Grp P)
include G

theorem Grp.order_elems {H : List Int → Prop} (S : Sub P H) : prodU P (cseq P H) (cseq P H).length = (elemsIn P H).length := by
  rw [← G.els_sorted S, (sortL_perm _).length_eq]
  exact (elsP_len G.v (G.seq_facts S).1 _ (Nat.le_refl _)).symm

omit G in
theorem elemsIn_nodup {P : Pr} (hP : Valid P) (H : List Int → Prop) : (elemsIn P H).Nodup :=
  List.nodup_iff_pairwise_ne.2 ((elemsIn_asc hP H).imp (fun {a b} h e => by subst e; omega))

theorem Grp.order_le {H K : List Int → Prop} (S : Sub P H) (R : Sub P K) (h : ∀ x, H x → K x) : prodU P (cseq P H) (cseq P H).length ≤ prodU P (cseq P K) (cseq P K).length ∧
    (prodU P (cseq P H) (cseq P H).length = prodU P (cseq P K) (cseq P K).length → ∀ x, K x → H x) := by
  rw [G.order_elems S, G.order_elems R]
  have hP := G.v
  have hH := elemsIn_mem hP S.vec
  have hK := elemsIn_mem hP R.vec
  have hs : ∀ x ∈ elemsIn P H, x ∈ elemsIn P K := fun x hx => (hK x).2 (h x ((hH x).1 hx))
  have h1 := nodup_sub_len _ _ (elemsIn_nodup hP H) hs
  refine ⟨by omega, fun he x hx => Classical.byContradiction fun hn => ?_⟩
  have hn' : (x :: elemsIn P H).Nodup := List.nodup_cons.2 ⟨fun hm => hn ((hH x).1 hm), elemsIn_nodup hP H⟩
  have h2 := nodup_sub_len _ (elemsIn P K) hn' (fun y hy => by
    rcases List.mem_cons.1 hy with rfl | hy
    · exact (hK _).2 hx
    · exact hs y hy)
  simp only [List.length_cons] at h2
  omega

theorem Grp.inM_iff {H K : List Int → Prop} (S : Sub P H) (_R : Sub P K) : inM (msk P H) (msk P K) = true ↔ ∀ x, H x → K x := by
  unfold inM
  rw [decide_eq_true_iff]
  constructor
  · intro h x hx
    obtain ⟨h1, h2⟩ := G.num_lt (S.vec x hx)
    have hb : (msk P H).testBit (num P x).toNat = true := (msk_bit h1).2 (by rw [h2]; exact hx)
    rw [← h, Nat.testBit_and, Bool.and_eq_true] at hb
    have := (msk_bit h1).1 hb.2
    rwa [h2] at this
  · intro h
    apply Nat.eq_of_testBit_eq
    intro t
    rw [Nat.testBit_and]
    by_cases ht : t < (ordP P).toNat
    · cases hb : (msk P H).testBit t
      · rfl
      · have := (msk_bit (P := P) (H := K) ht).2 (h _ ((msk_bit ht).1 hb))
        rw [this]; rfl
    · rw [msk_high (by omega)]; rfl

/-- in ascending order no later subgroup lies in an earlier one -/
theorem Grp.lat_up {L : List (List (List Int))} (h : LatL P L) {i j : Nat} (hij : i < j) (hj : j < L.length) : inM (mskU P (gt L j)) (mskU P (gt L i)) = false := by
  have hbi := (h.2 _).1 (gt_mem (l := L) (i := i) (by omega))
  have hbj := (h.2 _).1 (gt_mem hj)
  have hlt := List.pairwise_iff_getElem.1 h.1 i j (by omega) hj hij
  rw [← gt_eq L i (by omega), ← gt_eq L j hj] at hlt
  cases hb : inM (mskU P (gt L j)) (mskU P (gt L i)) with
  | false => rfl
  | true =>
    exfalso
    have hin := (G.inM_iff (G.subB hbj) (G.subB hbi)).1 hb
    obtain ⟨h1, h2⟩ := G.order_le (G.subB hbj) (G.subB hbi) hin
    rw [← hbi.2, ← hbj.2] at h1 h2
    rcases hlt with hl | ⟨he, hl⟩
    · omega
    · have h3 := h2 he.symm
      have : genP P (fun x => x ∈ gt L j) = genP P (fun x => x ∈ gt L i) := funext fun x => propext ⟨hin x, h3 x⟩
      have e : gt L i = gt L j := by rw [hbi.2, hbj.2, this]
      rw [e, (cmpL_zero _ _).2 rfl] at hl
      omega

/-- the last one is the whole group -/
theorem Grp.lat_top {L : List (List (List Int))} (h : LatL P L) : 0 < L.length ∧ gt L (L.length - 1) = cseq P (Vec P.orders) := by
  have hw := (h.2 (cseq P (Vec P.orders))).2 (G.subB_cseq G.sub_all)
  obtain ⟨i, hi, he⟩ := mem_gt hw
  refine ⟨by omega, ?_⟩
  by_cases hl : i = L.length - 1
  · rw [← hl]; exact he
  · exfalso
    have hbj := (h.2 _).1 (gt_mem (l := L) (i := L.length - 1) (by omega))
    have := G.lat_up h (i := i) (j := L.length - 1) (by omega) (by omega)
    rw [he, G.mskU_cseq G.sub_all] at this
    have h2 := (G.inM_iff (G.subB hbj) G.sub_all).2 (fun x hx => (G.subB hbj).vec x hx)
    unfold mskU at this
    rw [h2] at this; cases this

end

section
variable {P : Pr} (G : Grp P)
include G

end
end Go.Proofs.YtdklekdpdbjfiaaGreat
