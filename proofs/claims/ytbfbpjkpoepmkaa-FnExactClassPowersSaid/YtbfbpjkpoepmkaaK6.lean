/-
  The reference's classes: spec.l18Code, l18Marks, l18Classes, ClassSizes.
  The orbit that impl.classOf collects. Plain.
  The map of numbers seen, of impl.classOf: a set of integers.
  Lists of lists that a call builds by append, none of whose blocks is in A (a map that is written beside them).
  The library's sort at [][]int64, laid from the shelf.
  A row that the call has built, sorted by the library: any elements of one cell. (After the library's Sort/OwnSortedInts, at a general reading.)
  impl.classOf: the class of an element, sorted.
  impl.classesOf, impl.ClassSizes.
-/
import Derived.Test.YtbfbpjkpoepmkaaK5
import Derived.Test.YtbfbpjkpoepmkaaK3
import Derived.Test.YtbfbpjkpoepmkaaK4
import Derived.Maps.OwnSet
import Derived.Shelf.SlSortCmp.NoneTotal
import Derived.Shelf.Lay
import Derived.Sort.OwnSortedInts
/- The reference's classes: spec.l18Code, l18Marks, l18Classes, ClassSizes. -/
namespace Go.Proofs.Ytbfbpjkpoepmkaa
open Go.RowKit

open Classical in
/-- the code of the class functions: 1 no group, 3 too large, 0 -/
noncomputable def clsCode (P : Pr) (ok : Bool) : Int := if ok then (if ordP P > 128 then 3 else 0) else 1

open Classical in
set_option maxRecDepth 100000 in
set_option maxHeartbeats 4000000 in
theorem l18Code_ok (P : Pr) (w : World) (pv : Value) (Sp : Nat → Prop) (hpv : PresV Sp w pv P) :
    Calls Try.prog 22 #[pv] w (Ret w fun _ v => v = .int .i64 (clsCode P (rconsB P))) := by
  obtain ⟨vo, vp, vc, rfl, h3⟩ := hpv
  have hp0 := PresP.box h3 30
  have hg0 : Ext w (w.alloc (.cells #[vo, vp, vc] 30)) := World.grownBy_alloc _ _ _
  go_enter Try.func22, Try.ntmps22
  go_wp2_with fail
  refine Calls.mono (l08Group_ok P _ _ _ ⟨_, _, _, rfl, Pres3.ext h3 (World.grownBy_alloc _ _ _)⟩) ?_
  rintro eA wA ⟨vA, rfl, hgA, rfl⟩
  obtain ⟨vo5, vp5, vc5, _, _, hb1, hb2, hb3, h3r⟩ := (hp0.ext hgA).at
  simp at hb2 hb3
  cases hr : rconsB P with
  | false =>
    go_wp2
    exact bodyPost_ret (v := .int .i64 1) (by simp [results, Try.results22, go_sem]) rfl ⟨_, rfl, grown_trans hg0 hgA, by simp [clsCode, hr]⟩
  | true =>
    have hv : Valid P := by
      unfold rconsB at hr
      exact (of_decide_eq_true hr).1
    go_wp2_with fail
    refine Calls.mono (l10Order_ok _ _ P _ hv ⟨_, _, _, rfl, h3r⟩) ?_
    rintro eB wB ⟨vB, rfl, hgB, rfl⟩
    by_cases hb : ordP P > 128
    · have hb' : 128 < ordP P := hb
      go_wp2
      exact bodyPost_ret (v := .int .i64 3) (by simp [results, Try.results22, go_sem]) rfl ⟨_, rfl, grown_trans hg0 (grown_trans hgA hgB), by simp [clsCode, hr, hb']⟩
    · have hb' : ordP P ≤ 128 := by omega
      go_wp2
      exact bodyPost_ret (v := .int .i64 0) (by simp [results, Try.results22, go_sem]) rfl ⟨_, rfl, grown_trans hg0 (grown_trans hgA hgB), by simp [clsCode, hr]; omega⟩

/-! ### a row of bools of the call's own -/
abbrev BOwn (base : Nat) (w : World) (v : Value) (l : List Bool) : Prop := w.ownsRow base 4 1 v l.length (l.map Value.bool)
theorem und_bools : Try.prog.underlying 65 = some (.slice 4) := by kernel_rfl
theorem Try.infoBool : (Try.prog.info? 4).map (fun i => (i.zero, i.size, i.bytes)) = some (some (.bool false), 1, 1) := by kernel_rfl

theorem wp_make_bools {ops : Array Oper} {rest : List Oper} {o : Oper} {a : Act} {Q : Exit → Act → World → Prop} {w : World} (hgd : o.guard = none) (l c : Operand)
    (ho : o.op = Op.makeSlice 65 l c) (base n H : Nat) (hH : w.heap.size = H) (L : Int) (hl : a.eval l = .int .i64 L) (hc : a.eval c = .int .i64 L) (hL : L = n) (hn : n ≤ 2147483648) (hbase : base ≤ H)
    (h : ∀ w', BOwn base w' (.slice (some ⟨H, 0, none⟩) n n) (List.replicate n false) → Ext w w' → H < w'.heap.size → wpList Try.prog ops Q rest (a.put o.dst (.slice (some ⟨H, 0, none⟩) n n)) w') :
    wpList Try.prog ops Q (o :: rest) a w := by
  subst hH
  obtain ⟨i0, hi, hz0, hz1, hz2⟩ := info_parts Try.infoBool
  refine wpList_make_full w hgd l c 65 ho base 4 i0 (.bool false) 1 und_bools hi hz0 hz1 .i64 .i64 L L n hl hc hL hL (by rw [hz2]; omega) (by unfold maxLen; omega) hbase ?_
  intro w' h1 h2
  refine h w' ?_ h2 (h1.lt w.heap.size rfl).2
  have e : (madeCells (Value.cells (.bool false)) (n * 1)).toList = (List.replicate n false).map Value.bool := by
    rw [show Value.cells (.bool false) = #[.bool false] from rfl, toList_madeCells_one]; simp
  rw [e] at h1
  show World.ownsRow _ _ _ _ _ _ _
  rw [List.length_replicate]; exact h1

theorem BOwn.cell {base g cap n : Nat} {w : World} {l : List Bool} (h : BOwn base w (.slice (some ⟨g, 0, none⟩) n cap) l) (j : Nat) (hj : j < l.length) : w.cell? ⟨g, j, none⟩ = some (.bool (gt l j)) := by
  have hn : n = l.length := by
    obtain ⟨_, ⟨h, _⟩ | ⟨_, _, _, h, _⟩⟩ := h <;> cases h; rfl
  subst hn
  have := World.ownsRow.cellAt h j (by omega)
  rw [this]; simp [gt, hj]

theorem BOwn.frozen {base g cap n : Nat} {w : World} {l : List Bool} (h : BOwn base w (.slice (some ⟨g, 0, none⟩) n cap) l) (j : Nat) : w.frozen? ⟨g, j, none⟩ = false := by
  have hn : n = l.length := by
    obtain ⟨_, ⟨h, _⟩ | ⟨_, _, _, h, _⟩⟩ := h <;> cases h; rfl
  subst hn
  exact World.ownsRow.frozenAt h j

theorem BOwn.store {base g cap n : Nat} {w : World} {l : List Bool} (h : BOwn base w (.slice (some ⟨g, 0, none⟩) n cap) l) (j : Nat) (x : Bool) :
    BOwn base (w.setCell ⟨g, j, none⟩ (.bool x)) (.slice (some ⟨g, 0, none⟩) n cap) (l.set j x) ∧ w.grownBy (w.setCell ⟨g, j, none⟩ (.bool x)) (some g) := by
  have hn : n = l.length := by
    obtain ⟨_, ⟨h, _⟩ | ⟨_, _, _, h, _⟩⟩ := h <;> cases h; rfl
  subst hn
  obtain ⟨h1, h2⟩ := World.ownsRow.stored h j (.bool x)
  refine ⟨?_, h2⟩
  show World.ownsRow _ _ _ _ _ _ _
  rw [List.length_set, List.map_set]; exact h1

theorem BOwn.ext0 {base : Nat} {w w' : World} {v : Value} {l : List Bool} (h : BOwn base w v l) (hg : Ext w w') : BOwn base w' v l :=
  h.kept hg (by cases hv : v.ownBlock <;> simp)

theorem BOwn.form {base : Nat} {w : World} {v : Value} {l : List Bool} (h : BOwn base w v l) (hl : 0 < l.length) : ∃ g cap, v = .slice (some ⟨g, 0, none⟩) l.length cap ∧ base ≤ g ∧ g < w.heap.size := by
  have hlt := h.lt
  obtain ⟨_, h | ⟨g, cap, cur, hv, hg, _⟩⟩ := h
  · omega
  · exact ⟨g, cap, hv, hg, (hlt g (by rw [hv]; rfl)).2⟩

theorem BOwn.keep {base g n cap r : Nat} {w w' : World} {l : List Bool} (h : BOwn base w (.slice (some ⟨g, 0, none⟩) n cap) l) (hg : w.grownBy w' (some r)) (hne : g ≠ r) : BOwn base w' (.slice (some ⟨g, 0, none⟩) n cap) l :=
  h.kept hg (.inr (fun e => hne (by cases e; rfl)))

theorem BOwn.weak {base base' : Nat} {w : World} {v : Value} {l : List Bool} (h : BOwn base w v l) (hb : base' ≤ base) : BOwn base' w v l := by
  obtain ⟨h1, h2⟩ := h
  refine ⟨h1, ?_⟩
  rcases h2 with h | ⟨g, cap, cur, hv, hg, r⟩
  · exact .inl h
  · exact .inr ⟨g, cap, cur, hv, Nat.le_trans hb hg, r⟩

/-- the marks of the class of X, after k elements -/
def marksTo (P : Pr) (X : List Int) : Nat → List Bool
  | 0 => List.replicate (ordP P).toNat false
  | k + 1 => (marksTo P X k).set (num P (rConj P X (elAt P (k : Int)))).toNat true
theorem marksTo_len (P : Pr) (X : List Int) (k : Nat) : (marksTo P X k).length = (ordP P).toNat := by
  induction k with
  | zero => simp [marksTo]
  | succ k ih => simp [marksTo, ih]

/-- w' is reached from w by growth and at most one store into block g behind it -/
def Near (w : World) (g : Nat) (w' : World) : Prop := ∃ w1, Ext w w1 ∧ (w' = w1 ∨ ∃ j x, w' = w1.setCell ⟨g, j, none⟩ x)
theorem Near.of {w w' : World} {g : Nat} (h : Ext w w') : Near w g w' := ⟨w', h, .inl rfl⟩
theorem Near.store {w w' : World} {g j : Nat} {x : Value} (h : Ext w w') : Near w g (w'.setCell ⟨g, j, none⟩ x) := ⟨w', h, .inr ⟨j, x, rfl⟩⟩
theorem Near.cell {w w' : World} {g : Nat} (h : Near w g w') {a : Addr} {v : Value} (hc : w.cell? a = some v) (hne : a.block ≠ g) : w'.cell? a = some v := by
  obtain ⟨w1, h1, rfl | ⟨j, x, rfl⟩⟩ := h
  · exact h1.cell hc (by simp)
  · rw [World.cell?_setCell_far _ _ _ _ (by simpa using Ne.symm hne)]
    exact h1.cell hc (by simp)

set_option maxRecDepth 100000 in
set_option maxHeartbeats 8000000 in
theorem l18Marks_ok (P : Pr) (hP : Valid P) (w : World) (pv x : Value) (X : List Int) (Sp Sx : Nat → Prop) (hpv : PresV Sp w pv P) (hx : Ints Sx w x X) (hX : Vec P.orders X) :
    Calls Try.prog 49 #[pv, x] w (Ret w fun w' v => BOwn w.heap.size w' v (marksTo P X (ordP P).toNat)) := by
  have h729 : ordP P ≤ 729 := hP.le729
  have hn6 := hP.n6
  have hpos := hP.ordP_pos
  obtain ⟨vo, vp, vc, rfl, h3⟩ := hpv
  have hp0 := PresP.box h3 30
  have hg0 : Ext w (w.alloc (.cells #[vo, vp, vc] 30)) := World.grownBy_alloc _ _ _
  go_enter Try.func49, Try.ntmps49
  go_wp2_with fail
  refine Calls.mono (l10Order_ok _ _ P _ hP ⟨_, _, _, rfl, Pres3.ext h3 (World.grownBy_alloc _ _ _)⟩) ?_
  rintro eO wO ⟨vO, rfl, hgO, rfl⟩
  have hgw : Ext w wO := grown_trans hg0 hgO
  go_wp2_with (at_make; refine wp_make_bools rfl _ _ rfl wO.heap.size (ordP P).toNat wO.heap.size rfl (ordP P) rfl rfl (by omega) (by omega) (Nat.le_refl _) ?_; intro wM hoM hgM hltM)
  have hpM := (hp0.ext hgO).ext hgM
  have hgwM := grown_trans hgw hgM
  have hxM := hx.ext hgwM
  have hpb : w.heap.size < wO.heap.size := by have := hgO.size; simp at this; omega
  obtain ⟨wm, hwm⟩ : ∃ wm : World, wm = wM := ⟨_, rfl⟩
  go_loopw [6] (fun kv wr => ∃ k : Nat, kv = .int .i64 k ∧ k ≤ (ordP P).toNat ∧ Ext wO wr ∧ BOwn wO.heap.size wr (.slice (some ⟨wO.heap.size, 0, none⟩) (ordP P).toNat (ordP P).toNat) (marksTo P X k)) (fun kv _ => (ordP P).toNat - (intOf kv).toNat)
  case atStart => exact ⟨0, rfl, by omega, hgM, hoM⟩
  case round =>
    clear hoM
    obtain ⟨k, rfl, hk, hgo, hO⟩ := hrel
    have hpr := (hp0.ext hgO).ext hgo
    have hxr := hx.ext (grown_trans hgw hgo)
    obtain ⟨vo5, vp5, vc5, _, _, hb1, hb2, hb3, h3r⟩ := hpr.at
    simp at hb2 hb3
    go_wp2_with fail
    refine Calls.mono (l10Order_ok _ _ P _ hP ⟨_, _, _, rfl, h3r⟩) ?_
    rintro eC wC ⟨vC, rfl, hgC, rfl⟩
    have hO2 := hO.ext0 hgC
    have hgoC := grown_trans hgo hgC
    by_cases hlt : k < (ordP P).toNat
    · have hlt' : (k : Int) < ordP P := by omega
      have hb1' := hgC.cell hb1 (by simp)
      have hb2' := hgC.cell hb2 (by simp)
      have hb3' := hgC.cell hb3 (by simp)
      have e1 : ∀ w', Near wC wO.heap.size w' → w'.cell? ⟨w.heap.size, 0, none⟩ = some vo5 := fun w' h => h.cell hb1' (by simp; omega)
      have e2 : ∀ w', Near wC wO.heap.size w' → w'.cell? ⟨w.heap.size, 1, none⟩ = some vp5 := fun w' h => h.cell hb2' (by simp; omega)
      have e3 : ∀ w', Near wC wO.heap.size w' → w'.cell? ⟨w.heap.size, 2, none⟩ = some vc5 := fun w' h => h.cell hb3' (by simp; omega)
      have hvE := elAt_vec hP (k : Int) (by omega)
      have hvC : Vec P.orders (rConj P X (elAt P (k : Int))) := rMul_vec hP _ _ (rInv_vec hP _ hvE) (rMul_vec hP _ _ hX hvE)
      have hnb := num_bd hP hvC
      have n0 : 0 ≤ num P (rConj P X (elAt P (k : Int))) := hnb.1
      have n1 : num P (rConj P X (elAt P (k : Int))) < max (ordP P) 0 := by omega
      have HV := Lib.hid (And.intro hvE hvC); clear hvE hvC hnb
      have h3C := Pres3.ext h3r hgC
      have hxC := hxr.ext hgC
      clear hb1 hb2 hb3 hb1' hb2' hb3'
      have hle := HV.out.1.1
      have hlc := HV.out.2.1
      have HL := Lib.hid (And.intro hle hlc); clear hle hlc
      have hcel := hO2.cell (num P (rConj P X (elAt P (k : Int)))).toNat (by rw [marksTo_len]; omega)
      have hfr := hO2.frozen (num P (rConj P X (elAt P (k : Int)))).toNat
      go_wp2
      go_region_held3 (fun w' => Near wC wO.heap.size w') (first | exact Near.of (grown_drew _ _) | exact Near.of (by assumption) | exact Near.store (by assumption) | assumption)
        (first
          | (go_at_call 24; refine Calls.mono (Calls.rel (w0 := wC) (by first | exact grown_drew _ _ | assumption) (l10At_ok P hP _ _ _ Any ⟨_, _, _, rfl, Pres3.ext h3C (by first | exact grown_drew _ _ | assumption)⟩ (by omega) (by omega))) ?_; rintro eE wE ⟨vE, rfl, hgE, hsE, hOE⟩; have hEi := hOE.ints (by rw [HL.out.1]; omega))
          | (go_at_call 70; refine Calls.mono (Calls.rel (w0 := wC) (by assumption) (l10Conj_ok P hP _ _ _ _ _ _ Any Sx Any ⟨_, _, _, rfl, Pres3.ext h3C (by assumption)⟩ (Ints.ext hxC (by assumption)) hEi hX HV.out.1)) ?_; rintro eF wF ⟨vF, rfl, hgF, hsF, hOF⟩; have hFi := hOF.ints (by rw [HL.out.2]; omega))
          | (go_at_call 35; refine Calls.mono (Calls.rel (w0 := wC) (by assumption) (l10Number_ok P hP _ _ _ _ Any Any ⟨_, _, _, rfl, Pres3.ext h3C (by assumption)⟩ hFi HV.out.2)) ?_; rintro eG wG ⟨vG, rfl, hgG, hsG, rfl⟩; have hcel2 := hgG.cell hcel (by simp); have hfr2 := (hO2.ext0 hgG).frozen (num P (rConj P X (elAt P (k : Int)))).toNat))
      clear e1 e2 e3
      obtain ⟨hO3, hgs⟩ := (hO2.ext0 hgG).store (num P (rConj P X (elAt P (k : Int)))).toNat true
      have hgn : Ext wO (wG.setCell ⟨wO.heap.size, (num P (rConj P X (elAt P (k : Int)))).toNat, none⟩ (.bool true)) := grown_own (grown_trans hgoC hgG) hgs (fun j hj hlt => by cases hj; omega)
      clear hcel hcel2 hfr hfr2 hgs
      go_wp2
      go_roundw
      case rel => exact ⟨k + 1, by go_num, by omega, hgn, hO3⟩
      case measure => simp [intOf]; omega
    · have hke : k = (ordP P).toNat := by omega
      have hlt' : ordP P ≤ (k : Int) := by omega
      subst hke
      go_wp2
      exact bodyPost_ret (v := .slice (some ⟨wO.heap.size, 0, none⟩) (ordP P).toNat (ordP P).toNat) (by simp [results, Try.results49, go_sem]) rfl ⟨_, rfl, grown_trans hgw hgoC, hO2.weak hgw.size⟩

/-! ### the classes -/
def fillTo (N : Nat) : Nat → List Int
  | 0 => List.replicate N 0
  | j + 1 => (fillTo N j).set j (-1)
theorem fillTo_len (N j : Nat) : (fillTo N j).length = N := by
  induction j with
  | zero => simp [fillTo]
  | succ j ih => simp [fillTo, ih]

/-- the first j elements, where marked, painted with c -/
def paint (m : List Bool) (c : Int) (L : List Int) : Nat → List Int
  | 0 => L
  | j + 1 => if gt m j = true then (paint m c L j).set j c else paint m c L j
theorem paint_len (m : List Bool) (c : Int) (L : List Int) (j : Nat) : (paint m c L j).length = L.length := by
  induction j with
  | zero => rfl
  | succ j ih => simp only [paint]; split <;> simp [ih]

/-- the reference's numbering of the elements by classes, after k elements, and how many classes -/
def clsTo (P : Pr) : Nat → List Int × Nat
  | 0 => (fillTo (ordP P).toNat (ordP P).toNat, 0)
  | k + 1 => if 0 ≤ gt (clsTo P k).1 k then clsTo P k else (paint (marksTo P (elAt P (k : Int)) (ordP P).toNat) (clsTo P k).2 (clsTo P k).1 (ordP P).toNat, (clsTo P k).2 + 1)
theorem clsTo_len (P : Pr) (k : Nat) : (clsTo P k).1.length = (ordP P).toNat := by
  induction k with
  | zero => simp [clsTo, fillTo_len]
  | succ k ih => simp only [clsTo]; split <;> simp [paint_len, ih]
theorem clsTo_num (P : Pr) (k : Nat) : (clsTo P k).2 ≤ k := by
  induction k with
  | zero => simp [clsTo]
  | succ k ih =>
    simp only [clsTo]; split
    · omega
    · show _ + 1 ≤ _; omega
def rCls (P : Pr) : List Int × Nat := clsTo P (ordP P).toNat

set_option maxRecDepth 100000 in
set_option maxHeartbeats 8000000 in
theorem l18Classes_ok (P : Pr) (hP : Valid P) (w : World) (pv : Value) (Sp : Nat → Prop) (hpv : PresV Sp w pv P) :
    Calls Try.prog 34 #[pv] w (Ret w fun w' v => ∃ r, v = .tuple #[r, .int .i64 ((rCls P).2 : Nat)] ∧ Own w.heap.size w' r (rCls P).1) := by
  have h729 : ordP P ≤ 729 := hP.le729
  have hn6 := hP.n6
  have hpos := hP.ordP_pos
  obtain ⟨vo, vp, vc, rfl, h3⟩ := hpv
  have hp0 := PresP.box h3 30
  have hg0 : Ext w (w.alloc (.cells #[vo, vp, vc] 30)) := World.grownBy_alloc _ _ _
  go_enter Try.func34, Try.ntmps34
  go_wp2_with fail
  refine Calls.mono (l10Order_ok _ _ P _ hP ⟨_, _, _, rfl, Pres3.ext h3 (World.grownBy_alloc _ _ _)⟩) ?_
  rintro eO wO ⟨vO, rfl, hgO, rfl⟩
  have hgw : Ext w wO := grown_trans hg0 hgO
  have hpO := hp0.ext hgO
  clear hp0
  go_wp2_with (at_make; refine wp_make_ints rfl _ _ rfl wO.heap.size (ordP P).toNat wO.heap.size rfl (ordP P) rfl rfl (by omega) (by omega) (Nat.le_refl _) ?_; intro wM hoM hgM hltM)
  have hpb : w.heap.size < wO.heap.size := by have := hgO.size; simp at this; omega
  have hN : (ordP P).toNat ≤ 729 ∧ 1 ≤ (ordP P).toNat ∧ (ordP P).toNat ≤ 729 := by omega
  have hNE : ordP P = ((ordP P).toNat : Nat) := by omega
  have HNE := Lib.hid hNE; clear hNE
  generalize hNN : (ordP P).toNat = N at *
  have HNN := Lib.hid hNN; clear hNN
  go_loopw [5] (fun kv wr => ∃ j : Nat, kv = .int .i64 j ∧ j ≤ N ∧ Ext wO wr ∧ Own wO.heap.size wr (.slice (some ⟨wO.heap.size, 0, none⟩) N N) (fillTo N j)) (fun kv _ => N - (intOf kv).toNat)
  case atStart => exact ⟨0, rfl, by omega, hgM, hoM⟩
  case round =>
    clear hoM hgM
    obtain ⟨j, rfl, hj, hgo, hO⟩ := hrel
    by_cases hlt : j < N
    · have hc := hO.cell j (by rw [fillTo_len]; omega)
      have hf := hO.frozen j
      obtain ⟨hO3, hgs⟩ := hO.store j (-1)
      have hgn : Ext wO (wr.setCell ⟨wO.heap.size, j, none⟩ (.int .i64 (-1))) := grown_own hgo hgs (fun j hj hlt => by cases hj; omega)
      go_wp2
      clear hc hf hgs
      go_roundw
      case rel => exact ⟨j + 1, by go_num, by omega, hgn, hO3⟩
      case measure => simp [intOf]; omega
    · have hje : j = N := by omega
      subst hje
      go_wp2
      clear hlt hj
      go_loopw [6, 7] (fun cv kv wr => ∃ k : Nat, kv = .int .i64 k ∧ cv = .int .i64 ((clsTo P k).2 : Nat) ∧ k ≤ j ∧ Ext wO wr ∧ Own wO.heap.size wr (.slice (some ⟨wO.heap.size, 0, none⟩) j j) (clsTo P k).1) (fun _ kv _ => j - (intOf kv).toNat)
      case atStart => exact ⟨0, rfl, rfl, by omega, hgo, by simp only [clsTo]; rw [HNN.out]; exact hO⟩
      case round =>
        clear hO hgo
        obtain ⟨k, rfl, rfl, hk, hgo, hO⟩ := hrel
        have hcn := clsTo_num P k
        by_cases hlt : k < j
        · have hc := hO.cell k (by rw [clsTo_len, HNN.out]; omega)
          by_cases hge : 0 ≤ gt (clsTo P k).1 k
          · have hsucc : clsTo P (k + 1) = clsTo P k := by simp only [clsTo]; rw [if_pos hge]
            have HS := Lib.hid hsucc; clear hsucc
            go_wp2
            go_roundw
            case rel => exact ⟨k + 1, by go_num, by rw [HS.out], by omega, hgo, by rw [HS.out]; exact hO⟩
            case measure => simp [intOf]; omega
          · have hlt0 : gt (clsTo P k).1 k < 0 := by omega
            have hsucc : clsTo P (k + 1) = (paint (marksTo P (elAt P (k : Int)) j) (clsTo P k).2 (clsTo P k).1 j, (clsTo P k).2 + 1) := by simp only [clsTo]; rw [if_neg hge, HNN.out]
            have HS := Lib.hid hsucc; clear hsucc hge
            obtain ⟨vo5, vp5, vc5, _, _, hb1, hb2, hb3, h3r⟩ := (hpO.ext hgo).at
            simp at hb2 hb3
            have e1 : ∀ w', Ext wr w' → w'.cell? ⟨w.heap.size, 0, none⟩ = some vo5 := fun w' h => h.cell hb1 (by simp)
            have e2 : ∀ w', Ext wr w' → w'.cell? ⟨w.heap.size, 1, none⟩ = some vp5 := fun w' h => h.cell hb2 (by simp)
            have e3 : ∀ w', Ext wr w' → w'.cell? ⟨w.heap.size, 2, none⟩ = some vc5 := fun w' h => h.cell hb3 (by simp)
            have hvE := elAt_vec hP (k : Int) (by omega)
            have HV := Lib.hid hvE; clear hvE
            clear hb1 hb2 hb3
            go_wp2
            clear hc
            go_region_held3 (fun w' => Ext wr w') (first | exact grown_drew _ _ | assumption)
              (first
                | (go_at_call 24; refine Calls.mono (Calls.rel (w0 := wr) (by assumption) (l10At_ok P hP _ _ _ Any ⟨_, _, _, rfl, Pres3.ext h3r (by assumption)⟩ (by omega) (by omega))) ?_; rintro eE wE ⟨vE, rfl, hgE, hsE, hOE⟩; have hEi := hOE.ints (by rw [HV.out.1]; omega))
                | (go_at_call 49; refine Calls.mono (Calls.rel (w0 := wr) (by assumption) (l18Marks_ok P hP _ _ _ _ Any Any ⟨_, _, _, rfl, Pres3.ext h3r (by assumption)⟩ hEi HV.out)) ?_; rintro eG wG ⟨vG, rfl, hgG, hsG, hOG⟩; have hOL := hO.ext0 hgG))
            have hwr : wO.heap.size < wr.heap.size := by
              obtain ⟨g, cap, hv, _, hg⟩ := hO.form (by rw [clsTo_len, HNN.out]; omega)
              cases hv; exact hg
            clear e1 e2 e3 hOE hEi hO h3r
            rw [HNN.out] at hOG
            have hml : (marksTo P (elAt P (k : Int)) j).length = j := by rw [marksTo_len, HNN.out]
            have hll : (clsTo P k).1.length = j := by rw [clsTo_len, HNN.out]
            obtain ⟨g2, cap2, rfl, hg2, hg2'⟩ := hOG.form (by rw [hml]; omega)
            rw [hml] at hOG
            simp only [hml]
            have hgoG := grown_trans hgo hgG
            have hwE : wO.heap.size < g2 := by have := hgE.size; omega
            have HML := Lib.hid (And.intro hml hll); clear hml hll
            go_wp2
            obtain ⟨wo, rfl⟩ : ∃ wo : World, wo = wG := ⟨_, rfl⟩
            generalize hMM : marksTo P (elAt P (k : Int)) j = M at *
            have HMM := Lib.hid hMM; clear hMM
            go_loopw [9] (fun iv wr => ∃ i : Nat, iv = .int .i64 i ∧ i ≤ j ∧ wo.grownBy wr (some wO.heap.size) ∧ Ext wO wr ∧ Own wO.heap.size wr (.slice (some ⟨wO.heap.size, 0, none⟩) j j) (paint M (clsTo P k).2 (clsTo P k).1 i)) (fun iv _ => j - (intOf iv).toNat)
            case atStart => exact ⟨0, rfl, by omega, grown_refl _ _, hgoG, hOL⟩
            case round =>
              clear hgo hgoG hOL hgG hgE
              obtain ⟨i, rfl, hi, hgi, hgo, hO⟩ := hrel
              by_cases hlt2 : i < j
              · have hmc := (hOG.keep hgi (by omega)).cell i (by rw [HML.out.1]; omega)
                have hcc := hO.cell i (by rw [paint_len, HML.out.2]; omega)
                have hf := hO.frozen i
                have hii : (i : Int) < j := by omega
                cases hq : gt M i with
                | true =>
                  rw [hq] at hmc
                  have hsucc : paint M (clsTo P k).2 (clsTo P k).1 (i + 1) = (paint M (clsTo P k).2 (clsTo P k).1 i).set i (clsTo P k).2 := by simp only [paint]; rw [if_pos hq]
                  have HS2 := Lib.hid hsucc; clear hsucc hq
                  obtain ⟨hO3, hgs⟩ := hO.store i ((clsTo P k).2 : Nat)
                  have hgn : Ext wO (wr.setCell ⟨wO.heap.size, i, none⟩ (.int .i64 ((clsTo P k).2 : Nat))) := grown_own hgo hgs (fun j hj hlt => by cases hj; omega)
                  have hgn2 := hgi.trans hgs
                  go_wp2
                  clear hmc hcc hf
                  go_roundw
                  case rel => exact ⟨i + 1, by go_num, by omega, hgn2, hgn, by rw [HS2.out]; exact hO3⟩
                  case measure => simp [intOf]; omega
                | false =>
                  rw [hq] at hmc
                  have hsucc : paint M (clsTo P k).2 (clsTo P k).1 (i + 1) = paint M (clsTo P k).2 (clsTo P k).1 i := by simp only [paint]; rw [if_neg (by rw [hq]; simp)]
                  have HS2 := Lib.hid hsucc; clear hsucc hq
                  go_wp2
                  clear hmc hcc hf
                  go_roundw
                  case rel => exact ⟨i + 1, by go_num, by omega, hgi, hgo, by rw [HS2.out]; exact hO⟩
                  case measure => simp [intOf]; omega
              · have hie : i = j := by omega
                subst hie
                go_wp2
                go_roundw
                case rel => exact ⟨k + 1, by go_num, by rw [HS.out]; go_num, by omega, hgo, by rw [HS.out]; exact hO⟩
                case measure => simp [intOf]; omega
        · have hke : k = j := by omega
          subst hke
          go_wp2
          refine bodyPost_ret (v := .tuple #[.slice (some ⟨wO.heap.size, 0, none⟩) k k, .int .i64 ((clsTo P k).2 : Nat)]) (by simp [results, Try.results34, go_sem]) rfl ⟨_, rfl, grown_trans hgw hgo, _, by unfold rCls; rw [HNN.out], by unfold rCls; rw [HNN.out]; exact hO.weak hgw.size⟩

/-- how often each number below c stands among the first k of L -/
def cntTo (L : List Int) (c : Nat) : Nat → List Int
  | 0 => List.replicate c 0
  | k + 1 => (cntTo L c k).set (gt L k).toNat (gt (cntTo L c k) (gt L k).toNat + 1)
theorem cntTo_len (L : List Int) (c k : Nat) : (cntTo L c k).length = c := by
  induction k with
  | zero => simp [cntTo]
  | succ k ih => simp [cntTo, ih]
theorem gt_set {α : Type} [Inhabited α] (l : List α) (i j : Nat) (x : α) (hj : j < l.length) : gt (l.set i x) j = if i = j then x else gt l j := by
  simp only [gt, List.getD_eq_getElem?_getD]
  rw [List.getElem?_set]
  by_cases h : i = j
  · subst h; simp [hj]
  · simp [h]
theorem cntTo_bd (L : List Int) (c k : Nat) : ∀ j, j < c → 0 ≤ gt (cntTo L c k) j ∧ gt (cntTo L c k) j ≤ k := by
  induction k with
  | zero => intro j hj; simp [cntTo, gt, hj]
  | succ k ih =>
    intro j hj
    simp only [cntTo]
    rw [gt_set _ _ _ _ (by rw [cntTo_len]; exact hj)]
    have := ih j hj
    split
    · rename_i h; subst h; omega
    · omega
def rSizes (P : Pr) : List Int := cntTo (rCls P).1 (rCls P).2 (ordP P).toNat

end Go.Proofs.Ytbfbpjkpoepmkaa

/- The orbit that impl.classOf collects. Plain. -/
namespace Go.Proofs.Ytbfbpjkpoepmkaa
open Go.RowKit

theorem nodup_len : ∀ (N : Nat) (l : List Int), l.Nodup → (∀ x ∈ l, 0 ≤ x ∧ x < (N : Int)) → l.length ≤ N := by
  intro N
  induction N with
  | zero =>
    intro l _ h
    cases l with
    | nil => simp
    | cons a l => have := h a (by simp); omega
  | succ N ih =>
    intro l hn h
    by_cases hm : (N : Int) ∈ l
    · have h1 := ih (l.erase (N : Int)) (hn.erase _) (fun x hx => by
        have h2 := (hn.mem_erase_iff).1 hx
        have h3 := h x h2.2
        have := h2.1
        omega)
      rw [List.length_erase_of_mem hm] at h1
      omega
    · have h1 := ih l hn (fun x hx => by
        have h3 := h x hx
        have : x ≠ (N : Int) := fun e => hm (e ▸ hx)
        omega)
      omega

/-- z is put to L unless its number stands there -/
def addZ (P : Pr) (L : List (List Int)) (z : List Int) : List (List Int) := if num P z ∈ L.map (num P) then L else L ++ [z]
/-- the first g generators brought to bear on y -/
def orbIn (P : Pr) (y : List Int) (L : List (List Int)) : Nat → List (List Int)
  | 0 => L
  | g + 1 => addZ P (orbIn P y L g) (iConj P y (unitV P.orders.length g))
def orbTo (P : Pr) : Nat → Nat → List (List Int) → List (List Int)
  | 0, _, L => L
  | f + 1, i, L => if i < L.length then orbTo P f (i + 1) (orbIn P (gt L i) L P.orders.length) else L
def orb (P : Pr) (x : List Int) : List (List Int) := orbTo P ((ordP P).toNat + 1) 0 [x]

/-- a list of exponent vectors with different numbers -/
structure OrbI (P : Pr) (L : List (List Int)) : Prop where
  vec : ∀ y ∈ L, Vec P.orders y
  nd : (L.map (num P)).Nodup

theorem OrbI.len {P : Pr} (hP : Valid P) {L : List (List Int)} (h : OrbI P L) : L.length ≤ (ordP P).toNat := by
  have h1 := nodup_len (ordP P).toNat (L.map (num P)) h.nd (fun x hx => by
    obtain ⟨y, hy, rfl⟩ := List.mem_map.1 hx
    have := num_bd hP (h.vec y hy)
    omega)
  simpa using h1

theorem OrbI.add {P : Pr} {L : List (List Int)} (h : OrbI P L) {z : List Int} (hz : Vec P.orders z) : OrbI P (addZ P L z) := by
  unfold addZ
  by_cases hm : num P z ∈ L.map (num P)
  · rw [if_pos hm]; exact h
  · rw [if_neg hm]
    refine ⟨fun y hy => ?_, ?_⟩
    · rcases List.mem_append.1 hy with h1 | h1
      · exact h.vec y h1
      · rw [List.mem_singleton.1 h1]; exact hz
    · rw [List.map_append, List.nodup_append]
      refine ⟨h.nd, by simp, ?_⟩
      intro a ha b hb e
      simp at hb
      subst e hb
      exact hm ha

theorem OrbI.single {P : Pr} {x : List Int} (hx : Vec P.orders x) : OrbI P [x] := ⟨fun y hy => by rw [List.mem_singleton.1 hy]; exact hx, by simp⟩

theorem addZ_pre (P : Pr) (L : List (List Int)) (z : List Int) : ∃ M, addZ P L z = L ++ M := by
  unfold addZ; split
  · exact ⟨[], by simp⟩
  · exact ⟨[z], rfl⟩
theorem orbIn_pre (P : Pr) (y : List Int) (L : List (List Int)) (g : Nat) : ∃ M, orbIn P y L g = L ++ M := by
  induction g with
  | zero => exact ⟨[], by simp [orbIn]⟩
  | succ g ih =>
    obtain ⟨M, hM⟩ := ih
    obtain ⟨M2, h2⟩ := addZ_pre P (orbIn P y L g) (iConj P y (unitV P.orders.length g))
    exact ⟨M ++ M2, by simp only [orbIn]; rw [h2, hM, List.append_assoc]⟩
theorem OrbI.inn {P : Pr} (hP : Valid P) {L : List (List Int)} (h : OrbI P L) {y : List Int} (hy : Vec P.orders y) (g : Nat) : OrbI P (orbIn P y L g) := by
  induction g with
  | zero => exact h
  | succ g ih => exact ih.add (iConj_vec hP _ _ hy (unitV_vec hP g))

end Go.Proofs.Ytbfbpjkpoepmkaa

/- The map of numbers seen, of impl.classOf: a set of integers. -/
namespace Go.Proofs.Ytbfbpjkpoepmkaa
open Go.RowKit
open Go.Maps (Keyed)

theorem und_seen : Try.prog.underlying 78 = some (.map 2 4) := by kernel_rfl
theorem und_bool : Try.prog.underlying 4 = some .bool := by kernel_rfl
theorem und_int64 : Try.prog.underlying 2 = some (.int .i64) := by kernel_rfl

/-- the map in block b holds just the numbers ns -/
def Seen (w : World) (b : Nat) (ns : List Int) : Prop :=
  ∃ (n : Nat) (D : DataW Unit), w.ownsMap Try.prog 2 (plainElem Try.prog 4) b n D ∧ n ≤ ns.length ∧ Maps.IsMap D ∧
    ∀ a : Int, (Lit.int .i64 a).wf = true → D.atKey (.int .i64 a) (.lit (.bool false)) = .lit (.bool (decide (a ∈ ns)))

theorem Seen.made (w : World) : Seen (w.alloc (.map #[] 0)) w.heap.size [] :=
  ⟨0, .map [], World.ownsMap_made _ _ _ _, Nat.le_refl _, Maps.isMap_empty, fun a _ => by simp [WideAt.atKey_none]⟩
theorem Seen.lt {w : World} {b : Nat} {ns : List Int} (h : Seen w b ns) : b < w.heap.size := by
  obtain ⟨n, D, h, _⟩ := h
  exact h.lt
theorem Seen.kept {w w' : World} {b : Nat} {ns : List Int} {r : Option Nat} (h : Seen w b ns) (hg : w.grownBy w' r) (hne : some b ≠ r) : Seen w' b ns := by
  obtain ⟨n, D, h, h2⟩ := h
  exact ⟨n, D, h.kept hg hne, h2⟩
theorem Seen.look {w : World} {b : Nat} {ns : List Int} (h : Seen w b ns) (a : Int) (ha : (Lit.int .i64 a).wf = true) :
    (Instr.lookup 78 (.map (some b)) (.int .i64 a) false).run Try.prog w = .ok (.bool (decide (a ∈ ns))) w := by
  obtain ⟨n, D, h, _, _, hat⟩ := h
  obtain ⟨v, ps, hrun, hv⟩ := h.lookup (Maps.int_keyed und_int64) und_seen (z := .bool false) (by kernel_rfl) (plainElem_bool und_bool false) (Maps.keyOf_int_mk und_int64 ha)
  rw [hat a ha] at hv
  have hvv : v = .bool (decide (a ∈ ns)) := by
    unfold plainElem at hv
    rw [und_bool] at hv
    cases v <;> simp at hv
    rw [hv.1]
  rw [hrun, hvv]
theorem Seen.update {w : World} {b : Nat} {ns : List Int} (h : Seen w b ns) (a : Int) (ha : (Lit.int .i64 a).wf = true) (hl : ns.length ≤ 1048576) :
    ∃ w', (Instr.mapUpdate 78 (.map (some b)) (.int .i64 a) (.bool true)).run Try.prog w = .ok () w' ∧ Seen w' b (a :: ns) ∧ w.grownBy w' (some b) := by
  obtain ⟨n, D, h, hn, hM, hat⟩ := h
  obtain ⟨w', hrun, hown, hg⟩ := h.update (Maps.int_keyed und_int64) und_seen (by unfold maxLen; omega) (Maps.keyOf_int_mk und_int64 ha) (plainElem_bool und_bool true)
  refine ⟨w', hrun, ⟨n + 1, _, hown, by simp; omega, hM.put _ _, ?_⟩, hg⟩
  intro c hc
  by_cases he : c = a
  · subst he
    rw [Maps.atKey_put_same hM (by trivial)]
    simp
  · rw [Maps.atKey_put_other (by intro e; cases e; exact he rfl), hat c hc]
    simp [he]

theorem Seen.congr {w : World} {b : Nat} {ns ms : List Int} (h : Seen w b ns) (hl : ns.length ≤ ms.length) (he : ∀ a, a ∈ ns ↔ a ∈ ms) : Seen w b ms := by
  obtain ⟨n, D, h1, h2, h3, h4⟩ := h
  exact ⟨n, D, h1, Nat.le_trans h2 hl, h3, fun a ha => by rw [h4 a ha]; simp [he a]⟩

end Go.Proofs.Ytbfbpjkpoepmkaa

/- Lists of lists that a call builds by append, none of whose blocks is in A (a map that is written beside them). -/
namespace Go.Proofs.Ytbfbpjkpoepmkaa
open Go.RowKit

/-- SlO, and none of its blocks is in A -/
def SlOA {α : Type} [Inhabited α] (El : (Nat → Prop) → World → Value → α → Prop) (E B : Nat) (A : Nat → Prop) (w : World) (v : Value) (xs : List α) : Prop :=
  ∃ (vs : List Value) (G : Nat → Nat → Prop), vs.length = xs.length ∧ OwnV B E w v vs ∧ (∀ i k, i < xs.length → G i k → B ≤ k ∧ v.ownBlock ≠ some k ∧ k < w.heap.size) ∧
    (∀ i j k, i < xs.length → j < xs.length → G i k → G j k → i = j) ∧ (∀ i, i < xs.length → El (G i) w (gt vs i) (gt xs i)) ∧ (∀ i k, i < xs.length → G i k → ¬ A k) ∧ ∀ k, v.ownBlock = some k → ¬ A k

theorem SlOA.o {α : Type} [Inhabited α] {El : (Nat → Prop) → World → Value → α → Prop} {E B : Nat} {A : Nat → Prop} {w : World} {v : Value} {xs : List α} (h : SlOA El E B A w v xs) : SlO El E B w v xs := by
  obtain ⟨vs, G, h1, h2, h3, h4, h5, _⟩ := h
  exact ⟨vs, G, h1, h2, h3, h4, h5⟩

/-- blocks in A that are not older than the list come into being behind it -/
theorem SlO.avoid {α : Type} [Inhabited α] {El : (Nat → Prop) → World → Value → α → Prop} {E B : Nat} {A : Nat → Prop} {w : World} {v : Value} {xs : List α} (h : SlO El E B w v xs) (hA : ∀ k, A k → w.heap.size ≤ k) : SlOA El E B A w v xs := by
  obtain ⟨vs, G, h1, h2, h3, h4, h5⟩ := h
  exact ⟨vs, G, h1, h2, h3, h4, h5, fun i k hi hk ha => by have := (h3 i k hi hk).2.2; have := hA k ha; omega, fun k hk ha => by have := (h2.lt k hk).2; have := hA k ha; omega⟩

theorem SlOA.ext {α : Type} [Inhabited α] {El : (Nat → Prop) → World → Value → α → Prop} (hEl : RdOk El) {E B : Nat} {A : Nat → Prop} {w w' : World} {v : Value} {xs : List α} (h : SlOA El E B A w v xs) (hg : Ext w w') : SlOA El E B A w' v xs := by
  obtain ⟨vs, G, hvl, hO, hG, hd, hE, hr⟩ := h
  refine ⟨vs, G, hvl, hO.kept hg (by cases hv : v.ownBlock <;> simp), fun i k hi hk => ?_, hd, fun i hi => hEl.mono (hE i hi) (fun k hk hlt => ⟨hk, Nat.lt_of_lt_of_le hlt hg.size, hg.block k hlt (by simp)⟩), hr⟩
  obtain ⟨a, b, c⟩ := hG i k hi hk
  exact ⟨a, b, Nat.lt_of_lt_of_le c hg.size⟩

/-- blocks that are not older than the list may be put to A -/
theorem SlOA.more {α : Type} [Inhabited α] {El : (Nat → Prop) → World → Value → α → Prop} {E B : Nat} {A A' : Nat → Prop} {w : World} {v : Value} {xs : List α} (h : SlOA El E B A w v xs) (hA : ∀ k, A' k → A k ∨ w.heap.size ≤ k) : SlOA El E B A' w v xs := by
  obtain ⟨vs, G, h1, h2, h3, h4, h5, h6, h7⟩ := h
  refine ⟨vs, G, h1, h2, h3, h4, h5, fun i k hi hk ha => ?_, fun k hk ha => ?_⟩
  · rcases hA k ha with h | h
    · exact h6 i k hi hk h
    · have := (h3 i k hi hk).2.2; omega
  · rcases hA k ha with h | h
    · exact h7 k hk h
    · have := (h2.lt k hk).2; omega
theorem SlOA.less {α : Type} [Inhabited α] {El : (Nat → Prop) → World → Value → α → Prop} {E B : Nat} {A A' : Nat → Prop} {w : World} {v : Value} {xs : List α} (h : SlOA El E B A w v xs) (hA : ∀ k, A' k → A k) : SlOA El E B A' w v xs :=
  h.more fun k hk => .inl (hA k hk)
theorem SlOA.avoids {α : Type} [Inhabited α] {El : (Nat → Prop) → World → Value → α → Prop} {E B : Nat} {A : Nat → Prop} {w : World} {v : Value} {xs : List α} (h : SlOA El E B A w v xs) (k : Nat) (hk : v.ownBlock = some k) : ¬ A k ∧ B ≤ k ∧ k < w.heap.size := by
  obtain ⟨vs, G, h1, h2, h3, h4, h5, h6, h7⟩ := h
  exact ⟨h7 k hk, h2.lt k hk⟩

/-- a block in A is written -/
theorem SlOA.kept {α : Type} [Inhabited α] {El : (Nat → Prop) → World → Value → α → Prop} (hEl : RdOk El) {E B m : Nat} {A : Nat → Prop} {w w' : World} {v : Value} {xs : List α} (h : SlOA El E B A w v xs) (hg : w.grownBy w' (some m)) (hm : A m) : SlOA El E B A w' v xs := by
  obtain ⟨vs, G, hvl, hO, hG, hd, hE, hr, hr2⟩ := h
  refine ⟨vs, G, hvl, hO.kept hg ?_, fun i k hi hk => ?_, hd, fun i hi => hEl.mono (hE i hi) (fun k hk hlt => ⟨hk, Nat.lt_of_lt_of_le hlt hg.size, hg.block k hlt (fun e => hr i k hi hk (by cases e; exact hm))⟩), hr, hr2⟩
  · cases hv : v.ownBlock with
    | none => exact .inl rfl
    | some b => exact .inr (fun e => hr2 b hv (by cases e; exact hm))
  · obtain ⟨a, b, c⟩ := hG i k hi hk
    exact ⟨a, b, Nat.lt_of_lt_of_le c hg.size⟩

/-- append of one element that was made since -/
theorem wp_app_oneA {α : Type} [Inhabited α] {El : (Nat → Prop) → World → Value → α → Prop} (hEl : RdOk El) (T E : Nat) (z : Value) (bytes : Nat) (hT : Try.prog.underlying T = some (.slice E))
    (hE : (Try.prog.info? E).map (fun i => (i.zero, i.size, i.bytes)) = some (some z, 1, bytes)) (hzs : z.cells.size = 1) (hbt : bytes ≤ 64)
    {ops : Array Oper} {rest : List Oper} {o : Oper} {a : Act} {Q : Exit → Act → World → Prop} {w : World} (hgd : o.guard = none) (s x : Operand)
    (ho : o.op = Op.call { callee := Callee.builtin Builtin.append, args := #[s, x], argTypes := #[T, T] }) (B : Nat) (A : Nat → Prop) (w1 w2 : World) (v u : Value) (xs : List α) (y : α) (hs : a.eval s = v) (hown : SlOA El E B A w1 v xs) (hA : ∀ k, A k → k < w1.heap.size)
    (r : Option Nat) (hg : w1.grownBy w2 r) (hrA : ∀ k, r = some k → A k) (hu : El (From w1.heap.size) w2 u y) (hw : w = w2.alloc (.cells #[u] E)) (hx : a.eval x = .slice (some ⟨w2.heap.size, 0, none⟩) 1 1) (hlen : xs.length ≤ 1000000) (hbase : B ≤ w1.heap.size)
    (h : ∀ v' w', SlOA El E B A w' v' (xs ++ [y]) → w2.grownBy w' v.ownBlock → wpList Try.prog ops Q rest (a.put o.dst v') w') :
    wpList Try.prog ops Q (o :: rest) a w := by
  subst hw
  obtain ⟨vs, G, hvl, hO, hG, hd, hEx, hr, hr2⟩ := hown
  have hga : Ext w2 (w2.alloc (.cells #[u] E)) := World.grownBy_alloc _ _ _
  have hne : v.ownBlock = none ∨ v.ownBlock ≠ r := by
    cases hv : v.ownBlock with
    | none => exact .inl rfl
    | some b => exact .inr (fun e => hr2 b hv (hrA b e.symm))
  have hO2 : OwnV B E (w2.alloc (.cells #[u] E)) v vs := hO.kept (grown_trans hg (grown_of_ext _ hga)) hne
  refine wp_app T E z bytes hT hE hzs hbt hgd s x ho B v vs hs hO2 (some ⟨w2.heap.size, 0, none⟩) 1 1 [u] hx rfl (by simp) ?_ ?_ (by omega) (by have := hg.size; simp; omega) ?_
  · intro j hj
    have : j = 0 := by omega
    subst this
    exact ⟨w2.heap.size, 0, rfl, by rw [World.cell?_alloc_at _ _ _ _ rfl]; rfl⟩
  · intro u' hu'
    simp at hu'; subst hu'; exact hEl.one hu
  · intro v' w' h1 h2 _ hat
    have hvb : ∀ k, v.ownBlock = some k → B ≤ k ∧ k < w1.heap.size := hO.lt
    have hg2 : w2.grownBy w' v.ownBlock := grown_trans (grown_of_ext _ hga) h2
    have hsz : w1.heap.size ≤ w'.heap.size := Nat.le_trans hg.size hg2.size
    have hv'b : ∀ k, v'.ownBlock = some k → v.ownBlock = some k ∨ w2.heap.size < k := by
      intro k hk
      rcases hat with h | h
      · exact .inl (by rw [← h]; exact hk)
      · rw [h] at hk
        have : (w2.alloc (.cells #[u] E)).heap.size = k := by simpa using hk
        simp at this
        exact .inr (by omega)
    refine h v' w' ⟨vs ++ [u], fun i k => if i < xs.length then G i k ∧ k < w1.heap.size else w1.heap.size ≤ k ∧ k < w2.heap.size, by simp [hvl], h1, ?_, ?_, ?_, ?_, ?_⟩ hg2
    · intro i k hi hk
      split at hk
      · rename_i hlt
        obtain ⟨a1, a2, a3⟩ := hG i k hlt hk.1
        refine ⟨a1, fun hv' => ?_, Nat.lt_of_lt_of_le a3 hsz⟩
        rcases hv'b k hv' with h | h
        · exact a2 h
        · have := hg.size; omega
      · refine ⟨by omega, fun hv' => ?_, Nat.lt_of_lt_of_le hk.2 hg2.size⟩
        rcases hv'b k hv' with h | h
        · have := hvb k h; omega
        · omega
    · intro i j k hi hj hk hk'
      simp only [List.length_append, List.length_singleton] at hi hj
      split at hk <;> split at hk'
      · exact hd i j k (by assumption) (by assumption) hk.1 hk'.1
      · omega
      · omega
      · omega
    · intro i hi
      simp only [List.length_append, List.length_singleton] at hi
      by_cases hlt : i < xs.length
      · rw [gt_append_left _ _ _ (by omega), gt_append_left _ _ _ hlt]
        simp only [if_pos hlt]
        exact hEl.mono (hEx i hlt) (fun k hk hkl => ⟨⟨hk, hkl⟩, Nat.lt_of_lt_of_le hkl hsz, (hg2.block k (Nat.lt_of_lt_of_le hkl hg.size) (fun e => (hG i k hlt hk).2.1 e.symm)).trans (hg.block k hkl (fun e => hr i k hlt hk (hrA k e.symm)))⟩)
      · have hi2 : i = xs.length := by omega
        subst hi2
        rw [gt_concat, ← hvl, gt_concat]
        simp only [hvl, Nat.lt_irrefl, if_false]
        exact hEl.mono hu (fun k hk hkl => ⟨⟨hk, hkl⟩, Nat.lt_of_lt_of_le hkl hg2.size, hg2.block k hkl (fun e => by
          have hk : w1.heap.size ≤ k := hk
          have := hvb k e.symm; omega)⟩)
    · intro i k hi hk ha
      split at hk
      · exact hr i k (by assumption) hk.1 ha
      · have := hA k ha; omega
    · intro k hk ha
      rcases hv'b k hk with h | h
      · exact hr2 k h ha
      · have := hA k ha; have := hg.size; omega

theorem wp_app_rowA {ops : Array Oper} {rest : List Oper} {o : Oper} {a : Act} {Q : Exit → Act → World → Prop} {w : World} (hgd : o.guard = none) (s x : Operand)
    (ho : o.op = Op.call { callee := Callee.builtin Builtin.append, args := #[s, x], argTypes := #[23, 23] }) (B : Nat) (A : Nat → Prop) (w1 w2 : World) (v u : Value) (xs : List (List Int)) (y : List Int) (hs : a.eval s = v)
    (hown : SlOA OwnIn 22 B A w1 v xs) (hA : ∀ k, A k → k < w1.heap.size)
    (r : Option Nat) (hg : w1.grownBy w2 r) (hrA : ∀ k, r = some k → A k) (hu : OwnIn (From w1.heap.size) w2 u y) (hw : w = w2.alloc (.cells #[u] 22)) (hx : a.eval x = .slice (some ⟨w2.heap.size, 0, none⟩) 1 1) (hlen : xs.length ≤ 1000000) (hbase : B ≤ w1.heap.size)
    (h : ∀ v' w', SlOA OwnIn 22 B A w' v' (xs ++ [y]) → w2.grownBy w' v.ownBlock → wpList Try.prog ops Q rest (a.put o.dst v') w') :
    wpList Try.prog ops Q (o :: rest) a w :=
  wp_app_oneA rdOwn 23 22 (.slice none 0 0) 24 und_rows Try.infoRow rfl (by decide) hgd s x ho B A w1 w2 v u xs y hs hown hA r hg hrA hu hw hx hlen hbase h

end Go.Proofs.Ytbfbpjkpoepmkaa

/- The library's sort at [][]int64, laid from the shelf. -/
namespace Go.Proofs.Ytbfbpjkpoepmkaa
open Go.Proofs Go.Shelf Go.RowKit Go.Lib Go.Sort
shelf_lay_g SlLaysF.n6 Slsf 6 at Try 65 as Try.sortRows
end Go.Proofs.Ytbfbpjkpoepmkaa

/- A row that the call has built, sorted by the library: any elements of one cell. (After the library's Sort/OwnSortedInts, at a general reading.) -/
namespace Go.Proofs.Ytbfbpjkpoepmkaa
open Go.Proofs Go.Shelf Go.RowKit Go.Lib Go.Sort

section
variable {α : Type} [Inhabited α] {enc : α → Value}
theorem holds_of_blockV {w : World} {g : Nat} {cur : Array Value} {e : TypeId} {ss : List α} (hb : w.heap[g]? = some (.cells cur e (0, 0))) (ht : cur.toList.take ss.length = ss.map enc) : Holds enc w g 0 ss.toArray := by
  intro j hj
  have hj' : j < ss.length := by simpa using hj
  refine ⟨?_, by simp [World.frozen?, hb]⟩
  have h1 : (cur.toList.take ss.length)[j]? = (ss.map enc)[j]? := by rw [ht]
  rw [List.getElem?_take_of_lt hj'] at h1
  simp only [World.cell?, hb, Nat.zero_add]
  simp only [Option.isSome_none, Bool.false_eq_true, if_false]
  rw [← Array.getElem?_toList, h1]
  simp [hj']

theorem heap_sortedV {w : World} {g n : Nat} {os : Array Obj} {cur : Array Value} {e : TypeId} {fr : Nat × Nat} (d : Array α) (hb : w.heap[g]? = some (.cells cur e fr)) :
    (sortWorld enc w g 0 n d os).heap[g]? = some (.cells (putCells enc 0 d cur) e fr) := by
  have hg : g < w.heap.size := (Array.getElem?_eq_some_iff.1 hb).1
  unfold sortWorld
  rw [heap_grow_old _ _ (by simpa using hg)]
  simp [putRow, mapBlock, Sort.ahead, Array.getElem?_modify, hb, onCells]

theorem grownBy_sortedV {w : World} {g n : Nat} {os : Array Obj} (d : Array α) : w.grownBy (sortWorld enc w g 0 n d os) (some g) := by
  unfold sortWorld
  refine ⟨rfl, rfl, rfl, by simp, fun k hk hne => ?_⟩
  rw [heap_grow_old _ _ (by simpa using hk)]
  have : g ≠ k := fun e => hne (by rw [e])
  simp [putRow, mapBlock, Sort.ahead, Array.getElem?_modify, this]

theorem take_putCellsV (cur : Array Value) (ts : List α) (h : ts.length ≤ cur.size) : (putCells enc 0 ts.toArray cur).toList.take ts.length = ts.map enc := by
  apply List.ext_getElem?
  intro j
  by_cases hj : j < ts.length
  · rw [List.getElem?_take_of_lt hj, Array.getElem?_toList]
    simp [putCells, hj, show j < cur.size by omega]
  · rw [List.getElem?_take_eq_none (by omega), List.getElem?_eq_none (by simp; omega)]

theorem ownsRow_sortedV {w : World} {base g cap n : Nat} {e : TypeId} {os : Array Obj} {cur : Array Value} {ss ts : List α} (hl : ts.length = ss.length) (hbase : base ≤ g) (hb : w.heap[g]? = some (.cells cur e (0, 0)))
    (h1 : ss.length ≤ cap) (h2 : cap ≤ maxLen) (h3 : cur.size = cap * 1) :
    (sortWorld enc w g 0 n ts.toArray os).ownsRow base e 1 (.slice (some ⟨g, 0, none⟩) ss.length cap) ss.length (ts.map enc) :=
  ⟨by simp [hl], .inr ⟨g, cap, _, rfl, hbase, heap_sortedV _ hb, h1, h2, by simp [putCells, h3], by rw [Nat.mul_one, ← hl]; exact take_putCellsV cur ts (by omega)⟩⟩
end

/-- a slice value of the row, nil beyond it -/
def encAt (vs : List Value) (k : Nat) : Value := if k < vs.length then gt vs k else .slice none 0 0
def cfAt (L : List (List Int)) (i j : Nat) : Int := cmpL (gt L i) (gt L j)

theorem ltOf_true {L : List (List Int)} {x y : Nat} : ltOf (cfAt L) x y = true ↔ cmpL (gt L x) (gt L y) < 0 := by unfold ltOf; rw [decide_eq_true_iff]; rfl
theorem ltOf_false {L : List (List Int)} {x y : Nat} : ltOf (cfAt L) x y = false ↔ 0 ≤ cmpL (gt L x) (gt L y) := by
  unfold ltOf; rw [decide_eq_false_iff_not]; show ¬ (cmpL (gt L x) (gt L y) < 0) ↔ _; omega

theorem swo_cfAt (L : List (List Int)) : SWO (ltOf (cfAt L)) where
  irrefl x := by
    have := (cmpL_zero (gt L x) (gt L x)).2 rfl
    rw [ltOf_false]; omega
  trans x y z h k := by
    rw [ltOf_true] at *
    have h1 := cmpL_le_trans (gt L x) (gt L y) (gt L z) (by omega) (by omega)
    have h2 : cmpL (gt L x) (gt L z) ≠ 0 := by
      intro e
      rw [cmpL_zero] at e
      rw [e] at h
      have := cmpL_swap (gt L z) (gt L y)
      omega
    omega
  ntrans x y z h k := by
    rw [ltOf_false] at *
    have h1 := cmpL_swap (gt L x) (gt L y)
    have h2 := cmpL_swap (gt L y) (gt L z)
    have h3 := cmpL_swap (gt L x) (gt L z)
    have h4 := cmpL_le_trans (gt L z) (gt L y) (gt L x) (by omega) (by omega)
    omega

theorem encAt_one {vs : List Value} (h : ∀ i, i < vs.length → (gt vs i).oneCell' = true) : OneCell (encAt vs) := by
  intro k
  unfold encAt
  split
  · exact h k (by assumption)
  · rfl

theorem gt_inj {α : Type} [Inhabited α] {l : List α} (h : l.Nodup) {i j : Nat} (hi : i < l.length) (hj : j < l.length) (he : gt l i = gt l j) : i = j := by
  simp only [gt, List.getD_eq_getElem?_getD, List.getElem?_eq_getElem hi, List.getElem?_eq_getElem hj, Option.getD_some] at he
  rcases Nat.lt_trichotomy i j with h1 | h1 | h1
  · exact absurd he (List.pairwise_iff_getElem.1 h i j hi hj h1)
  · exact h1
  · exact absurd he.symm (List.pairwise_iff_getElem.1 h j i hj hi h1)

/-- slices.SortFunc with slices.Compare on rows that the call has built -/
theorem sortRows_ok (w : World) (v : Value) (L : List (List Int)) (B : Nat) (hL : RowsO B w v L) (hne : 0 < L.length) (hlen : L.length ≤ 1000000) :
    Calls Try.prog 65 #[v, .func (.func 57) #[] #[]] w fun e w' => e = .returned (.tuple #[]) ∧ RowsO B w' v (sortL L) ∧ w.grownBy w' v.ownBlock := by
  obtain ⟨vs, G, hvl, hO, hG, hd, hE⟩ := hL
  obtain ⟨_, ⟨rfl, h0⟩ | ⟨g, cap, cur, rfl, hBg, hb, hnc, hcm, hsz, hx⟩⟩ := hO
  · omega
  have hgs : g < w.heap.size := (Array.getElem?_eq_some_iff.1 hb).1
  have hone : OneCell (encAt vs) := encAt_one fun i hi => by
    exact rdOwn.one (hE i (by omega))
  have hmap : (List.range L.length).map (encAt vs) = vs := by
    apply List.ext_getElem (by simp [hvl])
    intro j h1 h2
    simp [encAt, gt, h2]
  have hH : Holds (encAt vs) w g 0 (List.range L.length).toArray := holds_of_blockV hb (by rw [hmap, List.length_range, ← hvl]; simpa using hx)
  have eg : ∀ args w, (callFunc 57 args).run Try.prog w = .ok (.enter 57 args) w := enters_of Try.func57 (by kernel_rfl) rfl
  have hcmp : CmpReads Try.prog 57 #[] (encAt vs) (cfAt L) g 0 (List.range L.length).toArray.size w := by
    intro m os dk _ x y
    have hgr : w.grownBy (sortWorld (encAt vs) w g 0 m dk os) (some g) := grownBy_sortedV dk
    have hread : ∀ k, Ints Any (sortWorld (encAt vs) w g 0 m dk os) (encAt vs k) (gt L k) := by
      intro k
      by_cases hk : k < vs.length
      · have he := (hE k (by omega)).ints
        unfold encAt
        rw [if_pos hk]
        exact Ints.mono he (fun b hb2 hlt => ⟨trivial, Nat.lt_of_lt_of_le hlt hgr.size, hgr.block b hlt (fun e => (hG k b (by omega) hb2).2.1 (by cases e; rfl))⟩)
      · have h1 : gt L k = [] := by simp [gt, show ¬ k < L.length by omega]; rfl
        unfold encAt
        rw [if_neg hk, h1]
        exact ⟨none, 0, rfl, ⟨by simp, by simp, fun _ => rfl⟩, fun i hi => by simp at hi⟩
    refine (sCompare_ok _ _ _ _ _ _ _ (hread x) (hread y)).mono ?_
    rintro e w' ⟨rfl, rfl⟩
    exact ⟨rfl, 0, rfl⟩
  have hcon := Any.slices_SortFunc Try.sortRows (encAt vs) hone (cfAt L) (swo_cfAt L) 57 #[] g 0 cap (List.range L.length).toArray w eg hcmp.lays hH hgs (by simp; omega)
  change Calls Try.prog 65 _ _ _ at hcon
  have hsz2 : (List.range L.length).toArray.size = vs.length := by simp [hvl]
  rw [hsz2] at hcon
  refine hcon.mono ?_
  rintro e w' ⟨he, d', n, os, ⟨hs1, _, hperm⟩, hsorted, rfl⟩
  have hts : d'.toList.length = L.length := by simpa [hvl] using hs1
  have hP : d'.toList.Perm (List.range L.length) := by
    have h1 : d'.extract 0 vs.length = d' := by
      apply Array.ext'
      rw [hvl, ← hts]; simp
    have h2 : (List.range L.length).toArray.extract 0 vs.length = (List.range L.length).toArray := by
      apply Array.ext'
      rw [hvl]; simp
    rw [h1, h2] at hperm
    simpa using hperm
  have hin : ∀ i, i < L.length → gt d'.toList i < L.length := fun i hi => by
    have := hP.subset (gt_mem (l := d'.toList) (i := i) (by omega))
    simpa using this
  have hnd : d'.toList.Nodup := hP.symm.nodup List.nodup_range
  have hmapL : (List.range L.length).map (gt L) = L := by
    apply List.ext_getElem (by simp)
    intro j h1 h2
    simp [gt, h2]
  have hsort : d'.toList.map (gt L) = sortL L := by
    refine sortL_unique ?_ ?_
    · have := hP.map (gt L)
      rwa [hmapL] at this
    · refine List.pairwise_iff_getElem.2 ?_
      intro i j hi hj hij
      have hi' : i < d'.size := by simpa using hi
      have hj' : j < d'.size := by simpa using hj
      have h1 := hsorted i j (Nat.zero_le _) hij (by rw [hs1, hsz2] at hj'; exact hj')
      rw [ltOf_false, getElem!_pos d' i hi', getElem!_pos d' j hj'] at h1
      have h2 := cmpL_swap (gt L d'[j]) (gt L d'[i])
      simp only [List.getElem_map, Array.getElem_toList]
      omega
  have hgr : w.grownBy (sortWorld (encAt vs) w g 0 n d' os) (some g) := grownBy_sortedV d'
  have hgv : ∀ i, i < L.length → gt (d'.toList.map (encAt vs)) i = gt vs (gt d'.toList i) := fun i hi => by
    have h1 : gt (d'.toList.map (encAt vs)) i = encAt vs (gt d'.toList i) := gt_map _ _ _ (by omega)
    rw [h1]; unfold encAt; rw [if_pos (by rw [hvl]; exact hin i hi)]
  have hgL : ∀ i, i < L.length → gt (sortL L) i = gt L (gt d'.toList i) := fun i hi => by
    rw [← hsort]; exact gt_map _ _ _ (by omega)
  have hsl : (sortL L).length = L.length := (sortL_perm L).length_eq
  refine ⟨he, ⟨d'.toList.map (encAt vs), fun i k => G (gt d'.toList i) k, by simp [hsl, ← hts], ?_, ?_, ?_, ?_⟩, hgr⟩
  · have := ownsRow_sortedV (enc := encAt vs) (n := n) (os := os) (ss := List.range L.length) (ts := d'.toList) (by rw [hts, List.length_range]) hBg hb (by rw [List.length_range, ← hvl]; exact hnc) hcm hsz
    rw [List.length_range, ← hvl] at this
    unfold OwnV
    rw [show (d'.toList.map (encAt vs)).length = vs.length by rw [List.length_map, hts, hvl]]
    simpa using this
  · intro i k hi hk
    obtain ⟨a1, a2, a3⟩ := hG _ k (hin i (by omega)) hk
    exact ⟨a1, a2, Nat.lt_of_lt_of_le a3 hgr.size⟩
  · intro i j k hi hj hk hk'
    exact gt_inj hnd (by omega) (by omega) (hd _ _ k (hin i (by omega)) (hin j (by omega)) hk hk')
  · intro i hi
    show OwnIn _ _ _ _
    rw [hgv i (by omega), hgL i (by omega)]
    have he := hE _ (hin i (by omega))
    exact rdOwn.mono he (fun b hb2 hlt => ⟨hb2, Nat.lt_of_lt_of_le hlt hgr.size, hgr.block b hlt (fun e => (hG _ b (hin i (by omega)) hb2).2.1 (by cases e; rfl))⟩)

end Go.Proofs.Ytbfbpjkpoepmkaa

/- impl.classOf: the class of an element, sorted. -/
namespace Go.Proofs.Ytbfbpjkpoepmkaa
open Go.Proofs Go.RowKit

/-- a slice of one element, laid by a literal -/
theorem SlO.lit {α : Type} [Inhabited α] {El : (Nat → Prop) → World → Value → α → Prop} (hEl : RdOk El) {E B : Nat} {w : World} {u : Value} {y : α} (hu : El (From B) w u y) (hB : B ≤ w.heap.size) :
    SlO El E B (w.alloc (.cells #[u] E)) (.slice (some ⟨w.heap.size, 0, none⟩) 1 1) [y] := by
  have hg : Ext w (w.alloc (.cells #[u] E)) := World.grownBy_alloc _ _ _
  refine ⟨[u], fun _ k => B ≤ k ∧ k < w.heap.size, rfl, World.ownsRow_lit w #[u] 1 hB (by decide) rfl, ?_, ?_, ?_⟩
  · intro i k _ hk
    refine ⟨hk.1, fun h => ?_, ?_⟩
    · have : w.heap.size = k := Option.some.inj h
      omega
    · have := hg.size; omega
  · intro i j k hi hj _ _
    simp at hi hj; omega
  · intro i hi
    have : i = 0 := by simpa using hi
    subst this
    exact hEl.mono hu (fun k hk hlt => ⟨⟨hk, hlt⟩, Nat.lt_of_lt_of_le hlt hg.size, hg.block k hlt (by simp)⟩)

theorem num_wf {P : Pr} (hP : Valid P) {x : List Int} (hx : Vec P.orders x) : (Lit.int .i64 (num P x)).wf = true := by
  have h1 := num_bd hP hx
  have h2 : ordP P ≤ 729 := hP.le729
  have e1 : IntKind.i64.min = -9223372036854775808 := by decide
  have e2 : IntKind.i64.max = 9223372036854775807 := by decide
  simp [Lit.wf]
  omega

theorem run_makeSeen (w : World) : (Instr.makeMap 78 none).run Try.prog w = .ok (.map (some w.heap.size)) (w.alloc (.map #[] 0)) := by kernel_rfl

set_option maxRecDepth 100000 in
set_option maxHeartbeats 8000000 in
theorem classOf_ok (P : Pr) (hP : Valid P) (w : World) (p x : Value) (X : List Int) (Sp Sx : Nat → Prop) (hp : PresP Sp w p P) (hx : Ints Sx w x X) (hX : Vec P.orders X) :
    Calls Try.prog 46 #[p, x] w (Ret w fun w' v => RowsO w.heap.size w' v (sortL (orb P X))) := by
  have h729 : ordP P ≤ 729 := hP.le729
  have hn6 := hP.n6
  have hpos := hP.ordP_pos
  obtain ⟨pb, po, rfl, _⟩ := hp.shape
  have hlX : X.length ≤ P.orders.length ∧ P.orders.length ≤ X.length := by rw [hX.1]; omega
  go_enter Try.func46, Try.ntmps46
  go_wp2_with fail
  refine Calls.mono (clone_ok w x X _ hx (by omega)) ?_
  rintro e1 w1 ⟨r, rfl, hg1, hO1⟩
  have hr1 : OwnIn (From w.heap.size) w1 r X := OwnIn.of hO1 (by omega) (fun j hj _ => hj)
  obtain ⟨ar, capr, rfl, _, _⟩ := hr1.ints.shape
  have hL1 : RowsO w.heap.size (w1.alloc (.cells #[.slice ar X.length capr] 22)) (.slice (some ⟨w1.heap.size, 0, none⟩) 1 1) [X] := SlO.lit rdOwn hr1 hg1.size
  have hg2 : Ext w (w1.alloc (.cells #[.slice ar X.length capr] 22)) := grown_trans hg1 (World.grownBy_alloc _ _ _)
  have hL2 := (SlO.avoid (A := fun k => k = w1.heap.size + 1) hL1 (by intro k hk; simp; omega)).ext rdOwn (World.grownBy_alloc (w1.alloc (.cells #[.slice ar X.length capr] 22)) (.map #[] 0) none)
  have hS2 := Seen.made (w1.alloc (.cells #[.slice ar X.length capr] 22))
  have hg3 : Ext w ((w1.alloc (.cells #[.slice ar X.length capr] 22)).alloc (.map #[] 0)) := grown_trans hg2 (World.grownBy_alloc _ _ _)
  have hmk := run_makeSeen (w1.alloc (.cells #[.slice ar X.length capr] 22))
  go_wp2_with fail
  have hsz : (w1.alloc (.cells #[.slice ar X.length capr] 22)).heap.size = w1.heap.size + 1 := by simp
  rw [hsz] at hS2
  clear hmk
  generalize (w1.alloc (.cells #[.slice ar X.length capr] 22)).alloc (.map #[] 0) = w2 at *
  refine Calls.mono (numberOf_ok P hP w2 _ _ X _ _ (hp.ext hg3) (hx.ext hg3) hX) ?_
  rintro e3 w3 ⟨rfl, rfl⟩
  obtain ⟨w4, hrun, hS4, hg4⟩ := hS2.update (num P X) (num_wf hP hX) (by simp)
  have hw2 : w1.heap.size + 1 < w2.heap.size := hS2.lt
  have hgw4 : Ext w w4 := grown_own hg3 hg4 (fun j hj hlt => by cases hj; have := hg1.size; omega)
  have hL4 := hL2.kept rdOwn hg4 rfl
  clear hsz hL1 hL2 hS2 hg2 hO1 hr1
  go_wp2
  clear hrun
  have hmw : w1.heap.size + 1 < w4.heap.size := hS4.lt
  have hmB : w.heap.size ≤ w1.heap.size + 1 := by have := hg1.size; omega
  clear hg1 hg3 hg4 hw2
  generalize w1.heap.size + 1 = mb at *
  have HO := Lib.hid (show orbTo P ((ordP P).toNat + 1) 0 [X] = orb P X from rfl)
  generalize w1.heap.size = b1 at *
  go_loopw [5, 7] (fun v iv wr => ∃ (i f : Nat) (L : List (List Int)), iv = .int .i64 i ∧ i ≤ L.length ∧ 1 ≤ L.length ∧ f + i = (ordP P).toNat + 1 ∧ Ext w wr ∧ SlOA OwnIn 22 w.heap.size (fun k => k = mb) wr v L ∧ Seen wr mb (L.map (num P)) ∧ OrbI P L ∧ orbTo P f i L = orb P X) (fun _ iv _ => (ordP P).toNat - (intOf iv).toNat)
  case atStart => exact ⟨0, (ordP P).toNat + 1, [X], rfl, by simp, by simp, by omega, hgw4, hL4, hS4, OrbI.single hX, HO.out⟩
  case round =>
    clear hL4 hS4 hgw4 hmw
    obtain ⟨i, f, L, rfl, hiL, hL1, hfi, hg, hL, hS, hI, horb⟩ := hrel
    have HORB := Lib.hid horb; clear horb
    have hLn := hI.len hP
    have HI := Lib.hid hI; clear hI
    have hLd := RowsD.rows (hL.o.toD (by omega))
    obtain ⟨aL, capL, rfl, _, _⟩ := Sl.shape hLd
    have hmw : mb < wr.heap.size := hS.lt
    by_cases hlt : i < L.length
    · go_wp2_with fail
      refine Calls.mono (generators_ok P hP wr _ Sp (hp.ext hg)) ?_
      rintro eg wg ⟨gv, rfl, hgg, hG⟩
      have hgl : (gensOf P.orders.length).length = P.orders.length := by simp [gensOf]
      have hGd : Rows2 (fun k => wr.heap.size ≤ k ∧ k < wg.heap.size) wg gv (gensOf P.orders.length) := RowsD.rows (SlD.mono rdOwn (hG.toD (by rw [hgl]; omega)) (fun k hk hlt => ⟨⟨hk, hlt⟩, hlt, rfl⟩))
      obtain ⟨ag, capg, rfl, _, _⟩ := Sl.shape hGd
      clear hG
      have hLg := (hL.more (A' := fun k => k = mb ∨ (wr.heap.size ≤ k ∧ k < wg.heap.size)) (fun k hk => hk.imp id (fun h => h.1))).ext rdOwn hgg
      have hSg := hS.kept hgg (by simp)
      have hgwg := grown_trans hg hgg
      clear hL hS
      rw [hgl] at hGd
      have HGL := Lib.hid hgl
      simp only [hgl]
      clear hgl
      go_wp2
      obtain ⟨wo, hwo⟩ : ∃ wo : World, wo = wr := ⟨_, rfl⟩
      have hwos : wo.heap.size = wr.heap.size := by rw [hwo]
      rw [← hwos] at hGd hLg hmw
      clear hwos
      have hYv : Vec P.orders (gt L i) := HI.out.vec _ (gt_mem hlt)
      have HY := Lib.hid hYv; clear hYv
      go_loopw [5, 29] (fun v jv w' => ∃ g : Nat, jv = .int .i64 g ∧ g ≤ P.orders.length ∧ Ext w w' ∧ SlOA OwnIn 22 w.heap.size (fun k => k = mb ∨ (wo.heap.size ≤ k ∧ k < wg.heap.size)) w' v (orbIn P (gt L i) L g) ∧ Seen w' mb ((orbIn P (gt L i) L g).map (num P)) ∧
        (∀ k, wo.heap.size ≤ k → k < wg.heap.size → k < w'.heap.size ∧ w'.heap[k]? = wg.heap[k]?)) (fun _ jv _ => P.orders.length - (intOf jv).toNat)
      case atStart => exact ⟨0, rfl, by omega, hgwg, hLg, hSg, fun k h1 h2 => ⟨h2, rfl⟩⟩
      case round =>
        clear hLg hSg hgwg hgg hLd hg
        obtain ⟨g, rfl, hgn, hg, hL, hS, hkeep⟩ := hrel
        have hII := HI.out.inn hP HY.out g
        have hMn := hII.len hP
        have HII := Lib.hid hII; clear hII
        have hpre := orbIn_pre P (gt L i) L g
        have HPRE := Lib.hid hpre; clear hpre
        have HKEEP := Lib.hid hkeep; clear hkeep
        by_cases hltg : g < P.orders.length
        · have hGw := Rows2.mono (S' := Any) hGd (fun k hk _ => ⟨trivial, HKEEP.out k hk.1 hk.2⟩)
          obtain ⟨bg, og, ag2, capg2, rfl, _, _, hcg, hig⟩ := Rows2.at hGw g (by rw [HGL.out]; omega)
          have hgg : gt (gensOf P.orders.length) g = unitV P.orders.length g := by simp [gensOf, gt, hltg]
          rw [hgg] at hcg hig
          obtain ⟨M2, hM2⟩ := HPRE.out
          have hiM : i < (orbIn P (gt L i) L g).length := by rw [hM2]; simp; omega
          have hgi : gt (orbIn P (gt L i) L g) i = gt L i := by rw [hM2]; exact gt_append_left _ _ _ hlt
          have hMd := RowsD.rows (hL.o.toD (by omega))
          obtain ⟨aM, capM, rfl, _, _⟩ := Sl.shape hMd
          obtain ⟨bm, om, am2, capm2, rfl, _, _, hcm, him⟩ := Rows2.at hMd i hiM
          rw [hgi] at hcm him
          have hiM' : (i : Int) < (orbIn P (gt L i) L g).length := by omega
          clear hM2 hGw hMd hgi
          have hgn' : (g : Int) < P.orders.length := by omega
          have hvz := iConj_vec hP _ _ HY.out (unitV_vec hP g)
          have HZ := Lib.hid hvz; clear hvz
          go_wp2_with fail
          refine Calls.mono (conjugate_ok P hP wr _ _ _ _ _ _ _ _ (hp.ext hg) him hig HY.out (unitV_vec hP g)) ?_
          rintro ez wz ⟨zv, rfl, hgz, hOz⟩
          have hzo : OwnIn (From wr.heap.size) wz zv _ := OwnIn.of hOz (by rw [HZ.out.1]; omega) (fun j hj _ => hj)
          have hz := hzo.ints
          obtain ⟨az, capz, rfl, _, _⟩ := hz.shape
          go_wp2_with fail
          refine Calls.mono (numberOf_ok P hP wz _ _ _ _ _ (hp.ext (grown_trans hg hgz)) hz HZ.out) ?_
          rintro en wn ⟨rfl, rfl⟩
          have hSz := hS.kept hgz (by simp)
          have hlook := hSz.look (num P (iConj P (gt L i) (unitV P.orders.length g))) (num_wf hP HZ.out)
          have hsucc : orbIn P (gt L i) L (g + 1) = addZ P (orbIn P (gt L i) L g) (iConj P (gt L i) (unitV P.orders.length g)) := rfl
          have HS := Lib.hid hsucc; clear hsucc
          have hgwz := grown_trans hg hgz
          have hkz : ∀ k, wo.heap.size ≤ k → k < wg.heap.size → k < wz.heap.size ∧ wz.heap[k]? = wg.heap[k]? := fun k h1 h2 => by
            obtain ⟨h3, h4⟩ := HKEEP.out k h1 h2
            exact ⟨Nat.lt_of_lt_of_le h3 hgz.size, (hgz.block k h3 (by simp)).trans h4⟩
          have HKZ := Lib.hid hkz; clear hkz
          by_cases hin : num P (iConj P (gt L i) (unitV P.orders.length g)) ∈ (orbIn P (gt L i) L g).map (num P)
          · rw [decide_eq_true hin] at hlook
            have hadd : orbIn P (gt L i) L (g + 1) = orbIn P (gt L i) L g := by rw [HS.out, addZ, if_pos hin]
            have HA := Lib.hid hadd; clear hadd hin
            go_wp2
            clear hlook
            have hLz := hL.ext rdOwn hgz
            go_roundw
            case rel => exact ⟨g + 1, by go_num, by omega, hgwz, by rw [HA.out]; exact hLz, by rw [HA.out]; exact hSz, HKZ.out⟩
            case measure => simp [intOf]; omega
          · rw [decide_eq_false hin] at hlook
            have hadd : orbIn P (gt L i) L (g + 1) = orbIn P (gt L i) L g ++ [iConj P (gt L i) (unitV P.orders.length g)] := by rw [HS.out, addZ, if_neg hin]
            have HA := Lib.hid hadd; clear hadd hin
            obtain ⟨wu, hrun, hSu, hgu⟩ := hSz.update (num P (iConj P (gt L i) (unitV P.orders.length g))) (num_wf hP HZ.out) (by simp; omega)
            have hmr : mb < wr.heap.size := hS.lt
            have hzu : OwnIn (From wr.heap.size) wu (.slice az (iConj P (gt L i) (unitV P.orders.length g)).length capz) (iConj P (gt L i) (unitV P.orders.length g)) := rdOwn.mono hzo (fun k hk hlt => ⟨hk, Nat.lt_of_lt_of_le hlt hgu.size, hgu.block k hlt (fun e => by have he := Option.some.inj e; have hk : wr.heap.size ≤ k := hk; omega)⟩)
            obtain ⟨hav1, hav2, hav3⟩ := hL.avoids bm rfl
            go_wp2_with (at_builtin; go_must (refine wp_app_rowA rfl _ _ rfl w.heap.size (fun k => k = mb ∨ (wo.heap.size ≤ k ∧ k < wg.heap.size)) wr wu _ _ _ (iConj P (gt L i) (unitV P.orders.length g)) rfl hL (fun k hk => hk.elim (fun e => e ▸ hmr) (fun h => (HKEEP.out k h.1 h.2).1)) (some mb) (grown_trans (grown_of_ext _ hgz) hgu) (fun k hk => by cases hk; exact .inl rfl) hzu rfl rfl (by omega) hg.size ?_); intro v5 w5 hL5 hg5)
            have hgu2 : Ext w wu := grown_own hgwz hgu (fun j hj hlt => by cases hj; omega)
            have hg5' : wu.grownBy w5 (some bm) := hg5
            have hgw5 : Ext w w5 := grown_own hgu2 hg5' (fun j hj hlt => by cases hj; omega)
            have hS5 := hSu.kept hg5' (fun e => hav1 (.inl (by cases e; rfl)))
            have hk5 : ∀ k, wo.heap.size ≤ k → k < wg.heap.size → k < w5.heap.size ∧ w5.heap[k]? = wg.heap[k]? := fun k h1 h2 => by
              obtain ⟨h3, h4⟩ := HKZ.out k h1 h2
              have h5 := Nat.lt_of_lt_of_le h3 hgu.size
              refine ⟨Nat.lt_of_lt_of_le h5 hg5'.size, (hg5'.block k h5 (fun e => hav1 (by cases e; exact .inr ⟨h1, h2⟩))).trans ((hgu.block k h3 (fun e => by cases e; omega)).trans h4)⟩
            have HK5 := Lib.hid hk5; clear hk5
            go_roundw
            case rel => exact ⟨g + 1, by go_num, by omega, hgw5, by rw [HA.out]; exact hL5, by rw [HA.out]; exact hS5.congr (by simp) (fun a => by rw [List.map_append, List.mem_append, List.mem_cons, List.map_cons, List.map_nil, List.mem_singleton]; exact Or.comm), HK5.out⟩
            case measure => simp [intOf]; omega
        · have hge : g = P.orders.length := by omega
          subst hge
          have hIn := HI.out.inn hP HY.out P.orders.length
          have hnext : orbTo P f i L = orbTo P (f - 1) (i + 1) (orbIn P (gt L i) L P.orders.length) := by
            obtain ⟨f', rfl⟩ : ∃ f', f = f' + 1 := ⟨f - 1, by omega⟩
            simp only [orbTo, if_pos hlt, Nat.add_sub_cancel]
          have hlen2 : i + 1 ≤ (orbIn P (gt L i) L P.orders.length).length := by
            obtain ⟨M2, hM2⟩ := HPRE.out
            rw [hM2]; simp; omega
          have HN := Lib.hid (And.intro hIn (And.intro hnext hlen2)); clear hIn hnext hlen2
          have hL6 := hL.less (A' := fun k => k = mb) (fun k hk => .inl hk)
          go_wp2
          go_roundw
          case rel => exact ⟨i + 1, f - 1, orbIn P (gt L i) L P.orders.length, by go_num, HN.out.2.2, Nat.le_trans (by omega) HN.out.2.2, by omega, hg, hL6, hS, HN.out.1, by rw [← HN.out.2.1]; exact HORB.out⟩
          case measure => simp [intOf]; omega
    · have hie : i = L.length := by omega
      have hLe : L = orb P X := by
        rw [← HORB.out]
        cases f with
        | zero => rfl
        | succ f => simp only [orbTo]; rw [if_neg hlt]
      have HLE := Lib.hid hLe; clear hLe
      subst hie
      go_wp2_with fail
      refine Calls.mono (sortRows_ok wr _ L w.heap.size hL.o (by omega) (by omega)) ?_
      rintro es ws ⟨rfl, hs1, hs2⟩
      have hgs := grown_own hg hs2 (fun j hj hlt => by have := (hL.avoids j hj).2.1; omega)
      go_wp2
      exact bodyPost_ret (v := .slice aL L.length capL) (by simp [results, Try.results46, go_sem]) rfl ⟨_, rfl, hgs, by rw [← HLE.out]; exact hs1⟩

end Go.Proofs.Ytbfbpjkpoepmkaa

/- impl.classesOf, impl.ClassSizes. -/
namespace Go.Proofs.Ytbfbpjkpoepmkaa
open Go.Proofs Go.RowKit

abbrev Rows3O (B : Nat) (w : World) (v : Value) (xs : List (List (List Int))) : Prop := SlO (fun F w u (x : List (List Int)) => RowsD F w u x) 23 B w v xs

/-- the classes that the program has found among the first k elements -/
def iClsTo (P : Pr) : Nat → List (List (List Int))
  | 0 => []
  | k + 1 => if (iClsTo P k).any (fun C => bsFound C (elAt P (k : Int))) then iClsTo P k else iClsTo P k ++ [sortL (orb P (elAt P (k : Int)))]
def iCls (P : Pr) : List (List (List Int)) := iClsTo P (ordP P).toNat

theorem iClsTo_len (P : Pr) (k : Nat) : (iClsTo P k).length ≤ k := by
  induction k with
  | zero => simp [iClsTo]
  | succ k ih =>
    simp only [iClsTo]; split
    · omega
    · rw [List.length_append]; simp; omega

theorem orb_len {P : Pr} (hP : Valid P) {X : List Int} (hX : Vec P.orders X) : (orb P X).length ≤ (ordP P).toNat := by
  have : ∀ (f i : Nat) (L : List (List Int)), OrbI P L → (orbTo P f i L).length ≤ (ordP P).toNat := by
    intro f
    induction f with
    | zero => intro i L h; exact h.len hP
    | succ f ih =>
      intro i L h
      simp only [orbTo]
      split
      · rename_i hi
        exact ih _ _ (h.inn hP (h.vec _ (gt_mem hi)) _)
      · exact h.len hP
  exact this _ _ _ (OrbI.single hX)

theorem iClsTo_rows {P : Pr} (hP : Valid P) (k : Nat) : ∀ C ∈ iClsTo P k, C.length ≤ (ordP P).toNat := by
  induction k with
  | zero => simp [iClsTo]
  | succ k ih =>
    intro C hC
    simp only [iClsTo] at hC
    split at hC
    · exact ih C hC
    · rcases List.mem_append.1 hC with h | h
      · exact ih C h
      · rw [List.mem_singleton.1 h, (sortL_perm _).length_eq]
        exact orb_len hP (elAt_vec hP _ (by omega))

theorem firstAt_any {CC : List (List (List Int))} {X : List Int} {r : Int} (h : FirstAt (fun i => bsFound (gt CC i) X) CC.length r) : (r < 0 ↔ CC.any (fun C => bsFound C X) = false) := by
  rcases h with ⟨k, rfl, hk, hp, _⟩ | ⟨rfl, hno⟩
  · constructor
    · intro h; omega
    · intro h
      rw [List.any_eq_false] at h
      exact absurd hp (h _ (gt_mem hk))
  · constructor
    · intro _
      rw [List.any_eq_false]
      intro C hC
      obtain ⟨i, hi, rfl⟩ := mem_gt hC
      simp [hno i hi]
    · intro _; omega

theorem Try.infoRow2 : (Try.prog.info? 23).map (fun i => (i.zero, i.size, i.bytes)) = some (some (.slice none 0 0), 1, 24) := by kernel_rfl

open Classical in
set_option maxRecDepth 100000 in
set_option maxHeartbeats 8000000 in
theorem classesOf_ok (P : Pr) (w : World) (p : Value) (Sp : Nat → Prop) (hp : PresP Sp w p P) :
    Calls Try.prog 28 #[p] w (Ret w fun w' v => ∃ r, v = .tuple #[r, .int .i64 (clsCode P (iconsB P))] ∧ ((clsCode P (iconsB P) ≠ 0 ∧ r = .slice none 0 0) ∨ (clsCode P (iconsB P) = 0 ∧ Rows3O w.heap.size w' r (iCls P)))) := by
  obtain ⟨pb, po, rfl⟩ := hp.shape
  obtain ⟨vo, vp, vc, _, _, hb1, hb2, hb3, h3⟩ := hp.at
  go_enter Try.func28, Try.ntmps28
  go_wp2_with fail
  refine Calls.mono (isConsistent_ok P _ _ _ ⟨_, _, _, rfl, h3⟩) ?_
  rintro eA wA ⟨vA, rfl, hgA, rfl⟩
  clear hb1 hb2 hb3 h3
  cases hr : iconsB P with
  | false =>
    go_wp2
    exact bodyPost_ret (v := .tuple #[.slice none 0 0, .int .i64 1]) (by simp [results, Try.results28, go_sem]) rfl ⟨_, rfl, hgA, _, by simp [clsCode, hr], .inl ⟨by simp [clsCode, hr], rfl⟩⟩
  | true =>
    have hP : Valid P := by
      unfold iconsB at hr
      exact (of_decide_eq_true hr).1
    have h729 : ordP P ≤ 729 := hP.le729
    have hpos := hP.ordP_pos
    have hn6 := hP.n6
    go_wp2_with fail
    refine (orderOf_ok _ _ P Sp hP (hp.ext hgA)).mono ?_
    rintro eB wB ⟨rfl, rfl⟩
    by_cases hb : ordP P > 128
    · have hb' : 128 < ordP P := hb
      go_wp2
      exact bodyPost_ret (v := .tuple #[.slice none 0 0, .int .i64 3]) (by simp [results, Try.results28, go_sem]) rfl ⟨_, rfl, hgA, _, by simp [clsCode, hr, hb'], .inl ⟨by simp [clsCode, hr, hb'], rfl⟩⟩
    · have hb' : ordP P ≤ 128 := by omega
      have hz : clsCode P (iconsB P) = 0 := by simp [clsCode, hr]; omega
      have HZ := Lib.hid hz; clear hz hr
      go_wp2_with fail
      refine Calls.mono (allElements_ok P hP _ _ Sp (hp.ext hgA)) ?_
      rintro eC wC ⟨vC, rfl, hgC, hC⟩
      have hal : (allEl P).length = (ordP P).toNat := by simp [allEl]
      have hCd := RowsD.rows (hC.toD (by omega))
      obtain ⟨ac, capc, rfl, _, _⟩ := Sl.shape hCd
      rw [hal] at hCd
      have HAL := Lib.hid hal
      simp only [hal]
      clear hal
      have hgwC := grown_trans hgA hgC
      go_wp2
      go_loopw [4, 18] (fun v kv wr => ∃ k : Nat, kv = .int .i64 k ∧ k ≤ (ordP P).toNat ∧ Ext wC wr ∧ Rows3O wC.heap.size wr v (iClsTo P k)) (fun _ kv _ => (ordP P).toNat - (intOf kv).toNat)
      case atStart => exact ⟨0, rfl, by omega, Ext.refl _, SlO.nil _ _ _ _⟩
      case round =>
        obtain ⟨k, rfl, hk, hg, hL⟩ := hrel
        have hkl := iClsTo_len P k
        have hLd := Rows3D.rows (hL.toD (by omega))
        obtain ⟨aL, capL, rfl, _, _⟩ := Sl.shape hLd
        by_cases hlt : k < (ordP P).toNat
        · have hlt' : (k : Int) < ordP P := by omega
          have hlt'' : (k : Int) < max (ordP P) 0 := by omega
          obtain ⟨be, oe, ae2, cape2, rfl, _, _, hce, hie⟩ := Rows2.at (hCd.ext hg) k (by rw [HAL.out]; omega)
          have hge : gt (allEl P) k = elAt P (k : Int) := by simp [allEl, gt, hlt]
          rw [hge] at hce hie
          have hvE := elAt_vec hP (k : Int) (by omega)
          have HV := Lib.hid (And.intro hvE hge); clear hvE hge
          go_wp2_with fail
          refine Calls.mono (classNumber_ok _ _ (iClsTo P k) (elAt P (k : Int)) wr _ _ hLd hie (fun i hi => by have := iClsTo_rows hP k _ (gt_mem hi); omega)) ?_
          rintro eN wN ⟨vN, rfl, hgN, r, rfl, hr⟩
          have hany := firstAt_any hr
          have HS := Lib.hid (show iClsTo P (k + 1) = if (iClsTo P k).any (fun C => bsFound C (elAt P (k : Int))) then iClsTo P k else iClsTo P k ++ [sortL (orb P (elAt P (k : Int)))] from rfl)
          have hgN' := grown_trans hg hgN
          have hL2 := hL.ext rdRows hgN
          clear hce hr
          by_cases hneg : r < 0
          · have ha := hany.1 hneg
            have hs := HS.out
            rw [ha] at hs
            simp only [if_false, Bool.false_eq_true] at hs
            have HS2 := Lib.hid hs; clear hs ha hany
            go_wp2_with fail
            refine Calls.mono (classOf_ok P hP wN _ _ (elAt P (k : Int)) Sp _ (hp.ext (grown_trans hgwC hgN')) (hie.ext hgN) HV.out.1) ?_
            rintro eX wX ⟨vX, rfl, hgX, hX⟩
            have hXl : (sortL (orb P (elAt P (k : Int)))).length ≤ 1000000 := by
              rw [(sortL_perm _).length_eq]
              have := orb_len hP HV.out.1
              omega
            have hXd : RowsD (From wN.heap.size) wX vX (sortL (orb P (elAt P (k : Int)))) := hX.toD (by omega)
            obtain ⟨aX, capX, rfl, _, _⟩ := SlD.shape hXd
            clear hXl
            go_wp2_with (at_builtin; go_must (refine wp_app_one rdRows 24 23 (.slice none 0 0) 24 und_rows3 Try.infoRow2 rfl (by decide) rfl _ _ rfl wC.heap.size wN wX _ _ _ (sortL (orb P (elAt P (k : Int)))) rfl hL2 hgX hXd rfl rfl (by omega) hgN'.size ?_); intro v5 w5 hL5 hg5 hg6)
            have hgx := hL2.extw hgN' (Nat.le_refl _) hg5
            go_roundw
            case rel => exact ⟨k + 1, by go_num, by omega, hgx, by rw [HS2.out]; exact hL5⟩
            case measure => simp [intOf]; omega
          · have hneg' : 0 ≤ r := by omega
            have ha : (iClsTo P k).any (fun C => bsFound C (elAt P (k : Int))) = true := by
              cases h : (iClsTo P k).any (fun C => bsFound C (elAt P (k : Int)))
              · exact absurd (hany.2 h) hneg
              · rfl
            have hs := HS.out
            rw [if_pos ha] at hs
            have HS2 := Lib.hid hs; clear hs ha hany
            go_wp2
            go_roundw
            case rel => exact ⟨k + 1, by go_num, by omega, hgN', by rw [HS2.out]; exact hL2⟩
            case measure => simp [intOf]; omega
        · have hke : k = (ordP P).toNat := by omega
          subst hke
          go_wp2
          exact bodyPost_ret (v := .tuple #[.slice aL (iClsTo P (ordP P).toNat).length capL, .int .i64 0]) (by simp [results, Try.results28, go_sem]) rfl ⟨_, rfl, grown_trans hgwC hg, _, by rw [HZ.out], .inr ⟨HZ.out, hL.weak hgwC.size⟩⟩

def iSizes (P : Pr) : List Int := (iCls P).map (fun C => (C.length : Int))

end Go.Proofs.Ytbfbpjkpoepmkaa
