/-
  The reference's classes: spec.l18Code, l18Marks, l18Classes, ClassSizes.
-/
import Derived.Test.YtdfjgpioaomceaaCons
import Derived.Test.YtdfjgpioaomceaaAllEl
import Derived.Test.YtdfjgpioaomceaaSRep
namespace Go.Proofs.Ytdfjgpioaomceaa
open Go.RowKit

open Classical in
/-- the code of the class functions: 1 no group, 3 too large, 0 -/
noncomputable def clsCode (P : Pr) (ok : Bool) : Int := if ok then (if ordP P > 128 then 3 else 0) else 1

open Classical in
set_option maxRecDepth 100000 in
set_option maxHeartbeats 4000000 in
theorem l18Code_ok (P : Pr) (w : World) (pv : Value) (Sp : Nat → Prop) (hpv : PresV Sp w pv P) :
    Calls Try.prog 16 #[pv] w (Ret w fun _ v => v = .int .i64 (clsCode P (rconsB P))) := by
  obtain ⟨vo, vp, vc, rfl, h3⟩ := hpv
  have hp0 := PresP.box h3 30
  have hg0 : Ext w (w.alloc (.cells #[vo, vp, vc] 30)) := World.grownBy_alloc _ _ _
  go_enter Try.func16, Try.ntmps16
  go_wp2_with fail
  refine Calls.mono (l08Group_ok P _ _ _ ⟨_, _, _, rfl, Pres3.ext h3 (World.grownBy_alloc _ _ _)⟩) ?_
  rintro eA wA ⟨vA, rfl, hgA, rfl⟩
  obtain ⟨vo5, vp5, vc5, _, _, hb1, hb2, hb3, h3r⟩ := (hp0.ext hgA).at
  simp at hb2 hb3
  cases hr : rconsB P with
  | false =>
    go_wp2
    exact bodyPost_ret (v := .int .i64 1) (by simp [results, Try.results16, go_sem]) rfl ⟨_, rfl, grown_trans hg0 hgA, by simp [clsCode, hr]⟩
  | true =>
    have hv : Valid P := by
      unfold rconsB at hr
      exact (of_decide_eq_true hr).1
    go_wp2_with fail
    refine Calls.mono (l10Order_ok _ _ P _ hv ⟨_, _, _, rfl, h3r⟩) ?_
    rintro eB wB ⟨vB, rfl, hgB, rfl⟩
    by_cases hb : ordP P > 128
    · have hb' : 128 < ordP P := hb
      go_wp2
      exact bodyPost_ret (v := .int .i64 3) (by simp [results, Try.results16, go_sem]) rfl ⟨_, rfl, grown_trans hg0 (grown_trans hgA hgB), by simp [clsCode, hr, hb']⟩
    · have hb' : ordP P ≤ 128 := by omega
      go_wp2
      exact bodyPost_ret (v := .int .i64 0) (by simp [results, Try.results16, go_sem]) rfl ⟨_, rfl, grown_trans hg0 (grown_trans hgA hgB), by simp [clsCode, hr]; omega⟩

/-! ### a row of bools of the call's own -/
abbrev BOwn (base : Nat) (w : World) (v : Value) (l : List Bool) : Prop := w.ownsRow base 4 1 v l.length (l.map Value.bool)
theorem und_bools : Try.prog.underlying 49 = some (.slice 4) := by kernel_rfl
theorem Try.infoBool : (Try.prog.info? 4).map (fun i => (i.zero, i.size, i.bytes)) = some (some (.bool false), 1, 1) := by kernel_rfl

theorem wp_make_bools {ops : Array Oper} {rest : List Oper} {o : Oper} {a : Act} {Q : Exit → Act → World → Prop} {w : World} (hgd : o.guard = none) (l c : Operand)
    (ho : o.op = Op.makeSlice 49 l c) (base n H : Nat) (hH : w.heap.size = H) (L : Int) (hl : a.eval l = .int .i64 L) (hc : a.eval c = .int .i64 L) (hL : L = n) (hn : n ≤ 2147483648) (hbase : base ≤ H)
    (h : ∀ w', BOwn base w' (.slice (some ⟨H, 0, none⟩) n n) (List.replicate n false) → Ext w w' → H < w'.heap.size → wpList Try.prog ops Q rest (a.put o.dst (.slice (some ⟨H, 0, none⟩) n n)) w') :
    wpList Try.prog ops Q (o :: rest) a w := by
  subst hH
  obtain ⟨i0, hi, hz0, hz1, hz2⟩ := info_parts Try.infoBool
  refine wpList_make_full w hgd l c 49 ho base 4 i0 (.bool false) 1 und_bools hi hz0 hz1 .i64 .i64 L L n hl hc hL hL (by rw [hz2]; omega) (by unfold maxLen; omega) hbase ?_
  intro w' h1 h2
  refine h w' ?_ h2 (h1.lt w.heap.size rfl).2
  have e : (madeCells (Value.cells (.bool false)) (n * 1)).toList = (List.replicate n false).map Value.bool := by
    rw [show Value.cells (.bool false) = #[.bool false] from rfl, toList_madeCells_one]; simp
  rw [e] at h1
  show World.ownsRow _ _ _ _ _ _ _
  rw [List.length_replicate]; exact h1

theorem BOwn.cell {base g cap n : Nat} {w : World} {l : List Bool} (h : BOwn base w (.slice (some ⟨g, 0, none⟩) n cap) l) (j : Nat) (hj : j < l.length) : w.cell? ⟨g, j, none⟩ = some (.bool (gt l j)) := by
  have hn : n = l.length := by
    obtain ⟨_, ⟨h, _⟩ | ⟨_, _, _, h, _⟩⟩ := h <;> cases h; rfl
  subst hn
  have := World.ownsRow.cellAt h j (by omega)
  rw [this]; simp [gt, hj]

theorem BOwn.frozen {base g cap n : Nat} {w : World} {l : List Bool} (h : BOwn base w (.slice (some ⟨g, 0, none⟩) n cap) l) (j : Nat) : w.frozen? ⟨g, j, none⟩ = false := by
  have hn : n = l.length := by
    obtain ⟨_, ⟨h, _⟩ | ⟨_, _, _, h, _⟩⟩ := h <;> cases h; rfl
  subst hn
  exact World.ownsRow.frozenAt h j

theorem BOwn.store {base g cap n : Nat} {w : World} {l : List Bool} (h : BOwn base w (.slice (some ⟨g, 0, none⟩) n cap) l) (j : Nat) (x : Bool) :
    BOwn base (w.setCell ⟨g, j, none⟩ (.bool x)) (.slice (some ⟨g, 0, none⟩) n cap) (l.set j x) ∧ w.grownBy (w.setCell ⟨g, j, none⟩ (.bool x)) (some g) := by
  have hn : n = l.length := by
    obtain ⟨_, ⟨h, _⟩ | ⟨_, _, _, h, _⟩⟩ := h <;> cases h; rfl
  subst hn
  obtain ⟨h1, h2⟩ := World.ownsRow.stored h j (.bool x)
  refine ⟨?_, h2⟩
  show World.ownsRow _ _ _ _ _ _ _
  rw [List.length_set, List.map_set]; exact h1

theorem BOwn.ext0 {base : Nat} {w w' : World} {v : Value} {l : List Bool} (h : BOwn base w v l) (hg : Ext w w') : BOwn base w' v l :=
  h.kept hg (by cases hv : v.ownBlock <;> simp)

theorem BOwn.form {base : Nat} {w : World} {v : Value} {l : List Bool} (h : BOwn base w v l) (hl : 0 < l.length) : ∃ g cap, v = .slice (some ⟨g, 0, none⟩) l.length cap ∧ base ≤ g ∧ g < w.heap.size := by
  have hlt := h.lt
  obtain ⟨_, h | ⟨g, cap, cur, hv, hg, _⟩⟩ := h
  · omega
  · exact ⟨g, cap, hv, hg, (hlt g (by rw [hv]; rfl)).2⟩

theorem BOwn.keep {base g n cap r : Nat} {w w' : World} {l : List Bool} (h : BOwn base w (.slice (some ⟨g, 0, none⟩) n cap) l) (hg : w.grownBy w' (some r)) (hne : g ≠ r) : BOwn base w' (.slice (some ⟨g, 0, none⟩) n cap) l :=
  h.kept hg (.inr (fun e => hne (by cases e; rfl)))

theorem BOwn.weak {base base' : Nat} {w : World} {v : Value} {l : List Bool} (h : BOwn base w v l) (hb : base' ≤ base) : BOwn base' w v l := by
  obtain ⟨h1, h2⟩ := h
  refine ⟨h1, ?_⟩
  rcases h2 with h | ⟨g, cap, cur, hv, hg, r⟩
  · exact .inl h
  · exact .inr ⟨g, cap, cur, hv, Nat.le_trans hb hg, r⟩

/-- the marks of the class of X, after k elements -/
def marksTo (P : Pr) (X : List Int) : Nat → List Bool
  | 0 => List.replicate (ordP P).toNat false
  | k + 1 => (marksTo P X k).set (num P (rConj P X (elAt P (k : Int)))).toNat true
theorem marksTo_len (P : Pr) (X : List Int) (k : Nat) : (marksTo P X k).length = (ordP P).toNat := by
  induction k with
  | zero => simp [marksTo]
  | succ k ih => simp [marksTo, ih]

/-- w' is reached from w by growth and at most one store into block g behind it -/
def Near (w : World) (g : Nat) (w' : World) : Prop := ∃ w1, Ext w w1 ∧ (w' = w1 ∨ ∃ j x, w' = w1.setCell ⟨g, j, none⟩ x)
theorem Near.of {w w' : World} {g : Nat} (h : Ext w w') : Near w g w' := ⟨w', h, .inl rfl⟩
theorem Near.store {w w' : World} {g j : Nat} {x : Value} (h : Ext w w') : Near w g (w'.setCell ⟨g, j, none⟩ x) := ⟨w', h, .inr ⟨j, x, rfl⟩⟩
theorem Near.cell {w w' : World} {g : Nat} (h : Near w g w') {a : Addr} {v : Value} (hc : w.cell? a = some v) (hne : a.block ≠ g) : w'.cell? a = some v := by
  obtain ⟨w1, h1, rfl | ⟨j, x, rfl⟩⟩ := h
  · exact h1.cell hc (by simp)
  · rw [World.cell?_setCell_far _ _ _ _ (by simpa using Ne.symm hne)]
    exact h1.cell hc (by simp)

set_option maxRecDepth 100000 in
set_option maxHeartbeats 8000000 in
theorem l18Marks_ok (P : Pr) (hP : Valid P) (w : World) (pv x : Value) (X : List Int) (Sp Sx : Nat → Prop) (hpv : PresV Sp w pv P) (hx : Ints Sx w x X) (hX : Vec P.orders X) :
    Calls Try.prog 28 #[pv, x] w (Ret w fun w' v => BOwn w.heap.size w' v (marksTo P X (ordP P).toNat)) := by
  have h729 : ordP P ≤ 729 := hP.le729
  have hn6 := hP.n6
  have hpos := hP.ordP_pos
  obtain ⟨vo, vp, vc, rfl, h3⟩ := hpv
  have hp0 := PresP.box h3 30
  have hg0 : Ext w (w.alloc (.cells #[vo, vp, vc] 30)) := World.grownBy_alloc _ _ _
  go_enter Try.func28, Try.ntmps28
  go_wp2_with fail
  refine Calls.mono (l10Order_ok _ _ P _ hP ⟨_, _, _, rfl, Pres3.ext h3 (World.grownBy_alloc _ _ _)⟩) ?_
  rintro eO wO ⟨vO, rfl, hgO, rfl⟩
  have hgw : Ext w wO := grown_trans hg0 hgO
  go_wp2_with (at_make; refine wp_make_bools rfl _ _ rfl wO.heap.size (ordP P).toNat wO.heap.size rfl (ordP P) rfl rfl (by omega) (by omega) (Nat.le_refl _) ?_; intro wM hoM hgM hltM)
  have hpM := (hp0.ext hgO).ext hgM
  have hgwM := grown_trans hgw hgM
  have hxM := hx.ext hgwM
  have hpb : w.heap.size < wO.heap.size := by have := hgO.size; simp at this; omega
  obtain ⟨wm, hwm⟩ : ∃ wm : World, wm = wM := ⟨_, rfl⟩
  go_loopw [6] (fun kv wr => ∃ k : Nat, kv = .int .i64 k ∧ k ≤ (ordP P).toNat ∧ Ext wO wr ∧ BOwn wO.heap.size wr (.slice (some ⟨wO.heap.size, 0, none⟩) (ordP P).toNat (ordP P).toNat) (marksTo P X k)) (fun kv _ => (ordP P).toNat - (intOf kv).toNat)
  case atStart => exact ⟨0, rfl, by omega, hgM, hoM⟩
  case round =>
    clear hoM
    obtain ⟨k, rfl, hk, hgo, hO⟩ := hrel
    have hpr := (hp0.ext hgO).ext hgo
    have hxr := hx.ext (grown_trans hgw hgo)
    obtain ⟨vo5, vp5, vc5, _, _, hb1, hb2, hb3, h3r⟩ := hpr.at
    simp at hb2 hb3
    go_wp2_with fail
    refine Calls.mono (l10Order_ok _ _ P _ hP ⟨_, _, _, rfl, h3r⟩) ?_
    rintro eC wC ⟨vC, rfl, hgC, rfl⟩
    have hO2 := hO.ext0 hgC
    have hgoC := grown_trans hgo hgC
    by_cases hlt : k < (ordP P).toNat
    · have hlt' : (k : Int) < ordP P := by omega
      have hb1' := hgC.cell hb1 (by simp)
      have hb2' := hgC.cell hb2 (by simp)
      have hb3' := hgC.cell hb3 (by simp)
      have e1 : ∀ w', Near wC wO.heap.size w' → w'.cell? ⟨w.heap.size, 0, none⟩ = some vo5 := fun w' h => h.cell hb1' (by simp; omega)
      have e2 : ∀ w', Near wC wO.heap.size w' → w'.cell? ⟨w.heap.size, 1, none⟩ = some vp5 := fun w' h => h.cell hb2' (by simp; omega)
      have e3 : ∀ w', Near wC wO.heap.size w' → w'.cell? ⟨w.heap.size, 2, none⟩ = some vc5 := fun w' h => h.cell hb3' (by simp; omega)
      have hvE := elAt_vec hP (k : Int) (by omega)
      have hvC : Vec P.orders (rConj P X (elAt P (k : Int))) := rMul_vec hP _ _ (rInv_vec hP _ hvE) (rMul_vec hP _ _ hX hvE)
      have hnb := num_bd hP hvC
      have n0 : 0 ≤ num P (rConj P X (elAt P (k : Int))) := hnb.1
      have n1 : num P (rConj P X (elAt P (k : Int))) < max (ordP P) 0 := by omega
      have HV := Lib.hid (And.intro hvE hvC); clear hvE hvC hnb
      have h3C := Pres3.ext h3r hgC
      have hxC := hxr.ext hgC
      clear hb1 hb2 hb3 hb1' hb2' hb3'
      have hle := HV.out.1.1
      have hlc := HV.out.2.1
      have HL := Lib.hid (And.intro hle hlc); clear hle hlc
      have hcel := hO2.cell (num P (rConj P X (elAt P (k : Int)))).toNat (by rw [marksTo_len]; omega)
      have hfr := hO2.frozen (num P (rConj P X (elAt P (k : Int)))).toNat
      go_wp2
      go_region_held3 (fun w' => Near wC wO.heap.size w') (first | exact Near.of (grown_drew _ _) | exact Near.of (by assumption) | exact Near.store (by assumption) | assumption)
        (first
          | (go_at_call 29; refine Calls.mono (Calls.rel (w0 := wC) (by first | exact grown_drew _ _ | assumption) (l10At_ok P hP _ _ _ Any ⟨_, _, _, rfl, Pres3.ext h3C (by first | exact grown_drew _ _ | assumption)⟩ (by omega) (by omega))) ?_; rintro eE wE ⟨vE, rfl, hgE, hsE, hOE⟩; have hEi := hOE.ints (by rw [HL.out.1]; omega))
          | (go_at_call 38; refine Calls.mono (Calls.rel (w0 := wC) (by assumption) (l10Conj_ok P hP _ _ _ _ _ _ Any Sx Any ⟨_, _, _, rfl, Pres3.ext h3C (by assumption)⟩ (Ints.ext hxC (by assumption)) hEi hX HV.out.1)) ?_; rintro eF wF ⟨vF, rfl, hgF, hsF, hOF⟩; have hFi := hOF.ints (by rw [HL.out.2]; omega))
          | (go_at_call 37; refine Calls.mono (Calls.rel (w0 := wC) (by assumption) (l10Number_ok P hP _ _ _ _ Any Any ⟨_, _, _, rfl, Pres3.ext h3C (by assumption)⟩ hFi HV.out.2)) ?_; rintro eG wG ⟨vG, rfl, hgG, hsG, rfl⟩; have hcel2 := hgG.cell hcel (by simp); have hfr2 := (hO2.ext0 hgG).frozen (num P (rConj P X (elAt P (k : Int)))).toNat))
      clear e1 e2 e3
      obtain ⟨hO3, hgs⟩ := (hO2.ext0 hgG).store (num P (rConj P X (elAt P (k : Int)))).toNat true
      have hgn : Ext wO (wG.setCell ⟨wO.heap.size, (num P (rConj P X (elAt P (k : Int)))).toNat, none⟩ (.bool true)) := grown_own (grown_trans hgoC hgG) hgs (fun j hj hlt => by cases hj; omega)
      clear hcel hcel2 hfr hfr2 hgs
      go_wp2
      go_roundw
      case rel => exact ⟨k + 1, by go_num, by omega, hgn, hO3⟩
      case measure => simp [intOf]; omega
    · have hke : k = (ordP P).toNat := by omega
      have hlt' : ordP P ≤ (k : Int) := by omega
      subst hke
      go_wp2
      exact bodyPost_ret (v := .slice (some ⟨wO.heap.size, 0, none⟩) (ordP P).toNat (ordP P).toNat) (by simp [results, Try.results28, go_sem]) rfl ⟨_, rfl, grown_trans hgw hgoC, hO2.weak hgw.size⟩

/-! ### the classes -/
def fillTo (N : Nat) : Nat → List Int
  | 0 => List.replicate N 0
  | j + 1 => (fillTo N j).set j (-1)
theorem fillTo_len (N j : Nat) : (fillTo N j).length = N := by
  induction j with
  | zero => simp [fillTo]
  | succ j ih => simp [fillTo, ih]

/-- the first j elements, where marked, painted with c -/
def paint (m : List Bool) (c : Int) (L : List Int) : Nat → List Int
  | 0 => L
  | j + 1 => if gt m j = true then (paint m c L j).set j c else paint m c L j
theorem paint_len (m : List Bool) (c : Int) (L : List Int) (j : Nat) : (paint m c L j).length = L.length := by
  induction j with
  | zero => rfl
  | succ j ih => simp only [paint]; split <;> simp [ih]

/-- the reference's numbering of the elements by classes, after k elements, and how many classes -/
def clsTo (P : Pr) : Nat → List Int × Nat
  | 0 => (fillTo (ordP P).toNat (ordP P).toNat, 0)
  | k + 1 => if 0 ≤ gt (clsTo P k).1 k then clsTo P k else (paint (marksTo P (elAt P (k : Int)) (ordP P).toNat) (clsTo P k).2 (clsTo P k).1 (ordP P).toNat, (clsTo P k).2 + 1)
theorem clsTo_len (P : Pr) (k : Nat) : (clsTo P k).1.length = (ordP P).toNat := by
  induction k with
  | zero => simp [clsTo, fillTo_len]
  | succ k ih => simp only [clsTo]; split <;> simp [paint_len, ih]
theorem clsTo_num (P : Pr) (k : Nat) : (clsTo P k).2 ≤ k := by
  induction k with
  | zero => simp [clsTo]
  | succ k ih =>
    simp only [clsTo]; split
    · omega
    · show _ + 1 ≤ _; omega
def rCls (P : Pr) : List Int × Nat := clsTo P (ordP P).toNat

set_option maxRecDepth 100000 in
set_option maxHeartbeats 8000000 in
theorem l18Classes_ok (P : Pr) (hP : Valid P) (w : World) (pv : Value) (Sp : Nat → Prop) (hpv : PresV Sp w pv P) :
    Calls Try.prog 17 #[pv] w (Ret w fun w' v => ∃ r, v = .tuple #[r, .int .i64 ((rCls P).2 : Nat)] ∧ Own w.heap.size w' r (rCls P).1) := by
  have h729 : ordP P ≤ 729 := hP.le729
  have hn6 := hP.n6
  have hpos := hP.ordP_pos
  obtain ⟨vo, vp, vc, rfl, h3⟩ := hpv
  have hp0 := PresP.box h3 30
  have hg0 : Ext w (w.alloc (.cells #[vo, vp, vc] 30)) := World.grownBy_alloc _ _ _
  go_enter Try.func17, Try.ntmps17
  go_wp2_with fail
  refine Calls.mono (l10Order_ok _ _ P _ hP ⟨_, _, _, rfl, Pres3.ext h3 (World.grownBy_alloc _ _ _)⟩) ?_
  rintro eO wO ⟨vO, rfl, hgO, rfl⟩
  have hgw : Ext w wO := grown_trans hg0 hgO
  have hpO := hp0.ext hgO
  clear hp0
  go_wp2_with (at_make; refine wp_make_ints rfl _ _ rfl wO.heap.size (ordP P).toNat wO.heap.size rfl (ordP P) rfl rfl (by omega) (by omega) (Nat.le_refl _) ?_; intro wM hoM hgM hltM)
  have hpb : w.heap.size < wO.heap.size := by have := hgO.size; simp at this; omega
  have hN : (ordP P).toNat ≤ 729 ∧ 1 ≤ (ordP P).toNat ∧ (ordP P).toNat ≤ 729 := by omega
  have hNE : ordP P = ((ordP P).toNat : Nat) := by omega
  have HNE := Lib.hid hNE; clear hNE
  generalize hNN : (ordP P).toNat = N at *
  have HNN := Lib.hid hNN; clear hNN
  go_loopw [5] (fun kv wr => ∃ j : Nat, kv = .int .i64 j ∧ j ≤ N ∧ Ext wO wr ∧ Own wO.heap.size wr (.slice (some ⟨wO.heap.size, 0, none⟩) N N) (fillTo N j)) (fun kv _ => N - (intOf kv).toNat)
  case atStart => exact ⟨0, rfl, by omega, hgM, hoM⟩
  case round =>
    clear hoM hgM
    obtain ⟨j, rfl, hj, hgo, hO⟩ := hrel
    by_cases hlt : j < N
    · have hc := hO.cell j (by rw [fillTo_len]; omega)
      have hf := hO.frozen j
      obtain ⟨hO3, hgs⟩ := hO.store j (-1)
      have hgn : Ext wO (wr.setCell ⟨wO.heap.size, j, none⟩ (.int .i64 (-1))) := grown_own hgo hgs (fun j hj hlt => by cases hj; omega)
      go_wp2
      clear hc hf hgs
      go_roundw
      case rel => exact ⟨j + 1, by go_num, by omega, hgn, hO3⟩
      case measure => simp [intOf]; omega
    · have hje : j = N := by omega
      subst hje
      go_wp2
      clear hlt hj
      go_loopw [6, 7] (fun cv kv wr => ∃ k : Nat, kv = .int .i64 k ∧ cv = .int .i64 ((clsTo P k).2 : Nat) ∧ k ≤ j ∧ Ext wO wr ∧ Own wO.heap.size wr (.slice (some ⟨wO.heap.size, 0, none⟩) j j) (clsTo P k).1) (fun _ kv _ => j - (intOf kv).toNat)
      case atStart => exact ⟨0, rfl, rfl, by omega, hgo, by simp only [clsTo]; rw [HNN.out]; exact hO⟩
      case round =>
        clear hO hgo
        obtain ⟨k, rfl, rfl, hk, hgo, hO⟩ := hrel
        have hcn := clsTo_num P k
        by_cases hlt : k < j
        · have hc := hO.cell k (by rw [clsTo_len, HNN.out]; omega)
          by_cases hge : 0 ≤ gt (clsTo P k).1 k
          · have hsucc : clsTo P (k + 1) = clsTo P k := by simp only [clsTo]; rw [if_pos hge]
            have HS := Lib.hid hsucc; clear hsucc
            go_wp2
            go_roundw
            case rel => exact ⟨k + 1, by go_num, by rw [HS.out], by omega, hgo, by rw [HS.out]; exact hO⟩
            case measure => simp [intOf]; omega
          · have hlt0 : gt (clsTo P k).1 k < 0 := by omega
            have hsucc : clsTo P (k + 1) = (paint (marksTo P (elAt P (k : Int)) j) (clsTo P k).2 (clsTo P k).1 j, (clsTo P k).2 + 1) := by simp only [clsTo]; rw [if_neg hge, HNN.out]
            have HS := Lib.hid hsucc; clear hsucc hge
            obtain ⟨vo5, vp5, vc5, _, _, hb1, hb2, hb3, h3r⟩ := (hpO.ext hgo).at
            simp at hb2 hb3
            have e1 : ∀ w', Ext wr w' → w'.cell? ⟨w.heap.size, 0, none⟩ = some vo5 := fun w' h => h.cell hb1 (by simp)
            have e2 : ∀ w', Ext wr w' → w'.cell? ⟨w.heap.size, 1, none⟩ = some vp5 := fun w' h => h.cell hb2 (by simp)
            have e3 : ∀ w', Ext wr w' → w'.cell? ⟨w.heap.size, 2, none⟩ = some vc5 := fun w' h => h.cell hb3 (by simp)
            have hvE := elAt_vec hP (k : Int) (by omega)
            have HV := Lib.hid hvE; clear hvE
            clear hb1 hb2 hb3
            go_wp2
            clear hc
            go_region_held3 (fun w' => Ext wr w') (first | exact grown_drew _ _ | assumption)
              (first
                | (go_at_call 29; refine Calls.mono (Calls.rel (w0 := wr) (by assumption) (l10At_ok P hP _ _ _ Any ⟨_, _, _, rfl, Pres3.ext h3r (by assumption)⟩ (by omega) (by omega))) ?_; rintro eE wE ⟨vE, rfl, hgE, hsE, hOE⟩; have hEi := hOE.ints (by rw [HV.out.1]; omega))
                | (go_at_call 28; refine Calls.mono (Calls.rel (w0 := wr) (by assumption) (l18Marks_ok P hP _ _ _ _ Any Any ⟨_, _, _, rfl, Pres3.ext h3r (by assumption)⟩ hEi HV.out)) ?_; rintro eG wG ⟨vG, rfl, hgG, hsG, hOG⟩; have hOL := hO.ext0 hgG))
            have hwr : wO.heap.size < wr.heap.size := by
              obtain ⟨g, cap, hv, _, hg⟩ := hO.form (by rw [clsTo_len, HNN.out]; omega)
              cases hv; exact hg
            clear e1 e2 e3 hOE hEi hO h3r
            rw [HNN.out] at hOG
            have hml : (marksTo P (elAt P (k : Int)) j).length = j := by rw [marksTo_len, HNN.out]
            have hll : (clsTo P k).1.length = j := by rw [clsTo_len, HNN.out]
            obtain ⟨g2, cap2, rfl, hg2, hg2'⟩ := hOG.form (by rw [hml]; omega)
            rw [hml] at hOG
            simp only [hml]
            have hgoG := grown_trans hgo hgG
            have hwE : wO.heap.size < g2 := by have := hgE.size; omega
            have HML := Lib.hid (And.intro hml hll); clear hml hll
            go_wp2
            obtain ⟨wo, rfl⟩ : ∃ wo : World, wo = wG := ⟨_, rfl⟩
            generalize hMM : marksTo P (elAt P (k : Int)) j = M at *
            have HMM := Lib.hid hMM; clear hMM
            go_loopw [9] (fun iv wr => ∃ i : Nat, iv = .int .i64 i ∧ i ≤ j ∧ wo.grownBy wr (some wO.heap.size) ∧ Ext wO wr ∧ Own wO.heap.size wr (.slice (some ⟨wO.heap.size, 0, none⟩) j j) (paint M (clsTo P k).2 (clsTo P k).1 i)) (fun iv _ => j - (intOf iv).toNat)
            case atStart => exact ⟨0, rfl, by omega, grown_refl _ _, hgoG, hOL⟩
            case round =>
              clear hgo hgoG hOL hgG hgE
              obtain ⟨i, rfl, hi, hgi, hgo, hO⟩ := hrel
              by_cases hlt2 : i < j
              · have hmc := (hOG.keep hgi (by omega)).cell i (by rw [HML.out.1]; omega)
                have hcc := hO.cell i (by rw [paint_len, HML.out.2]; omega)
                have hf := hO.frozen i
                have hii : (i : Int) < j := by omega
                cases hq : gt M i with
                | true =>
                  rw [hq] at hmc
                  have hsucc : paint M (clsTo P k).2 (clsTo P k).1 (i + 1) = (paint M (clsTo P k).2 (clsTo P k).1 i).set i (clsTo P k).2 := by simp only [paint]; rw [if_pos hq]
                  have HS2 := Lib.hid hsucc; clear hsucc hq
                  obtain ⟨hO3, hgs⟩ := hO.store i ((clsTo P k).2 : Nat)
                  have hgn : Ext wO (wr.setCell ⟨wO.heap.size, i, none⟩ (.int .i64 ((clsTo P k).2 : Nat))) := grown_own hgo hgs (fun j hj hlt => by cases hj; omega)
                  have hgn2 := hgi.trans hgs
                  go_wp2
                  clear hmc hcc hf
                  go_roundw
                  case rel => exact ⟨i + 1, by go_num, by omega, hgn2, hgn, by rw [HS2.out]; exact hO3⟩
                  case measure => simp [intOf]; omega
                | false =>
                  rw [hq] at hmc
                  have hsucc : paint M (clsTo P k).2 (clsTo P k).1 (i + 1) = paint M (clsTo P k).2 (clsTo P k).1 i := by simp only [paint]; rw [if_neg (by rw [hq]; simp)]
                  have HS2 := Lib.hid hsucc; clear hsucc hq
                  go_wp2
                  clear hmc hcc hf
                  go_roundw
                  case rel => exact ⟨i + 1, by go_num, by omega, hgi, hgo, by rw [HS2.out]; exact hO⟩
                  case measure => simp [intOf]; omega
              · have hie : i = j := by omega
                subst hie
                go_wp2
                go_roundw
                case rel => exact ⟨k + 1, by go_num, by rw [HS.out]; go_num, by omega, hgo, by rw [HS.out]; exact hO⟩
                case measure => simp [intOf]; omega
        · have hke : k = j := by omega
          subst hke
          go_wp2
          refine bodyPost_ret (v := .tuple #[.slice (some ⟨wO.heap.size, 0, none⟩) k k, .int .i64 ((clsTo P k).2 : Nat)]) (by simp [results, Try.results17, go_sem]) rfl ⟨_, rfl, grown_trans hgw hgo, _, by unfold rCls; rw [HNN.out], by unfold rCls; rw [HNN.out]; exact hO.weak hgw.size⟩

/-- how often each number below c stands among the first k of L -/
def cntTo (L : List Int) (c : Nat) : Nat → List Int
  | 0 => List.replicate c 0
  | k + 1 => (cntTo L c k).set (gt L k).toNat (gt (cntTo L c k) (gt L k).toNat + 1)
theorem cntTo_len (L : List Int) (c k : Nat) : (cntTo L c k).length = c := by
  induction k with
  | zero => simp [cntTo]
  | succ k ih => simp [cntTo, ih]
theorem gt_set {α : Type} [Inhabited α] (l : List α) (i j : Nat) (x : α) (hj : j < l.length) : gt (l.set i x) j = if i = j then x else gt l j := by
  simp only [gt, List.getD_eq_getElem?_getD]
  rw [List.getElem?_set]
  by_cases h : i = j
  · subst h; simp [hj]
  · simp [h]
theorem cntTo_bd (L : List Int) (c k : Nat) : ∀ j, j < c → 0 ≤ gt (cntTo L c k) j ∧ gt (cntTo L c k) j ≤ k := by
  induction k with
  | zero => intro j hj; simp [cntTo, gt, hj]
  | succ k ih =>
    intro j hj
    simp only [cntTo]
    rw [gt_set _ _ _ _ (by rw [cntTo_len]; exact hj)]
    have := ih j hj
    split
    · rename_i h; subst h; omega
    · omega
def rSizes (P : Pr) : List Int := cntTo (rCls P).1 (rCls P).2 (ordP P).toNat

open Classical in
set_option maxRecDepth 100000 in
set_option maxHeartbeats 8000000 in
theorem sClassSizes_ok (P : Pr) (hcls : rconsB P = true → ordP P ≤ 128 → ∀ k, k < (ordP P).toNat → 0 ≤ gt (rCls P).1 k ∧ gt (rCls P).1 k < (rCls P).2) (w : World) (pv : Value) (Sp : Nat → Prop) (hpv : PresV Sp w pv P) :
    Calls Try.prog 5 #[pv] w (Ret w fun w' v => ∃ r, v = .tuple #[r, .int .i64 (clsCode P (rconsB P))] ∧ ((clsCode P (rconsB P) ≠ 0 ∧ r = .slice none 0 0) ∨ (clsCode P (rconsB P) = 0 ∧ Own w.heap.size w' r (rSizes P)))) := by
  obtain ⟨vo, vp, vc, rfl, h3⟩ := hpv
  have hp0 := PresP.box h3 30
  have hg0 : Ext w (w.alloc (.cells #[vo, vp, vc] 30)) := World.grownBy_alloc _ _ _
  go_enter Try.func5, Try.ntmps5
  go_wp2_with fail
  refine Calls.mono (l18Code_ok P _ _ _ ⟨_, _, _, rfl, Pres3.ext h3 (World.grownBy_alloc _ _ _)⟩) ?_
  rintro eA wA ⟨vA, rfl, hgA, rfl⟩
  have hgw : Ext w wA := grown_trans hg0 hgA
  have hpA := hp0.ext hgA
  by_cases hz : clsCode P (rconsB P) = 0
  · have hrc : rconsB P = true := by
      cases h : rconsB P
      · rw [h] at hz; simp [clsCode] at hz
      · rfl
    have h128 : ordP P ≤ 128 := by
      rw [hrc] at hz
      simp only [clsCode, if_true] at hz
      split at hz <;> omega
    have hP : Valid P := by
      unfold rconsB at hrc
      exact (of_decide_eq_true hrc).1
    have hcl := hcls hrc h128
    have HCL := Lib.hid hcl; clear hcl hcls hrc
    have hpos := hP.ordP_pos
    have hcn : (rCls P).2 ≤ (ordP P).toNat := clsTo_num P _
    obtain ⟨vo5, vp5, vc5, _, _, hb1, hb2, hb3, h3r⟩ := hpA.at
    simp at hb2 hb3
    rw [hz]
    go_wp2_with fail
    refine Calls.mono (l18Classes_ok P hP wA _ _ ⟨_, _, _, rfl, h3r⟩) ?_
    rintro eB wB ⟨vB, rfl, hgB, r, rfl, hO⟩
    have hlr : (rCls P).1.length = (ordP P).toNat := clsTo_len P _
    clear hb1 hb2 hb3
    obtain ⟨gL, capL, rfl, hgL, hgL'⟩ := hO.form (by rw [hlr]; omega)
    rw [hlr] at hO
    simp only [hlr]
    have HLR := Lib.hid hlr; clear hlr
    go_wp2_with (at_make; refine wp_make_ints rfl _ _ rfl wB.heap.size (rCls P).2 wB.heap.size rfl ((rCls P).2 : Nat) rfl rfl rfl (by omega) (Nat.le_refl _) ?_; intro wM hoM hgM hltM)
    have hgwM := grown_trans hgw (grown_trans hgB hgM)
    have hOM := hO.ext0 hgM
    go_loopw [8] (fun kv wr => ∃ k : Nat, kv = .int .i64 k ∧ k ≤ (ordP P).toNat ∧ wB.grownBy wr none ∧ Own wB.heap.size wr (.slice (some ⟨wB.heap.size, 0, none⟩) (rCls P).2 (rCls P).2) (cntTo (rCls P).1 (rCls P).2 k)) (fun kv _ => (ordP P).toNat - (intOf kv).toNat)
    case atStart => exact ⟨0, rfl, by omega, hgM, hoM⟩
    case round =>
      clear hoM hOM hgM hgwM
      obtain ⟨k, rfl, hk, hgo, hO2⟩ := hrel
      by_cases hlt : k < (ordP P).toNat
      · have hlt' : (k : Int) < ordP P := by omega
        have hlt'' : (k : Int) < max (ordP P) 0 := by omega
        have hcL := (hO.ext0 hgo).cell k (by rw [HLR.out]; omega)
        have hb := HCL.out k hlt
        have hb0 := hb.1
        have hb1 := hb.2
        have hcC := hO2.cell (gt (rCls P).1 k).toNat (by rw [cntTo_len]; omega)
        have hfC := hO2.frozen (gt (rCls P).1 k).toNat
        have hbd := cntTo_bd (rCls P).1 (rCls P).2 k (gt (rCls P).1 k).toNat (by omega)
        obtain ⟨hO3, hgs⟩ := hO2.store (gt (rCls P).1 k).toNat (gt (cntTo (rCls P).1 (rCls P).2 k) (gt (rCls P).1 k).toNat + 1)
        have hgn : Ext wB (wr.setCell ⟨wB.heap.size, (gt (rCls P).1 k).toNat, none⟩ (.int .i64 (gt (cntTo (rCls P).1 (rCls P).2 k) (gt (rCls P).1 k).toNat + 1))) := grown_own hgo hgs (fun j hj hlt => by cases hj; omega)
        have hwr : IntKind.i64.wrap (gt (cntTo (rCls P).1 (rCls P).2 k) (gt (rCls P).1 k).toNat + 1) = gt (cntTo (rCls P).1 (rCls P).2 k) (gt (rCls P).1 k).toNat + 1 := IntWalk.i64_in _ (by have := hP.le729; have : ordP P ≤ 729 := hP.le729; omega)
        have e1 : ∀ w', Near wr wB.heap.size w' → w'.cell? ⟨gL, 0 + k, none⟩ = some (.int .i64 (gt (rCls P).1 k)) := fun w' h => h.cell (by simpa using hcL) (by simp; omega)
        have e2 : wr.drew.cell? ⟨wB.heap.size, (gt (rCls P).1 k).toNat, none⟩ = some (.int .i64 (gt (cntTo (rCls P).1 (rCls P).2 k) (gt (rCls P).1 k).toNat)) := hcC
        simp only [Nat.zero_add] at e1
        clear hgs hbd hb
        go_wp2
        go_still_tail 14, (by kernel_rfl)
        change wpList _ _ _ _ _ wr.drew
        have hgd := grown_trans hgn (grown_drew (wr.setCell ⟨wB.heap.size, (gt (rCls P).1 k).toNat, none⟩ (.int .i64 (gt (cntTo (rCls P).1 (rCls P).2 k) (gt (rCls P).1 k).toNat + 1))) none)
        have hOd := hO3.ext0 (grown_drew (wr.setCell ⟨wB.heap.size, (gt (rCls P).1 k).toNat, none⟩ (.int .i64 (gt (cntTo (rCls P).1 (rCls P).2 k) (gt (rCls P).1 k).toNat + 1))) none)
        have e3 := e1 wr.drew (Near.of (grown_drew _ _))
        have hfD : wr.drew.frozen? ⟨wB.heap.size, (gt (rCls P).1 k).toNat, none⟩ = false := hfC
        clear e1 hcL hcC hfC
        go_wp2
        go_roundw
        case rel => exact ⟨k + 1, by go_num, by omega, hgd, hOd⟩
        case measure => simp [intOf]; omega
      · have hke : k = (ordP P).toNat := by omega
        subst hke
        go_wp2
        exact bodyPost_ret (v := .tuple #[.slice (some ⟨wB.heap.size, 0, none⟩) (rCls P).2 (rCls P).2, .int .i64 0]) (by simp [results, Try.results5, go_sem]) rfl ⟨_, rfl, grown_trans hgw (grown_trans hgB hgo), _, by rw [hz], .inr ⟨hz, hO2.weak (grown_trans hgw hgB).size⟩⟩
  · have hz' : (clsCode P (rconsB P) != 0) = true := by simpa using hz
    go_wp2
    exact bodyPost_ret (v := .tuple #[.slice none 0 0, .int .i64 (clsCode P (rconsB P))]) (by simp [results, Try.results5, go_sem]) rfl ⟨_, rfl, hgw, _, rfl, .inl ⟨hz, rfl⟩⟩

end Go.Proofs.Ytdfjgpioaomceaa
