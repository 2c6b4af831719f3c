/-
  slices.Index and Contains at []int; impl.otherIndices (printed by gen_fixw2.py).
-/
import Derived.Test.YtdklekdpdbjfiaaGreatUFixW
import Derived.Test.YtdklekdpdbjfiaaGreatM9
import Derived.Test.YtdklekdpdbjfiaaGreatM4
import Derived.Test.YtdklekdpdbjfiaaGreatM6
namespace Go.Proofs.YtdklekdpdbjfiaaGreat
open Go.RowKit
set_option maxRecDepth 100000 in
set_option maxHeartbeats 1000000 in
theorem indexI_ok (l : List Int) (x : Int) (w : World) (v : Value) (S : Nat → Prop) (hv : Ints S w v l) :
  Calls Tryz.prog 264 #[v, .int .i64 x] w (Ret w fun _ r => ∃ k : Int, r = .int .i64 k ∧ (0 ≤ k ↔ x ∈ l)) := by
 obtain ⟨a, c, rfl, _, _⟩ := hv.shape
 have HV := Lib.hid hv; clear hv
 go_enter Tryz.func264, Tryz.ntmps264
 go_wp2
 go_loopw [8] (fun iv wr => ∃ i : Nat, iv = .int .i64 i ∧ i ≤ l.length ∧ Ext w wr ∧ Hid (∀ j, j < i → gt l j ≠ x)) (fun iv _ => l.length - (intOf iv).toNat)
 case atStart => exact ⟨0, by go_num, by omega, Ext.refl _, Lib.hid (fun j hj => by omega)⟩
 case round =>
  obtain ⟨i, rfl, hi, hg, hN⟩ := hrel
  by_cases hlt : i < l.length
  ·have hlt' : (i : Int) < l.length := by omega
   obtain ⟨b, o, hab, _, _, hc⟩ := Ints.at HV.out i hlt
   subst hab
   have hcr := hg.cell hc (by simp)
   by_cases he : gt l i = x
   ·have hd : x ∈ l := by rw [← he]; exact gt_mem hlt
    rw [he] at hcr
    have HD := Lib.hid hd; clear hd he hc
    go_wp2
    go_ret
    exact ⟨_, rfl, hg, (i : Int), rfl, ⟨fun _ => HD.out, fun _ => by omega⟩⟩
   ·have hne : (x == gt l i) = false := by
     have : ¬ x = gt l i := fun e => he e.symm
     simpa using this
    have hN2 : ∀ j, j < i + 1 → gt l j ≠ x := fun j hj => by
     rcases Nat.lt_succ_iff_lt_or_eq.1 hj with h | h
     ·exact hN.out j h
     ·rw [h]; exact he
    have HN2 := Lib.hid hN2; clear hN2 he hc hN
    generalize gt l i = y at *
    go_wp2
    clear hne
    go_roundw
    case rel => exact ⟨i + 1, by go_num, by omega, hg, HN2⟩
    case measure => simp [intOf]; omega
  ·have hie : i = l.length := by omega
   have hd : ¬ x ∈ l := fun h => by
    obtain ⟨j, hj, e⟩ := mem_gt h
    exact hN.out j (by omega) e
   have hnl : ¬ (i : Int) < l.length := by omega
   have HD := Lib.hid hd; clear hd hie hN
   go_wp2
   go_ret
   exact ⟨_, rfl, hg, -1, rfl, ⟨fun h => by omega, fun h => absurd h HD.out⟩⟩
set_option maxRecDepth 100000 in
set_option maxHeartbeats 1000000 in
theorem containsI_ok (l : List Int) (x : Int) (w : World) (v : Value) (S : Nat → Prop) (hv : Ints S w v l) :
  Calls Tryz.prog 247 #[v, .int .i64 x] w (Ret w fun _ r => r = .bool (decide (x ∈ l))) := by
 have hi := indexI_ok l x w v S hv
 obtain ⟨a, c, rfl, _, _⟩ := hv.shape
 go_enter Tryz.func247, Tryz.ntmps247
 go_wp2_with fail
 refine Calls.mono hi ?_
 rintro e1 w1 ⟨v1, rfl, hg1, k, rfl, hk⟩
 have HK := Lib.hid hk; clear hk hi
 go_wp2
 go_ret
 refine ⟨_, rfl, hg1, ?_⟩
 show Value.bool (decide (0 ≤ k)) = _
 rw [decide_eq_decide.2 HK.out]
def idxV (l : List Nat) : List Value := l.map (fun i : Nat => Value.int .i64 (i : Int))
def frT (U : List (List Int)) (k : Nat) : List Nat := (List.range k).filter (fun i => !(U.map dep).contains i)
theorem frT_yes {U : List (List Int)} {k : Nat} (h : ¬ k ∈ U.map dep) : frT U (k + 1) = frT U k ++ [k] := by
 unfold frT
 rw [List.range_succ, List.filter_append, List.filter_cons_of_pos (by simpa using h), List.filter_nil]
theorem frT_no {U : List (List Int)} {k : Nat} (h : k ∈ U.map dep) : frT U (k + 1) = frT U k := by
 unfold frT
 rw [List.range_succ, List.filter_append, List.filter_cons_of_neg (by simpa using h), List.filter_nil, List.append_nil]
theorem frT_len (U : List (List Int)) (k : Nat) : (frT U k).length ≤ k := by
 unfold frT; exact Nat.le_trans (List.length_filter_le _ _) (by rw [List.length_range]; exact Nat.le_refl _)
theorem depV_map (U : List (List Int)) : depV U = (U.map (fun z => (dep z : Int))).map (Value.int .i64) := by unfold depV; rw [List.map_map]; rfl
theorem dep_mem {U : List (List Int)} {k : Nat} : ((k : Nat) : Int) ∈ U.map (fun z => (dep z : Int)) ↔ k ∈ U.map dep := by
 rw [List.mem_map, List.mem_map]
 constructor
 ·rintro ⟨z, hz, e⟩; exact ⟨z, hz, by omega⟩
 ·rintro ⟨z, hz, e⟩; exact ⟨z, hz, by rw [e]⟩
set_option maxRecDepth 100000 in
set_option maxHeartbeats 2000000 in
theorem otherIndices_ok (P : Pr) (hn6 : P.orders.length ≤ 6) (w : World) (p uv : Value) (U : List (List Int)) (Sp Su : Nat → Prop) (hp : PresP Sp w p P) (hu : Rows2 Su w uv U) (hU : ∀ z ∈ U, dep z < z.length) (hul : U.length ≤ 6) :
  Calls Tryz.prog 219 #[p, uv] w (Ret w fun w' r => OwnV w.heap.size 3 w' r (idxV (frI P U))) := by
 obtain ⟨pb, po, rfl⟩ := hp.shape
 have hp0 := hp
 obtain ⟨ao, co, hco, hoi⟩ := hp.ordAt
 obtain ⟨au, capu, rfl, _, _⟩ := Sl.shape hu
 go_enter Tryz.func219, Tryz.ntmps219
 go_wp2_with fail
 refine Calls.mono (pivots_ok _ U w Su hu hU (by omega)) ?_
 rintro e1 w1 ⟨v1, rfl, hg1, hO⟩
 have hdl : (depV U).length ≤ 6 := by unfold depV; rw [List.length_map]; exact hul
 rw [depV_map] at hO hdl
 have hI := ints_of_ownV (S := Any) hO (by rw [List.length_map]; rw [List.length_map] at hdl; omega) (fun _ _ => trivial)
 obtain ⟨dv, hdv⟩ : ∃ dv, dv = U.map (fun z => (dep z : Int)) := ⟨_, rfl⟩
 rw [← hdv] at hI
 obtain ⟨da, dc, rfl, _, _⟩ := hI.shape
 have hIx : ∀ w', Ext w1 w' → Ints Any w' (.slice da dv.length dc) dv := fun w' h => Ints.ext hI h
 have HI := Lib.hid (And.intro hdv hIx); clear hdv hIx hI hO hdl
 have hc1 := hg1.cell hco (by simp)
 obtain ⟨N, hN⟩ : ∃ N, N = P.orders.length := ⟨_, rfl⟩
 rw [← hN] at hn6 hc1
 have HN := Lib.hid hN; clear hN
 obtain ⟨wk, rfl⟩ : ∃ wk : World, wk = w1 := ⟨_, rfl⟩
 go_wp2
 go_loopw [6, 15] (fun ov iv wr => ∃ (k : Nat) (v4 : Value), v4 = ov ∧ iv = .int .i64 k ∧ k ≤ N ∧ Ext wk wr ∧ OwnV wk.heap.size 3 wr v4 (idxV (frT U k))) (fun _ iv _ => N - (intOf iv).toNat)
 case atStart => exact ⟨0, _, rfl, rfl, by omega, Ext.refl _, World.ownsRow_nil _ _ _ _⟩
 case round =>
  obtain ⟨k, v4, rfl, rfl, hk, hg, hO⟩ := hrel
  by_cases hlt : k < N
  ·have hlt' : (k : Int) < N := by omega
   have hfl := frT_len U k
   have hvl : (idxV (frT U k)).length ≤ 1000000 := by unfold idxV; rw [List.length_map]; omega
   by_cases hm : k ∈ U.map dep
   ·have hst := frT_no hm
    have hd : decide (((k : Nat) : Int) ∈ dv) = true := by rw [HI.out.1]; exact decide_eq_true (dep_mem.2 hm)
    have HS := Lib.hid hst; clear hst hm
    go_wp2_with fail
    refine Calls.mono (containsI_ok dv (k : Int) wr _ Any (HI.out.2 wr hg)) ?_
    rintro e2 w2 ⟨v2, rfl, hg2, rfl⟩
    rw [hd]; clear hd
    have hO2 := World.ownsRow.kept hO hg2 (by cases hv : v4.ownBlock <;> simp)
    have hgn := grown_trans hg hg2
    go_wp2
    go_roundw
    case rel => exact ⟨k + 1, v4, rfl, by go_num, by omega, hgn, by rw [HS.out]; exact hO2⟩
    case measure => simp [intOf]; omega
   ·have hst : idxV (frT U (k + 1)) = idxV (frT U k) ++ [.int .i64 (k : Int)] := by rw [frT_yes hm]; unfold idxV; rw [List.map_append]; rfl
    have hd : decide (((k : Nat) : Int) ∈ dv) = false := by rw [HI.out.1]; exact decide_eq_false (fun h => hm (dep_mem.1 h))
    have HS := Lib.hid hst; clear hst hm
    go_wp2_with fail
    refine Calls.mono (containsI_ok dv (k : Int) wr _ Any (HI.out.2 wr hg)) ?_
    rintro e2 w2 ⟨v2, rfl, hg2, rfl⟩
    rw [hd]; clear hd
    have hO2 := World.ownsRow.kept hO hg2 (by cases hv : v4.ownBlock <;> simp)
    have hgn := grown_trans hg hg2
    go_wp2_with (first | (at_builtin; refine wp_app_val 110 3 (.int .i64 0) 8 und_intsG Tryz.infoIntG rfl (by decide) rfl _ _ rfl wk.heap.size v4 _ (idxV (frT U k)) rfl w2 hO2 rfl rfl rfl hvl hgn.size ?_; intro v5 w5 hO5 hg5) | fail)
    have hg6 : Ext wk w5 := grown_own hgn hg5 (fun j hj hlt => by have := (hO2.lt j hj).1; omega)
    go_roundw
    case rel => exact ⟨k + 1, v5, rfl, by go_num, by omega, hg6, by rw [HS.out]; exact hO5⟩
    case measure => simp [intOf]; omega
  ·have hke : k = N := by omega
   subst hke
   have he : frT U k = frI P U := by unfold frT frI; rw [HN.out]
   have hfl := frT_len U k
   have hsh : ∃ az capz, v4 = .slice az (frT U k).length capz := by
    rcases hO.form with ⟨h1, h2⟩ | ⟨g, cp, h1, _⟩
    ·have h3 : (frT U k).length = 0 := by unfold idxV at h2; rw [List.map_eq_nil_iff] at h2; rw [h2]; rfl
     exact ⟨none, 0, by rw [h1, h3]⟩
    ·exact ⟨_, _, by rw [h1]; unfold idxV; rw [List.length_map]⟩
   obtain ⟨az, capz, rfl⟩ := hsh
   have hgw := grown_trans hg1 hg
   have hfin : OwnV w.heap.size 3 wr (.slice az (frT U k).length capz) (idxV (frI P U)) := by rw [← he]; exact hO.weak hg1.size
   have HF := Lib.hid hfin; clear hfin he hO
   go_wp2
   go_ret
   exact ⟨_, rfl, hgw, HF.out⟩
end Go.Proofs.YtdklekdpdbjfiaaGreat
