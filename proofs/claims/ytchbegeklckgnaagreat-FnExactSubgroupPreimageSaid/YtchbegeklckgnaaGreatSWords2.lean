/-
  Words: slices.Reverse, impl.invertWord; spec.l07Word, l06Invert.
-/
import Derived.Test.YtchbegeklckgnaaGreatSWords
import Derived.Sort.OwnSortedInts
import Derived.Shelf.SlicesE.Reverse
namespace Go.Proofs.YtchbegeklckgnaaGreat
section
open Go.Proofs Go.Shelf Go.RowKit Go.Lib Go.Sort
def Tryz.reverseInts_ren : Go.Shelf.Ren := ⟨fun | 35 => 187 | n => n, fun | 22 => 22 | 23 => 2 | 3 => 3 | 4 => 4 | 0 => 0 | n => n, fun | n => n⟩
theorem Tryz.reverseInts : Go.Proofs.SlLaysE.n35 Tryz.prog Tryz.reverseInts_ren := {
  mixed := by kernel_rfl
  f35 := ⟨Tryz.f187.name, by decide, Tryz.func187.trans (congrArg some (by kernel_rfl))⟩
  t0 := Tryz.underlying0
  a0 := Tryz.isAgg0
  z0 := Tryz.sizeOf0
  v0 := Tryz.zeroValue0
  t3 := Tryz.underlying3
  a3 := Tryz.isAgg3
  z3 := Tryz.sizeOf3
  v3 := Tryz.zeroValue3
  t4 := Tryz.underlying4
  a4 := Tryz.isAgg4
  z4 := Tryz.sizeOf4
  v4 := Tryz.zeroValue4
  t22 := Tryz.underlying22
  a22 := Tryz.isAgg22
  z22 := Tryz.sizeOf22
  v22 := Tryz.zeroValue22
  a23 := Tryz.isAgg2
  z23 := Tryz.sizeOf2 }

theorem reverseI_ok (w : World) (base : Nat) (v : Value) (l : List Int) (h : Own base w v l) (hl : l.length ≤ 9223372036854775807) :
    Calls Tryz.prog 187 #[v] w fun e w' => e = .returned (.tuple #[]) ∧ Own base w' v l.reverse ∧ w.grownBy w' v.ownBlock := by
  obtain ⟨h0, h1 | ⟨g, cap, cur, hv, hbase, hb, hn, hcap, hsz, ht⟩⟩ := id h
  · obtain ⟨rfl, hn⟩ := h1
    have hnil : l = [] := List.eq_nil_of_length_eq_zero hn
    subst hnil
    have hc := AnyE.slices_Reverse_empty Tryz.reverseInts none 0 w
    change Calls Tryz.prog 187 _ _ _ at hc
    refine hc.mono ?_
    rintro e w' ⟨rfl, rfl⟩
    exact ⟨rfl, h, grown_refl _ _⟩
  · subst hv
    have ht' : cur.toList.take l.length = l.map (Value.int .i64) := by rw [Nat.mul_one] at ht; exact ht
    have hc := AnyE.slices_Reverse Tryz.reverseInts (Value.int .i64) (fun _ => rfl) g 0 cap l w (holds_of_blockI hb ht') hl
    change Calls Tryz.prog 187 _ _ _ at hc
    refine hc.mono ?_
    rintro e w' ⟨rfl, n, rfl⟩
    have o := ownsRow_sortedI (w := w) (n := n) (os := #[]) (ss := l) (ts := l.reverse) (by simp) hbase hb hn hcap hsz
    have gr := grownBy_sortedI (w := w) (g := g) (n := n) (os := #[]) l.reverse.toArray
    rw [grow_empty] at o gr
    refine ⟨rfl, ?_, gr⟩
    show World.ownsRow _ _ _ _ _ _ _
    rw [List.length_reverse]
    exact o
end
open Go.RowKit

set_option maxHeartbeats 1000000 in
theorem invertWord_ok (w : World) (v : Value) (l : List Int) (S : Nat → Prop) (hv : Ints S w v l) (hn : l.length ≤ 1000) (hb : ∀ i, i < l.length → -1000 ≤ gt l i ∧ gt l i ≤ 1000) :
    Calls Tryz.prog 147 #[v] w (Ret w fun w' r => Own w.heap.size w' r (invWord l)) := by
  obtain ⟨a, cap, rfl, _, _⟩ := hv.shape
  have HB := Lib.hid hb; clear hb
  go_enter Tryz.func147, Tryz.ntmps147
  go_wp2
  go_loopw [3, 8] (fun ov iv wr => ∃ (i : Nat) (v3 : Value), v3 = ov ∧ iv = .int .i64 i ∧ i ≤ l.length ∧ Ext w wr ∧ Own w.heap.size wr v3 ((l.take i).map (fun x => -x))) (fun _ iv _ => l.length - (intOf iv).toNat)
  case atStart => exact ⟨0, _, rfl, rfl, by omega, Ext.refl _, World.ownsRow_nil _ _ _ _⟩
  case round =>
    obtain ⟨i, v3, rfl, rfl, hi, hg, hO⟩ := hrel
    obtain ⟨m, hm⟩ : ∃ m, m = (l.take i).map (fun x => -x) := ⟨_, rfl⟩
    have hml : m.length = i := by rw [hm, List.length_map, List.length_take]; omega
    rw [← hm] at hO
    by_cases hlt : i < l.length
    · have hlt' : (i : Int) < l.length := by omega
      obtain ⟨b, off, rfl, _, _, hc⟩ := Ints.at (hv.ext hg) i hlt
      have hx0 := HB.out i hlt
      have e1 : IntKind.i64.wrap (-(gt l i)) = -(gt l i) := IntWalk.i64_in _ (by omega)
      have hnx : (l.take (i + 1)).map (fun x => -x) = m ++ [-(gt l i)] := by
        rw [hm, List.take_add_one, List.map_append, List.getElem?_eq_getElem hlt]; simp [gt_eq l i hlt]
      have HM := Lib.hid (And.intro hml hnx); clear hml hnx hm
      go_wp2_with (first | (at_builtin; refine wp_app_ints rfl _ _ rfl w.heap.size v3 _ rfl (hO.ext0 (World.grownBy_alloc _ _ _)) _ _ rfl Any (ints_lit wr _) (by have := HM.out.1; simp only [List.length_cons, List.length_nil]; omega) (by have := hg.size; simp; omega) ?_; intro v5 w5 hO5 hg5 _) | fail)
      have hg5' : wr.grownBy w5 v3.ownBlock := grown_trans (grown_of_ext _ (World.grownBy_alloc _ _ _)) hg5
      have hge : Ext w w5 := grown_own hg hg5' (fun b hb hlt => by have := (hO.lt b hb).1; omega)
      clear hO hg5 hg5' hc e1
      go_roundw
      case rel => exact ⟨i + 1, v5, rfl, by go_num, by omega, hge, by rw [HM.out.2]; exact hO5⟩
      case measure => simp [intOf]; omega
    · have hie : i = l.length := by omega
      subst hie
      have hml2 : m.length ≤ 9223372036854775807 := by omega
      have hfin : m.reverse = invWord l := by rw [hm, List.take_length]; rfl
      have HM := Lib.hid (And.intro hfin hml2); clear hml hm hfin hml2
      go_wp2_with fail
      refine Calls.mono (reverseI_ok wr w.heap.size v3 m hO HM.out.2) ?_
      rintro e5 w5 ⟨rfl, hO5, hg5⟩
      have hge : Ext w w5 := grown_own hg hg5 (fun b hb hlt => by have := (hO.lt b hb).1; omega)
      rw [HM.out.1] at hO5
      clear hO hg5
      go_wp2
      go_ret
      exact ⟨_, rfl, hge, hO5⟩

set_option maxHeartbeats 1000000 in
theorem l07Word_ok (w : World) (v : Value) (e : List Int) (S : Nat → Prop) (hv : Ints S w v e) (hn : e.length ≤ 6) (he : ∀ i, i < e.length → 0 ≤ gt e i ∧ gt e i ≤ 7) :
    Calls Tryz.prog 180 #[v] w (Ret w fun w' r => Own w.heap.size w' r (nWord e e.length)) := by
  obtain ⟨a, cap, rfl, _, _⟩ := hv.shape
  have hb : ∀ i, gt e i ≤ 7 := fun i => by
    by_cases h : i < e.length
    · exact (he i h).2
    · rw [gt_big (by omega)]; decide
  have HB := Lib.hid (And.intro hb he); clear hb he
  go_enter Tryz.func180, Tryz.ntmps180
  go_wp2
  go_loopw [3, 4] (fun ov iv wr => ∃ (i : Nat) (v3 : Value), v3 = ov ∧ iv = .int .i64 i ∧ i ≤ e.length ∧ Ext w wr ∧ Own w.heap.size wr v3 (nWord e i)) (fun _ iv _ => e.length - (intOf iv).toNat)
  case atStart => exact ⟨0, _, rfl, rfl, by omega, World.grownBy_alloc _ _ _, World.ownsRow_lit w #[] 0 (Nat.le_refl _) (by decide) rfl⟩
  case round =>
    obtain ⟨i, v3, rfl, rfl, hi, hg, hO⟩ := hrel
    by_cases hlt : i < e.length
    · have hlt' : (i : Int) < e.length := by omega
      obtain ⟨b, off, rfl, _, _, hc⟩ := Ints.at hv i hlt
      obtain ⟨x, hx⟩ : ∃ x, x = (gt e i).toNat := ⟨_, rfl⟩
      have hx0 := HB.out.2 i hlt
      have hxe : gt e i = (x : Int) := by omega
      have hx7 : x ≤ 7 := by omega
      have hnw : nWord e (i + 1) = nWord e i ++ List.replicate x ((i : Int) + 1) := by rw [nWord, hx]
      have hwl := nWord_len HB.out.1 i
      rw [hxe] at hc
      have HX := Lib.hid (And.intro hnw hwl); clear hnw hwl hx0 hxe hx
      go_wp2
      have hO0 : Own w.heap.size wr v3 (nWord e i ++ List.replicate 0 ((i : Int) + 1)) := by simpa using hO
      clear hO
      go_loopw [3, 5] (fun ov kv wr => ∃ (k : Nat) (v4 : Value), v4 = ov ∧ kv = .int .i64 k ∧ k ≤ x ∧ Ext w wr ∧ Own w.heap.size wr v4 (nWord e i ++ List.replicate k ((i : Int) + 1))) (fun _ kv _ => x - (intOf kv).toNat)
      case atStart => exact ⟨0, _, rfl, rfl, by omega, hg, hO0⟩
      case round =>
        clear hO0 hg
        obtain ⟨k, v4, rfl, rfl, hk, hg, hO⟩ := hrel
        have hcr := hg.cell hc (by simp)
        by_cases hltk : k < x
        · have hltk' : (k : Int) < x := by omega
          have hlen : (nWord e i ++ List.replicate k ((i : Int) + 1)).length ≤ 1000 := by rw [List.length_append, List.length_replicate]; have := HX.out.2; omega
          have HL := Lib.hid hlen; clear hlen
          go_wp2_with (first | (at_builtin; refine wp_app_ints rfl _ _ rfl w.heap.size v4 _ rfl (hO.ext0 (World.grownBy_alloc _ _ _)) _ _ rfl Any (ints_lit wr _) (by have := HL.out; simp only [List.length_cons, List.length_nil]; omega) (by have := hg.size; simp; omega) ?_; intro v5 w5 hO5 hg5 _) | fail)
          have hg5' : wr.grownBy w5 v4.ownBlock := grown_trans (grown_of_ext _ (World.grownBy_alloc _ _ _)) hg5
          have hge : Ext w w5 := grown_own hg hg5' (fun b hb hlt => by have := (hO.lt b hb).1; omega)
          rw [List.append_assoc, ← List.replicate_succ'] at hO5
          clear hO hg5 hg5' hcr
          go_roundw
          case rel => exact ⟨k + 1, v5, rfl, by go_num, by omega, hge, hO5⟩
          case measure => simp [intOf]; omega
        · have hke : k = x := by omega
          subst hke
          rw [← HX.out.1] at hO
          go_wp2
          clear hcr
          go_roundw
          case rel => exact ⟨i + 1, v4, rfl, by go_num, by omega, hg, hO⟩
          case measure => simp [intOf]; omega
    · have hie : i = e.length := by omega
      subst hie
      go_wp2
      go_ret
      exact ⟨_, rfl, hg, hO⟩

set_option maxHeartbeats 1000000 in
theorem l06Invert_ok (w : World) (v : Value) (l : List Int) (S : Nat → Prop) (hv : Ints S w v l) (hn : l.length ≤ 1000) (hb : ∀ i, i < l.length → -1000 ≤ gt l i ∧ gt l i ≤ 1000) :
    Calls Tryz.prog 179 #[v] w (Ret w fun w' r => Own w.heap.size w' r (invWord l)) := by
  obtain ⟨a, cap, rfl, _, _⟩ := hv.shape
  have HB := Lib.hid hb; clear hb
  go_enter Tryz.func179, Tryz.ntmps179
  go_wp2
  go_loopw [3, 4] (fun ov iv wr => ∃ (i : Nat) (v3 : Value), v3 = ov ∧ iv = .int .i64 ((i : Int) - 1) ∧ i ≤ l.length ∧ Ext w wr ∧ Own w.heap.size wr v3 (((l.drop i).map (fun x => -x)).reverse)) (fun _ iv _ => (intOf iv + 1).toNat)
  case atStart => exact ⟨l.length, _, rfl, by go_num, by omega, World.grownBy_alloc _ _ _, by rw [List.drop_length]; exact World.ownsRow_lit w #[] 0 (Nat.le_refl _) (by decide) rfl⟩
  case round =>
    obtain ⟨i, v3, rfl, rfl, hi, hg, hO⟩ := hrel
    obtain ⟨m, hm⟩ : ∃ m, m = ((l.drop i).map (fun x => -x)).reverse := ⟨_, rfl⟩
    have hml : m.length = l.length - i := by rw [hm]; simp
    rw [← hm] at hO
    by_cases hlt : 0 < i
    · obtain ⟨j, rfl⟩ : ∃ j, i = j + 1 := ⟨i - 1, by omega⟩
      have hj : j < l.length := by omega
      have hj' : (j : Int) < l.length := by omega
      obtain ⟨b, off, rfl, _, _, hc⟩ := Ints.at (hv.ext hg) j hj
      have hx0 := HB.out j hj
      have e1 : IntKind.i64.wrap (-(gt l j)) = -(gt l j) := IntWalk.i64_in _ (by omega)
      have hnx : ((l.drop j).map (fun x => -x)).reverse = m ++ [-(gt l j)] := by
        rw [hm, List.drop_eq_getElem_cons hj, List.map_cons, List.reverse_cons, gt_eq l j hj]
      have e2 : (((j + 1 : Nat) : Int) - 1) = (j : Int) := by omega
      have HM := Lib.hid (And.intro hml hnx); clear hml hnx hm
      rw [e2]
      go_wp2_with (first | (at_builtin; refine wp_app_ints rfl _ _ rfl w.heap.size v3 _ rfl (hO.ext0 (World.grownBy_alloc _ _ _)) _ _ rfl Any (ints_lit wr _) (by have := HM.out.1; simp only [List.length_cons, List.length_nil]; omega) (by have := hg.size; simp; omega) ?_; intro v5 w5 hO5 hg5 _) | fail)
      have hg5' : wr.grownBy w5 v3.ownBlock := grown_trans (grown_of_ext _ (World.grownBy_alloc _ _ _)) hg5
      have hge : Ext w w5 := grown_own hg hg5' (fun b hb hlt => by have := (hO.lt b hb).1; omega)
      clear hO hg5 hg5' hc e1
      go_roundw
      case rel => exact ⟨j, v5, rfl, by go_num, by omega, hge, by rw [HM.out.2]; exact hO5⟩
      case measure => simp [intOf]
    · have hie : i = 0 := by omega
      subst hie
      rw [hm] at hO
      clear hm hml
      go_wp2
      go_ret
      exact ⟨_, rfl, hg, by simpa [invWord] using hO⟩

end Go.Proofs.YtchbegeklckgnaaGreat
