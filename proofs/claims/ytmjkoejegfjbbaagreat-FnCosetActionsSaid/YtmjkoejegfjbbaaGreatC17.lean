/-
  Drawing: spec.l12Draw.
  Drawing: spec.l12Pair and spec.l13Draw.
  Drawing: spec.l01From makes the source of numbers.
  Drawing: laws.big, spec.DrawProductSize.
  Drawing: spec.DrawCosetRepresentative.
  Drawing: spec.l14Pair (the first part of what gen_drawdb.py prints).
  Drawing: spec.DrawCosetAction (DrawCo's text with another pair).
  Moebius values of the lattice: the sum over all subgroups above one; the number of generating lists.
  Plain: the elements of a consistent presentation as a type with products; subgroups, cosets, their counting.
  Plain: double cosets as sets; their sizes; the count of the fixed cosets (Burnside).
  [][]int64{row} as a list of the call's own.
  The reference's test of a sequence: spec.l10Element, l10Elements, l01Same2, l12Is, IsSubgroup, l13Two.
-/
import Derived.Test.YtmjkoejegfjbbaaGreatC10
import Derived.Test.YtmjkoejegfjbbaaGreatC11
import Derived.Test.YtmjkoejegfjbbaaGreatC12
import Derived.Test.YtmjkoejegfjbbaaGreatC14
import Derived.Test.YtmjkoejegfjbbaaGreatC16
import Derived.Test.YtmjkoejegfjbbaaGreatC3
import Derived.StillTailTactics
namespace Go.Proofs.YtmjkoejegfjbbaaGreat
open Go.RowKit
attribute [local go_sem ↓] Go.wp_at_zero Go.wp_at_succ
def RowsDr (B : Nat) (w' : World) (v : Value) : Prop := ∃ U : List (List Int), U.length ≤ 8 ∧ (∀ x ∈ U, x.length ≤ 21) ∧ Rows2 (From B) w' v U
theorem drow_one {w : World} {B n : Nat} {a : Option Addr} {c : Nat} {l : List Int} (hl : l.length ≤ 21) (hO : Own B w (.slice a n c) l) (hB : B ≤ w.heap.size) :
  RowsDr B (w.alloc (.cells #[.slice a n c] 36)) (.slice (some ⟨w.heap.size, 0, none⟩) 1 1) := by
 refine ⟨[l], by simp, by simpa using hl, ⟨_, _, rfl, ⟨Nat.le_refl _, by simp, fun h => by cases h⟩, fun i hi => ⟨w.heap.size, 0, .slice a n c, rfl, hB, by simp, ?_, ?_⟩⟩⟩
 ·have : i = 0 := by simpa using hi
  subst this
  rw [World.cell?_alloc_at _ _ _ _ rfl]; rfl
 ·have : i = 0 := by simpa using hi
  subst this
  exact Ints.ext (xs := l) (ints_of_own hO (by omega) (fun k hk => (hO.lt k hk).1)) (World.grownBy_alloc _ _ _)
theorem shq_dr {w : World} {B : Nat} {v : Value} {U : List (List Int)} (h1 : U.length ≤ 8) (h2 : ∀ x ∈ U, x.length ≤ 21) (h : ShQ (fun k => k < B) B w v U) : RowsDr B w v :=
 ⟨U, h1, h2, Rows2.sub (ShQ.rowsB h (fun _ hk => hk)) (fun _ hk _ => Nat.le_of_not_lt hk)⟩
theorem rowsO_put {w w' : World} {g n cap : Nat} {a : Option Addr} {m c : Nat} {U : List (List Int)} {l : List Int} {B C : Nat} (hO : RowsO B w (.slice (some ⟨g, 0, none⟩) n cap) U) (hn : n = U.length) (hU : U.length ≤ 8) (h2 : ∀ x ∈ U, x.length ≤ 21) (hs : w.heap.size ≤ C)
  (hb : ∀ k, B ≤ k → k < w.heap.size → w'.heap[k]? = w.heap[k]?) (hsz : w.heap.size ≤ w'.heap.size) (hl : l.length ≤ 21) (hu : Own C w' (.slice a m c) l) (hi : 0 < U.length) (hBC : B ≤ C) :
  (∃ z, w'.cell? ⟨g, 0, none⟩ = some z) ∧ w'.frozen? ⟨g, 0, none⟩ = false ∧ B ≤ g ∧ g < w.heap.size ∧ RowsDr B (w'.setCell ⟨g, 0, none⟩ (.slice a m c)) (.slice (some ⟨g, 0, none⟩) n cap) := by
 have h1 : RowsI (fun k => B ≤ k ∧ k < w.heap.size) w (.slice (some ⟨g, 0, none⟩) n cap) U := SlI.of hO (by omega) (fun k h h' => ⟨h, h'⟩)
 have h3 : RowsI (fun k => B ≤ k ∧ k < w.heap.size) w' (.slice (some ⟨g, 0, none⟩) n cap) U := rdRowsI.mono h1 (fun k hk hlt => ⟨hk, Nat.lt_of_lt_of_le hlt hsz, hb k hk.1 hlt⟩)
 obtain ⟨hz, hf⟩ := SlI.place h3 0 hi
 have hg : B ≤ g ∧ g < w.heap.size := by
  rcases SlI.form h3 with ⟨e, _⟩ | ⟨g', c', e, hF, _⟩
  ·cases e
  ·cases e; exact hF
 have h3' : SlI (fun F w u (x : List Int) => Ints F w u x) 36 (fun k => B ≤ k ∧ k < w.heap.size) w' (.slice (some ⟨g, 0, none⟩) n cap) U := SlI.map (fun _ _ _ _ h => h.ints) h3
 have hrd : RdOk (fun F w u (x : List Int) => Ints F w u x) := ⟨fun h hb => Ints.mono h hb, fun h => by obtain ⟨_, _, rfl, _⟩ := h.shape; rfl⟩
 have hui : Ints (From C) w' (.slice a m c) l := ints_of_own hu (by omega) (fun k hk => (hu.lt k hk).1)
 have hp := SlI.putR hrd h3' hui (fun k hk h => by have hk : C ≤ k := hk; omega) 0
 refine ⟨hz, hf, hg.1, hg.2, U.set 0 l, by simpa using hU, fun x hx => ?_, Rows2.sub (S := fun k => (B ≤ k ∧ k < w.heap.size) ∨ From C k) hp (fun k hk _ => ?_)⟩
 ·rcases List.mem_or_eq_of_mem_set hx with h | h
  ·exact h2 x h
  ·rw [h]; exact hl
 ·rcases hk with h | h
  ·exact h.1
  ·exact Nat.le_trans hBC h
set_option maxRecDepth 100000 in
set_option maxHeartbeats 16000000 in
theorem l12Draw_ok (B0 : Nat) (w : World) (sb : Nat) (pv : Value) (P : Pr) (F : Nat → Prop) (hB0 : B0 ≤ w.heap.size) (hs : Src B0 w sb) (hp : PresV F w pv P) (hF : ∀ k, F k → k ≠ sb) (hn : P.orders.length ≤ 20) :
  Calls Tryz.prog 381 #[.pointer (some ⟨sb, 0, none⟩), pv] w (Mut w (some sb) (DrawR B0 sb (RowsDr w.heap.size))) := by
 have hsb := hs.lt
 obtain ⟨vo, vp, vc, rfl, h3⟩ := hp
 obtain ⟨ao, co, hvo, _, _⟩ := h3.o.shape
 obtain ⟨ap, cp, hvp, _, _⟩ := Sl.shape h3.p
 obtain ⟨ac, cc, hvc, _, _⟩ := Sl.shape h3.c
 subst hvo hvp hvc
 have hbA := Box3.made w 39 (.slice ao P.orders.length co) (.slice ap P.powers.length cp) (.slice ac P.conj.length cc)
 have hgA : Ext w (w.alloc (.cells #[.slice ao P.orders.length co, .slice ap P.powers.length cp, .slice ac P.conj.length cc] 39)) := World.grownBy_alloc _ _ _
 have h3A := h3.ext hgA
 have hsA := hs.ext hgA
 have hzA : (w.alloc (.cells #[.slice ao P.orders.length co, .slice ap P.powers.length cp, .slice ac P.conj.length cc] 39)).heap.size = w.heap.size + 1 := by simp
 have HZ := Lib.hid (And.intro hsA h3A); clear hsA hs h3 h3A
 go_enter Tryz.func381, Tryz.ntmps381
 go_wp2_with fail
 generalize w.alloc (.cells #[.slice ao P.orders.length co, .slice ap P.powers.length cp, .slice ac P.conj.length cc] 39) = w0 at *
 refine Calls.mono (l08Group_ok P w0 _ F ⟨_, _, _, rfl, HZ.out.2⟩) ?_
 rintro e1 w1 ⟨v1, rfl, hg1, rfl⟩
 have hb1 := hbA.ext hg1
 have hs1 := HZ.out.1.ext hg1
 have hP1 : PresV F w1 (.agg #[.slice ao P.orders.length co, .slice ap P.powers.length cp, .slice ac P.conj.length cc]) P := ⟨_, _, _, rfl, HZ.out.2.ext hg1⟩
 have hgw1 := grown_trans (grown_of_ext (some sb) hgA) (grown_of_ext (some sb) hg1)
 have hz1 : w.heap.size + 1 ≤ w1.heap.size := by have := hg1.size; omega
 have H1 := Lib.hid (And.intro hs1 (And.intro hP1 hgw1)); clear hs1 hP1 hgw1 hgA hg1 hbA HZ hzA
 obtain ⟨b0, b1, b2, b3, b4⟩ := id hb1
 cases hr : rconsB P with
 | false =>
  go_wp2_with fail
  refine Calls.mono (l07Vectors_ok B0 w1 sb _ P F (by omega) H1.out.1 H1.out.2.1 hF hn) ?_
  rintro e2 w2 ⟨v2, rfl, hg2, ⟨a2, c2, l2, rfl, hl2, hO2⟩, hs2⟩
  have hz2 := hg2.size
  have H2 := Lib.hid (And.intro hl2 (And.intro hO2 (And.intro hs2 hg2))); clear hl2 hO2 hs2 hg2
  go_wp2_with fail
  go_ret
  have hgE := World.grownBy_alloc w2 (.cells #[.slice a2 l2.length c2] 36) none
  refine ⟨_, rfl, grown_trans H1.out.2.2 (grown_trans H2.out.2.2.2 (grown_of_ext _ hgE)), ?_, H2.out.2.2.1.ext hgE⟩
  exact drow_one H2.out.1 (Own.weak H2.out.2.1 (by omega)) (by omega)
 | true =>
  have G := grp_of_r hr
  have hn6 := G.v.n6
  go_wp2_with fail
  refine Calls.mono (l12Some_ok B0 w1 sb _ P F G (by omega) H1.out.1 H1.out.2.1 hF) ?_
  rintro e2 w2 ⟨v2, rfl, hg2, ⟨U, hUl, hUv, hQ⟩, hs2⟩
  have hb2 := hb1.moved hg2 (by omega)
  have hz2 := hg2.size
  obtain ⟨aU, cU, rfl, hUm⟩ := hQ.shape
  have HU := Lib.hid (And.intro hUl (And.intro hUv (And.intro hQ hs2))); clear hUv hQ hs2
  have HG := Lib.hid hg2; clear hg2 b0 b1 b2 b3 b4
  go_wp2_with fail
  refine Calls.mono (l01Next_ok B0 w2 sb 30 HU.out.2.2.2) ?_
  rintro e3 w3 ⟨v3, rfl, hg3, x, rfl, _, hx1, hs3⟩
  have hb3 := hb2.moved hg3 (by omega)
  have hz3 := hg3.size
  have hQ3 : ShQ (fun k => k < w1.heap.size) w1.heap.size w3 (.slice aU U.length cU) U := HU.out.2.2.1.kept hg3.size (fun j hj hc => hg3.block j hj (fun e => by
   have := Option.some.inj e
   rcases hc with hc | hc
   ·have := (HU.out.2.2.1.lt j hc).1; omega
   ·omega)) (fun _ _ h => h)
  have hP3 : PresV F w3 (.agg #[.slice ao P.orders.length co, .slice ap P.powers.length cp, .slice ac P.conj.length cc]) P := by
   obtain ⟨_, _, _, e, h⟩ := H1.out.2.1
   exact ⟨_, _, _, e, h.mono (frame_of (grown_trans HG.out hg3) (fun k hk _ => ⟨hk, fun e => hF k hk (Option.some.inj e).symm⟩))⟩
  have hgw3 := grown_trans H1.out.2.2 (grown_trans HG.out hg3)
  have HU2 := Lib.hid (And.intro HU.out.2.1 (And.intro hQ3 (And.intro hs3 (And.intro hP3 hgw3)))); clear hQ3 hs3 hP3 hgw3 HU HG H1 hg3 hb2 hb1 hx1
  obtain ⟨b0, b1, b2, b3, b4⟩ := id hb3
  have hdone : RowsDr w.heap.size w3 (.slice aU U.length cU) := by
   obtain ⟨U', h1, h2, h3⟩ := shq_dr (by omega) (fun x hx => by have := HU2.out.1 x hx; omega) HU2.out.2.1
   exact ⟨U', h1, h2, Rows2.sub h3 (fun k hk _ => by have hk : w1.heap.size ≤ k := hk; show w.heap.size ≤ k; omega)⟩
  have HD := Lib.hid hdone; clear hdone
  by_cases hx0 : x = 0
  ·subst hx0
   go_wp2_with fail
   refine Calls.mono (l07Vectors_ok B0 w3 sb _ P F (by omega) HU2.out.2.2.1 HU2.out.2.2.2.1 hF hn) ?_
   rintro e4 w4 ⟨v4, rfl, hg4, ⟨a4, c4, l4, rfl, hl4, hO4⟩, hs4⟩
   have hz4 := hg4.size
   have hQ4 : ShQ (fun k => k < w1.heap.size) w1.heap.size w4 (.slice aU U.length cU) U := HU2.out.2.1.kept hg4.size (fun j hj hc => hg4.block j hj (fun e => by
    have := Option.some.inj e
    rcases hc with hc | hc
    ·have := (HU2.out.2.1.lt j hc).1; omega
    ·omega)) (fun _ _ h => h)
   have hxI : Ints (fun k => ¬ k < w1.heap.size ∧ (Value.slice aU U.length cU).ownBlock ≠ some k) w4 (.slice a4 l4.length c4) l4 := ints_of_own hO4 (by omega) (fun k hk => by
    have h1 := (hO4.lt k hk).1
    exact ⟨by omega, fun e => by have := (HU2.out.2.1.lt k e).2; omega⟩)
   have hob : ∀ j, (Value.slice aU U.length cU).ownBlock = some j → w1.heap.size ≤ j := fun j hj => (hQ4.lt j hj).1
   have hUU : U.length ≤ 1000000 := by omega
   have hbase : w1.heap.size ≤ w4.heap.size := by omega
   have H4 := Lib.hid (And.intro hl4 (And.intro hs4 (And.intro hg4 (And.intro hob (And.intro hUU hbase))))); clear hl4 hs4 hg4 hO4 hob
   go_wp2_with (first | (at_builtin; refine wp_shq_app rfl _ _ rfl (fun k => k < w1.heap.size) w1.heap.size _ _ U l4 rfl w4 hQ4 rfl hxI rfl H4.out.2.2.2.2.1 H4.out.2.2.2.2.2 ?_; intro v5 w5 hQ5 hg5 hb5) | fail)
   go_ret
   have hg15 := grown_own (grown_trans HU2.out.2.2.2.2 H4.out.2.2.1) hg5 (fun j hj hlt => by have := H4.out.2.2.2.1 j hj; omega)
   refine ⟨_, rfl, hg15, ?_, H4.out.2.1.own hg5 (fun j hj => by have := H4.out.2.2.2.1 j hj; omega)⟩
   obtain ⟨U', h1, h2, h3⟩ := shq_dr (by simp; omega) (fun x hx => by
    rcases List.mem_append.1 hx with h | h
    ·have := HU2.out.1 x h; omega
    ·rw [List.mem_singleton.1 h]; exact H4.out.1) hQ5
   exact ⟨U', h1, h2, Rows2.sub h3 (fun k hk _ => by have hk : w1.heap.size ≤ k := hk; show w.heap.size ≤ k; omega)⟩
  by_cases hx1 : x = 1
  ·subst hx1
   clear hx0
   by_cases hU1 : 1 < U.length
   ·obtain ⟨u0, U1, rfl⟩ : ∃ u U1, U = u :: U1 := by
     cases U with
     | nil => simp at hU1
     | cons u U1 => exact ⟨_, _, rfl⟩
    have hT := HU2.out.2.1.tail
    have hrt := run_tail_rows w3 aU (u0 :: U1).length cU 1 (by omega) (by omega)
    rw [show (1 : Int).toNat = 1 from rfl] at hrt
    generalize subSl (.slice aU (u0 :: U1).length cU) 1 (u0 :: U1).length = vT at hT hrt
    obtain ⟨aT, cT, rfl, _⟩ := hT.shape
    have hi1 : (1 : Int) < ((u0 :: U1).length : Nat) := by omega
    have HT := Lib.hid hT; clear hT
    obtain ⟨m, hm⟩ : ∃ m, m = (u0 :: U1).length := ⟨_, rfl⟩
    rw [← hm] at hrt hi1 hU1 hUl hUm
    rw [← hm]
    have HM := Lib.hid hm; clear hm
    go_wp2_with fail
    go_ret
    refine ⟨_, rfl, HU2.out.2.2.2.2, ?_, HU2.out.2.2.1⟩
    obtain ⟨U', h1, h2, h3⟩ := shq_dr (by have := HM.out; simp at this; omega) (fun x hx => by have := HU2.out.1 x (List.mem_cons_of_mem _ hx); omega) HT.out
    exact ⟨U', h1, h2, Rows2.sub h3 (fun k hk _ => by have hk : w1.heap.size ≤ k := hk; show w.heap.size ≤ k; omega)⟩
   ·go_wp2_with fail
    go_ret
    exact ⟨_, rfl, HU2.out.2.2.2.2, HD.out, HU2.out.2.2.1⟩
  by_cases hx2 : x = 2
  ·subst hx2
   clear hx0 hx1
   by_cases hU0 : 0 < U.length
   ·have hRU := HU2.out.2.1.rows
    have hUv : ∀ x ∈ U, x.length ≤ 1000000 := fun x hx => by have := HU2.out.1 x hx; omega
    have hUU : U.length ≤ 1000000 := by omega
    have HC := Lib.hid (And.intro hRU (And.intro hUv hUU)); clear hRU hUv hUU
    go_wp2_with fail
    refine Calls.mono (l01Own2N_ok w3 _ U Any HC.out.1 HC.out.2.1 HC.out.2.2) ?_
    rintro e4 w4 ⟨v4, rfl, hg4, hO4, g4, c4, rfl⟩
    have hb4 := hb3.ext hg4
    have hz4 := hg4.size
    have hs4 := HU2.out.2.2.1.ext hg4
    have hP4 : PresV F w4 (.agg #[.slice ao P.orders.length co, .slice ap P.powers.length cp, .slice ac P.conj.length cc]) P := by
     obtain ⟨_, _, _, e, h⟩ := HU2.out.2.2.2.1
     exact ⟨_, _, _, e, h.ext hg4⟩
    have H4 := Lib.hid (And.intro hs4 (And.intro hP4 (And.intro hO4 (grown_trans HU2.out.2.2.2.2 (grown_of_ext _ hg4))))); clear hs4 hP4 hO4 hg4 b0 b1 b2 b3 b4 hb3
    obtain ⟨b0, b1, b2, b3, b4⟩ := id hb4
    go_wp2_with fail
    refine Calls.mono (l07Vectors_ok B0 w4 sb _ P F (by omega) H4.out.1 H4.out.2.1 hF hn) ?_
    rintro e5 w5 ⟨v5, rfl, hg5, ⟨a5, c5, l5, rfl, hl5, hO5⟩, hs5⟩
    have hz5 := hg5.size
    obtain ⟨⟨z, hz⟩, hfz, hgB, hgl, hR⟩ := rowsO_put (w' := w5) H4.out.2.2.1 rfl (by omega) (fun x hx => by have := HU2.out.1 x hx; omega) (Nat.le_refl _) (fun k hk hlt => hg5.block k hlt (fun e => by have := Option.some.inj e; omega)) hz5 hl5 hO5 hU0 hz4
    have H5 := Lib.hid (And.intro hg5 (And.intro hs5 hR)); clear hg5 hs5 hR hl5 hO5 hb4 b0 b1 b2 b3 b4
    have hi0 : (0 : Int) < (U.length : Nat) := by omega
    go_wp2_with fail
    go_ret
    have hgs := grown_set1 w5 g4 0 (.slice a5 l5.length c5)
    refine ⟨_, rfl, grown_own (grown_trans H4.out.2.2.2 H5.out.1) hgs (fun j hj hlt => by have := Option.some.inj hj; omega), ?_, H5.out.2.1.own hgs (fun j hj => by have := Option.some.inj hj; omega)⟩
    obtain ⟨U', h1, h2, h3⟩ := H5.out.2.2
    exact ⟨U', h1, h2, Rows2.sub h3 (fun k hk _ => by have hk : w3.heap.size ≤ k := hk; show w.heap.size ≤ k; omega)⟩
   ·go_wp2_with fail
    go_ret
    exact ⟨_, rfl, HU2.out.2.2.2.2, HD.out, HU2.out.2.2.1⟩
  ·have e0 : (x == 0) = false := by simp [hx0]
   have e1 : (x == 1) = false := by simp [hx1]
   have e2 : (x == 2) = false := by simp [hx2]
   clear hx0 hx1 hx2
   go_wp2_with fail
   go_ret
   exact ⟨_, rfl, HU2.out.2.2.2.2, HD.out, HU2.out.2.2.1⟩
end Go.Proofs.YtmjkoejegfjbbaaGreat
namespace Go.Proofs.YtmjkoejegfjbbaaGreat
open Go.RowKit
attribute [local go_sem ↓] Go.wp_at_zero Go.wp_at_succ
theorem RowsDr.shape {B : Nat} {w : World} {v : Value} (h : RowsDr B w v) : ∃ a n c, v = .slice a n c := by
 obtain ⟨U, _, _, h⟩ := h
 obtain ⟨a, c, rfl, _⟩ := Sl.shape h
 exact ⟨_, _, _, rfl⟩
theorem RowsDr.low {B B' : Nat} {w : World} {v : Value} (h : RowsDr B w v) (hB : B' ≤ B) : RowsDr B' w v := by
 obtain ⟨U, h1, h2, h3⟩ := h
 exact ⟨U, h1, h2, Rows2.sub h3 (fun k hk _ => Nat.le_trans hB hk)⟩
theorem RowsDr.kept {B : Nat} {r : Option Nat} {w w' : World} {v : Value} (h : RowsDr B w v) (hg : w.grownBy w' r) (hr : ∀ k, r = some k → k < B) : RowsDr B w' v := by
 obtain ⟨U, h1, h2, h3⟩ := h
 exact ⟨U, h1, h2, Rows2.mono h3 (frame_of hg (fun k hk _ => ⟨hk, fun e => by have := hr k e; have hk : B ≤ k := hk; omega⟩))⟩
theorem Pres3.keptB {B : Nat} {r : Option Nat} {w w' : World} {vo vp vc : Value} {P : Pr} (h : Pres3 (From B) w vo vp vc P) (hg : w.grownBy w' r) (hr : ∀ k, r = some k → k < B) : Pres3 (From B) w' vo vp vc P :=
 h.mono (frame_of hg (fun k hk _ => ⟨hk, fun e => by have := hr k e; have hk : B ≤ k := hk; omega⟩))
theorem Pres3.low {B B' : Nat} {w : World} {vo vp vc : Value} {P : Pr} (h : Pres3 (From B) w vo vp vc P) (hB : B' ≤ B) : Pres3 (From B') w vo vp vc P :=
 h.mono (fun _ hk hlt => ⟨Nat.le_trans hB hk, hlt, rfl⟩)
def PairA (M B : Nat) (w' : World) (v : Value) : Prop := ∃ vo vp vc rv P, v = .tuple #[.agg #[vo, vp, vc], rv] ∧ P.orders.length ≤ M ∧ Pres3 (From B) w' vo vp vc P ∧ RowsDr B w' rv
theorem pair_ret {w wX : World} {sb B0 M B : Nat} {x y z rv : Value} {Q : Pr} (hgw : w.grownBy wX (some sb)) (hB : w.heap.size < B) (hsrc : Src B0 wX sb) (hB0 : B0 ≤ w.heap.size) (hM : Q.orders.length ≤ M) (hP : Pres3 (From B) wX x y z Q) (hr : RowsDr B wX rv) :
  Mut w (some sb) (DrawR B0 sb (PairA M w.heap.size)) (.returned (.tuple #[.agg #[x, y, z], rv])) (((wX.setCell ⟨w.heap.size, 0, none⟩ x).setCell ⟨w.heap.size, 1, none⟩ y).setCell ⟨w.heap.size, 2, none⟩ z) := by
 have hT := grown_set3 wX w.heap.size x y z
 exact ⟨_, rfl, grown_own hgw hT (fun j hj hlt => by cases hj; omega), ⟨x, y, z, rv, Q, rfl, hM, (hP.keptB hT (fun k hk => by cases hk; omega)).low (by omega), (hr.kept hT (fun k hk => by cases hk; omega)).low (by omega)⟩, hsrc.own hT (fun k hk => by cases hk; exact hB0)⟩
set_option maxRecDepth 100000 in
set_option maxHeartbeats 8000000 in
theorem l12Pair_ok (B0 : Nat) (w : World) (sb : Nat) (limit : Int) (hB0 : B0 ≤ w.heap.size) (hs : Src B0 w sb) :
  Calls Tryz.prog 327 #[.pointer (some ⟨sb, 0, none⟩), .int .i64 limit] w (Mut w (some sb) (DrawR B0 sb (PairA 7 w.heap.size))) := by
 have hsb := hs.lt
 have hbB := Box3.made w 39 (.slice none 0 0) (.slice none 0 0) (.slice none 0 0)
 have hg0 : Ext w (w.alloc (.cells #[.slice none 0 0, .slice none 0 0, .slice none 0 0] 39)) := World.grownBy_alloc _ _ _
 have hs0 : (w.alloc (.cells #[.slice none 0 0, .slice none 0 0, .slice none 0 0] 39)).heap.size = w.heap.size + 1 := by simp
 have hsW := Lib.hid (hs.ext hg0); clear hs
 go_enter Tryz.func327, Tryz.ntmps327
 go_wp2_with fail
 generalize w.alloc (.cells #[.slice none 0 0, .slice none 0 0, .slice none 0 0] 39) = w0 at *
 have hs00 : w.heap.size + 1 ≤ w0.heap.size := by omega
 clear hs0
 refine Calls.mono (l07Draw_ok B0 w0 sb limit (by omega) hsW.out) ?_
 rintro e1 w1 ⟨v1, rfl, hg1, ⟨vo, vp, vc, Q, rfl, hQl, hQ⟩, hs1⟩
 obtain ⟨a1, n1, c1, hy1⟩ : ∃ a n c, vo = .slice a n c := by obtain ⟨a, c, e, _⟩ := hQ.o.shape; exact ⟨_, _, _, e⟩
 obtain ⟨a2, n2, c2, hy2⟩ : ∃ a n c, vp = .slice a n c := by obtain ⟨a, c, e, _⟩ := Sl.shape hQ.p; exact ⟨_, _, _, e⟩
 obtain ⟨a3, n3, c3, hy3⟩ : ∃ a n c, vc = .slice a n c := by obtain ⟨a, c, e, _⟩ := Sl.shape hQ.c; exact ⟨_, _, _, e⟩
 subst hy1 hy2 hy3
 have hgq : Ext w1 (w1.alloc (.cells #[.slice a1 n1 c1, .slice a2 n2 c2, .slice a3 n3 c3] 39)) := World.grownBy_alloc _ _ _
 have hbQ := Box3.made w1 39 (.slice a1 n1 c1) (.slice a2 n2 c2) (.slice a3 n3 c3)
 obtain ⟨pb, hpb⟩ : ∃ pb, pb = w1.heap.size := ⟨_, rfl⟩
 rw [← hpb] at hbQ
 have hs1' := hg1.size
 have hQ2 := hQ.ext hgq
 have hb1 := hbB.moved hg1 (by omega)
 have hb2 := hb1.ext hgq
 have hs2 := hs1.ext hgq
 have hgw2 := grown_trans (grown_of_ext (some sb) hg0) (grown_trans hg1 (grown_of_ext (some sb) hgq))
 have hzq : w1.heap.size ≤ (w1.alloc (.cells #[.slice a1 n1 c1, .slice a2 n2 c2, .slice a3 n3 c3] 39)).heap.size := hgq.size
 have HP := Lib.hid hpb
 have HQ := Lib.hid (And.intro hQ2 (And.intro hs2 (And.intro hgw2 hQl))); clear hQ hQ2 hs2 hs1 hg1 hbB hg0 hsW hb1 hgq hgw2 hQl
 go_wp2_with fail
 rw [← HP.out]
 generalize w1.alloc (.cells #[.slice a1 n1 c1, .slice a2 n2 c2, .slice a3 n3 c3] 39) = w2 at *
 have hpw : w0.heap.size ≤ pb := by omega
 clear hpb HP
 obtain ⟨q0, q1, q2, q3, q4⟩ := id hbQ
 have e0 : ∀ w', NearS w2 sb w.heap.size w' → w'.cell? ⟨pb, 0, none⟩ = some (.slice a1 n1 c1) := fun w' h => h.cell q1 (by simp; omega) (by simp; omega)
 have e1 : ∀ w', NearS w2 sb w.heap.size w' → w'.cell? ⟨pb, 1, none⟩ = some (.slice a2 n2 c2) := fun w' h => h.cell q2 (by simp; omega) (by simp; omega)
 have e2 : ∀ w', NearS w2 sb w.heap.size w' → w'.cell? ⟨pb, 2, none⟩ = some (.slice a3 n3 c3) := fun w' h => h.cell q3 (by simp; omega) (by simp; omega)
 clear q0 q1 q2 q3 q4 hbQ
 go_region_held3 (fun w' => NearS w2 sb w.heap.size w') (first | exact NearS.ext (grown_drew _ _) | exact NearS.of (by assumption) | exact NearS.two hg3 (grown_set3 _ _ _ _ _) | assumption)
  (first
   | (go_at_call 381; refine Calls.mono (l12Draw_ok B0 w2.drew sb _ Q _ (by have := (grown_drew w2 none).size; omega) (HQ.out.2.1.ext (grown_drew _ _)) ⟨_, _, _, rfl, HQ.out.1.ext (grown_drew _ _)⟩ (fun k hk e => by have hk : w0.heap.size ≤ k := hk; omega) (by have := HQ.out.2.2.2; omega)) ?_; rintro e3 w3 ⟨rv, rfl, hg3a, hR, hs3⟩; have hg3 : w2.grownBy w3 (some sb) := grown_trans (grown_of_ext (some sb) (grown_drew _ _)) hg3a; obtain ⟨sa, sn, sc, rfl⟩ := hR.shape; have hb3 := hb2.moved hg3 (by omega); obtain ⟨b0, b1, b2, b3, b4⟩ := id hb3))
 have hdz := (grown_drew w2 none).size
 have hZ := hb3.all (.slice a1 n1 c1) (.slice a2 n2 c2) (.slice a3 n3 c3)
 obtain ⟨-, z0, z1, z2, -⟩ := id hZ
 have hP3 := HQ.out.1.keptB hg3 (fun k hk => by have := Option.some.inj hk; omega)
 have HF := Lib.hid (And.intro (grown_trans HQ.out.2.2.1 hg3) (And.intro hR (And.intro hs3 (And.intro hP3 HQ.out.2.2.2)))); clear hR hs3 hP3 HQ hg3 hg3a hb2 hb3 hZ e0 e1 e2
 go_wp2_with fail
 refine bodyPost_ret (v := .tuple #[.agg #[.slice a1 n1 c1, .slice a2 n2 c2, .slice a3 n3 c3], .slice sa sn sc]) (by simp [results, Tryz.results327, go_sem, z0, z1, z2]) rfl ?_
 exact pair_ret HF.out.1 (B := w0.heap.size) (by omega) HF.out.2.2.1 hB0 HF.out.2.2.2.2 HF.out.2.2.2.1 (HF.out.2.1.low (by omega))
end Go.Proofs.YtmjkoejegfjbbaaGreat
namespace Go.Proofs.YtmjkoejegfjbbaaGreat
open Go.RowKit
attribute [local go_sem ↓] Go.wp_at_zero Go.wp_at_succ
set_option maxRecDepth 100000 in
set_option maxHeartbeats 8000000 in
theorem l01From_ok (w : World) (cv : Value) (bs : List Int) (S : Nat → Prop) (hb : Bytes S w cv bs) :
  Calls Tryz.prog 112 #[cv] w (Ret w fun w' v => v = .pointer (some ⟨w.heap.size, 0, none⟩) ∧ Src (w.heap.size + 1) w' w.heap.size) := by
 obtain ⟨a, cap, rfl, _, hlen⟩ := Sl.shape hb
 have hbA := Box3.made w 210 (.slice a bs.length cap) (.int .i64 0) (.int .i64 76001)
 have hgA : Ext w (w.alloc (.cells #[.slice a bs.length cap, .int .i64 0, .int .i64 76001] 210)) := World.grownBy_alloc _ _ _
 go_enter Tryz.func112, Tryz.ntmps112
 go_wp2_with fail
 generalize w.alloc (.cells #[.slice a bs.length cap, .int .i64 0, .int .i64 76001] 210) = w0 at *
 go_loopw [4] (fun iv wr => ∃ (i seed : Nat), iv = .int .i64 i ∧ i ≤ bs.length ∧ seed < 2147483647 ∧ Ext w wr ∧ Box3 wr w.heap.size (.slice a bs.length cap) (.int .i64 0) (.int .i64 seed)) (fun iv _ => bs.length - (intOf iv).toNat)
 case atStart => exact ⟨0, 76001, rfl, by omega, by omega, hgA, hbA⟩
 case round =>
  clear hbA hgA
  obtain ⟨i, seed, rfl, hi, hs, hg, hB⟩ := hrel
  by_cases hlt : i < bs.length
  ·by_cases h64 : i < 64
   ·obtain ⟨b, off, rfl, hbS, hbl, hcb, hx0, hx1⟩ := Bytes.at hb i hlt
    have hcr := hg.cell hcb (by simp)
    generalize gt bs i = x at hcb hcr hx0 hx1
    have hli : (i : Int) < (bs.length : Nat) := by omega
    have h6i : (i : Int) < 64 := by omega
    obtain ⟨s2, hs2⟩ : ∃ s2 : Nat, ((seed : Int) * 71 + x) % 2147483647 = (s2 : Int) ∧ s2 < 2147483647 := ⟨(((seed : Int) * 71 + x) % 2147483647).toNat, by omega, by omega⟩
    have hBs := (hB.put (.int .i64 (s2 : Nat))).2.2
    have hgs := grown_set wr w.heap.size 2 (.int .i64 (s2 : Nat))
    have hgn : Ext w (wr.setCell ⟨w.heap.size, 2, none⟩ (.int .i64 (s2 : Nat))) := grown_own hg hgs (fun j hj hlt => by have := Option.some.inj hj; omega)
    have hBd := hBs.ext (grown_drew (wr.setCell ⟨w.heap.size, 2, none⟩ (.int .i64 (s2 : Nat))) none)
    have hgd := grown_trans hgn (grown_drew (wr.setCell ⟨w.heap.size, 2, none⟩ (.int .i64 (s2 : Nat))) none)
    have hw1 : IntKind.i64.wrap ((seed : Int) * 71) = (seed : Int) * 71 := IntWalk.i64_in _ (by omega)
    have hw2 : IntKind.i64.wrap ((seed : Int) * 71 + x) = (seed : Int) * 71 + x := IntWalk.i64_in _ (by omega)
    have hw0 : IntKind.i64.wrap x = x := IntWalk.i64_in _ (by omega)
    have hrem : ((seed : Int) * 71 + x).tmod 2147483647 = (s2 : Int) := by rw [Int.tmod_eq_emod_of_nonneg (by omega)]; exact hs2.1
    obtain ⟨h0, h1, h2, h3, h4⟩ := id hB
    have c0 : wr.drew.cell? ⟨w.heap.size, 2, none⟩ = some (.int .i64 seed) := h3
    have c1 : wr.drew.cell? ⟨b, off + i, none⟩ = some (.int .u8 x) := hcr
    have c2 : w.heap.size < wr.drew.heap.size := h0
    have c3 := h4
    have HQ := Lib.hid (And.intro hgd (And.intro hBd (And.intro hs2.2 hb))); clear hgd hBd hs2 hb hgn hgs hBs hB hg h0 h1 h2 h3 hcb hcr
    go_wp2
    go_still_tail 15, (by kernel_rfl)
    change wpList _ _ _ _ _ wr.drew
    go_wp2
    go_roundw
    case rel => exact ⟨i + 1, s2, by go_num, by omega, HQ.out.2.2.1, HQ.out.1, HQ.out.2.1⟩
    case measure => simp [intOf]; omega
   ·have hli : (i : Int) < (bs.length : Nat) := by omega
    have h6i : ¬ (i : Int) < 64 := by omega
    have HQ := Lib.hid (And.intro hg hB); clear hg hB
    go_wp2
    go_ret
    exact ⟨_, rfl, HQ.out.1, rfl, _, 0, seed, bs, HQ.out.2, Bytes.mono hb (fun k _ hlt => ⟨⟨by omega, by omega⟩, Nat.lt_of_lt_of_le hlt HQ.out.1.size, HQ.out.1.block k hlt (by simp)⟩), by omega, hs, by omega⟩
  ·have hli : ¬ (i : Int) < (bs.length : Nat) := by omega
   have HQ := Lib.hid (And.intro hg hB); clear hg hB
   go_wp2
   go_ret
   exact ⟨_, rfl, HQ.out.1, rfl, _, 0, seed, bs, HQ.out.2, Bytes.mono hb (fun k _ hlt => ⟨⟨by omega, by omega⟩, Nat.lt_of_lt_of_le hlt HQ.out.1.size, HQ.out.1.block k hlt (by simp)⟩), by omega, hs, by omega⟩
end Go.Proofs.YtmjkoejegfjbbaaGreat
namespace Go.Proofs.YtmjkoejegfjbbaaGreat
open Go.RowKit
attribute [local go_sem ↓] Go.wp_at_zero Go.wp_at_succ
theorem big_ok (w : World) (cv : Value) (bs : List Int) (S : Nat → Prop) (hb : Bytes S w cv bs) :
  Calls Tryz.prog 14 #[cv] w fun e w' => e = .returned (.bool (decide (4096 < bs.length))) ∧ w = w' := by
 obtain ⟨a, cap, rfl, _, hlen⟩ := Sl.shape hb
 go_enter Tryz.func14, Tryz.ntmps14
 by_cases h : 4096 < bs.length
 ·have hi : (4096 : Int) < (bs.length : Nat) := by omega
  go_wp2
  go_ret
  exact ⟨ret_b (by simp [h]), rfl⟩
 ·have hi : ¬ (4096 : Int) < (bs.length : Nat) := by omega
  go_wp2
  go_ret
  exact ⟨ret_b (by simp), rfl⟩
end Go.Proofs.YtmjkoejegfjbbaaGreat
namespace Go.Proofs.YtmjkoejegfjbbaaGreat
open Go.RowKit
attribute [local go_sem ↓] Go.wp_at_zero Go.wp_at_succ
def PairX (M B : Nat) (w' : World) (v : Value) : Prop := ∃ vo vp vc rv xv P, v = .tuple #[.agg #[vo, vp, vc], rv, xv] ∧ P.orders.length ≤ M ∧ Pres3 (From B) w' vo vp vc P ∧ RowsDr B w' rv ∧ ∃ X, X.length ≤ 21 ∧ Ints (From B) w' xv X
end Go.Proofs.YtmjkoejegfjbbaaGreat
namespace Go.Proofs.YtmjkoejegfjbbaaGreat
open Go.RowKit
attribute [local go_sem ↓] Go.wp_at_zero Go.wp_at_succ
set_option maxRecDepth 100000 in
set_option maxHeartbeats 8000000 in
theorem l14Pair_ok (B0 : Nat) (w : World) (sb : Nat) (hB0 : B0 ≤ w.heap.size) (hs : Src B0 w sb) :
  Calls Tryz.prog 199 #[.pointer (some ⟨sb, 0, none⟩)] w (Mut w (some sb) (DrawR B0 sb (PairA 7 w.heap.size))) := by
 have hsb := hs.lt
 have hbB := Box3.made w 39 (.slice none 0 0) (.slice none 0 0) (.slice none 0 0)
 have hg0 : Ext w (w.alloc (.cells #[.slice none 0 0, .slice none 0 0, .slice none 0 0] 39)) := World.grownBy_alloc _ _ _
 have hs0 : (w.alloc (.cells #[.slice none 0 0, .slice none 0 0, .slice none 0 0] 39)).heap.size = w.heap.size + 1 := by simp
 have hsW := Lib.hid (hs.ext hg0); clear hs
 go_enter Tryz.func199, Tryz.ntmps199
 go_wp2_with fail
 generalize w.alloc (.cells #[.slice none 0 0, .slice none 0 0, .slice none 0 0] 39) = w0 at *
 have hs00 : w.heap.size + 1 ≤ w0.heap.size := by omega
 clear hs0
 refine Calls.mono (l01Next_ok B0 w0 sb 15 hsW.out) ?_
 rintro e3 w3 ⟨v3, rfl, hg3, x, rfl, _, hx1, hs3⟩
 have hb3 := hbB.moved hg3 (by omega)
 have hgw3 := grown_trans (grown_of_ext (some sb) hg0) hg3
 have hsz3 := hg3.size
 have HS := Lib.hid hs3; clear hs3 hg3 hbB hg0 hsW hx1
 by_cases hx0 : x = 0
 ·subst hx0
  go_wp2_with fail
  refine Calls.mono (l12Pair_ok B0 w3 sb 243 (by omega) HS.out) ?_
  rintro e4 w4 ⟨v4, rfl, hg4, ⟨uo, up, uc, rv, R, rfl, hRl, hR, hR1⟩, hs4⟩
  obtain ⟨y1, m1, k1, hy1⟩ : ∃ a n c, uo = .slice a n c := by obtain ⟨a, c, e, _⟩ := hR.o.shape; exact ⟨_, _, _, e⟩
  obtain ⟨y2, m2, k2, hy2⟩ : ∃ a n c, up = .slice a n c := by obtain ⟨a, c, e, _⟩ := Sl.shape hR.p; exact ⟨_, _, _, e⟩
  obtain ⟨y3, m3, k3, hy3⟩ : ∃ a n c, uc = .slice a n c := by obtain ⟨a, c, e, _⟩ := Sl.shape hR.c; exact ⟨_, _, _, e⟩
  obtain ⟨ra, rn, rc, rfl⟩ := hR1.shape
  subst hy1 hy2 hy3
  have hb4 := hb3.moved hg4 (by omega)
  have hgw4 := grown_trans hgw3 hg4
  have hs44 := hg4.size
  obtain ⟨b0, b1, b2, b3, b4⟩ := id hb4
  have hT := grown_set3 w4 w.heap.size (.slice y1 m1 k1) (.slice y2 m2 k2) (.slice y3 m3 k3)
  have hA := World.grownBy_alloc (((w4.setCell ⟨w.heap.size, 0, none⟩ (.slice y1 m1 k1)).setCell ⟨w.heap.size, 1, none⟩ (.slice y2 m2 k2)).setCell ⟨w.heap.size, 2, none⟩ (.slice y3 m3 k3)) (.cells #[.slice y1 m1 k1, .slice y2 m2 k2, .slice y3 m3 k3] 39) none
  have hZ := (hb4.all (.slice y1 m1 k1) (.slice y2 m2 k2) (.slice y3 m3 k3)).ext hA
  obtain ⟨-, z0, z1, z2, -⟩ := id hZ
  have hin : ∀ k, some w.heap.size = some k → k < w3.heap.size := fun k hk => by have := Option.some.inj hk; omega
  have hend : Mut w (some sb) (DrawR B0 sb (PairA 7 w.heap.size)) (.returned (.tuple #[.agg #[.slice y1 m1 k1, .slice y2 m2 k2, .slice y3 m3 k3], .slice ra rn rc])) ((((w4.setCell ⟨w.heap.size, 0, none⟩ (.slice y1 m1 k1)).setCell ⟨w.heap.size, 1, none⟩ (.slice y2 m2 k2)).setCell ⟨w.heap.size, 2, none⟩ (.slice y3 m3 k3)).alloc (.cells #[.slice y1 m1 k1, .slice y2 m2 k2, .slice y3 m3 k3] 39)) :=
   ⟨_, rfl, grown_trans (grown_own hgw4 hT (fun j hj hlt => by have := Option.some.inj hj; omega)) (grown_of_ext (some sb) hA), ⟨_, _, _, _, R, rfl, hRl, ((hR.keptB hT hin).ext hA).low (by omega), ((hR1.kept hT hin).kept hA (fun k hk => by cases hk)).low (by omega)⟩, (hs4.own hT (fun k hk => by have := Option.some.inj hk; omega)).ext hA⟩
  have HE := Lib.hid hend; clear hend hT hA hZ hb4 hgw4 hg4 hR hR1 hs4 hRl
  go_wp2_with fail
  refine bodyPost_ret (v := .tuple #[.agg #[.slice y1 m1 k1, .slice y2 m2 k2, .slice y3 m3 k3], .slice ra rn rc]) (by simp [results, Tryz.results199, go_sem, z0, z1, z2]) rfl ?_
  exact HE.out
 have hxb0 : (x == 0) = false := by simp [hx0]
 clear hx0
 go_wp2_with fail
 refine Calls.mono (l12Pair_ok B0 w3 sb 48 (by omega) HS.out) ?_
 rintro e4 w4 ⟨v4, rfl, hg4, ⟨uo, up, uc, rv, R, rfl, hRl, hR, hR1⟩, hs4⟩
 obtain ⟨y1, m1, k1, hy1⟩ : ∃ a n c, uo = .slice a n c := by obtain ⟨a, c, e, _⟩ := hR.o.shape; exact ⟨_, _, _, e⟩
 obtain ⟨y2, m2, k2, hy2⟩ : ∃ a n c, up = .slice a n c := by obtain ⟨a, c, e, _⟩ := Sl.shape hR.p; exact ⟨_, _, _, e⟩
 obtain ⟨y3, m3, k3, hy3⟩ : ∃ a n c, uc = .slice a n c := by obtain ⟨a, c, e, _⟩ := Sl.shape hR.c; exact ⟨_, _, _, e⟩
 obtain ⟨ra, rn, rc, rfl⟩ := hR1.shape
 subst hy1 hy2 hy3
 have hb4 := hb3.moved hg4 (by omega)
 have hgw4 := grown_trans hgw3 hg4
 have hs44 := hg4.size
 obtain ⟨b0, b1, b2, b3, b4⟩ := id hb4
 have hT := grown_set3 w4 w.heap.size (.slice y1 m1 k1) (.slice y2 m2 k2) (.slice y3 m3 k3)
 have hA := World.grownBy_alloc (((w4.setCell ⟨w.heap.size, 0, none⟩ (.slice y1 m1 k1)).setCell ⟨w.heap.size, 1, none⟩ (.slice y2 m2 k2)).setCell ⟨w.heap.size, 2, none⟩ (.slice y3 m3 k3)) (.cells #[.slice y1 m1 k1, .slice y2 m2 k2, .slice y3 m3 k3] 39) none
 have hZ := (hb4.all (.slice y1 m1 k1) (.slice y2 m2 k2) (.slice y3 m3 k3)).ext hA
 obtain ⟨-, z0, z1, z2, -⟩ := id hZ
 have hin : ∀ k, some w.heap.size = some k → k < w3.heap.size := fun k hk => by have := Option.some.inj hk; omega
 have hend : Mut w (some sb) (DrawR B0 sb (PairA 7 w.heap.size)) (.returned (.tuple #[.agg #[.slice y1 m1 k1, .slice y2 m2 k2, .slice y3 m3 k3], .slice ra rn rc])) ((((w4.setCell ⟨w.heap.size, 0, none⟩ (.slice y1 m1 k1)).setCell ⟨w.heap.size, 1, none⟩ (.slice y2 m2 k2)).setCell ⟨w.heap.size, 2, none⟩ (.slice y3 m3 k3)).alloc (.cells #[.slice y1 m1 k1, .slice y2 m2 k2, .slice y3 m3 k3] 39)) :=
  ⟨_, rfl, grown_trans (grown_own hgw4 hT (fun j hj hlt => by have := Option.some.inj hj; omega)) (grown_of_ext (some sb) hA), ⟨_, _, _, _, R, rfl, hRl, ((hR.keptB hT hin).ext hA).low (by omega), ((hR1.kept hT hin).kept hA (fun k hk => by cases hk)).low (by omega)⟩, (hs4.own hT (fun k hk => by have := Option.some.inj hk; omega)).ext hA⟩
 have HE := Lib.hid hend; clear hend hT hA hZ hb4 hgw4 hg4 hR hR1 hs4 hRl
 go_wp2_with fail
 refine bodyPost_ret (v := .tuple #[.agg #[.slice y1 m1 k1, .slice y2 m2 k2, .slice y3 m3 k3], .slice ra rn rc]) (by simp [results, Tryz.results199, go_sem, z0, z1, z2]) rfl ?_
 exact HE.out
end Go.Proofs.YtmjkoejegfjbbaaGreat
namespace Go.Proofs.YtmjkoejegfjbbaaGreat
open Go.RowKit
attribute [local go_sem ↓] Go.wp_at_zero Go.wp_at_succ
set_option maxRecDepth 100000 in
set_option maxHeartbeats 8000000 in
theorem DrawCosetAction_ok (w : World) (cv : Value) (bs : List Int) (S : Nat → Prop) (hb : Bytes S w cv bs) :
  Calls Tryz.prog 77 #[cv] w (Ret w (PairX 7 w.heap.size)) := by
 obtain ⟨a, cap, rfl, _, _⟩ := Sl.shape hb
 have hbB := Box3.made w 39 (.slice none 0 0) (.slice none 0 0) (.slice none 0 0)
 have hg0 : Ext w (w.alloc (.cells #[.slice none 0 0, .slice none 0 0, .slice none 0 0] 39)) := World.grownBy_alloc _ _ _
 have hs0 : (w.alloc (.cells #[.slice none 0 0, .slice none 0 0, .slice none 0 0] 39)).heap.size = w.heap.size + 1 := by simp
 have hb0 := Bytes.ext hb hg0
 go_enter Tryz.func77, Tryz.ntmps77
 go_wp2_with fail
 generalize w.alloc (.cells #[.slice none 0 0, .slice none 0 0, .slice none 0 0] 39) = w0 at *
 have hs00 : w.heap.size + 1 ≤ w0.heap.size := by omega
 clear hs0
 refine Calls.mono (l01From_ok w0 _ bs S hb0) ?_
 rintro e0 wS ⟨v0, rfl, hgS, rfl, hsS⟩
 have hzS : w0.heap.size + 1 ≤ wS.heap.size := by have := hsS.lt; omega
 have hbS := hbB.ext hgS
 obtain ⟨sb, hsb⟩ : ∃ sb, sb = w0.heap.size := ⟨_, rfl⟩
 rw [← hsb] at hsS
 have hsb1 : w.heap.size + 1 ≤ sb ∧ sb + 1 ≤ wS.heap.size := by omega
 have hgw0 := grown_trans hg0 hgS
 have HSB := Lib.hid hsb
 clear hbB hb0 hg0 hgS hzS hs00
 go_wp2_with fail
 rw [← HSB.out]
 refine Calls.mono (l14Pair_ok (sb + 1) wS sb (by omega) (by rw [HSB.out]; rw [HSB.out] at hsS; exact hsS)) ?_
 rintro e1 w1 ⟨v1, rfl, hg1, ⟨vo, vp, vc, rv, Q, rfl, hQl, hQ, hR1⟩, hs1⟩
 clear hsb
 obtain ⟨a1, n1, c1, hy1⟩ : ∃ a n c, vo = .slice a n c := by obtain ⟨a, c, e, _⟩ := hQ.o.shape; exact ⟨_, _, _, e⟩
 obtain ⟨a2, n2, c2, hy2⟩ : ∃ a n c, vp = .slice a n c := by obtain ⟨a, c, e, _⟩ := Sl.shape hQ.p; exact ⟨_, _, _, e⟩
 obtain ⟨a3, n3, c3, hy3⟩ : ∃ a n c, vc = .slice a n c := by obtain ⟨a, c, e, _⟩ := Sl.shape hQ.c; exact ⟨_, _, _, e⟩
 obtain ⟨ra, rn, rc, rfl⟩ := hR1.shape
 subst hy1 hy2 hy3
 have hgq : Ext w1 (w1.alloc (.cells #[.slice a1 n1 c1, .slice a2 n2 c2, .slice a3 n3 c3] 39)) := World.grownBy_alloc _ _ _
 have hbQ := Box3.made w1 39 (.slice a1 n1 c1) (.slice a2 n2 c2) (.slice a3 n3 c3)
 obtain ⟨pb, hpb⟩ : ∃ pb, pb = w1.heap.size := ⟨_, rfl⟩
 rw [← hpb] at hbQ
 have hs1' := hg1.size
 have hQ2 := hQ.ext hgq
 have hR2 := hR1.kept hgq (fun k hk => by cases hk)
 have hb1 := hbS.moved hg1 (by omega)
 have hb2 := hb1.ext hgq
 have hs2 := hs1.ext hgq
 have hgw2 : Ext w (w1.alloc (.cells #[.slice a1 n1 c1, .slice a2 n2 c2, .slice a3 n3 c3] 39)) := grown_trans (grown_own hgw0 hg1 (fun j hj hlt => by have := Option.some.inj hj; omega)) hgq
 have hzq : w1.heap.size ≤ (w1.alloc (.cells #[.slice a1 n1 c1, .slice a2 n2 c2, .slice a3 n3 c3] 39)).heap.size := hgq.size
 have HP := Lib.hid hpb
 have HQ := Lib.hid (And.intro hQ2 (And.intro hs2 (And.intro hgw2 (And.intro hQl hR2)))); clear hQ hQ2 hs2 hs1 hg1 hbS hb1 hgq hgw2 hQl hR1 hR2
 go_wp2_with fail
 rw [← HP.out]
 generalize w1.alloc (.cells #[.slice a1 n1 c1, .slice a2 n2 c2, .slice a3 n3 c3] 39) = w2 at *
 have hpw : wS.heap.size ≤ pb := by omega
 clear hpb HP
 obtain ⟨q0, q1, q2, q3, q4⟩ := id hbQ
 have e0 : ∀ w', NearS w2 sb w.heap.size w' → w'.cell? ⟨pb, 0, none⟩ = some (.slice a1 n1 c1) := fun w' h => h.cell q1 (by simp; omega) (by simp; omega)
 have e1 : ∀ w', NearS w2 sb w.heap.size w' → w'.cell? ⟨pb, 1, none⟩ = some (.slice a2 n2 c2) := fun w' h => h.cell q2 (by simp; omega) (by simp; omega)
 have e2 : ∀ w', NearS w2 sb w.heap.size w' → w'.cell? ⟨pb, 2, none⟩ = some (.slice a3 n3 c3) := fun w' h => h.cell q3 (by simp; omega) (by simp; omega)
 clear q0 q1 q2 q3 q4 hbQ
 go_region_held3 (fun w' => NearS w2 sb w.heap.size w') (first | exact NearS.ext (grown_drew _ _) | exact NearS.of (by assumption) | exact NearS.two hg3 (grown_set3 _ _ _ _ _) | assumption)
  (first
   | (go_at_call 200; refine Calls.mono (l07Vectors_ok (sb + 1) w2.drew sb _ Q _ (by have := (grown_drew w2 none).size; omega) (HQ.out.2.1.ext (grown_drew _ _)) ⟨_, _, _, rfl, HQ.out.1.ext (grown_drew _ _)⟩ (fun k hk e => by have hk : wS.heap.size ≤ k := hk; omega) (by have := HQ.out.2.2.2.1; omega)) ?_; rintro e3 w3 ⟨sv, rfl, hg3a, ⟨xa, xc, X, rfl, hXl, hX⟩, hs3⟩; have hg3 : w2.grownBy w3 (some sb) := grown_trans (grown_of_ext (some sb) (grown_drew _ _)) hg3a; have hb3 := hb2.moved hg3 (by omega); obtain ⟨b0, b1, b2, b3, b4⟩ := id hb3))
 have hdz := (grown_drew w2 none).size
 have hZ := hb3.all (.slice a1 n1 c1) (.slice a2 n2 c2) (.slice a3 n3 c3)
 obtain ⟨-, z0, z1, z2, -⟩ := id hZ
 have hP3 := HQ.out.1.keptB hg3 (fun k hk => by have := Option.some.inj hk; omega)
 have hR3 := HQ.out.2.2.2.2.kept hg3 (fun k hk => by have := Option.some.inj hk; omega)
 have hT := grown_set3 w3 w.heap.size (.slice a1 n1 c1) (.slice a2 n2 c2) (.slice a3 n3 c3)
 have hin : ∀ k, some w.heap.size = some k → k < wS.heap.size := fun k hk => by have := Option.some.inj hk; omega
 have hXi : Ints (From (w.heap.size + 1)) w3 (.slice xa X.length xc) X := ints_of_own hX (by omega) (fun k hk => by have := (hX.lt k hk).1; show w.heap.size + 1 ≤ k; omega)
 have hXT : Ints (From w.heap.size) (((w3.setCell ⟨w.heap.size, 0, none⟩ (.slice a1 n1 c1)).setCell ⟨w.heap.size, 1, none⟩ (.slice a2 n2 c2)).setCell ⟨w.heap.size, 2, none⟩ (.slice a3 n3 c3)) (.slice xa X.length xc) X := Ints.mono hXi (frame_of hT (fun k hk _ => ⟨by have hk : w.heap.size + 1 ≤ k := hk; show w.heap.size ≤ k; omega, fun e => by have := Option.some.inj e; have hk : w.heap.size + 1 ≤ k := hk; omega⟩))
 have hend : Ret w (PairX 7 w.heap.size) (.returned (.tuple #[.agg #[.slice a1 n1 c1, .slice a2 n2 c2, .slice a3 n3 c3], .slice ra rn rc, .slice xa X.length xc])) (((w3.setCell ⟨w.heap.size, 0, none⟩ (.slice a1 n1 c1)).setCell ⟨w.heap.size, 1, none⟩ (.slice a2 n2 c2)).setCell ⟨w.heap.size, 2, none⟩ (.slice a3 n3 c3)) :=
  ⟨_, rfl, grown_own (grown_own HQ.out.2.2.1 hg3 (fun j hj hlt => by have := Option.some.inj hj; omega)) hT (fun j hj hlt => by have := Option.some.inj hj; omega), _, _, _, _, _, Q, rfl, HQ.out.2.2.2.1, (hP3.keptB hT hin).low (by omega), (hR3.kept hT hin).low (by omega), X, hXl, hXT⟩
 have HE := Lib.hid hend; clear hend hT hZ hP3 hR3 hXi hXT HQ hg3 hg3a hb2 hb3 hX hs3 e0 e1 e2
 go_wp2_with fail
 refine bodyPost_ret (v := .tuple #[.agg #[.slice a1 n1 c1, .slice a2 n2 c2, .slice a3 n3 c3], .slice ra rn rc, .slice xa X.length xc]) (by simp [results, Tryz.results77, go_sem, z0, z1, z2]) rfl ?_
 exact HE.out
end Go.Proofs.YtmjkoejegfjbbaaGreat
namespace Go.Proofs.YtmjkoejegfjbbaaGreat
open Go.RowKit
section
variable {P : Pr} (G : Grp P)
include G
theorem Grp.order_elems {H : List Int → Prop} (S : Sub P H) : prodU P (cseq P H) (cseq P H).length = (elemsIn P H).length := by
 rw [← G.els_sorted S, (sortL_perm _).length_eq]
 exact (elsP_len G.v (G.seq_facts S).1 _ (Nat.le_refl _)).symm
omit G in
theorem elemsIn_nodup {P : Pr} (hP : Valid P) (H : List Int → Prop) : (elemsIn P H).Nodup :=
 List.nodup_iff_pairwise_ne.2 ((elemsIn_asc hP H).imp (fun {a b} h e => by subst e; omega))
end
section
variable {P : Pr} (G : Grp P)
include G
end
end Go.Proofs.YtmjkoejegfjbbaaGreat
namespace Go.Proofs.YtmjkoejegfjbbaaGreat
def El {P : Pr} (_ : Grp P) : Type := {x : List Int // Vec P.orders x}
section
variable {P : Pr} {G : Grp P}
instance : Mul (El G) := ⟨fun x y => ⟨rMul P x.1 y.1, G.mulV x.2 y.2⟩⟩
instance : One (El G) := ⟨⟨zeros P.orders.length, G.oneV⟩⟩
instance : Inv (El G) := ⟨fun x => ⟨rInv P x.1, G.invV x.2⟩⟩
theorem El.ass (x y z : El G) : x * y * z = x * (y * z) := Subtype.ext (G.ass x.2 y.2 z.2)
theorem El.ol (x : El G) : 1 * x = x := Subtype.ext (G.grp.el _ x.2)
theorem El.or (x : El G) : x * 1 = x := Subtype.ext (G.grp.er _ x.2)
theorem El.il (x : El G) : x⁻¹ * x = 1 := Subtype.ext (G.inv_mul x.2)
theorem El.ir (x : El G) : x * x⁻¹ = 1 := Subtype.ext (G.mul_inv x.2)
theorem El.ilc (x y : El G) : x⁻¹ * (x * y) = y := by rw [← El.ass, El.il, El.ol]
theorem El.irc (x y : El G) : x * (x⁻¹ * y) = y := by rw [← El.ass, El.ir, El.ol]
def ep (x : El G) : Nat → El G
 | 0 => 1
 | k + 1 => ep x k * x
theorem ep_val (x : El G) : ∀ k, (ep x k).1 = pw P x.1 k
 | 0 => rfl
 | k + 1 => by
  show rMul P (ep x k).1 x.1 = _
  rw [ep_val x k]; rfl
structure SG (H : El G → Prop) : Prop where
 one : H 1
 mul : ∀ x y, H x → H y → H (x * y)
 inv : ∀ x, H x → H x⁻¹
theorem SG.ep {H : El G → Prop} (S : SG H) {x : El G} (hx : H x) (k : Nat) : H (ep x k) := by
 induction k with
 | zero => exact S.one
 | succ k ih => exact S.mul _ _ ih hx
theorem SG.and {H K : El G → Prop} (S : SG H) (R : SG K) : SG (fun x => H x ∧ K x) :=
 ⟨⟨S.one, R.one⟩, fun _ _ h k => ⟨S.mul _ _ h.1 k.1, R.mul _ _ h.2 k.2⟩, fun _ h => ⟨S.inv _ h.1, R.inv _ h.2⟩⟩
def dT (d : Nat) (x : El G) : Prop := ∀ k, k < d → gt x.1 k = 0
theorem dT_T {d : Nat} {x : El G} : dT d x ↔ T P d x.1 := ⟨fun h => ⟨x.2, h⟩, fun h => h.2⟩
theorem dT_sg {d : Nat} (hd : d ≤ P.orders.length) : SG (dT (G := G) d) :=
 ⟨dT_T.2 (T.zeros G.v d), fun _ _ h k => dT_T.2 (G.T_mul hd (dT_T.1 h) (dT_T.1 k)), fun _ h => dT_T.2 (G.T_inv hd (dT_T.1 h))⟩
theorem dT_top {x : El G} (h : dT P.orders.length x) : x = 1 := Subtype.ext ((dT_T.1 h).top G.v)
theorem dT_up {d : Nat} {x : El G} (h : dT d x) (h0 : gt x.1 d = 0) : dT (d + 1) x := dT_T.2 ((dT_T.1 h).up h0)
theorem dT_down {d : Nat} {x : El G} (h : dT (d + 1) x) : dT d x := fun k hk => h k (by omega)
theorem dT_zero (x : El G) : dT 0 x := fun k hk => by omega
def pv (H : El G → Prop) (d : Nat) : Prop := d < P.orders.length ∧ ∃ x, H x ∧ dT d x ∧ gt x.1 d ≠ 0
theorem hit7 (q b c : Nat) (hq : q = 2 ∨ q = 3 ∨ q = 5 ∨ q = 7) (h0 : 0 < b) (h1 : b < q) (hc : c < q) : ∃ j, (j * b) % q = c := by
 have key : ∀ q, q < 8 → (q = 2 ∨ q = 3 ∨ q = 5 ∨ q = 7) → ∀ b, b < q → 0 < b → ∀ c, c < q → ∃ j, j < q ∧ (j * b) % q = c := by decide
 obtain ⟨j, _, h⟩ := key q (by omega) hq b h1 h0 c hc
 exact ⟨j, h⟩
theorem ordN (G : Grp P) {d : Nat} (hd : d < P.orders.length) : ∃ q : Nat, gt P.orders d = (q : Int) ∧ (gt P.orders d).toNat = q ∧ (q = 2 ∨ q = 3 ∨ q = 5 ∨ q = 7) := by
 have := G.v.ord d hd
 exact ⟨(gt P.orders d).toNat, by omega, rfl, by omega⟩
theorem ep_dT {d : Nat} (hd : d ≤ P.orders.length) {x : El G} (h : dT d x) (k : Nat) : dT d (ep x k) := (dT_sg hd).ep h k
theorem ep_at {d : Nat} (hd : d < P.orders.length) {x : El G} (h : dT d x) (k : Nat) : gt (ep x k).1 d = ((k : Int) * gt x.1 d) % gt P.orders d := by
 rw [ep_val]; exact G.pw_at hd (dT_T.1 h) k
theorem lead_hit {d : Nat} (hd : d < P.orders.length) {x : El G} (h : dT d x) (h0 : gt x.1 d ≠ 0) {c : Int} (hc : 0 ≤ c ∧ c < gt P.orders d) : ∃ j, gt (ep x j).1 d = c := by
 obtain ⟨q, h1, h2, h3⟩ := ordN G hd
 have hb := x.2.2 d hd
 obtain ⟨b, hbe⟩ : ∃ b : Nat, gt x.1 d = (b : Int) := ⟨(gt x.1 d).toNat, by omega⟩
 obtain ⟨e, he⟩ : ∃ e : Nat, c = (e : Int) := ⟨c.toNat, by omega⟩
 obtain ⟨j, hj⟩ := hit7 q b e h3 (by omega) (by omega) (by omega)
 refine ⟨j, ?_⟩
 rw [ep_at hd h, h1, hbe, he, ← hj, Int.natCast_emod, Int.natCast_mul]
theorem el_diff {d : Nat} (hd : d < P.orders.length) {x y : El G} (hx : dT d x) (hy : dT d y) (h : gt x.1 d = gt y.1 d) : dT (d + 1) (x⁻¹ * y) :=
 dT_T.2 (G.diff hd (dT_T.1 hx) (dT_T.1 hy) h)
theorem el_same {d : Nat} (hd : d < P.orders.length) {x y : El G} (h : dT (d + 1) (x⁻¹ * y)) : gt x.1 d = gt y.1 d := by
 have h1 := (G.right (Nat.succ_le_of_lt hd) x.2 (dT_T.1 h)).1 d (by omega)
 have h2 : rMul P x.1 (x⁻¹ * y).1 = y.1 := congrArg Subtype.val (El.irc x y)
 rw [h2] at h1
 exact h1.symm
theorem le_of_pv {H K : El G → Prop} (S : SG H) (R : SG K) (hle : ∀ x, H x → K x) (hp : ∀ d, pv K d → pv H d) : ∀ x, K x → H x := by
 have key : ∀ f d, d + f = P.orders.length → ∀ x, K x → dT d x → H x := by
  intro f
  induction f with
  | zero =>
   intro d hd x _ hT
   have : d = P.orders.length := by omega
   subst this
   rw [dT_top hT]; exact S.one
  | succ f ih =>
   intro d hd x hx hT
   by_cases h0 : gt x.1 d = 0
   ·exact ih (d + 1) (by omega) x hx (dT_up hT h0)
   ·obtain ⟨hdn, y, hy, hyT, hy0⟩ := hp d ⟨by omega, x, hx, hT, h0⟩
    obtain ⟨j, hj⟩ := lead_hit hdn hyT hy0 (x.2.2 d hdn)
    have hyj := ep_dT (Nat.le_of_lt hdn) hyT j
    have h1 := ih (d + 1) (by omega) _ (R.mul _ _ (R.inv _ (R.ep (hle _ hy) j)) hx) (el_diff hdn hyj hT hj)
    have h2 := S.mul _ _ (S.ep hy j) h1
    rwa [El.irc] at h2
 exact fun x hx => key P.orders.length 0 (by omega) x hx (dT_zero x)
theorem els_ex (G : Grp P) : ∃ l : List (El G), l.Nodup ∧ ∀ x, x ∈ l := by
 have key : ∀ m : List (List Int), m.Nodup → ∃ l : List (El G), l.Nodup ∧ ∀ x : El G, x ∈ l ↔ x.1 ∈ m := by
  intro m
  induction m with
  | nil => intro _; exact ⟨[], List.nodup_nil, fun x => by simp⟩
  | cons a m ih =>
   intro h
   obtain ⟨h1, h2⟩ := List.nodup_cons.1 h
   obtain ⟨l, hl, hm⟩ := ih h2
   by_cases ha : Vec P.orders a
   ·obtain ⟨y, hy⟩ : ∃ y : El G, y.1 = a := ⟨⟨a, ha⟩, rfl⟩
    refine ⟨y :: l, List.nodup_cons.2 ⟨fun hh => h1 (hy ▸ (hm _).1 hh), hl⟩, fun x => ?_⟩
    rw [List.mem_cons, List.mem_cons, hm x]
    exact ⟨fun hh => hh.elim (fun e => .inl (by rw [e]; exact hy)) .inr, fun hh => hh.elim (fun e => .inl (Subtype.ext (e.trans hy.symm))) .inr⟩
   ·refine ⟨l, hl, fun x => ?_⟩
    rw [hm x, List.mem_cons]
    exact ⟨.inr, fun hh => hh.elim (fun e => absurd (e ▸ x.2) ha) id⟩
 obtain ⟨l, h1, h2⟩ := key (elemsIn P (Vec P.orders)) (elemsIn_nodup G.v _)
 exact ⟨l, h1, fun x => (h2 x).2 ((elemsIn_mem G.v (fun _ h => h)) x.1 |>.2 x.2)⟩
noncomputable def els (G : Grp P) : List (El G) := Classical.choose (els_ex G)
theorem els_nodup (G : Grp P) : (els G).Nodup := (Classical.choose_spec (els_ex G)).1
theorem els_mem (G : Grp P) (x : El G) : x ∈ els G := (Classical.choose_spec (els_ex G)).2 x
open Classical in
noncomputable def elsIn (H : El G → Prop) : List (El G) := (els G).filter (fun x => decide (H x))
theorem elsIn_nodup (H : El G → Prop) : (elsIn H).Nodup := (els_nodup G).filter _
theorem elsIn_mem {H : El G → Prop} {x : El G} : x ∈ elsIn H ↔ H x := by
 classical
 unfold elsIn; rw [List.mem_filter, decide_eq_true_iff]; exact ⟨fun h => h.2, fun h => ⟨els_mem G x, h⟩⟩
noncomputable def cd (H : El G → Prop) : Nat := (elsIn H).length
theorem cd_list {H : El G → Prop} {l : List (El G)} (h1 : l.Nodup) (h2 : ∀ x, x ∈ l ↔ H x) : cd H = l.length :=
 ((List.perm_ext_iff_of_nodup (elsIn_nodup H) h1).2 (fun x => elsIn_mem.trans (h2 x).symm)).length_eq
theorem cd_congr {H K : El G → Prop} (h : ∀ x, H x ↔ K x) : cd H = cd K := by
 have : H = K := funext fun x => propext (h x)
 rw [this]
def eqv (N : El G → Prop) (x y : El G) : Prop := N (x⁻¹ * y)
theorem eqv_refl {N : El G → Prop} (S : SG N) (x : El G) : eqv N x x := by unfold eqv; rw [El.il]; exact S.one
theorem flat_len {α β : Type} (l : List α) (f : α → List β) (n : Nat) (h : ∀ x ∈ l, (f x).length = n) : (l.flatMap f).length = l.length * n := flatMap_len' l f n h
theorem cd_mul {N B : El G → Prop} (S : SG N) {ts : List (El G)} (hn : ts.Nodup) (hc : ∀ t ∈ ts, ∀ n, N n → B (t * n)) (h1 : ∀ t ∈ ts, ∀ u ∈ ts, eqv N t u → t = u) (h2 : ∀ x, B x → ∃ t ∈ ts, eqv N t x) : cd B = ts.length * cd N := by
 rw [cd_list (H := B) (l := ts.flatMap (fun t => (elsIn N).map (fun n => t * n))) ?_ ?_]
 ·exact flat_len _ _ _ (fun x _ => List.length_map ..)
 ·refine List.nodup_iff_pairwise_ne.2 (List.pairwise_flatMap.2 ⟨fun t _ => ?_, ?_⟩)
  ·rw [List.pairwise_map]
   refine (List.nodup_iff_pairwise_ne.1 (elsIn_nodup N)).imp (fun {a b} hab e => hab ?_)
   have := congrArg (fun z => t⁻¹ * z) e
   simpa only [El.ilc] using this
  ·refine (List.nodup_iff_pairwise_ne.1 hn).imp_of_mem (fun {a b} ha hb hab x hx y hy e => hab (h1 a ha b hb ?_))
   obtain ⟨n, hn1, rfl⟩ := List.mem_map.1 hx
   obtain ⟨m, hm1, rfl⟩ := List.mem_map.1 hy
   unfold eqv
   have e2 : a⁻¹ * b = n * m⁻¹ := by
    have e3 : b = a * n * m⁻¹ := by rw [e, El.ass, El.ir, El.or]
    rw [e3, El.ass, El.ilc]
   rw [e2]
   exact S.mul _ _ (elsIn_mem.1 hn1) (S.inv _ (elsIn_mem.1 hm1))
 ·intro x
  rw [List.mem_flatMap]
  constructor
  ·rintro ⟨t, ht, hx⟩
   obtain ⟨n, hn1, rfl⟩ := List.mem_map.1 hx
   exact hc t ht n (elsIn_mem.1 hn1)
  ·intro hx
   obtain ⟨t, ht, h⟩ := h2 x hx
   exact ⟨t, ht, List.mem_map.2 ⟨t⁻¹ * x, elsIn_mem.2 h, El.irc t x⟩⟩
open Classical in
noncomputable def prd (P : Pr) (Q : Nat → Prop) : Nat → Nat → Nat
 | 0, _ => 1
 | f + 1, d => (if Q d then (gt P.orders d).toNat else 1) * prd P Q f (d + 1)
theorem prd_congr {Q R : Nat → Prop} : ∀ f d, (∀ k, d ≤ k → k < d + f → (Q k ↔ R k)) → prd P Q f d = prd P R f d
 | 0, _, _ => rfl
 | f + 1, d, h => by
  have h1 := h d (by omega) (by omega)
  unfold prd
  rw [prd_congr f (d + 1) (fun k a b => h k (by omega) (by omega))]
  by_cases hq : Q d
  ·rw [if_pos hq, if_pos (h1.1 hq)]
  ·rw [if_neg hq, if_neg (fun hr => hq (h1.2 hr))]
theorem prd_mul {Q R : Nat → Prop} : ∀ f d, (∀ k, d ≤ k → k < d + f → Q k → ¬ R k) → prd P Q f d * prd P R f d = prd P (fun k => Q k ∨ R k) f d
 | 0, _, _ => rfl
 | f + 1, d, h => by
  have h1 := h d (by omega) (by omega)
  have ih := prd_mul f (d + 1) (fun k a b => h k (by omega) (by omega))
  unfold prd
  rw [← ih]
  by_cases hq : Q d
  ·rw [if_pos hq, if_neg (h1 hq), if_pos (.inl hq)]
   simp only [Nat.one_mul, Nat.mul_assoc]
  ·by_cases hr : R d
   ·rw [if_neg hq, if_pos hr, if_pos (.inr hr)]
    simp only [Nat.one_mul, Nat.mul_left_comm]
   ·rw [if_neg hq, if_neg hr, if_neg (fun hh => hh.elim hq hr)]
    simp only [Nat.one_mul]
theorem prd_pos (G : Grp P) (Q : Nat → Prop) : ∀ f d, d + f = P.orders.length → 0 < prd P Q f d
 | 0, _, _ => Nat.one_pos
 | f + 1, d, h => by
  have := prd_pos G Q f (d + 1) (by omega)
  obtain ⟨q, _, h2, h3⟩ := ordN G (show d < P.orders.length by omega)
  unfold prd
  split
  ·exact Nat.mul_pos (by omega) this
  ·rw [Nat.one_mul]; exact this
theorem cd_pv {H : El G → Prop} (S : SG H) : ∀ f d, d + f = P.orders.length → cd (fun x => H x ∧ dT d x) = prd P (pv H) f d
 | 0, d, hd => by
  have : d = P.orders.length := by omega
  subst this
  have := cd_list (H := fun x => H x ∧ dT P.orders.length x) (l := [(1 : El G)]) (by simp) (fun x => by
   rw [List.mem_singleton]
   exact ⟨fun e => by rw [e]; exact ⟨S.one, (dT_sg (Nat.le_refl _)).one⟩, fun h => dT_top h.2⟩)
  exact this
 | f + 1, d, hd => by
  have hdn : d < P.orders.length := by omega
  have ih := cd_pv S f (d + 1) (by omega)
  have S' : SG (fun x => H x ∧ dT (d + 1) x) := S.and (dT_sg (by omega))
  have Sd : SG (dT (G := G) d) := dT_sg (by omega)
  rw [prd, ← ih]
  by_cases hp : pv H d
  ·rw [if_pos hp]
   obtain ⟨_, y0, hy0, hT0, hn0⟩ := hp
   obtain ⟨q, hq1, hq2, hq3⟩ := ordN G hdn
   obtain ⟨j, hj⟩ := lead_hit hdn hT0 hn0 (c := 1) (by omega)
   obtain ⟨y, hy⟩ : ∃ y, y = ep y0 j := ⟨_, rfl⟩
   have hyH : H y := by rw [hy]; exact S.ep hy0 j
   have hyT : dT d y := by rw [hy]; exact ep_dT (by omega) hT0 j
   have hy1 : gt y.1 d = 1 := by rw [hy]; exact hj
   have hat : ∀ i, i < q → gt (ep y i).1 d = (i : Int) := fun i hi => by
    rw [ep_at hdn hyT, hy1, hq1, Int.mul_one, Int.emod_eq_of_lt (by omega) (by omega)]
   have hinj : ∀ i j, i < q → j < q → eqv (fun x => H x ∧ dT (d + 1) x) (ep y i) (ep y j) → i = j := fun i j hi hj h => by
    have := el_same hdn h.2
    rw [hat i hi, hat j hj] at this
    omega
   have hl : ((List.range q).map (fun i => ep y i)).length = (gt P.orders d).toNat := by rw [List.length_map, List.length_range, hq2]
   rw [← hl]
   refine cd_mul S' ?_ ?_ ?_ ?_
   ·refine List.nodup_iff_pairwise_ne.2 ?_
    rw [List.pairwise_map]
    refine (List.nodup_iff_pairwise_ne.1 List.nodup_range).imp_of_mem (fun {a b} ha hb hab e => hab (hinj a b (List.mem_range.1 ha) (List.mem_range.1 hb) ?_))
    rw [e]; exact eqv_refl S' _
   ·intro t ht n hn
    obtain ⟨i, _, rfl⟩ := List.mem_map.1 ht
    exact ⟨S.mul _ _ (S.ep hyH i) hn.1, Sd.mul _ _ (Sd.ep hyT i) (dT_down hn.2)⟩
   ·intro t ht u hu h
    obtain ⟨i, hi, rfl⟩ := List.mem_map.1 ht
    obtain ⟨k, hk, rfl⟩ := List.mem_map.1 hu
    rw [hinj i k (List.mem_range.1 hi) (List.mem_range.1 hk) h]
   ·intro x hx
    have hb := x.2.2 d hdn
    refine ⟨ep y (gt x.1 d).toNat, List.mem_map.2 ⟨_, List.mem_range.2 (by omega), rfl⟩, S.mul _ _ (S.inv _ (S.ep hyH _)) hx.1, el_diff hdn (Sd.ep hyT _) hx.2 ?_⟩
    rw [hat _ (by omega)]; omega
  ·rw [if_neg hp, Nat.one_mul]
   exact cd_congr (fun x => ⟨fun h => ⟨h.1, dT_up h.2 (Classical.byContradiction fun h0 => hp ⟨hdn, x, h.1, h.2, h0⟩)⟩, fun h => ⟨h.1, dT_down h.2⟩⟩)
theorem cd_eq {H : El G → Prop} (S : SG H) : cd H = prd P (pv H) P.orders.length 0 := by
 rw [← cd_pv S _ _ (Nat.zero_add _)]
 exact cd_congr (fun x => ⟨fun h => ⟨h, dT_zero x⟩, fun h => h.1⟩)
end
end Go.Proofs.YtmjkoejegfjbbaaGreat
namespace Go.Proofs.YtmjkoejegfjbbaaGreat
open Go.RowKit
open Classical
variable {P : Pr} {G : Grp P}
structure LRep (K : El G → Prop) (L : List (El G)) : Prop where
 nd : L.Nodup
 one : ∀ t ∈ L, ∀ u ∈ L, eqv K t u → t = u
 all : ∀ g, ∃ t ∈ L, eqv K t g
end Go.Proofs.YtmjkoejegfjbbaaGreat
namespace Go.Proofs.YtmjkoejegfjbbaaGreat
open Go.RowKit
theorem rowsOne {B : Nat} {w2 : World} {u : Value} {y : List Int} (hu : OwnIn (From B) w2 u y) (hB : B ≤ w2.heap.size) : RowsO B (w2.alloc (.cells #[u] 36)) (.slice (some ⟨w2.heap.size, 0, none⟩) 1 1) [y] := by
 have hga : Ext w2 (w2.alloc (.cells #[u] 36)) := World.grownBy_alloc _ _ _
 refine ⟨[u], fun _ k => B ≤ k ∧ k < w2.heap.size, rfl, World.ownsRow_lit w2 #[u] 1 hB (by decide) rfl, fun i k hi hk => ?_, fun i j k hi hj _ _ => ?_, fun i hi => ?_⟩
 ·exact ⟨hk.1, fun e => by have := own_blk e; omega, Nat.lt_of_lt_of_le hk.2 hga.size⟩
 ·simp at hi hj; omega
 ·have : i = 0 := by simpa using hi
  subst this
  exact rdOwn.mono hu (fun k hk hkl => ⟨⟨hk, hkl⟩, Nat.lt_of_lt_of_le hkl hga.size, hga.block k hkl (by simp)⟩)
end Go.Proofs.YtmjkoejegfjbbaaGreat
namespace Go.Proofs.YtmjkoejegfjbbaaGreat
open Go.RowKit
theorem expZ_neg (o e : List Int) : expZB o e (-1) = expB o e := by
 unfold expZB expB
 congr 1
 congr 1
 funext i
 have : decide ((i : Int) ≤ -1) = false := by simp; omega
 rw [this]; simp
theorem l10Element_ok (P : Pr) (hP : Valid P) (w : World) (pv xv : Value) (X : List Int) (Sp Sx : Nat → Prop) (hpv : PresV Sp w pv P) (hx : Ints Sx w xv X) :
  Calls Tryz.prog 208 #[pv, xv] w (Ret w fun _ v => v = .bool (expB P.orders X)) := by
 obtain ⟨vo, vp, vc, rfl, h3⟩ := hpv
 have hp0 := PresP.box h3 39
 have hg0 : Ext w (w.alloc (.cells #[vo, vp, vc] 39)) := World.grownBy_alloc _ _ _
 have hx0 := hx.ext hg0
 obtain ⟨ao, capo, hco, hoi⟩ := hp0.ordAt
 obtain ⟨ax, capx, rfl, _, _⟩ := hx.shape
 have hcon := l07Exponents_ok _ _ _ P.orders X (-1) Any Sx hoi hx0 (fun i hi => by have := hP.ord7 i hi; omega)
 rw [expZ_neg] at hcon
 go_enter Tryz.func208, Tryz.ntmps208
 go_wp2_with fail
 refine Calls.mono hcon ?_
 rintro e1 w1 ⟨rfl, hd⟩
 clear hcon
 go_wp2
 go_ret
 exact ⟨_, rfl, grown_trans hg0 hd.ext, rfl⟩
set_option maxHeartbeats 1000000 in
theorem l10Elements_ok (P : Pr) (hP : Valid P) (w : World) (pv lv : Value) (L : List (List Int)) (Sp Sr : Nat → Prop) (hpv : PresV Sp w pv P) (hl : Rows2 Sr w lv L) :
  Calls Tryz.prog 343 #[pv, lv] w (Ret w fun _ v => ∃ r : Bool, v = .bool r ∧ (r = true ↔ ∀ x ∈ L, Vec P.orders x)) := by
 obtain ⟨vo, vp, vc, rfl, h3⟩ := hpv
 have hp0 := PresP.box h3 39
 have hg0 : Ext w (w.alloc (.cells #[vo, vp, vc] 39)) := World.grownBy_alloc _ _ _
 have hl0 := Rows2.ext hl hg0
 obtain ⟨al, capl, rfl, _, _⟩ := Sl.shape hl
 obtain ⟨vo6, vp6, vc6, _, _, hc0, hc1, hc2, h36⟩ := hp0.at
 simp only [Nat.zero_add] at hc1 hc2
 clear hp0 hl
 go_enter Tryz.func343, Tryz.ntmps343
 go_wp2
 generalize hw0 : w.alloc (.cells #[vo, vp, vc] 39) = w0 at *
 clear hw0
 go_loopw [5] (fun iv wr => ∃ i : Nat, iv = .int .i64 i ∧ i ≤ L.length ∧ Ext w0 wr ∧ Hid (∀ j, j < i → Vec P.orders (gt L j))) (fun iv _ => L.length - (intOf iv).toNat)
 case atStart => exact ⟨0, rfl, by omega, Ext.refl _, Lib.hid (fun j h => by omega)⟩
 case round =>
  obtain ⟨i, rfl, hi, hg, hV⟩ := hrel
  by_cases hlt : i < L.length
  ·have hlt' : (i : Int) < L.length := by omega
   obtain ⟨b, off, a2, cap2, rfl, _, _, hc, hr⟩ := Rows2.at (Rows2.ext hl0 hg) i hlt
   have e1 : ∀ w', Ext wr w' → w'.cell? ⟨w.heap.size, 0, none⟩ = some vo6 := fun w' h => (grown_trans hg h).cell hc0 (by simp)
   have e2 : ∀ w', Ext wr w' → w'.cell? ⟨w.heap.size, 1, none⟩ = some vp6 := fun w' h => (grown_trans hg h).cell hc1 (by simp)
   have e3 : ∀ w', Ext wr w' → w'.cell? ⟨w.heap.size, 2, none⟩ = some vc6 := fun w' h => (grown_trans hg h).cell hc2 (by simp)
   have e4 : ∀ w', Ext wr w' → w'.cell? ⟨b, off + i, none⟩ = some (.slice a2 (gt L i).length cap2) := fun w' h => h.cell hc (by simp)
   clear hc
   cases hx : expB P.orders (gt L i) with
   | true =>
    have HX := Lib.hid (expB_vec.1 hx)
    have HX2 := Lib.hid hx; clear hx
    go_wp2
    go_region_held3 (fun w' => Ext wr w') (first | exact grown_drew _ _ | assumption)
     (first
      | (go_at_call 208; refine Calls.mono (Calls.rel (w0 := wr) (by assumption) (l10Element_ok P hP _ _ _ (gt L i) Any Any ⟨_, _, _, rfl, Pres3.ext (Pres3.ext h36 hg) (by assumption)⟩ (Ints.sub (Ints.ext hr (by assumption)) (fun _ _ _ => trivial)))) ?_; rintro eA wA ⟨vA, rfl, hgA, hsA, hvA⟩; rw [HX2.out] at hvA; subst hvA))
    clear e1 e2 e3 e4
    go_wp2
    go_roundw
    case rel => exact ⟨i + 1, by go_num, by omega, grown_trans hg hgA, Lib.hid (fun j hj => by
     rcases Nat.lt_succ_iff_lt_or_eq.1 hj with h | h
     ·exact hV.out j h
     ·rw [h]; exact HX.out)⟩
    case measure => simp [intOf]; omega
   | false =>
    have hno : ¬ ∀ x ∈ L, Vec P.orders x := fun h => by
     have := expB_vec.2 (h _ (gtMem hlt))
     rw [hx] at this; cases this
    have HX := Lib.hid hno
    have HX2 := Lib.hid hx; clear hx hno
    go_wp2
    go_region_held3 (fun w' => Ext wr w') (first | exact grown_drew _ _ | assumption)
     (first
      | (go_at_call 208; refine Calls.mono (Calls.rel (w0 := wr) (by assumption) (l10Element_ok P hP _ _ _ (gt L i) Any Any ⟨_, _, _, rfl, Pres3.ext (Pres3.ext h36 hg) (by assumption)⟩ (Ints.sub (Ints.ext hr (by assumption)) (fun _ _ _ => trivial)))) ?_; rintro eA wA ⟨vA, rfl, hgA, hsA, hvA⟩; rw [HX2.out] at hvA; subst hvA))
    clear e1 e2 e3 e4
    go_wp2
    go_ret
    exact ⟨_, rfl, grown_trans hg0 (grown_trans hg hgA), false, rfl, by simp only [Bool.false_eq_true, false_iff]; exact HX.out⟩
  ·have hie : i = L.length := by omega
   subst hie
   go_wp2
   go_ret
   exact ⟨_, rfl, grown_trans hg0 hg, true, rfl, by
    simp only [true_iff]
    intro x hx
    obtain ⟨l, hl, rfl⟩ := List.getElem_of_mem hx
    rw [← gt_eq L l hl]; exact hV.out l hl⟩
set_option maxRecDepth 100000 in
set_option maxHeartbeats 2000000 in
theorem l01Same2_ok (v1 v2 : Value) (l1 l2 : List (List Int)) (w : World) (S1 S2 : Nat → Prop) (h1 : Rows2 S1 w v1 l1) (h2 : Rows2 S2 w v2 l2) :
  Calls Tryz.prog 345 #[v1, v2] w (Ret w fun _ v => v = .bool (eqB l1 l2)) := by
 obtain ⟨a, cap, rfl, _, _⟩ := Sl.shape h1
 obtain ⟨a2, cap2, rfl, _, _⟩ := Sl.shape h2
 by_cases hl : l1.length = l2.length
 ·have hd : ((l1.length : Int) != (l2.length : Int)) = false := by simp [hl]
  have hl1 : l1.length ≤ l2.length ∧ l2.length ≤ l1.length := by omega
  have HL := Lib.hid hl; clear hl
  go_enter Tryz.func345, Tryz.ntmps345
  go_wp2
  go_loopw [5] (fun i wr => ∃ k : Nat, i = .int .i64 k ∧ k ≤ l1.length ∧ Ext w wr ∧ ∀ i, i < k → gt l1 i = gt l2 i) (fun i _ => l1.length - (intOf i).toNat)
  case atStart => exact ⟨0, rfl, by omega, Ext.refl _, fun i hi => by omega⟩
  case round =>
   obtain ⟨k, rfl, hk, hg, hz⟩ := hrel
   have HZ := Lib.hid hz; clear hz
   by_cases hlt : k < l1.length
   ·obtain ⟨b, off, x1, c1, rfl, _, _, hc, hi1⟩ := Rows2.at (Rows2.ext h1 hg) k hlt
    obtain ⟨b2, off2, x2, c2, rfl, _, _, hc2, hi2⟩ := Rows2.at (Rows2.ext h2 hg) k (by omega)
    have e1 : ∀ w', Ext wr w' → w'.cell? ⟨b, off + k, none⟩ = some (.slice x1 (gt l1 k).length c1) := fun w' h => h.cell hc (by simp)
    have e2 : ∀ w', Ext wr w' → w'.cell? ⟨b2, off2 + k, none⟩ = some (.slice x2 (gt l2 k).length c2) := fun w' h => h.cell hc2 (by simp)
    clear hc hc2
    have hlt2 : k < l2.length := by omega
    go_wp2
    cases hx : eqB (gt l1 k) (gt l2 k) with
    | true =>
     have hx2 := Lib.hid hx
     go_region_held3 (fun w' => Ext wr w') (first | exact grown_drew _ _ | assumption)
      (first
       | (go_at_call 296; refine Calls.mono (Calls.rel (w0 := wr) (by assumption) (l01Same_ok _ _ _ _ _ Any Any (Ints.sub (Ints.ext hi1 (by assumption)) (fun _ _ _ => trivial)) (Ints.sub (Ints.ext hi2 (by assumption)) (fun _ _ _ => trivial)))) ?_; rintro eA wA ⟨vA, rfl, hgA, hsA, rfl⟩))
     clear e1 e2
     go_wp2
     go_roundw
     case rel => exact ⟨k + 1, by go_num, by omega, grown_trans hg hgA, fun i hi => by
      rcases Nat.lt_or_ge i k with h1 | h1
      ·exact HZ.out i h1
      ·have : i = k := by omega
       rw [this]; exact eqB_true.1 hx2.out⟩
     case measure => simp [intOf]; omega
    | false =>
     have hx2 := Lib.hid hx
     go_region_held3 (fun w' => Ext wr w') (first | exact grown_drew _ _ | assumption)
      (first
       | (go_at_call 296; refine Calls.mono (Calls.rel (w0 := wr) (by assumption) (l01Same_ok _ _ _ _ _ Any Any (Ints.sub (Ints.ext hi1 (by assumption)) (fun _ _ _ => trivial)) (Ints.sub (Ints.ext hi2 (by assumption)) (fun _ _ _ => trivial)))) ?_; rintro eA wA ⟨vA, rfl, hgA, hsA, rfl⟩))
     clear e1 e2
     go_wp2
     go_ret
     exact ⟨_, rfl, grown_trans hg hgA, by rw [eqB_false_at (hx := eqB_false.1 hx2.out)]; rfl⟩
   ·go_wp2
    go_ret
    exact ⟨_, rfl, hg, by rw [eqB_true.2 (ext_gt HL.out (fun i hi => HZ.out i (by omega)))]; rfl⟩
 ·have hd : ((l1.length : Int) != (l2.length : Int)) = true := by simp; omega
  have HL := Lib.hid hl; clear hl
  go_enter Tryz.func345, Tryz.ntmps345
  go_wp2
  go_ret
  exact ⟨_, rfl, Ext.refl _, by rw [eqB_false.2 (fun e => HL.out (by rw [e]))]; rfl⟩
theorem subB_iff {P : Pr} (G : Grp P) (u : List (List Int)) : SubB P u ↔ u.length ≤ P.orders.length ∧ (∀ x ∈ u, Vec P.orders x) ∧ cseq P (genP P (fun x => x ∈ u)) = u :=
 ⟨fun h => ⟨G.sub_len h, h.1, h.2.symm⟩, fun h => ⟨h.2.1, h.2.2.symm⟩⟩
set_option maxRecDepth 100000 in
set_option maxHeartbeats 4000000 in
theorem l12Is_ok (P : Pr) (G : Grp P) (w : World) (pv uv : Value) (U : List (List Int)) (Sp Su : Nat → Prop) (hpv : PresV Sp w pv P) (hu : Rows2 Su w uv U) :
  Calls Tryz.prog 328 #[pv, uv] w (Ret w fun _ v => ∃ r : Bool, v = .bool r ∧ (r = true ↔ SubB P U)) := by
 have hP := G.v
 have hn6 := hP.n6
 obtain ⟨vo, vp, vc, rfl, h3⟩ := hpv
 have hp0 := PresP.box h3 39
 have hg0 : Ext w (w.alloc (.cells #[vo, vp, vc] 39)) := World.grownBy_alloc _ _ _
 obtain ⟨vo6, vp6, vc6, _, _, hc0, hc1, hc2, h36⟩ := hp0.at
 simp only [Nat.zero_add] at hc1 hc2
 obtain ⟨ao, capo, rfl, _, _⟩ := h36.o.shape
 have hu0 := Rows2.ext hu hg0
 obtain ⟨au, capu, rfl, _, _⟩ := Sl.shape hu
 clear hp0 hu
 have hiff := subB_iff G U
 go_enter Tryz.func328, Tryz.ntmps328
 by_cases hl : U.length ≤ P.orders.length
 ·have hle : (U.length : Int) ≤ P.orders.length := by omega
  have hE := l10Elements_ok P hP (w.alloc (.cells #[vo, vp, vc] 39)) _ _ U Any Su ⟨_, _, _, rfl, h36⟩ hu0
  go_wp2_with fail
  generalize hw0 : w.alloc (.cells #[vo, vp, vc] 39) = w0 at *
  clear hw0
  refine Calls.mono hE ?_
  rintro e1 w1 ⟨v1, rfl, hg1, r1, rfl, hr1⟩
  clear hE
  have hb0 := hg1.cell hc0 (by simp)
  have hb1 := hg1.cell hc1 (by simp)
  have hb2 := hg1.cell hc2 (by simp)
  cases r1 with
  | false =>
   have hno : ¬ SubB P U := fun h => by have := hr1.2 (hiff.1 h).2.1; cases this
   have HN := Lib.hid hno; clear hno hiff hr1 hc0 hc1 hc2
   go_wp2
   go_ret
   exact ⟨_, rfl, grown_trans hg0 hg1, false, rfl, by simp only [Bool.false_eq_true, false_iff]; exact HN.out⟩
  | true =>
   have hV := hr1.1 rfl
   have HI := Lib.hid (And.intro hiff hV); clear hiff hV hr1 hc0 hc1 hc2
   go_wp2_with fail
   clear hb0 hb1 hb2
   refine Calls.mono (l12Close_ok P G w1 _ _ U Any Su ⟨_, _, _, rfl, Pres3.ext h36 hg1⟩ (Rows2.ext hu0 hg1) HI.out.2 (by omega)) ?_
   rintro e2 w2 ⟨v2, rfl, hg2, hR2⟩
   obtain ⟨a2, cap2, rfl, _, _⟩ := Sl.shape hR2
   go_wp2_with fail
   refine Calls.mono (l01Same2_ok _ _ _ U w2 _ _ hR2 (Rows2.ext (Rows2.ext hu0 hg1) hg2)) ?_
   rintro e3 w3 ⟨v3, rfl, hg3, rfl⟩
   go_wp2
   go_ret
   exact ⟨_, rfl, grown_trans hg0 (grown_trans hg1 (grown_trans hg2 hg3)), _, rfl, by
    rw [eqB_true, HI.out.1]
    exact ⟨fun h => ⟨hl, HI.out.2, h⟩, fun h => h.2.2⟩⟩
 ·have hle : ¬ (U.length : Int) ≤ P.orders.length := by omega
  have hno : ¬ SubB P U := fun h => hl (hiff.1 h).1
  have HN := Lib.hid hno; clear hno hiff hl
  go_wp2
  go_ret
  exact ⟨_, rfl, hg0, .inl ⟨rfl, HN.out⟩⟩
set_option maxRecDepth 100000 in
set_option maxHeartbeats 2000000 in
theorem sIsSubgroup_ok (P : Pr) (w : World) (pv uv : Value) (U : List (List Int)) (Sp Su : Nat → Prop) (hpv : PresV Sp w pv P) (hu : Rows2 Su w uv U) :
  Calls Tryz.prog 207 #[pv, uv] w (Ret w fun _ v => ∃ r : Bool, v = .bool r ∧ (r = true ↔ rconsB P = true ∧ SubB P U)) := by
 obtain ⟨vo, vp, vc, rfl, h3⟩ := hpv
 have hp0 := PresP.box h3 39
 have hg0 : Ext w (w.alloc (.cells #[vo, vp, vc] 39)) := World.grownBy_alloc _ _ _
 obtain ⟨vo6, vp6, vc6, _, _, hc0, hc1, hc2, h36⟩ := hp0.at
 simp only [Nat.zero_add] at hc1 hc2
 have hu0 := Rows2.ext hu hg0
 obtain ⟨au, capu, rfl, _, _⟩ := Sl.shape hu
 clear hp0 hu
 have hE := l08Group_ok P (w.alloc (.cells #[vo, vp, vc] 39)) _ Any ⟨_, _, _, rfl, h36⟩
 go_enter Tryz.func207, Tryz.ntmps207
 go_wp2_with fail
 generalize hw0 : w.alloc (.cells #[vo, vp, vc] 39) = w0 at *
 clear hw0
 refine Calls.mono hE ?_
 rintro e1 w1 ⟨v1, rfl, hg1, rfl⟩
 clear hE
 have hb0 := hg1.cell hc0 (by simp)
 have hb1 := hg1.cell hc1 (by simp)
 have hb2 := hg1.cell hc2 (by simp)
 clear hc0 hc1 hc2
 cases hr : rconsB P with
 | false =>
  have HR := Lib.hid hr; clear hr
  go_wp2
  go_ret
  exact ⟨_, rfl, grown_trans hg0 hg1, false, rfl, by simp only [Bool.false_eq_true, false_iff]; rintro ⟨h, _⟩; rw [HR.out] at h; exact Bool.noConfusion h⟩
 | true =>
  have G := grp_of_r hr
  have HR := Lib.hid hr; clear hr
  go_wp2_with fail
  clear hb0 hb1 hb2
  refine Calls.mono (l12Is_ok P G w1 _ _ U Any Su ⟨_, _, _, rfl, Pres3.ext h36 hg1⟩ (Rows2.ext hu0 hg1)) ?_
  rintro e2 w2 ⟨v2, rfl, hg2, r2, rfl, hr2⟩
  have HR2 := Lib.hid hr2; clear hr2
  go_wp2
  go_ret
  exact ⟨_, rfl, grown_trans hg0 (grown_trans hg1 hg2), r2, rfl, ⟨fun h => ⟨HR.out, HR2.out.1 h⟩, fun h => HR2.out.2 h.2⟩⟩
end Go.Proofs.YtmjkoejegfjbbaaGreat
