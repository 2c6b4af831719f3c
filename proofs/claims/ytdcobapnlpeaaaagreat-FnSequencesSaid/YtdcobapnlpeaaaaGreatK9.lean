/-
  Drawing: spec.l07Bend (printed by gen_bend.py).
  Drawing: spec.l07Draw.
  Drawing: spec.l07Vectors, l10Some.
  The reference's closure: spec.l12Close.
  Plain: a group of order at most 32 has at most 17408 subgroups (a crude bound).
  spec.l19Sequence: the sequence of the subgroup that a mask tells.
  Drawing: spec.l12Pair and spec.l13Draw.
  Drawing: spec.l01From makes the source of numbers.
  Drawing: laws.big, spec.DrawProductSize.
  The reference's test of a sequence: spec.l10Element, l10Elements, l01Same2, l12Is, IsSubgroup, l13Two.
  Small things of the subgroup statements.
  impl.conjugates, impl.conjugateSubgroup.
  Plain: the greatest normal subgroup within a subgroup.
  The subgroup of a list.
  impl.movesInto, SubgroupNormalizer on a subgroup.
  Moebius values of the lattice: the sum over all subgroups above one; the number of generating lists.
  Plain: the elements of a consistent presentation as a type with products; subgroups, cosets, their counting.
  Plain: the conjugates of a subgroup, as sequences and as masks; the classes of conjugate subgroups.
  Plain: Hall subgroups as sequences: the orders, the way up to one, their one class, the one ascending list.
  Plain: sizes of subgroups: the size of one divides that of a greater one; the equations of the law of product sets.
  Plain: the commutator subgroup of two lists.
  Plain: a subgroup has as many conjugates as the index of its normalizer.
  laws.size9, impl.ElementAt on a group.
  DoubleCosetSize on both sides.
  What the program's public subgroup functions answer on subgroups (printed by gen_auxw.py).
  The laws' comparisons: laws.eqInt64SS, eqInt64SSS, eqPresentation.
  laws.likeInts, like29, like39: whether two lists are alike (printed by gen_like.py).
  The rows' arguments: how a presentation that came in, or a list, reads in this claim's words.
  Opening the argument of a row over bytes.
-/
import Derived.Test.YtdcobapnlpeaaaaGreatK1
import Derived.Test.YtdcobapnlpeaaaaGreatK2
import Derived.Test.YtdcobapnlpeaaaaGreatK3
import Derived.Test.YtdcobapnlpeaaaaGreatK5
import Derived.Test.YtdcobapnlpeaaaaGreatK6
import Derived.Test.YtdcobapnlpeaaaaGreatK7
import Derived.Test.YtdcobapnlpeaaaaGreatK8
import Derived.Deep.CutBlock
import Derived.StillTailTactics
import Derived.Deep.RegionHeld3
import Derived.Carry
import Derived.Deep.Slices
import Derived.ChangeSame
import Derived.ChangeSlices
import Derived.JoinedOf
import Derived.JoinedAt
import Derived.JoinedCond
import Derived.ReadAgain
namespace Go.Proofs.YtdcobapnlpeaaaaGreat
open Go.RowKit
attribute [local go_sem ↓] Go.wp_at_zero Go.wp_at_succ
theorem step_app_intH {ops : Array Oper} {o : Oper} {a : Act} {K : Act → World → Prop} {Q : Exit → Act → World → Prop} {Ex : Prop} {w : World} (hgd : o.guard = none) (s x : Operand)
  (ho : o.op = Op.call { callee := Callee.builtin Builtin.append, args := #[s, x], argTypes := #[24, 24] }) (B : Nat) (v : Value) (l : List Int) (y : Int) (hs : a.eval s = v) (hown : Own B w v l)
  (H : Nat) (hx : a.eval x = .slice (some ⟨H, 0, none⟩) 1 1) (hu : w.cell? ⟨H, 0, none⟩ = some (.int .i64 y)) (hlen : l.length ≤ 1000000) (hbase : B ≤ w.heap.size)
  (h : ∀ v' w', Own B w' v' (l ++ [y]) → w.grownBy w' v.ownBlock → K (a.put o.dst v') w') :
  if Region.wanted o (yielded ops a.tmps) = true then Oper.wp Tryz.prog o a w K Q else Ex := by
 refine step_app 24 2 (.int .i64 0) 8 und_ints Tryz.infoInt rfl (by decide) hgd s x ho B v (l.map (Value.int .i64)) hs hown.v H (.int .i64 y) hx hu rfl (by simpa using (by omega : l.length ≤ 2000000)) hbase ?_
 intro v' w' h1 h2 _
 exact h v' w' (Own.of (by rw [List.map_append]; exact h1)) h2
theorem PresX.conjOwn {F : Nat → Prop} {w : World} {vo vp vc : Value} {P : Pr} (h : PresX F w vo vp vc P) (i : Nat) (hi : i < P.conj.length) :
  ∃ g cap z, vc = .slice (some ⟨g, 0, none⟩) P.conj.length cap ∧ F g ∧ w.cell? ⟨g, i, none⟩ = some z ∧ g < w.heap.size ∧ w.frozen? ⟨g, i, none⟩ = false := by
 obtain ⟨Fo, Fp, Fc, h1, h2, h3, h4, h5, h6⟩ := h
 rcases SlI.form h3 with ⟨_, e⟩ | ⟨g, cap, rfl, hFg, hgl⟩
 ·rw [e] at hi; simp at hi
 obtain ⟨⟨z, hz⟩, hf⟩ := SlI.place h3 i hi
 exact ⟨g, cap, z, rfl, h6 g hFg, hz, hgl, hf⟩
theorem step_app_rowH {ops : Array Oper} {o : Oper} {a : Act} {K : Act → World → Prop} {Q : Exit → Act → World → Prop} {Ex : Prop} {w : World} (hgd : o.guard = none) (s x : Operand)
  (ho : o.op = Op.call { callee := Callee.builtin Builtin.append, args := #[s, x], argTypes := #[25, 25] }) (B : Nat) (v : Value) (vs : List Value) (hs : a.eval s = v) (hown : OwnV B 24 w v vs)
  (H : Nat) (u : Value) (hx : a.eval x = .slice (some ⟨H, 0, none⟩) 1 1) {a1 : Option Addr} {n1 c1 : Nat} (hu : w.cell? ⟨H, 0, none⟩ = some u ∧ u = .slice a1 n1 c1) (hlen : vs.length ≤ 1000000) (hbase : B ≤ w.heap.size)
  (h : ∀ v' w', OwnV B 24 w' v' (vs ++ [u]) → w.grownBy w' v.ownBlock → (v'.ownBlock = v.ownBlock ∨ v'.ownBlock = some w.heap.size) → K (a.put o.dst v') w') :
  if Region.wanted o (yielded ops a.tmps) = true then Oper.wp Tryz.prog o a w K Q else Ex :=
 step_app 25 24 (.slice none 0 0) 24 und_rows Tryz.infoRow rfl (by decide) hgd s x ho B v vs hs hown H u hx hu.1 (by rw [hu.2]; rfl) (by omega) hbase h
theorem rows_app {B : Nat} {w5 wc w6 : World} {v5 v6 u : Value} {vs : List Value} {L : List (List Int)} {y : List Int} {U : Nat → Prop} (hO6 : OwnV B 24 w6 v6 (vs ++ [u])) (hl : vs.length = L.length) (hll : L.length ≤ 1000000)
  (hE : ∀ i, i < L.length → Ints (fun k => B ≤ k ∧ v5.ownBlock ≠ some k) w5 (gt vs i) (gt L i)) (hc : Ext w5 wc) (hg : wc.grownBy w6 v5.ownBlock) (hu : Ints U wc u y) (hU : ∀ k, U k → B ≤ k ∧ v5.ownBlock ≠ some k) :
  Rows2 (fun k => B ≤ k) w6 v6 (L ++ [y]) := by
 have hlt := hO6.lt
 rcases hO6.form with ⟨_, h2⟩ | ⟨g, cap, rfl, hnc, _, _⟩
 ·simp at h2
 refine ⟨some ⟨g, 0, none⟩, cap, by simp [hl], ⟨by simp at hnc; simp; omega, by simp; omega, fun h => by cases h⟩, fun i hi => ?_⟩
 ·have hi : i < (vs ++ [u]).length := by simp at hi ⊢; omega
  refine ⟨g, 0, gt (vs ++ [u]) i, rfl, (hlt g rfl).1, (hlt g rfl).2, by rw [Nat.zero_add]; exact hO6.cell i hi, ?_⟩
  by_cases hlt2 : i < vs.length
  ·rw [gt_append_left _ _ _ hlt2, gt_append_left _ _ _ (by omega)]
   exact Ints.mono (hE i (by omega)) (fun k hk hkl => ⟨hk.1, Nat.lt_of_lt_of_le hkl (Nat.le_trans hc.size hg.size), (hg.block k (Nat.lt_of_lt_of_le hkl hc.size) (fun e => hk.2 e.symm)).trans (hc.block k hkl (by simp))⟩)
  ·have hie : i = vs.length := by simp at hi; omega
   subst hie
   rw [gt_concat, hl, gt_concat]
   exact Ints.mono hu (fun k hk hkl => ⟨(hU k hk).1, Nat.lt_of_lt_of_le hkl hg.size, hg.block k hkl (fun e => (hU k hk).2 e.symm)⟩)
theorem PresX.putRow {F : Nat → Prop} {w w6 : World} {vo vp : Value} {P : Pr} {g n cap : Nat} {u : Value} {L : List (List Int)} (h : PresX F w vo vp (.slice (some ⟨g, 0, none⟩) n cap) P) (i : Nat) (hi : i < n) (hn : P.conj.length = n) (hg : Ext w w6) (hu : Rows2 (fun k => w.heap.size ≤ k) w6 u L) :
  ∃ Q : Pr, Q.orders = P.orders ∧ Pres3 (fun k => F k ∨ w.heap.size ≤ k) (w6.setCell ⟨g, i, none⟩ u) vo vp (.slice (some ⟨g, 0, none⟩) n cap) Q := by
 obtain ⟨Fo, Fp, Fc, h1, h2, h3, h4, h5, h6⟩ := h
 have hFg : Fc g := by
  rcases SlI.form h3 with ⟨e, _⟩ | ⟨g', c', e, hF, _⟩
  ·cases e
  ·cases e; exact hF
 have hgl : g < w.heap.size := by
  rcases SlI.form h3 with ⟨e, _⟩ | ⟨g', c', e, _, hl⟩
  ·cases e
  ·cases e; exact hl
 have hT := grown_set1 w6 g i u
 have hblk : ∀ k, k < w.heap.size → k ≠ g → k < (w6.setCell ⟨g, i, none⟩ u).heap.size ∧ (w6.setCell ⟨g, i, none⟩ u).heap[k]? = w.heap[k]? := fun k hk hne => ⟨Nat.lt_of_lt_of_le hk (Nat.le_trans hg.size hT.size), (hT.block k (Nat.lt_of_lt_of_le hk hg.size) (fun e => hne (Option.some.inj e))).trans (hg.block k hk (by simp))⟩
 have h3r : SlI (fun F w u (x : List (List Int)) => Rows2 F w u x) 25 (fun k => Fc k ∧ k < w.heap.size) w6 (.slice (some ⟨g, 0, none⟩) n cap) P.conj :=
  SlI.map (fun _ _ _ _ h => RowsI.rows h) (rdRows3I.mono h3 (fun k hk hlt => ⟨⟨hk, hlt⟩, Nat.lt_of_lt_of_le hlt hg.size, hg.block k hlt (by simp)⟩))
 have hrd : RdOk (fun F w u (x : List (List Int)) => Rows2 F w u x) := ⟨fun h hb => Rows2.mono h hb, fun h => by obtain ⟨_, _, rfl, _⟩ := Sl.shape h; rfl⟩
 have hp := SlI.putR hrd h3r hu (fun k hk h => by omega) i
 refine ⟨⟨P.orders, P.powers, P.conj.set i L⟩, rfl, ⟨?_, ?_, ?_⟩⟩
 ·exact Ints.mono h1.ints (fun k hk hlt => by
   have h := hblk k hlt (fun e => (h4 k hk).2.2 (e ▸ hFg))
   exact ⟨.inl (h4 k hk).1, h.1, h.2⟩)
 ·exact Rows2.mono (RowsI.rows h2) (fun k hk hlt => by
   have h := hblk k hlt (fun e => (h5 k hk).2 (e ▸ hFg))
   exact ⟨.inl (h5 k hk).1, h.1, h.2⟩)
 ·exact Rows3.sub (S := fun k => (Fc k ∧ k < w.heap.size) ∨ w.heap.size ≤ k) hp (fun k hk _ => hk.elim (fun h => .inl (h6 k h.1)) .inr)
def BendCut (P0 : Pr) (B0 sb qb : Nat) (w wx : World) : Prop := ∃ (a1 : Option Addr) (n1 c1 : Nat) (a2 : Option Addr) (n2 c2 : Nat) (a3 : Option Addr) (n3 c3 : Nat) (Q : Pr), Box3 wx qb (.slice a1 n1 c1) (.slice a2 n2 c2) (.slice a3 n3 c3) ∧ Box3 wx (w.heap.size + 1) (.slice none 0 0) (.slice none 0 0) (.slice none 0 0) ∧
 w.grownBy wx (some sb) ∧ Src B0 wx sb ∧ Q.orders.length ≤ 7 ∧ OrdLe P0 Q ∧ Pres3 (fun k => w.heap.size + 2 ≤ k) wx (.slice a1 n1 c1) (.slice a2 n2 c2) (.slice a3 n3 c3) Q
set_option linter.unusedSimpArgs false in
set_option maxRecDepth 100000 in
set_option maxHeartbeats 16000000 in
theorem l07BendL_ok (B0 : Nat) (w : World) (sb : Nat) (pv : Value) (P : Pr) (F : Nat → Prop) (hB0 : B0 ≤ w.heap.size) (hs : Src B0 w sb) (hp : PresV F w pv P) (hV : Valid P) :
  Calls Tryz.prog 238 #[.pointer (some ⟨sb, 0, none⟩), pv] w (Mut w (some sb) (DrawR B0 sb (PresAL 7 (OrdLe P) w.heap.size))) := by
 have hsb := hs.lt
 have hS := hV.shp
 obtain ⟨vo, vp, vc, rfl, h3⟩ := hp
 obtain ⟨ao, co, hvo, _, _⟩ := h3.o.shape
 obtain ⟨ap, cp, hvp, _, _⟩ := Sl.shape h3.p
 obtain ⟨ac, cc, hvc, _, _⟩ := Sl.shape h3.c
 rw [hS.p] at hvp
 rw [hS.c] at hvc
 subst hvo hvp hvc
 obtain ⟨n, hn⟩ : ∃ n, n = P.orders.length := ⟨_, rfl⟩
 rw [← hn] at h3
 rw [← hn]
 have hn6 : n ≤ 6 := by rw [hn]; exact hS.n
 have hgA : Ext w (w.alloc (.cells #[.slice ao n co, .slice ap n cp, .slice ac n cc] 28)) := World.grownBy_alloc _ _ _
 have hsA : (w.alloc (.cells #[.slice ao n co, .slice ap n cp, .slice ac n cc] 28)).heap.size = w.heap.size + 1 := by simp
 have hbA := Box3.made w 28 (.slice ao n co) (.slice ap n cp) (.slice ac n cc)
 have HH := Lib.hid (And.intro hS (And.intro hV (And.intro hn hs))); clear hS hV hn hs
 go_enter Tryz.func238, Tryz.ntmps238
 go_wp2_with fail
 generalize w.alloc (.cells #[.slice ao n co, .slice ap n cp, .slice ac n cc] 28) = wA at *
 have hgB : Ext wA (wA.alloc (.cells #[.slice none 0 0, .slice none 0 0, .slice none 0 0] 28)) := World.grownBy_alloc _ _ _
 have hbB := Box3.made wA 28 (.slice none 0 0) (.slice none 0 0) (.slice none 0 0)
 have hg0 := grown_trans hgA hgB
 have hsB : (wA.alloc (.cells #[.slice none 0 0, .slice none 0 0, .slice none 0 0] 28)).heap.size = w.heap.size + 2 := by simp [hsA]
 rw [hsA] at hbB
 generalize wA.alloc (.cells #[.slice none 0 0, .slice none 0 0, .slice none 0 0] 28) = w0 at *
 have hs00 : w.heap.size + 2 ≤ w0.heap.size := by omega
 clear hgB hgA hbA hsA hsB
 refine Calls.mono (l07Own_ok w0 _ P F 6 ⟨_, _, _, rfl, h3.mono (frame_of hg0 (fun k hk _ => ⟨hk, by simp⟩))⟩ HH.out.1 (by omega)) ?_
 rintro e1 w1 ⟨v1, rfl, hg1, qo, qp, qc, rfl, hX1⟩
 obtain ⟨ao2, co2, ap2, cp2, ac2, cc2, e1, e2, e3⟩ := hX1.shape
 rw [HH.out.1.p] at e2
 rw [HH.out.1.c] at e3
 rw [← HH.out.2.2.1] at e1 e2 e3
 subst e1 e2 e3
 obtain ⟨qb, hqb⟩ : ∃ qb, qb = w1.heap.size := ⟨_, rfl⟩
 have hgq : Ext w1 (w1.alloc (.cells #[.slice ao2 n co2, .slice ap2 n cp2, .slice ac2 n cc2] 28)) := World.grownBy_alloc _ _ _
 have hbQ := Box3.made w1 28 (.slice ao2 n co2) (.slice ap2 n cp2) (.slice ac2 n cc2)
 rw [← hqb] at hbQ
 have hs1 := hg1.size
 have hX2 : PresX (fun k => w0.heap.size ≤ k ∧ k ≠ qb) (w1.alloc (.cells #[.slice ao2 n co2, .slice ap2 n cp2, .slice ac2 n cc2] 28)) (.slice ao2 n co2) (.slice ap2 n cp2) (.slice ac2 n cc2) P := hX1.mono (fun k hk hlt => ⟨⟨hk, by omega⟩, Nat.lt_of_lt_of_le hlt hgq.size, hgq.block k hlt (by simp)⟩)
 have hg02 := grown_trans hg1 hgq
 have HQB := Lib.hid hqb
 go_wp2_with fail
 rw [← HQB.out]
 generalize w1.alloc (.cells #[.slice ao2 n co2, .slice ap2 n cp2, .slice ac2 n cc2] 28) = w2 at *
 have hqs : w0.heap.size ≤ qb := by omega
 clear hX1 hg1 hgq hqb HQB hs1
 have hbR := hbB.ext hg02
 have hgw2 := grown_trans hg0 hg02
 have hs2 := HH.out.2.2.2.ext hgw2
 clear hbB hg02 hg0 h3
 refine Calls.mono (l01Next_ok B0 w2 sb 6 hs2) ?_
 rintro e3 w3 ⟨v3, rfl, hg3, x, rfl, _, hx1, hs3⟩
 have hX3 := hX2.moved hg3 (fun h => by omega)
 have hbQ3 := hbQ.moved hg3 (by omega)
 have hbR3 := hbR.moved hg3 (by omega)
 have hgw3 := grown_trans (grown_of_ext (some sb) hgw2) hg3
 have hx := hx1 (by omega)
 have hPn := HH.out.2.2.1
 have hP2 : P.powers.length = n := by rw [hPn]; exact HH.out.2.1.pl
 have hC2 : P.conj.length = n := by rw [hPn]; exact HH.out.2.1.cl
 have hq3 : qb < w3.heap.size := hbQ3.1
 have HX3 := Lib.hid (And.intro hX3 (And.intro hs3 (And.intro hPn (And.intro hP2 hC2))))
 clear hX2 hbQ hbR hgw2 hs2 hg3 hX3 hs3 hx1 hPn hP2 hC2
 obtain ⟨q0, q1, q2, q3, q4⟩ := id hbQ3
 go_upto_block 0 with fail
 go_cut [] (fun wx => BendCut P B0 sb qb w wx)
 case' rest =>
  obtain ⟨a1, n1, c1, a2, n2, c2, a3, n3, c3, Q, hbQx, hbRx, hgx, hsx, hQl, hQo, hQx⟩ := hcut
  clear q0 q1 q2 q3 q4 hbQ3 hbR3 HX3 hgw3
  obtain ⟨q0, q1, q2, q3, q4⟩ := id hbQx
  obtain ⟨b0, b1, b2, b3, b4⟩ := id hbRx
  have hZ := hbRx.all (.slice a1 n1 c1) (.slice a2 n2 c2) (.slice a3 n3 c3)
  obtain ⟨-, z0, z1, z2, -⟩ := id hZ
  have HF := Lib.hid (And.intro hgx (And.intro hsx (And.intro hQx (And.intro hQl hQo)))); clear hZ hgx hsx hQx hQl hQo
  go_wp2_with fail
  refine bodyPost_ret (v := .agg #[.slice a1 n1 c1, .slice a2 n2 c2, .slice a3 n3 c3]) (by simp [results, Tryz.results238, go_sem, z0, z1, z2]) rfl ?_
  exact a_ret HF.out.1 (br := w.heap.size + 1) (by omega) (fun k hk _ => ⟨by omega, by omega⟩) HF.out.2.1 hB0 HF.out.2.2.2.1 HF.out.2.2.1 HF.out.2.2.2.2
 rcases (show x = 0 ∨ x = 1 ∨ x = 2 ∨ x = 3 ∨ x = 4 ∨ x = 5 by omega) with rfl | rfl | rfl | rfl | rfl | rfl
 all_goals clear hx
 ·obtain ⟨Fo, Fp, Fc, h1, h2, h3, h4, h5, h6⟩ := HX3.out.1
  have hO := h1.1
  have hoB : ∀ k, (Value.slice ao2 n co2).ownBlock = some k → (w0.heap.size ≤ k ∧ k ≠ qb) ∧ ¬ Fp k ∧ ¬ Fc k := fun k hk => h4 k (h1.2.1 k hk)
  have hsz0 : w3.heap.size ≤ w3.heap.size := Nat.le_refl _
  have HO := Lib.hid (And.intro hoB (And.intro h2 (And.intro h3 (And.intro h5 h6)))); clear hoB h1 h2 h3 h4 h5 h6
  have hll : P.orders.length ≤ 1000000 := by have := HX3.out.2.2.1; omega
  have hlx : (P.orders ++ [2]).length = P.orders.length + 1 := by simp
  go_wp2_with (first | (at_builtin; refine wp_app_intb rfl _ _ rfl 0 (.slice ao2 n co2) P.orders 2 rfl w3 hO rfl rfl hll (Nat.zero_le _) ?_; intro v5 w5 hO5 hg5 hat5; have hb5 : Box3 w5 qb (.slice ao2 n co2) (.slice ap2 n cp2) (.slice ac2 n cc2) := hbQ3.keep hg5.size (hg5.block _ hbQ3.1 (fun e => (HO.out.1 qb e.symm).1.2 rfl)); have hbR5 := hbR3.keep hg5.size (hg5.block _ hbR3.1 (fun e => by have := (HO.out.1 _ e.symm).1.1; omega)); obtain ⟨r0, r1, r2, r3, r4⟩ := id hb5; obtain ⟨a5, n5, hv5, _⟩ := (hO5.ints (by omega)).shape; rw [hlx] at hv5; subst hv5; have hb6 := (hb5.put (.slice a5 (P.orders.length + 1) n5)).1; have hT6 := grown_set1 w5 qb 0 (.slice a5 (P.orders.length + 1) n5); have hbR6 := hbR5.moved hT6 (by omega); have HBB := Lib.hid (And.intro hb6 hbR6); have HF := Lib.hid (And.intro hO5 (And.intro hg5 (And.intro hat5 hT6))); clear hO5 hg5 hat5 hT6 hbR6 hb6 hb5 hbR5) | fail)
  obtain ⟨hO5, hg5, hat5, hT6⟩ := HF.out
  have hg36 : w.grownBy (w5.setCell ⟨qb, 0, none⟩ (.slice a5 (P.orders.length + 1) n5)) (some sb) := grown_own (grown_own hgw3 hg5 (fun j hj hlt => by have := (HO.out.1 j hj).1.1; omega)) hT6 (fun j hj hlt => by have := Option.some.inj hj; omega)
  have hs6 := (HX3.out.2.1.own hg5 (fun j hj => by have := (HO.out.1 j hj).1.1; omega)).own hT6 (fun k hk => by have := Option.some.inj hk; omega)
  have hP6 : Pres3 (fun k => (w0.heap.size ≤ k ∧ k ≠ qb)) (w5.setCell ⟨qb, 0, none⟩ (.slice a5 (P.orders.length + 1) n5)) (.slice a5 (P.orders.length + 1) n5) (.slice ap2 n cp2) (.slice ac2 n cc2) ⟨P.orders ++ [2], P.powers, P.conj⟩ := by
   have hblk : ∀ k, k < w3.heap.size → (Value.slice ao2 n co2).ownBlock ≠ some k → k ≠ qb → k < (w5.setCell ⟨qb, 0, none⟩ (.slice a5 (P.orders.length + 1) n5)).heap.size ∧ (w5.setCell ⟨qb, 0, none⟩ (.slice a5 (P.orders.length + 1) n5)).heap[k]? = w3.heap[k]? := fun k hk h1 h2 =>
    ⟨Nat.lt_of_lt_of_le hk (Nat.le_trans hg5.size hT6.size), (hT6.block k (Nat.lt_of_lt_of_le hk hg5.size) (fun e => h2 (Option.some.inj e))).trans (hg5.block k hk (fun e => h1 e.symm))⟩
   refine ⟨?_, ?_, ?_⟩
   ·have hI : Ints (fun k => w0.heap.size ≤ k ∧ k ≠ qb) w5 (.slice a5 (P.orders.length + 1) n5) (P.orders ++ [2]) := ints_of_own hO5 (by omega) (fun k hk => by
     rcases hat5 with e | e
     ·rw [e] at hk; exact (HO.out.1 k hk).1
     ·have := e k hk; exact ⟨by omega, by omega⟩)
    exact Ints.mono hI (fun k hk hlt => ⟨hk, Nat.lt_of_lt_of_le hlt hT6.size, hT6.block k hlt (fun e => hk.2 (Option.some.inj e))⟩)
   ·exact Rows2.mono (RowsI.rows HO.out.2.1) (fun k hk hlt => by
     have h5 := HO.out.2.2.2.1 k hk
     have h := hblk k hlt (fun e => (HO.out.1 k e).2.1 hk) h5.1.2
     exact ⟨h5.1, h.1, h.2⟩)
   ·exact Rows3.mono (Rows3I.rows HO.out.2.2.1) (fun k hk hlt => by
     have h5 := HO.out.2.2.2.2 k hk
     have h := hblk k hlt (fun e => (HO.out.1 k e).2.2 hk) h5.2
     exact ⟨h5, h.1, h.2⟩)
  try go_meet
  exact ⟨_, _, _, _, _, _, _, _, _, _, HBB.out.1, HBB.out.2, hg36, hs6, (by simp; have := HX3.out.2.2.1; omega), (by exact fun h => absurd h.pl (by show ¬ P.powers.length = (P.orders ++ [2]).length; rw [HX3.out.2.2.2.1, List.length_append, ← HX3.out.2.2.1, List.length_singleton]; omega)), hP6.mono (fun k hk hlt => ⟨by omega, hlt, rfl⟩)⟩
 ·by_cases hn0 : n = 0
  ·have hnb : decide (0 < n) = false := by simp [hn0]
   clear hn0
   go_wp2_with fail
   try go_wp2_with fail
   go_meet
   exact ⟨_, _, _, _, _, _, _, _, _, _, hbQ3, hbR3, hgw3, HX3.out.2.1, (by rw [← HX3.out.2.2.1]; omega), (by exact OrdLe.same rfl), Pres3.mono HX3.out.1.p3 (fun k hk hlt => ⟨by omega, hlt, rfl⟩)⟩
  ·have hn1 : 0 < n := by omega
   clear hn0
   obtain ⟨Fo, Fp, Fc, h1, h2, h3, h4, h5, h6⟩ := HX3.out.1
   have hO := h1.1
   obtain ⟨g, capg, hvo, _, hgl⟩ := hO.form (by rw [← HX3.out.2.2.1]; exact hn1)
   obtain ⟨rfl, rfl⟩ : ao2 = some ⟨g, 0, none⟩ ∧ co2 = capg := by cases hvo; exact ⟨rfl, rfl⟩
   clear hvo
   have hFg := h1.2.1 g rfl
   have hg4 := h4 g hFg
   have hgB : w0.heap.size ≤ g := hg4.1.1
   have hgq : g ≠ qb := hg4.1.2
   have hc0 := hO.cell 0 (by rw [← HX3.out.2.2.1]; exact hn1)
   have hf0 := hO.frozen 0
   generalize gt P.orders 0 = oz at hc0
   have HO := Lib.hid (And.intro hO (And.intro h2 (And.intro h3 (And.intro h5 (And.intro h6 hg4))))); clear h1 h2 h3 h4 h5 h6 hO hg4 hFg
   have e0 : ∀ w', NearS w3 sb g w' → w'.cell? ⟨qb, 0, none⟩ = some (.slice (some ⟨g, 0, none⟩) n co2) := fun w' h => h.cell hbQ3.2.1 (by simp; omega) (by simp; omega)
   have hL := ints_litL w3.drew [4, 1, 11, 0, -2] (by simp)
   have hLn : ∀ y ∈ ([4, 1, 11, 0, -2] : List Int), -2 ≤ y := by simp
   have HL := Lib.hid (And.intro hL hLn); clear hL hLn
   have hnI : (0 : Int) < n := by omega
   go_wp2_with fail
   go_region_held3 (fun w' => NearS w3 sb g w') (first | exact NearS.ext (grown_drew _ _) | exact NearS.ext (grown_trans (grown_drew _ _) (World.grownBy_alloc _ _ _)) | exact NearS.of (by assumption) | exact NearS.two hg5 (grown_set1 _ _ _ _) | assumption)
    (first
     | (go_at_call 158; refine Calls.mono (l01Pick_ok B0 _ sb _ [4, 1, 11, 0, -2] _ (HX3.out.2.1.ext (grown_trans (grown_drew _ _) (World.grownBy_alloc _ _ _))) HL.out.1 (fun k hk => by have hk : k = w3.heap.size := hk; omega) (by simp) (by simp)) ?_; rintro e5 w5 ⟨v5, rfl, hg5a, i, hi, rfl, hs5⟩; have hg5 : w3.grownBy w5 (some sb) := grown_trans (grown_of_ext (some sb) (grown_trans (grown_drew _ _) (World.grownBy_alloc _ _ _))) hg5a; have hc5 := hg5.cell hc0 (by simp; omega); have hf5 := (World.frozen?_of_block (a := ⟨g, 0, none⟩) (hg5.block g hgl (fun e => by have := Option.some.inj e; omega))).trans hf0))
   have hsz5 := hg5.size
   have hT := grown_set1 w5 g 0 (.int .i64 (gt [4, 1, 11, 0, -2] i))
   have hb6 := (hbQ3.moved hg5 (by omega)).moved hT (by omega)
   have hbR6 := (hbR3.moved hg5 (by omega)).moved hT (by omega)
   have hg6 := grown_own (grown_trans hgw3 hg5) hT (fun j hj hlt => by have := Option.some.inj hj; omega)
   have hs6 := hs5.own hT (fun k hk => by have := Option.some.inj hk; omega)
   have hO5 : Own 0 w5 (.slice (some ⟨g, 0, none⟩) n co2) P.orders := HO.out.1.kept hg5 (.inr (fun e => by have := own_blk e; omega))
   have hO6 := (hO5.store 0 (gt [4, 1, 11, 0, -2] i)).1
   have hP6 : Pres3 (fun k => (w0.heap.size ≤ k ∧ k ≠ qb)) (w5.setCell ⟨g, 0, none⟩ (.int .i64 (gt [4, 1, 11, 0, -2] i))) (.slice (some ⟨g, 0, none⟩) n co2) (.slice ap2 n cp2) (.slice ac2 n cc2) ⟨P.orders.set 0 (gt [4, 1, 11, 0, -2] i), P.powers, P.conj⟩ := by
    have hblk : ∀ k, k < w3.heap.size → g ≠ k → (w0.heap.size ≤ k ∧ k ≠ qb) → k < (w5.setCell ⟨g, 0, none⟩ (.int .i64 (gt [4, 1, 11, 0, -2] i))).heap.size ∧ (w5.setCell ⟨g, 0, none⟩ (.int .i64 (gt [4, 1, 11, 0, -2] i))).heap[k]? = w3.heap[k]? := fun k hk h1 h2 =>
     ⟨Nat.lt_of_lt_of_le hk (Nat.le_trans hg5.size hT.size), (hT.block k (Nat.lt_of_lt_of_le hk hg5.size) (fun e => h1 (Option.some.inj e).symm)).trans (hg5.block k hk (fun e => by have := Option.some.inj e; omega))⟩
    refine ⟨?_, ?_, ?_⟩
    ·exact ints_of_own hO6 (by rw [List.length_set, ← HX3.out.2.2.1]; omega) (fun k hk => by have := own_blk hk; subst this; exact ⟨hgB, hgq⟩)
    ·exact Rows2.mono (RowsI.rows HO.out.2.1) (fun k hk hlt => by
      have h5 := HO.out.2.2.2.1 k hk
      have h := hblk k hlt (fun e => HO.out.2.2.2.2.2.2.1 (e ▸ hk)) h5.1
      exact ⟨h5.1, h.1, h.2⟩)
    ·exact Rows3.mono (Rows3I.rows HO.out.2.2.1) (fun k hk hlt => by
      have h5 := HO.out.2.2.2.2.1 k hk
      have h := hblk k hlt (fun e => HO.out.2.2.2.2.2.2.2 (e ▸ hk)) h5
      exact ⟨h5, h.1, h.2⟩)
   clear hc5 hf5 e0 hT hO6 hs5 hg5a hg5 hbQ3 hbR3 hgw3 q0 q1 q2 q3 q4 hc0 hf0
   have hLen : (P.orders.set 0 (gt [4, 1, 11, 0, -2] i)).length ≤ 7 := by rw [List.length_set, ← HX3.out.2.2.1]; omega
   have hNo : OrdLe P ⟨P.orders.set 0 (gt [4, 1, 11, 0, -2] i), P.powers, P.conj⟩ := fun h => by
    have h1 : gt (P.orders.set 0 (gt [4, 1, 11, 0, -2] i)) 0 = 2 ∨ gt (P.orders.set 0 (gt [4, 1, 11, 0, -2] i)) 0 = 3 ∨ gt (P.orders.set 0 (gt [4, 1, 11, 0, -2] i)) 0 = 5 ∨ gt (P.orders.set 0 (gt [4, 1, 11, 0, -2] i)) 0 = 7 := h.ord 0 (by show 0 < (P.orders.set 0 _).length; rw [List.length_set, ← HX3.out.2.2.1]; exact hn1)
    exfalso
    rw [gt_set_eq _ _ _ (by rw [← HX3.out.2.2.1]; exact hn1)] at h1
    have hi5 : i < 5 := hi
    obtain rfl | rfl | rfl | rfl | rfl : i = 0 ∨ i = 1 ∨ i = 2 ∨ i = 3 ∨ i = 4 := by omega
    all_goals simp [gt] at h1
   have HLen := Lib.hid (And.intro hLen hNo); clear hLen hNo
   generalize w5.setCell ⟨g, 0, none⟩ (.int .i64 (gt [4, 1, 11, 0, -2] i)) = w6 at *
   try go_wp2_with fail
   go_meet
   exact ⟨_, _, _, _, _, _, _, _, _, _, hb6, hbR6, hg6, hs6, HLen.out.1, HLen.out.2, Pres3.mono hP6 (fun k hk hlt => ⟨by omega, hlt, rfl⟩)⟩
 ·by_cases hn0 : n = 0
  ·have hnb : decide (0 < n) = false := by simp [hn0]
   clear hn0
   go_wp2_with fail
   try go_wp2_with fail
   go_meet
   exact ⟨_, _, _, _, _, _, _, _, _, _, hbQ3, hbR3, hgw3, HX3.out.2.1, (by rw [← HX3.out.2.2.1]; omega), (by exact OrdLe.same rfl), Pres3.mono HX3.out.1.p3 (fun k hk hlt => ⟨by omega, hlt, rfl⟩)⟩
  ·have hn1 : 0 < n := by omega
   clear hn0
   have hnI : (0 : Int) < n := by omega
   have hr0 := HX3.out.1.p3.p
   obtain ⟨bq, oq, ae, ce, hap, hbF, _, hcr, hre⟩ := Rows2.at hr0 0 (by rw [HX3.out.2.2.2.1]; exact hn1)
   obtain ⟨g, capg, z, hvp, ⟨hgB, hgq⟩, hgl, hcg, hfg, _⟩ := HX3.out.1.putP 0 (by rw [HX3.out.2.2.2.1]; exact hn1) (U := fun _ => False) (y := []) (u := .slice none 0 0) ⟨none, 0, rfl, ⟨by simp, by simp, fun _ => rfl⟩, fun i hi => by simp at hi⟩ (fun _ h => h.elim)
   obtain ⟨rfl, rfl⟩ : ap2 = some ⟨g, 0, none⟩ ∧ cp2 = capg := by cases hvp; exact ⟨rfl, rfl⟩
   have hbg : g = bq := by cases hap; rfl
   have hoq : oq = 0 := by cases hap; rfl
   clear hap
   subst hbg hoq
   rw [Nat.zero_add] at hcr
   have hel : (gt P.powers 0).length ≤ 6 := HH.out.1.pv _ (gtMem (by rw [HX3.out.2.2.2.1]; exact hn1))
   obtain ⟨e, he⟩ : ∃ e, e = gt P.powers 0 := ⟨_, rfl⟩
   rw [← he] at hcr hre hel
   clear hvp he hcg hr0
   have hbd := hbQ3.ext (grown_drew _ none)
   obtain ⟨d0, d1, d2, d3, d4⟩ := id hbd
   have f1 : w3.drew.cell? ⟨g, 0, none⟩ = some (.slice ae e.length ce) := hcr
   have hlx : (e ++ [(0 : Int)]).length = e.length + 1 := by simp
   go_wp2_with fail
   have e1 : ∀ w', Near w3 g w' → w'.cell? ⟨qb, 1, none⟩ = some (.slice (some ⟨g, 0, none⟩) n cp2) := fun w' h => h.cell hbQ3.2.2.1 (by simp; omega)
   refine wp_region_held_drew (S := fun w' => Near w3 g w') (by kernel_rfl) (Near.of (grown_drew _ _)) (fun hHeld => ?_)
   refine wpAnyH_take (i := 0) (v := ?vp0_1) rfl (by kernel_rfl) (by kernel_rfl) (by kernel_rfl) (fun _ _ _ h => h) (Or.inl ⟨by rfl, ?hyp0_1⟩) (by assumption) ?restp0_1
   case hyp0_1 => (intro w hSw; (try dsimp only at hSw); go_simp; try with_reducible rfl)
   try simp only [Act.put, List.getElem_toArray, List.getElem_cons_succ, List.getElem_cons_zero, List.setIfInBounds_toArray, List.set_cons_zero, List.set_cons_succ]
   refine wpAnyH_take (i := 1) (v := ?vp1_2) rfl (by kernel_rfl) (by kernel_rfl) (by kernel_rfl) (fun _ _ _ h => h) (Or.inl ⟨by rfl, ?hyp1_2⟩) (by assumption) ?restp1_2
   case hyp1_2 => (intro w hSw; (try dsimp only at hSw); go_simp; try with_reducible rfl)
   try simp only [Act.put, List.getElem_toArray, List.getElem_cons_succ, List.getElem_cons_zero, List.setIfInBounds_toArray, List.set_cons_zero, List.set_cons_succ]
   refine wpAnyH_take (i := 2) (v := ?vp2_3) rfl (by kernel_rfl) (by kernel_rfl) (by kernel_rfl) (fun _ _ _ h => h) (Or.inl ⟨by rfl, ?hyp2_3⟩) (by assumption) ?restp2_3
   case hyp2_3 => (intro w hSw; (try dsimp only at hSw); go_simp; try with_reducible rfl)
   try simp only [Act.put, List.getElem_toArray, List.getElem_cons_succ, List.getElem_cons_zero, List.setIfInBounds_toArray, List.set_cons_zero, List.set_cons_succ]
   refine wpAnyH_take (i := 3) (v := ?vp3_4) rfl (by kernel_rfl) (by kernel_rfl) (by kernel_rfl) (fun _ _ _ h => h) (Or.inl ⟨by rfl, ?hyp3_4⟩) (by assumption) ?restp3_4
   case hyp3_4 => (intro w hSw; (try dsimp only at hSw); go_simp; try with_reducible rfl)
   try simp only [Act.put, List.getElem_toArray, List.getElem_cons_succ, List.getElem_cons_zero, List.setIfInBounds_toArray, List.set_cons_zero, List.set_cons_succ]
   refine wpAnyH_take (i := 4) (v := ?vp4_5) rfl (by kernel_rfl) (by kernel_rfl) (by kernel_rfl) (fun _ _ _ h => h) (Or.inl ⟨by rfl, ?hyp4_5⟩) (by assumption) ?restp4_5
   case hyp4_5 => (intro w hSw; (try dsimp only at hSw); go_simp; try with_reducible rfl)
   try simp only [Act.put, List.getElem_toArray, List.getElem_cons_succ, List.getElem_cons_zero, List.setIfInBounds_toArray, List.set_cons_zero, List.set_cons_succ]
   refine wpAnyH_ready (rs := [5, 7]) (by kernel_rfl) (by simp) ?_
   refine AllReadyH.cons rfl (fun Kc hKc => ?_) (AllReadyH.cons rfl (fun Kc hKc => ?_) AllReadyH.nil)
   ·go_simp
    refine hKc.out _ _ ?_ (fun hHeld => ?_)
    ·assumption
    clear hKc Kc
    try simp only [Act.put, List.getElem_toArray, List.getElem_cons_succ, List.getElem_cons_zero, List.setIfInBounds_toArray, List.set_cons_zero, List.set_cons_succ]
    refine wpAnyH_ready (rs := [6, 7]) (by kernel_rfl) (by simp) ?_
    refine AllReadyH.cons rfl (fun Kc hKc => ?_) (AllReadyH.cons rfl (fun Kc hKc => ?_) AllReadyH.nil)
    ·go_simp
     go_at_call 199
     refine Calls.mono (l01Own_ok w3.drew _ e _ (hre.ext (grown_drew _ _)) (by omega)) ?_
     rintro e5 w5 ⟨v5, rfl, hg5, hO5d⟩
     have hg35 : Ext w3 w5 := grown_trans (grown_drew _ _) hg5
     have hO5 : Own w3.heap.size w5 v5 e := hO5d
     obtain ⟨a5, c5, hv5, _⟩ := (hO5.ints (by omega)).shape
     subst hv5
     go_wp2_with fail
     refine hKc.out _ _ ?_ (fun hHeld => ?_)
     ·exact Near.of hg35
     clear hKc Kc
     try simp only [Act.put, List.getElem_toArray, List.getElem_cons_succ, List.getElem_cons_zero, List.setIfInBounds_toArray, List.set_cons_zero, List.set_cons_succ]
     refine wpAnyH_ready (rs := [7]) (by kernel_rfl) (by simp) ?_
     refine AllReadyH.cons rfl (fun Kc hKc => ?_) AllReadyH.nil
     go_simp
     refine hKc.out _ _ ?_ (fun hHeld => ?_)
     ·exact Near.of (grown_trans hg35 (World.grownBy_alloc _ _ _))
     clear hKc Kc
     try simp only [Act.put, List.getElem_toArray, List.getElem_cons_succ, List.getElem_cons_zero, List.setIfInBounds_toArray, List.set_cons_zero, List.set_cons_succ]
     refine wpAnyH_ready (rs := [8]) (by kernel_rfl) (by simp) ?_
     refine AllReadyH.cons rfl (fun Kc hKc => ?_) AllReadyH.nil
     refine step_app_int (by rfl) _ _ (by rfl) w3.heap.size _ e 0 (by rfl) w5 hO5 (by rfl) (by rfl) (by omega) hg35.size ?_
     intro v6 w6 hO6 hg6
     have hg36 : Ext w3 w6 := grown_own hg35 hg6 (fun j hj hlt => by have := (hO5.lt j hj).1; omega)
     obtain ⟨a6, c6, hv6, _⟩ := (hO6.ints (by simp; omega)).shape
     rw [hlx] at hv6
     subst hv6
     have r1 := hg36.cell hcr (by simp)
     have r2 := (World.frozen?_of_block (a := ⟨g, 0, none⟩) (hg36.block g hgl (by simp))).trans hfg
     refine hKc.out _ _ ?_ (fun hHeld => ?_)
     ·exact Near.of hg36
     clear hKc Kc
     try simp only [Act.put, List.getElem_toArray, List.getElem_cons_succ, List.getElem_cons_zero, List.setIfInBounds_toArray, List.set_cons_zero, List.set_cons_succ]
     refine wpAnyH_take (i := 9) (v := ?vp9_6) rfl (by kernel_rfl) (by kernel_rfl) (by kernel_rfl) (fun _ _ _ h => h) (Or.inl ⟨by rfl, ?hyp9_6⟩) (by assumption) ?restp9_6
     case hyp9_6 => (intro w hSw; (try dsimp only at hSw); go_simp; try with_reducible rfl)
     try simp only [Act.put, List.getElem_toArray, List.getElem_cons_succ, List.getElem_cons_zero, List.setIfInBounds_toArray, List.set_cons_zero, List.set_cons_succ]
     refine wpAnyH_ready (rs := [10]) (by kernel_rfl) (by simp) ?_
     refine AllReadyH.cons rfl (fun Kc hKc => ?_) AllReadyH.nil
     go_simp
     refine hKc.out _ _ ?_ (fun hHeld => ?_)
     ·exact Near.store hg36
     clear hKc Kc
     try simp only [Act.put, List.getElem_toArray, List.getElem_cons_succ, List.getElem_cons_zero, List.setIfInBounds_toArray, List.set_cons_zero, List.set_cons_succ]
     refine wpAnyH_done (by kernel_rfl) ?_ _
     have hT := grown_set1 w6 g 0 (.slice a6 (e.length + 1) c6)
     have hb7 := (hbQ3.ext hg36).moved hT (by omega)
     have hbR7 := (hbR3.ext hg36).moved hT (by omega)
     have hg7 := grown_own (grown_trans hgw3 (grown_of_ext (some sb) hg36)) hT (fun j hj hlt => by have := Option.some.inj hj; omega)
     have hs7 := (HX3.out.2.1.ext hg36).own hT (fun k hk => by have := Option.some.inj hk; omega)
     have hX6 : PresX (fun k => w0.heap.size ≤ k ∧ k ≠ qb ∧ k < w3.heap.size) w6 (.slice ao2 n co2) (.slice (some ⟨g, 0, none⟩) n cp2) (.slice ac2 n cc2) P := HX3.out.1.mono (fun k hk hlt => ⟨⟨hk.1, hk.2, hlt⟩, Nat.lt_of_lt_of_le hlt hg36.size, hg36.block k hlt (by simp)⟩)
     have hYI : Ints (fun k => w3.heap.size ≤ k) w6 (.slice a6 (e.length + 1) c6) (e ++ [0]) := ints_of_own hO6 (by omega) (fun k hk => (hO6.lt k hk).1)
     obtain ⟨g', _, _, he1, _, _, _, _, hP7⟩ := hX6.putP 0 (by rw [HX3.out.2.2.2.1]; exact hn1) hYI (fun k hk h => by omega)
     have hgg : g' = g := by simp only [Value.slice.injEq, Option.some.injEq, Addr.mk.injEq] at he1; exact he1.1.1.symm
     rw [hgg] at hP7
     clear he1 hgg
     clear hT hX6 hYI hO6 hO5 r1 r2
     go_wp2_with fail
     go_meet
     exact ⟨_, _, _, _, _, _, _, _, _, _, hb7, hbR7, hg7, hs7, (by show P.orders.length ≤ 7; rw [← HX3.out.2.2.1]; omega), (by exact OrdLe.same rfl), hP7.mono (fun k hk hlt => ⟨by rcases hk with hk | hk <;> omega, hlt, rfl⟩)⟩
    ·go_simp
     refine hKc.out _ _ ?_ (fun hHeld => ?_)
     ·exact Near.of (grown_trans (World.grownBy_alloc w3 (.cells #[.int .i64 0] 2) none) (grown_drew _ _))
     clear hKc Kc
     try simp only [Act.put, List.getElem_toArray, List.getElem_cons_succ, List.getElem_cons_zero, List.setIfInBounds_toArray, List.set_cons_zero, List.set_cons_succ]
     refine wpAnyH_ready (rs := [6]) (by kernel_rfl) (by simp) ?_
     refine AllReadyH.cons rfl (fun Kc hKc => ?_) AllReadyH.nil
     go_simp
     go_at_call 199
     refine Calls.mono (l01Own_ok (w3.alloc (.cells #[.int .i64 0] 2)).drew _ e _ (hre.ext (grown_trans (World.grownBy_alloc w3 (.cells #[.int .i64 0] 2) none) (grown_drew _ _))) (by omega)) ?_
     rintro e5 w5 ⟨v5, rfl, hg5, hO5d⟩
     have hg35 : Ext w3 w5 := grown_trans (grown_trans (World.grownBy_alloc w3 (.cells #[.int .i64 0] 2) none) (grown_drew _ _)) hg5
     have hsd : (w3.alloc (.cells #[.int .i64 0] 2)).drew.heap.size = w3.heap.size + 1 := (by simp : (w3.alloc (.cells #[.int .i64 0] 2)).heap.size = w3.heap.size + 1)
     have hO5 : Own w3.heap.size w5 v5 e := hO5d.weak (by omega)
     have hu4 : (w3.alloc (.cells #[.int .i64 0] 2)).drew.cell? ⟨w3.heap.size, 0, none⟩ = some (.int .i64 0) := (by rw [World.cell?_alloc_at _ _ _ _ rfl]; rfl : (w3.alloc (.cells #[.int .i64 0] 2)).cell? ⟨w3.heap.size, 0, none⟩ = some (.int .i64 0))
     have hu5 := hg5.cell hu4 (by simp)
     obtain ⟨a5, c5, hv5, _⟩ := (hO5.ints (by omega)).shape
     subst hv5
     go_wp2_with fail
     refine hKc.out _ _ ?_ (fun hHeld => ?_)
     ·exact Near.of hg35
     clear hKc Kc
     try simp only [Act.put, List.getElem_toArray, List.getElem_cons_succ, List.getElem_cons_zero, List.setIfInBounds_toArray, List.set_cons_zero, List.set_cons_succ]
     refine wpAnyH_ready (rs := [8]) (by kernel_rfl) (by simp) ?_
     refine AllReadyH.cons rfl (fun Kc hKc => ?_) AllReadyH.nil
     refine step_app_intH (by rfl) _ _ (by rfl) w3.heap.size _ e 0 (by rfl) hO5 w3.heap.size (by rfl) hu5 (by omega) hg35.size ?_
     intro v6 w6 hO6 hg6
     have hg36 : Ext w3 w6 := grown_own hg35 hg6 (fun j hj hlt => by have := (hO5.lt j hj).1; omega)
     obtain ⟨a6, c6, hv6, _⟩ := (hO6.ints (by simp; omega)).shape
     rw [hlx] at hv6
     subst hv6
     have r1 := hg36.cell hcr (by simp)
     have r2 := (World.frozen?_of_block (a := ⟨g, 0, none⟩) (hg36.block g hgl (by simp))).trans hfg
     refine hKc.out _ _ ?_ (fun hHeld => ?_)
     ·exact Near.of hg36
     clear hKc Kc
     try simp only [Act.put, List.getElem_toArray, List.getElem_cons_succ, List.getElem_cons_zero, List.setIfInBounds_toArray, List.set_cons_zero, List.set_cons_succ]
     refine wpAnyH_take (i := 9) (v := ?vp9_7) rfl (by kernel_rfl) (by kernel_rfl) (by kernel_rfl) (fun _ _ _ h => h) (Or.inl ⟨by rfl, ?hyp9_7⟩) (by assumption) ?restp9_7
     case hyp9_7 => (intro w hSw; (try dsimp only at hSw); go_simp; try with_reducible rfl)
     try simp only [Act.put, List.getElem_toArray, List.getElem_cons_succ, List.getElem_cons_zero, List.setIfInBounds_toArray, List.set_cons_zero, List.set_cons_succ]
     refine wpAnyH_ready (rs := [10]) (by kernel_rfl) (by simp) ?_
     refine AllReadyH.cons rfl (fun Kc hKc => ?_) AllReadyH.nil
     go_simp
     refine hKc.out _ _ ?_ (fun hHeld => ?_)
     ·exact Near.store hg36
     clear hKc Kc
     try simp only [Act.put, List.getElem_toArray, List.getElem_cons_succ, List.getElem_cons_zero, List.setIfInBounds_toArray, List.set_cons_zero, List.set_cons_succ]
     refine wpAnyH_done (by kernel_rfl) ?_ _
     have hT := grown_set1 w6 g 0 (.slice a6 (e.length + 1) c6)
     have hb7 := (hbQ3.ext hg36).moved hT (by omega)
     have hbR7 := (hbR3.ext hg36).moved hT (by omega)
     have hg7 := grown_own (grown_trans hgw3 (grown_of_ext (some sb) hg36)) hT (fun j hj hlt => by have := Option.some.inj hj; omega)
     have hs7 := (HX3.out.2.1.ext hg36).own hT (fun k hk => by have := Option.some.inj hk; omega)
     have hX6 : PresX (fun k => w0.heap.size ≤ k ∧ k ≠ qb ∧ k < w3.heap.size) w6 (.slice ao2 n co2) (.slice (some ⟨g, 0, none⟩) n cp2) (.slice ac2 n cc2) P := HX3.out.1.mono (fun k hk hlt => ⟨⟨hk.1, hk.2, hlt⟩, Nat.lt_of_lt_of_le hlt hg36.size, hg36.block k hlt (by simp)⟩)
     have hYI : Ints (fun k => w3.heap.size ≤ k) w6 (.slice a6 (e.length + 1) c6) (e ++ [0]) := ints_of_own hO6 (by omega) (fun k hk => (hO6.lt k hk).1)
     obtain ⟨g', _, _, he1, _, _, _, _, hP7⟩ := hX6.putP 0 (by rw [HX3.out.2.2.2.1]; exact hn1) hYI (fun k hk h => by omega)
     have hgg : g' = g := by simp only [Value.slice.injEq, Option.some.injEq, Addr.mk.injEq] at he1; exact he1.1.1.symm
     rw [hgg] at hP7
     clear he1 hgg
     clear hT hX6 hYI hO6 hO5 r1 r2
     go_wp2_with fail
     go_meet
     exact ⟨_, _, _, _, _, _, _, _, _, _, hb7, hbR7, hg7, hs7, (by show P.orders.length ≤ 7; rw [← HX3.out.2.2.1]; omega), (by exact OrdLe.same rfl), hP7.mono (fun k hk hlt => ⟨by rcases hk with hk | hk <;> omega, hlt, rfl⟩)⟩
   ·go_simp
    refine hKc.out _ _ ?_ (fun hHeld => ?_)
    ·exact Near.of (grown_trans (World.grownBy_alloc w3 (.cells #[.int .i64 0] 2) none) (grown_drew _ _))
    clear hKc Kc
    try simp only [Act.put, List.getElem_toArray, List.getElem_cons_succ, List.getElem_cons_zero, List.setIfInBounds_toArray, List.set_cons_zero, List.set_cons_succ]
    refine wpAnyH_ready (rs := [5]) (by kernel_rfl) (by simp) ?_
    refine AllReadyH.cons rfl (fun Kc hKc => ?_) AllReadyH.nil
    have f2 : (w3.alloc (.cells #[.int .i64 0] 2)).drew.cell? ⟨g, 0, none⟩ = some (.slice ae e.length ce) := (grown_trans (World.grownBy_alloc w3 (.cells #[.int .i64 0] 2) none) (grown_drew _ _) : Ext w3 (w3.alloc (.cells #[.int .i64 0] 2)).drew).cell hcr (by simp)
    go_simp
    refine hKc.out _ _ ?_ (fun hHeld => ?_)
    ·assumption
    clear hKc Kc
    try simp only [Act.put, List.getElem_toArray, List.getElem_cons_succ, List.getElem_cons_zero, List.setIfInBounds_toArray, List.set_cons_zero, List.set_cons_succ]
    refine wpAnyH_ready (rs := [6]) (by kernel_rfl) (by simp) ?_
    refine AllReadyH.cons rfl (fun Kc hKc => ?_) AllReadyH.nil
    go_simp
    go_at_call 199
    refine Calls.mono (l01Own_ok (w3.alloc (.cells #[.int .i64 0] 2)).drew _ e _ (hre.ext (grown_trans (World.grownBy_alloc w3 (.cells #[.int .i64 0] 2) none) (grown_drew _ _))) (by omega)) ?_
    rintro e5 w5 ⟨v5, rfl, hg5, hO5d⟩
    have hg35 : Ext w3 w5 := grown_trans (grown_trans (World.grownBy_alloc w3 (.cells #[.int .i64 0] 2) none) (grown_drew _ _)) hg5
    have hsd : (w3.alloc (.cells #[.int .i64 0] 2)).drew.heap.size = w3.heap.size + 1 := (by simp : (w3.alloc (.cells #[.int .i64 0] 2)).heap.size = w3.heap.size + 1)
    have hO5 : Own w3.heap.size w5 v5 e := hO5d.weak (by omega)
    have hu4 : (w3.alloc (.cells #[.int .i64 0] 2)).drew.cell? ⟨w3.heap.size, 0, none⟩ = some (.int .i64 0) := (by rw [World.cell?_alloc_at _ _ _ _ rfl]; rfl : (w3.alloc (.cells #[.int .i64 0] 2)).cell? ⟨w3.heap.size, 0, none⟩ = some (.int .i64 0))
    have hu5 := hg5.cell hu4 (by simp)
    obtain ⟨a5, c5, hv5, _⟩ := (hO5.ints (by omega)).shape
    subst hv5
    go_wp2_with fail
    refine hKc.out _ _ ?_ (fun hHeld => ?_)
    ·exact Near.of hg35
    clear hKc Kc
    try simp only [Act.put, List.getElem_toArray, List.getElem_cons_succ, List.getElem_cons_zero, List.setIfInBounds_toArray, List.set_cons_zero, List.set_cons_succ]
    refine wpAnyH_ready (rs := [8]) (by kernel_rfl) (by simp) ?_
    refine AllReadyH.cons rfl (fun Kc hKc => ?_) AllReadyH.nil
    refine step_app_intH (by rfl) _ _ (by rfl) w3.heap.size _ e 0 (by rfl) hO5 w3.heap.size (by rfl) hu5 (by omega) hg35.size ?_
    intro v6 w6 hO6 hg6
    have hg36 : Ext w3 w6 := grown_own hg35 hg6 (fun j hj hlt => by have := (hO5.lt j hj).1; omega)
    obtain ⟨a6, c6, hv6, _⟩ := (hO6.ints (by simp; omega)).shape
    rw [hlx] at hv6
    subst hv6
    have r1 := hg36.cell hcr (by simp)
    have r2 := (World.frozen?_of_block (a := ⟨g, 0, none⟩) (hg36.block g hgl (by simp))).trans hfg
    refine hKc.out _ _ ?_ (fun hHeld => ?_)
    ·exact Near.of hg36
    clear hKc Kc
    try simp only [Act.put, List.getElem_toArray, List.getElem_cons_succ, List.getElem_cons_zero, List.setIfInBounds_toArray, List.set_cons_zero, List.set_cons_succ]
    refine wpAnyH_take (i := 9) (v := ?vp9_8) rfl (by kernel_rfl) (by kernel_rfl) (by kernel_rfl) (fun _ _ _ h => h) (Or.inl ⟨by rfl, ?hyp9_8⟩) (by assumption) ?restp9_8
    case hyp9_8 => (intro w hSw; (try dsimp only at hSw); go_simp; try with_reducible rfl)
    try simp only [Act.put, List.getElem_toArray, List.getElem_cons_succ, List.getElem_cons_zero, List.setIfInBounds_toArray, List.set_cons_zero, List.set_cons_succ]
    refine wpAnyH_ready (rs := [10]) (by kernel_rfl) (by simp) ?_
    refine AllReadyH.cons rfl (fun Kc hKc => ?_) AllReadyH.nil
    go_simp
    refine hKc.out _ _ ?_ (fun hHeld => ?_)
    ·exact Near.store hg36
    clear hKc Kc
    try simp only [Act.put, List.getElem_toArray, List.getElem_cons_succ, List.getElem_cons_zero, List.setIfInBounds_toArray, List.set_cons_zero, List.set_cons_succ]
    refine wpAnyH_done (by kernel_rfl) ?_ _
    have hT := grown_set1 w6 g 0 (.slice a6 (e.length + 1) c6)
    have hb7 := (hbQ3.ext hg36).moved hT (by omega)
    have hbR7 := (hbR3.ext hg36).moved hT (by omega)
    have hg7 := grown_own (grown_trans hgw3 (grown_of_ext (some sb) hg36)) hT (fun j hj hlt => by have := Option.some.inj hj; omega)
    have hs7 := (HX3.out.2.1.ext hg36).own hT (fun k hk => by have := Option.some.inj hk; omega)
    have hX6 : PresX (fun k => w0.heap.size ≤ k ∧ k ≠ qb ∧ k < w3.heap.size) w6 (.slice ao2 n co2) (.slice (some ⟨g, 0, none⟩) n cp2) (.slice ac2 n cc2) P := HX3.out.1.mono (fun k hk hlt => ⟨⟨hk.1, hk.2, hlt⟩, Nat.lt_of_lt_of_le hlt hg36.size, hg36.block k hlt (by simp)⟩)
    have hYI : Ints (fun k => w3.heap.size ≤ k) w6 (.slice a6 (e.length + 1) c6) (e ++ [0]) := ints_of_own hO6 (by omega) (fun k hk => (hO6.lt k hk).1)
    obtain ⟨g', _, _, he1, _, _, _, _, hP7⟩ := hX6.putP 0 (by rw [HX3.out.2.2.2.1]; exact hn1) hYI (fun k hk h => by omega)
    have hgg : g' = g := by simp only [Value.slice.injEq, Option.some.injEq, Addr.mk.injEq] at he1; exact he1.1.1.symm
    rw [hgg] at hP7
    clear he1 hgg
    clear hT hX6 hYI hO6 hO5 r1 r2
    go_wp2_with fail
    go_meet
    exact ⟨_, _, _, _, _, _, _, _, _, _, hb7, hbR7, hg7, hs7, (by show P.orders.length ≤ 7; rw [← HX3.out.2.2.1]; omega), (by exact OrdLe.same rfl), hP7.mono (fun k hk hlt => ⟨by rcases hk with hk | hk <;> omega, hlt, rfl⟩)⟩
 ·by_cases hn0 : n = 0
  ·have hnb : decide (0 < n) = false := by simp [hn0]
   clear hn0
   go_wp2_with fail
   try go_wp2_with fail
   go_meet
   exact ⟨_, _, _, _, _, _, _, _, _, _, hbQ3, hbR3, hgw3, HX3.out.2.1, (by rw [← HX3.out.2.2.1]; omega), (by exact OrdLe.same rfl), Pres3.mono HX3.out.1.p3 (fun k hk hlt => ⟨by omega, hlt, rfl⟩)⟩
  ·have hn1 : 0 < n := by omega
   clear hn0
   have hnI : (0 : Int) < n := by omega
   have hpl : (gt P.powers 0).length = n := by rw [HX3.out.2.2.1]; exact (HH.out.2.1.pv 0 (by rw [← HX3.out.2.2.1]; exact hn1)).1.1
   obtain ⟨g, capg, b, capb, hvp, ⟨hgB, hgq⟩, hgl, hcg, ⟨hbB, hbq⟩, hbg, hbl, hcb, hst⟩ := HX3.out.1.openPIm (r := sb) 0 0 (by rw [HX3.out.2.2.2.1]; exact hn1) (by rw [hpl]; exact hn1) (fun h => by omega)
   obtain ⟨rfl, rfl⟩ : ap2 = some ⟨g, 0, none⟩ ∧ cp2 = capg := by cases hvp; exact ⟨rfl, rfl⟩
   clear hvp
   rw [hpl] at hcg
   obtain ⟨hfr, hX4⟩ := hst w3 (grown_refl _ _)
   have hX4 := hX4 1
   have hT := grown_set1 w3 b 0 (.int .i64 1)
   have hb6 := hbQ3.moved hT (by omega)
   have hbR6 := hbR3.moved hT (by omega)
   have hg6 := grown_own hgw3 hT (fun j hj hlt => by have := Option.some.inj hj; omega)
   have hs6 := HX3.out.2.1.own hT (fun k hk => by have := Option.some.inj hk; omega)
   generalize gt (gt P.powers 0) 0 = oz at hcb
   have HX4 := Lib.hid (And.intro hX4 (And.intro hb6 (And.intro hbR6 (And.intro hg6 hs6)))); clear hX4 hb6 hbR6 hg6 hs6 hT hst hpl
   go_wp2_with fail
   go_meet
   obtain ⟨hX4, hb6, hbR6, hg6, hs6⟩ := HX4.out
   exact ⟨_, _, _, _, _, _, _, _, _, _, hb6, hbR6, hg6, hs6, (by show P.orders.length ≤ 7; rw [← HX3.out.2.2.1]; omega), (by exact OrdLe.same rfl), hX4.p3.mono (fun k hk hlt => ⟨by rcases hk with hk | hk <;> omega, hlt, rfl⟩)⟩
 ·by_cases hn0 : n = 0
  ·have hnb : decide (0 < n) = false := by simp [hn0]
   clear hn0
   go_wp2_with fail
   try go_wp2_with fail
   go_meet
   exact ⟨_, _, _, _, _, _, _, _, _, _, hbQ3, hbR3, hgw3, HX3.out.2.1, (by rw [← HX3.out.2.2.1]; omega), (by exact OrdLe.same rfl), Pres3.mono HX3.out.1.p3 (fun k hk hlt => ⟨by omega, hlt, rfl⟩)⟩
  ·have hn1 : 0 < n := by omega
   clear hn0
   have hnI : (0 : Int) < n := by omega
   have hr0 := HX3.out.1.p3.c
   obtain ⟨bq, oq, ae, ce, hap, hbF, _, hcr, hre⟩ := Rows3.at hr0 0 (by rw [HX3.out.2.2.2.2]; exact hn1)
   obtain ⟨g, capg, z, hvp, hgB, hgq, hgl, hfg⟩ := HX3.out.1.conjOwn 0 (by rw [HX3.out.2.2.2.2]; exact hn1)
   obtain ⟨rfl, rfl⟩ : ac2 = some ⟨g, 0, none⟩ ∧ cc2 = capg := by cases hvp; exact ⟨rfl, rfl⟩
   have hbg : g = bq := by cases hap; rfl
   have hoq : oq = 0 := by cases hap; rfl
   clear hap
   subst hbg hoq
   rw [Nat.zero_add] at hcr
   have e1 : ∀ w', Near w3 g w' → w'.cell? ⟨qb, 2, none⟩ = some (.slice (some ⟨g, 0, none⟩) n cc2) := fun w' h => h.cell hbQ3.2.2.2.1 (by simp; omega)
   have e0 : ∀ w', Near w3 g w' → w'.cell? ⟨qb, 0, none⟩ = some (.slice ao2 n co2) := fun w' h => h.cell hbQ3.2.1 (by simp; omega)
   have hrl : (gt P.conj 0).length ≤ 6 := by rw [HH.out.1.cl 0 (by rw [← HX3.out.2.2.1]; exact hn1), ← HX3.out.2.2.1]; omega
   have hrv : ∀ x ∈ gt P.conj 0, x.length ≤ 1000000 := fun x hx => by have := HH.out.1.cv _ (gtMem (by rw [HX3.out.2.2.2.2]; exact hn1)) x hx; omega
   obtain ⟨R, hR⟩ : ∃ R, R = gt P.conj 0 := ⟨_, rfl⟩
   rw [← hR] at hcr hre hrl hrv
   have HR := Lib.hid (And.intro hrv hR)
   clear hvp hrv hR hr0 hgB
   have hmk := fun w => run_mk_ints n (by omega) w
   go_wp2_with fail
   refine wp_region_held_drew (S := fun w' => Near w3 g w') (by kernel_rfl) (Near.of (grown_drew _ _)) (fun hHeld => ?_)
   refine wpAnyH_take (i := 0) (v := ?vc0_1) rfl (by kernel_rfl) (by kernel_rfl) (by kernel_rfl) (fun _ _ _ h => h) (Or.inl ⟨by rfl, ?hyc0_1⟩) (by assumption) ?restc0_1
   case hyc0_1 => (intro w hSw; (try dsimp only at hSw); go_simp; try with_reducible rfl)
   try simp only [Act.put, List.getElem_toArray, List.getElem_cons_succ, List.getElem_cons_zero, List.setIfInBounds_toArray, List.set_cons_zero, List.set_cons_succ]
   refine wpAnyH_take (i := 1) (v := ?vc1_2) rfl (by kernel_rfl) (by kernel_rfl) (by kernel_rfl) (fun _ _ _ h => h) (Or.inl ⟨by rfl, ?hyc1_2⟩) (by assumption) ?restc1_2
   case hyc1_2 => (intro w hSw; (try dsimp only at hSw); go_simp; try with_reducible rfl)
   try simp only [Act.put, List.getElem_toArray, List.getElem_cons_succ, List.getElem_cons_zero, List.setIfInBounds_toArray, List.set_cons_zero, List.set_cons_succ]
   refine wpAnyH_take (i := 2) (v := ?vc2_3) rfl (by kernel_rfl) (by kernel_rfl) (by kernel_rfl) (fun _ _ _ h => h) (Or.inl ⟨by rfl, ?hyc2_3⟩) (by assumption) ?restc2_3
   case hyc2_3 => (intro w hSw; (try dsimp only at hSw); go_simp; try with_reducible rfl)
   try simp only [Act.put, List.getElem_toArray, List.getElem_cons_succ, List.getElem_cons_zero, List.setIfInBounds_toArray, List.set_cons_zero, List.set_cons_succ]
   refine wpAnyH_take (i := 3) (v := ?vc3_4) rfl (by kernel_rfl) (by kernel_rfl) (by kernel_rfl) (fun _ _ _ h => h) (Or.inl ⟨by rfl, ?hyc3_4⟩) (by assumption) ?restc3_4
   case hyc3_4 => (intro w hSw; (try dsimp only at hSw); go_simp; try with_reducible rfl)
   try simp only [Act.put, List.getElem_toArray, List.getElem_cons_succ, List.getElem_cons_zero, List.setIfInBounds_toArray, List.set_cons_zero, List.set_cons_succ]
   refine wpAnyH_take (i := 4) (v := ?vc4_5) rfl (by kernel_rfl) (by kernel_rfl) (by kernel_rfl) (fun _ _ _ h => h) (Or.inl ⟨by rfl, ?hyc4_5⟩) (by assumption) ?restc4_5
   case hyc4_5 => (intro w hSw; (try dsimp only at hSw); go_simp; try with_reducible rfl)
   try simp only [Act.put, List.getElem_toArray, List.getElem_cons_succ, List.getElem_cons_zero, List.setIfInBounds_toArray, List.set_cons_zero, List.set_cons_succ]
   refine wpAnyH_take (i := 7) (v := ?vc7_6) rfl (by kernel_rfl) (by kernel_rfl) (by kernel_rfl) (fun _ _ _ h => h) (Or.inl ⟨by rfl, ?hyc7_6⟩) (by assumption) ?restc7_6
   case hyc7_6 => (intro w hSw; (try dsimp only at hSw); go_simp; try with_reducible rfl)
   try simp only [Act.put, List.getElem_toArray, List.getElem_cons_succ, List.getElem_cons_zero, List.setIfInBounds_toArray, List.set_cons_zero, List.set_cons_succ]
   refine wpAnyH_take (i := 8) (v := ?vc8_7) rfl (by kernel_rfl) (by kernel_rfl) (by kernel_rfl) (fun _ _ _ h => h) (Or.inl ⟨by rfl, ?hyc8_7⟩) (by assumption) ?restc8_7
   case hyc8_7 => (intro w hSw; (try dsimp only at hSw); go_simp; try with_reducible rfl)
   try simp only [Act.put, List.getElem_toArray, List.getElem_cons_succ, List.getElem_cons_zero, List.setIfInBounds_toArray, List.set_cons_zero, List.set_cons_succ]
   refine wpAnyH_take (i := 9) (v := ?vc9_8) rfl (by kernel_rfl) (by kernel_rfl) (by kernel_rfl) (fun _ _ _ h => h) (Or.inl ⟨by rfl, ?hyc9_8⟩) (by assumption) ?restc9_8
   case hyc9_8 => (intro w hSw; (try dsimp only at hSw); go_simp; try with_reducible rfl)
   try simp only [Act.put, List.getElem_toArray, List.getElem_cons_succ, List.getElem_cons_zero, List.setIfInBounds_toArray, List.set_cons_zero, List.set_cons_succ]
   refine wpAnyH_ready (rs := [5, 10]) (by kernel_rfl) (by simp) ?_
   refine AllReadyH.cons rfl (fun Kc hKc => ?_) (AllReadyH.cons rfl (fun Kc hKc => ?_) AllReadyH.nil)
   ·have f2 : w3.drew.cell? ⟨g, 0, none⟩ = some (.slice ae R.length ce) := ((grown_trans (grown_refl w3 none) (grown_drew _ none)) : Ext w3 w3.drew).cell hcr (by simp)
    go_simp
    refine hKc.out _ _ ?_ (fun hHeld => ?_)
    ·exact Near.of (grown_trans (grown_refl w3 none) (grown_drew _ none))
    clear hKc Kc
    try simp only [Act.put, List.getElem_toArray, List.getElem_cons_succ, List.getElem_cons_zero, List.setIfInBounds_toArray, List.set_cons_zero, List.set_cons_succ]
    refine wpAnyH_ready (rs := [6, 10]) (by kernel_rfl) (by simp) ?_
    refine AllReadyH.cons rfl (fun Kc hKc => ?_) (AllReadyH.cons rfl (fun Kc hKc => ?_) AllReadyH.nil)
    ·go_simp
     go_at_call 213
     refine Calls.mono (l01Own2_ok w3.drew _ R _ (Rows2.ext hre (grown_trans (grown_refl w3 none) (grown_drew _ none))) HR.out.1 (by omega)) ?_
     rintro e5 w5 ⟨v5, rfl, hg5, hO5⟩
     have hg35 : Ext w3 w5 := grown_trans (grown_trans (grown_refl w3 none) (grown_drew _ none)) hg5
     obtain ⟨vs, G, hvl, hO5, hG5, _, hE5⟩ := hO5
     have hsd : w3.drew.heap.size = w3.heap.size + 0 := (by simp : w3.heap.size = w3.heap.size + 0)
     have hbb : ∀ k, v5.ownBlock = some k → w3.heap.size + 0 ≤ k := fun k hk => by have := (hO5.lt k hk).1; omega
     have hO5 : OwnV w3.heap.size 24 w5 v5 vs := ownsRow_move hO5 (fun k hk => ⟨rfl, Nat.le_trans ((grown_trans (grown_refl w3 none) (grown_drew _ none)) : Ext w3 w3.drew).size (hO5.lt k hk).1⟩)
     have hE5 : ∀ i, i < R.length → Ints (fun k => w3.heap.size ≤ k ∧ v5.ownBlock ≠ some k) w5 (gt vs i) (gt R i) := fun i hi => Ints.sub (hE5 i hi).ints (fun k hk _ => ⟨Nat.le_trans ((grown_trans (grown_refl w3 none) (grown_drew _ none)) : Ext w3 w3.drew).size (hG5 i k hi hk).1, (hG5 i k hi hk).2.1⟩)
     obtain ⟨a5, c5, hv5, _⟩ : ∃ a c, v5 = .slice a vs.length c ∧ True := by
      rcases hO5.form with ⟨h1, h2⟩ | ⟨g5, cap5, h1, _⟩
      ·exact ⟨_, _, by rw [h1, h2]; rfl, trivial⟩
      ·exact ⟨_, _, h1, trivial⟩
     have hvl6 : vs.length ≤ 6 := by omega
     subst hv5
     have HE5 := Lib.hid (And.intro hE5 hvl); clear hE5 hvl hG5
     go_wp2_with fail
     refine hKc.out _ _ ?_ (fun hHeld => ?_)
     ·exact Near.of hg35
     clear hKc Kc
     try simp only [Act.put, List.getElem_toArray, List.getElem_cons_succ, List.getElem_cons_zero, List.setIfInBounds_toArray, List.set_cons_zero, List.set_cons_succ]
     refine wpAnyH_ready (rs := [10]) (by kernel_rfl) (by simp) ?_
     refine AllReadyH.cons rfl (fun Kc hKc => ?_) AllReadyH.nil
     go_simp
     refine hKc.out _ _ ?_ (fun hHeld => ?_)
     ·exact Near.of (grown_trans hg35 (World.grownBy_alloc w5 (.cells (madeCells #[.int .i64 0] n) 2) none))
     clear hKc Kc
     try simp only [Act.put, List.getElem_toArray, List.getElem_cons_succ, List.getElem_cons_zero, List.setIfInBounds_toArray, List.set_cons_zero, List.set_cons_succ]
     refine wpAnyH_ready (rs := [11]) (by kernel_rfl) (by simp) ?_
     refine AllReadyH.cons rfl (fun Kc hKc => ?_) AllReadyH.nil
     go_simp
     refine hKc.out _ _ ?_ (fun hHeld => ?_)
     ·exact Near.of (grown_trans (grown_trans hg35 (World.grownBy_alloc w5 (.cells (madeCells #[.int .i64 0] n) 2) none)) (World.grownBy_alloc (w5.alloc (.cells (madeCells #[.int .i64 0] n) 2)) (.cells #[.slice (some ⟨w5.heap.size, 0, none⟩) n n] 24) none))
     clear hKc Kc
     try simp only [Act.put, List.getElem_toArray, List.getElem_cons_succ, List.getElem_cons_zero, List.setIfInBounds_toArray, List.set_cons_zero, List.set_cons_succ]
     refine wpAnyH_ready (rs := [12]) (by kernel_rfl) (by simp) ?_
     refine AllReadyH.cons rfl (fun Kc hKc => ?_) AllReadyH.nil
     have hM0 : Ints (fun k => w3.heap.size ≤ k ∧ k = w5.heap.size) (w5.alloc (.cells (madeCells #[.int .i64 0] n) 2)) (.slice (some ⟨w5.heap.size, 0, none⟩) n n) (List.replicate n 0) := ints_of_own (own_mk_ints n (by omega) w5) (by simp; omega) (fun k hk => by have := own_blk hk; subst this; exact ⟨by first | exact Nat.le_refl _ | exact hg35.size, rfl⟩)
     have hM : Ints (fun k => w3.heap.size ≤ k ∧ k = w5.heap.size) ((w5.alloc (.cells (madeCells #[.int .i64 0] n) 2)).alloc (.cells #[.slice (some ⟨w5.heap.size, 0, none⟩) n n] 24)) (.slice (some ⟨w5.heap.size, 0, none⟩) n n) (List.replicate n 0) := Ints.ext hM0 (grown_trans (grown_refl _ none) (World.grownBy_alloc (w5.alloc (.cells (madeCells #[.int .i64 0] n) 2)) (.cells #[.slice (some ⟨w5.heap.size, 0, none⟩) n n] 24) none))
     have hszl : (w5.alloc (.cells (madeCells #[.int .i64 0] n) 2)).heap.size = w5.heap.size + 1 := by simp
     have hu0 : ((w5.alloc (.cells (madeCells #[.int .i64 0] n) 2)).alloc (.cells #[.slice (some ⟨w5.heap.size, 0, none⟩) n n] 24)).cell? ⟨w5.heap.size + 1, 0, none⟩ = some (.slice (some ⟨w5.heap.size, 0, none⟩) n n) := by rw [World.cell?_alloc_at _ _ _ _ hszl.symm]; rfl
     have hu := hu0
     have hc35 : Ext w3 ((w5.alloc (.cells (madeCells #[.int .i64 0] n) 2)).alloc (.cells #[.slice (some ⟨w5.heap.size, 0, none⟩) n n] 24)) := (grown_trans (grown_trans hg35 (World.grownBy_alloc w5 (.cells (madeCells #[.int .i64 0] n) 2) none)) (World.grownBy_alloc (w5.alloc (.cells (madeCells #[.int .i64 0] n) 2)) (.cells #[.slice (some ⟨w5.heap.size, 0, none⟩) n n] 24) none))
     have hc5 : Ext w5 ((w5.alloc (.cells (madeCells #[.int .i64 0] n) 2)).alloc (.cells #[.slice (some ⟨w5.heap.size, 0, none⟩) n n] 24)) := (grown_trans (grown_trans (grown_refl _ none) (World.grownBy_alloc w5 (.cells (madeCells #[.int .i64 0] n) 2) none)) (World.grownBy_alloc (w5.alloc (.cells (madeCells #[.int .i64 0] n) 2)) (.cells #[.slice (some ⟨w5.heap.size, 0, none⟩) n n] 24) none))
     have hOc := World.ownsRow.kept hO5 hc5 (by cases hv : (Value.slice a5 vs.length c5).ownBlock <;> simp)
     refine step_app_rowH (by rfl) _ _ (by rfl) w3.heap.size _ vs (by rfl) hOc (w5.heap.size + 1) _ (by rfl) ⟨hu, rfl⟩ (by omega) hc35.size ?_
     intro v6 w6 hO6 hg6 hat6
     have hg36 : Ext w3 w6 := grown_own hc35 hg6 (fun j hj hlt => by have := (hO5.lt j hj).1; omega)
     have hRows6 := rows_app (L := R) (y := List.replicate n 0) hO6 HE5.out.2 (by omega) HE5.out.1 hc5 hg6 hM (fun k hk => ⟨hk.1, fun e => by have h1 := hbb k e; have h2 := (hO5.lt k e).2; omega⟩)
     obtain ⟨a6, c6, hv6, _⟩ : ∃ a c, v6 = .slice a (vs.length + 1) c ∧ True := by
      have hll : (vs ++ [Value.slice (some ⟨w5.heap.size, 0, none⟩) n n]).length = vs.length + 1 := by simp
      rcases hO6.form with ⟨h1, h2⟩ | ⟨g5, cap5, h1, _⟩
      ·simp at h2
      ·exact ⟨_, _, by rw [h1, hll], trivial⟩
     subst hv6
     have r1 := hg36.cell hcr (by simp)
     have r2 := (World.frozen?_of_block (a := ⟨g, 0, none⟩) (hg36.block g hgl (by simp))).trans hfg
     refine hKc.out _ _ ?_ (fun hHeld => ?_)
     ·exact Near.of hg36
     clear hKc Kc
     try simp only [Act.put, List.getElem_toArray, List.getElem_cons_succ, List.getElem_cons_zero, List.setIfInBounds_toArray, List.set_cons_zero, List.set_cons_succ]
     refine wpAnyH_take (i := 13) (v := ?vc13_9) rfl (by kernel_rfl) (by kernel_rfl) (by kernel_rfl) (fun _ _ _ h => h) (Or.inl ⟨by rfl, ?hyc13_9⟩) (by assumption) ?restc13_9
     case hyc13_9 => (intro w hSw; (try dsimp only at hSw); go_simp; try with_reducible rfl)
     try simp only [Act.put, List.getElem_toArray, List.getElem_cons_succ, List.getElem_cons_zero, List.setIfInBounds_toArray, List.set_cons_zero, List.set_cons_succ]
     refine wpAnyH_ready (rs := [14]) (by kernel_rfl) (by simp) ?_
     refine AllReadyH.cons rfl (fun Kc hKc => ?_) AllReadyH.nil
     go_simp
     refine hKc.out _ _ ?_ (fun hHeld => ?_)
     ·exact Near.store hg36
     clear hKc Kc
     try simp only [Act.put, List.getElem_toArray, List.getElem_cons_succ, List.getElem_cons_zero, List.setIfInBounds_toArray, List.set_cons_zero, List.set_cons_succ]
     refine wpAnyH_done (by kernel_rfl) ?_ _
     clear r1 r2 hmk e0 e1
     have hT := grown_set1 w6 g 0 (.slice a6 (vs.length + 1) c6)
     have hb7 := (hbQ3.ext hg36).moved hT (by omega)
     have hbR7 := (hbR3.ext hg36).moved hT (by omega)
     have hg7 := grown_own (grown_trans hgw3 (grown_of_ext (some sb) hg36)) hT (fun j hj hlt => by have := Option.some.inj hj; omega)
     have hs7 := (HX3.out.2.1.ext hg36).own hT (fun k hk => by have := Option.some.inj hk; omega)
     have hP7 := HX3.out.1.putRow 0 hn1 HX3.out.2.2.2.2 hg36 hRows6
     have HF := Lib.hid (And.intro hb7 (And.intro hbR7 (And.intro hg7 (And.intro hs7 hP7)))); clear hb7 hbR7 hg7 hs7 hP7 hT hRows6
     go_wp2_with fail
     go_meet
     obtain ⟨hb7, hbR7, hg7, hs7, Q7, hq7, hP7⟩ := HF.out
     exact ⟨_, _, _, _, _, _, _, _, _, _, hb7, hbR7, hg7, hs7, (by rw [hq7, ← HX3.out.2.2.1]; omega), (OrdLe.same hq7), hP7.mono (fun k hk hlt => ⟨by rcases hk with hk | hk <;> omega, hlt, rfl⟩)⟩
    ·go_simp
     refine hKc.out _ _ ?_ (fun hHeld => ?_)
     ·exact Near.of (grown_trans (grown_trans (grown_refl w3 none) (World.grownBy_alloc w3 (.cells (madeCells #[.int .i64 0] n) 2) none)) (grown_drew _ none))
     clear hKc Kc
     try simp only [Act.put, List.getElem_toArray, List.getElem_cons_succ, List.getElem_cons_zero, List.setIfInBounds_toArray, List.set_cons_zero, List.set_cons_succ]
     refine wpAnyH_ready (rs := [6, 11]) (by kernel_rfl) (by simp) ?_
     refine AllReadyH.cons rfl (fun Kc hKc => ?_) (AllReadyH.cons rfl (fun Kc hKc => ?_) AllReadyH.nil)
     ·go_simp
      go_at_call 213
      refine Calls.mono (l01Own2_ok (w3.alloc (.cells (madeCells #[.int .i64 0] n) 2)).drew _ R _ (Rows2.ext hre (grown_trans (grown_trans (grown_refl w3 none) (World.grownBy_alloc w3 (.cells (madeCells #[.int .i64 0] n) 2) none)) (grown_drew _ none))) HR.out.1 (by omega)) ?_
      rintro e5 w5 ⟨v5, rfl, hg5, hO5⟩
      have hg35 : Ext w3 w5 := grown_trans (grown_trans (grown_trans (grown_refl w3 none) (World.grownBy_alloc w3 (.cells (madeCells #[.int .i64 0] n) 2) none)) (grown_drew _ none)) hg5
      obtain ⟨vs, G, hvl, hO5, hG5, _, hE5⟩ := hO5
      have hsd : (w3.alloc (.cells (madeCells #[.int .i64 0] n) 2)).drew.heap.size = w3.heap.size + 1 := (by simp : (w3.alloc (.cells (madeCells #[.int .i64 0] n) 2)).heap.size = w3.heap.size + 1)
      have hbb : ∀ k, v5.ownBlock = some k → w3.heap.size + 1 ≤ k := fun k hk => by have := (hO5.lt k hk).1; omega
      have hO5 : OwnV w3.heap.size 24 w5 v5 vs := ownsRow_move hO5 (fun k hk => ⟨rfl, Nat.le_trans ((grown_trans (grown_trans (grown_refl w3 none) (World.grownBy_alloc w3 (.cells (madeCells #[.int .i64 0] n) 2) none)) (grown_drew _ none)) : Ext w3 (w3.alloc (.cells (madeCells #[.int .i64 0] n) 2)).drew).size (hO5.lt k hk).1⟩)
      have hE5 : ∀ i, i < R.length → Ints (fun k => w3.heap.size ≤ k ∧ v5.ownBlock ≠ some k) w5 (gt vs i) (gt R i) := fun i hi => Ints.sub (hE5 i hi).ints (fun k hk _ => ⟨Nat.le_trans ((grown_trans (grown_trans (grown_refl w3 none) (World.grownBy_alloc w3 (.cells (madeCells #[.int .i64 0] n) 2) none)) (grown_drew _ none)) : Ext w3 (w3.alloc (.cells (madeCells #[.int .i64 0] n) 2)).drew).size (hG5 i k hi hk).1, (hG5 i k hi hk).2.1⟩)
      obtain ⟨a5, c5, hv5, _⟩ : ∃ a c, v5 = .slice a vs.length c ∧ True := by
       rcases hO5.form with ⟨h1, h2⟩ | ⟨g5, cap5, h1, _⟩
       ·exact ⟨_, _, by rw [h1, h2]; rfl, trivial⟩
       ·exact ⟨_, _, h1, trivial⟩
      have hvl6 : vs.length ≤ 6 := by omega
      subst hv5
      have HE5 := Lib.hid (And.intro hE5 hvl); clear hE5 hvl hG5
      go_wp2_with fail
      refine hKc.out _ _ ?_ (fun hHeld => ?_)
      ·exact Near.of hg35
      clear hKc Kc
      try simp only [Act.put, List.getElem_toArray, List.getElem_cons_succ, List.getElem_cons_zero, List.setIfInBounds_toArray, List.set_cons_zero, List.set_cons_succ]
      refine wpAnyH_ready (rs := [11]) (by kernel_rfl) (by simp) ?_
      refine AllReadyH.cons rfl (fun Kc hKc => ?_) AllReadyH.nil
      go_simp
      refine hKc.out _ _ ?_ (fun hHeld => ?_)
      ·exact Near.of (grown_trans hg35 (World.grownBy_alloc w5 (.cells #[.slice (some ⟨w3.heap.size, 0, none⟩) n n] 24) none))
      clear hKc Kc
      try simp only [Act.put, List.getElem_toArray, List.getElem_cons_succ, List.getElem_cons_zero, List.setIfInBounds_toArray, List.set_cons_zero, List.set_cons_succ]
      refine wpAnyH_ready (rs := [12]) (by kernel_rfl) (by simp) ?_
      refine AllReadyH.cons rfl (fun Kc hKc => ?_) AllReadyH.nil
      have hM0 : Ints (fun k => w3.heap.size ≤ k ∧ k = w3.heap.size) (w3.alloc (.cells (madeCells #[.int .i64 0] n) 2)) (.slice (some ⟨w3.heap.size, 0, none⟩) n n) (List.replicate n 0) := ints_of_own (own_mk_ints n (by omega) w3) (by simp; omega) (fun k hk => by have := own_blk hk; subst this; exact ⟨by first | exact Nat.le_refl _ | exact hg35.size, rfl⟩)
      have hM : Ints (fun k => w3.heap.size ≤ k ∧ k = w3.heap.size) (w5.alloc (.cells #[.slice (some ⟨w3.heap.size, 0, none⟩) n n] 24)) (.slice (some ⟨w3.heap.size, 0, none⟩) n n) (List.replicate n 0) := Ints.ext hM0 (grown_trans (grown_trans (grown_trans (grown_refl _ none) (grown_drew (w3.alloc (.cells (madeCells #[.int .i64 0] n) 2)) none)) (hg5)) (World.grownBy_alloc w5 (.cells #[.slice (some ⟨w3.heap.size, 0, none⟩) n n] 24) none))
      have hszl : w5.heap.size = w5.heap.size := rfl
      have hu0 : (w5.alloc (.cells #[.slice (some ⟨w3.heap.size, 0, none⟩) n n] 24)).cell? ⟨w5.heap.size, 0, none⟩ = some (.slice (some ⟨w3.heap.size, 0, none⟩) n n) := by rw [World.cell?_alloc_at _ _ _ _ hszl.symm]; rfl
      have hu := hu0
      have hc35 : Ext w3 (w5.alloc (.cells #[.slice (some ⟨w3.heap.size, 0, none⟩) n n] 24)) := (grown_trans hg35 (World.grownBy_alloc w5 (.cells #[.slice (some ⟨w3.heap.size, 0, none⟩) n n] 24) none))
      have hc5 : Ext w5 (w5.alloc (.cells #[.slice (some ⟨w3.heap.size, 0, none⟩) n n] 24)) := (grown_trans (grown_refl _ none) (World.grownBy_alloc w5 (.cells #[.slice (some ⟨w3.heap.size, 0, none⟩) n n] 24) none))
      have hOc := World.ownsRow.kept hO5 hc5 (by cases hv : (Value.slice a5 vs.length c5).ownBlock <;> simp)
      refine step_app_rowH (by rfl) _ _ (by rfl) w3.heap.size _ vs (by rfl) hOc (w5.heap.size) _ (by rfl) ⟨hu, rfl⟩ (by omega) hc35.size ?_
      intro v6 w6 hO6 hg6 hat6
      have hg36 : Ext w3 w6 := grown_own hc35 hg6 (fun j hj hlt => by have := (hO5.lt j hj).1; omega)
      have hRows6 := rows_app (L := R) (y := List.replicate n 0) hO6 HE5.out.2 (by omega) HE5.out.1 hc5 hg6 hM (fun k hk => ⟨hk.1, fun e => by have h1 := hbb k e; have h2 := (hO5.lt k e).2; omega⟩)
      obtain ⟨a6, c6, hv6, _⟩ : ∃ a c, v6 = .slice a (vs.length + 1) c ∧ True := by
       have hll : (vs ++ [Value.slice (some ⟨w3.heap.size, 0, none⟩) n n]).length = vs.length + 1 := by simp
       rcases hO6.form with ⟨h1, h2⟩ | ⟨g5, cap5, h1, _⟩
       ·simp at h2
       ·exact ⟨_, _, by rw [h1, hll], trivial⟩
      subst hv6
      have r1 := hg36.cell hcr (by simp)
      have r2 := (World.frozen?_of_block (a := ⟨g, 0, none⟩) (hg36.block g hgl (by simp))).trans hfg
      refine hKc.out _ _ ?_ (fun hHeld => ?_)
      ·exact Near.of hg36
      clear hKc Kc
      try simp only [Act.put, List.getElem_toArray, List.getElem_cons_succ, List.getElem_cons_zero, List.setIfInBounds_toArray, List.set_cons_zero, List.set_cons_succ]
      refine wpAnyH_take (i := 13) (v := ?vc13_10) rfl (by kernel_rfl) (by kernel_rfl) (by kernel_rfl) (fun _ _ _ h => h) (Or.inl ⟨by rfl, ?hyc13_10⟩) (by assumption) ?restc13_10
      case hyc13_10 => (intro w hSw; (try dsimp only at hSw); go_simp; try with_reducible rfl)
      try simp only [Act.put, List.getElem_toArray, List.getElem_cons_succ, List.getElem_cons_zero, List.setIfInBounds_toArray, List.set_cons_zero, List.set_cons_succ]
      refine wpAnyH_ready (rs := [14]) (by kernel_rfl) (by simp) ?_
      refine AllReadyH.cons rfl (fun Kc hKc => ?_) AllReadyH.nil
      go_simp
      refine hKc.out _ _ ?_ (fun hHeld => ?_)
      ·exact Near.store hg36
      clear hKc Kc
      try simp only [Act.put, List.getElem_toArray, List.getElem_cons_succ, List.getElem_cons_zero, List.setIfInBounds_toArray, List.set_cons_zero, List.set_cons_succ]
      refine wpAnyH_done (by kernel_rfl) ?_ _
      clear r1 r2 hmk e0 e1
      have hT := grown_set1 w6 g 0 (.slice a6 (vs.length + 1) c6)
      have hb7 := (hbQ3.ext hg36).moved hT (by omega)
      have hbR7 := (hbR3.ext hg36).moved hT (by omega)
      have hg7 := grown_own (grown_trans hgw3 (grown_of_ext (some sb) hg36)) hT (fun j hj hlt => by have := Option.some.inj hj; omega)
      have hs7 := (HX3.out.2.1.ext hg36).own hT (fun k hk => by have := Option.some.inj hk; omega)
      have hP7 := HX3.out.1.putRow 0 hn1 HX3.out.2.2.2.2 hg36 hRows6
      have HF := Lib.hid (And.intro hb7 (And.intro hbR7 (And.intro hg7 (And.intro hs7 hP7)))); clear hb7 hbR7 hg7 hs7 hP7 hT hRows6
      go_wp2_with fail
      go_meet
      obtain ⟨hb7, hbR7, hg7, hs7, Q7, hq7, hP7⟩ := HF.out
      exact ⟨_, _, _, _, _, _, _, _, _, _, hb7, hbR7, hg7, hs7, (by rw [hq7, ← HX3.out.2.2.1]; omega), (OrdLe.same hq7), hP7.mono (fun k hk hlt => ⟨by rcases hk with hk | hk <;> omega, hlt, rfl⟩)⟩
     ·go_simp
      refine hKc.out _ _ ?_ (fun hHeld => ?_)
      ·exact Near.of (grown_trans (grown_trans (grown_trans (grown_refl w3 none) (World.grownBy_alloc w3 (.cells (madeCells #[.int .i64 0] n) 2) none)) (World.grownBy_alloc (w3.alloc (.cells (madeCells #[.int .i64 0] n) 2)) (.cells #[.slice (some ⟨w3.heap.size, 0, none⟩) n n] 24) none)) (grown_drew _ none))
      clear hKc Kc
      try simp only [Act.put, List.getElem_toArray, List.getElem_cons_succ, List.getElem_cons_zero, List.setIfInBounds_toArray, List.set_cons_zero, List.set_cons_succ]
      refine wpAnyH_ready (rs := [6]) (by kernel_rfl) (by simp) ?_
      refine AllReadyH.cons rfl (fun Kc hKc => ?_) AllReadyH.nil
      go_simp
      go_at_call 213
      refine Calls.mono (l01Own2_ok ((w3.alloc (.cells (madeCells #[.int .i64 0] n) 2)).alloc (.cells #[.slice (some ⟨w3.heap.size, 0, none⟩) n n] 24)).drew _ R _ (Rows2.ext hre (grown_trans (grown_trans (grown_trans (grown_refl w3 none) (World.grownBy_alloc w3 (.cells (madeCells #[.int .i64 0] n) 2) none)) (World.grownBy_alloc (w3.alloc (.cells (madeCells #[.int .i64 0] n) 2)) (.cells #[.slice (some ⟨w3.heap.size, 0, none⟩) n n] 24) none)) (grown_drew _ none))) HR.out.1 (by omega)) ?_
      rintro e5 w5 ⟨v5, rfl, hg5, hO5⟩
      have hg35 : Ext w3 w5 := grown_trans (grown_trans (grown_trans (grown_trans (grown_refl w3 none) (World.grownBy_alloc w3 (.cells (madeCells #[.int .i64 0] n) 2) none)) (World.grownBy_alloc (w3.alloc (.cells (madeCells #[.int .i64 0] n) 2)) (.cells #[.slice (some ⟨w3.heap.size, 0, none⟩) n n] 24) none)) (grown_drew _ none)) hg5
      obtain ⟨vs, G, hvl, hO5, hG5, _, hE5⟩ := hO5
      have hsd : ((w3.alloc (.cells (madeCells #[.int .i64 0] n) 2)).alloc (.cells #[.slice (some ⟨w3.heap.size, 0, none⟩) n n] 24)).drew.heap.size = w3.heap.size + 2 := (by simp : ((w3.alloc (.cells (madeCells #[.int .i64 0] n) 2)).alloc (.cells #[.slice (some ⟨w3.heap.size, 0, none⟩) n n] 24)).heap.size = w3.heap.size + 2)
      have hbb : ∀ k, v5.ownBlock = some k → w3.heap.size + 2 ≤ k := fun k hk => by have := (hO5.lt k hk).1; omega
      have hO5 : OwnV w3.heap.size 24 w5 v5 vs := ownsRow_move hO5 (fun k hk => ⟨rfl, Nat.le_trans ((grown_trans (grown_trans (grown_trans (grown_refl w3 none) (World.grownBy_alloc w3 (.cells (madeCells #[.int .i64 0] n) 2) none)) (World.grownBy_alloc (w3.alloc (.cells (madeCells #[.int .i64 0] n) 2)) (.cells #[.slice (some ⟨w3.heap.size, 0, none⟩) n n] 24) none)) (grown_drew _ none)) : Ext w3 ((w3.alloc (.cells (madeCells #[.int .i64 0] n) 2)).alloc (.cells #[.slice (some ⟨w3.heap.size, 0, none⟩) n n] 24)).drew).size (hO5.lt k hk).1⟩)
      have hE5 : ∀ i, i < R.length → Ints (fun k => w3.heap.size ≤ k ∧ v5.ownBlock ≠ some k) w5 (gt vs i) (gt R i) := fun i hi => Ints.sub (hE5 i hi).ints (fun k hk _ => ⟨Nat.le_trans ((grown_trans (grown_trans (grown_trans (grown_refl w3 none) (World.grownBy_alloc w3 (.cells (madeCells #[.int .i64 0] n) 2) none)) (World.grownBy_alloc (w3.alloc (.cells (madeCells #[.int .i64 0] n) 2)) (.cells #[.slice (some ⟨w3.heap.size, 0, none⟩) n n] 24) none)) (grown_drew _ none)) : Ext w3 ((w3.alloc (.cells (madeCells #[.int .i64 0] n) 2)).alloc (.cells #[.slice (some ⟨w3.heap.size, 0, none⟩) n n] 24)).drew).size (hG5 i k hi hk).1, (hG5 i k hi hk).2.1⟩)
      obtain ⟨a5, c5, hv5, _⟩ : ∃ a c, v5 = .slice a vs.length c ∧ True := by
       rcases hO5.form with ⟨h1, h2⟩ | ⟨g5, cap5, h1, _⟩
       ·exact ⟨_, _, by rw [h1, h2]; rfl, trivial⟩
       ·exact ⟨_, _, h1, trivial⟩
      have hvl6 : vs.length ≤ 6 := by omega
      subst hv5
      have HE5 := Lib.hid (And.intro hE5 hvl); clear hE5 hvl hG5
      go_wp2_with fail
      refine hKc.out _ _ ?_ (fun hHeld => ?_)
      ·exact Near.of hg35
      clear hKc Kc
      try simp only [Act.put, List.getElem_toArray, List.getElem_cons_succ, List.getElem_cons_zero, List.setIfInBounds_toArray, List.set_cons_zero, List.set_cons_succ]
      refine wpAnyH_ready (rs := [12]) (by kernel_rfl) (by simp) ?_
      refine AllReadyH.cons rfl (fun Kc hKc => ?_) AllReadyH.nil
      have hM0 : Ints (fun k => w3.heap.size ≤ k ∧ k = w3.heap.size) (w3.alloc (.cells (madeCells #[.int .i64 0] n) 2)) (.slice (some ⟨w3.heap.size, 0, none⟩) n n) (List.replicate n 0) := ints_of_own (own_mk_ints n (by omega) w3) (by simp; omega) (fun k hk => by have := own_blk hk; subst this; exact ⟨by first | exact Nat.le_refl _ | exact hg35.size, rfl⟩)
      have hM : Ints (fun k => w3.heap.size ≤ k ∧ k = w3.heap.size) w5 (.slice (some ⟨w3.heap.size, 0, none⟩) n n) (List.replicate n 0) := Ints.ext hM0 (grown_trans (grown_trans (grown_trans (grown_refl _ none) (World.grownBy_alloc (w3.alloc (.cells (madeCells #[.int .i64 0] n) 2)) (.cells #[.slice (some ⟨w3.heap.size, 0, none⟩) n n] 24) none)) (grown_drew ((w3.alloc (.cells (madeCells #[.int .i64 0] n) 2)).alloc (.cells #[.slice (some ⟨w3.heap.size, 0, none⟩) n n] 24)) none)) (hg5))
      have hszl : (w3.alloc (.cells (madeCells #[.int .i64 0] n) 2)).heap.size = w3.heap.size + 1 := by simp
      have hu0 : ((w3.alloc (.cells (madeCells #[.int .i64 0] n) 2)).alloc (.cells #[.slice (some ⟨w3.heap.size, 0, none⟩) n n] 24)).cell? ⟨w3.heap.size + 1, 0, none⟩ = some (.slice (some ⟨w3.heap.size, 0, none⟩) n n) := by rw [World.cell?_alloc_at _ _ _ _ hszl.symm]; rfl
      have hu : w5.cell? ⟨w3.heap.size + 1, 0, none⟩ = some (.slice (some ⟨w3.heap.size, 0, none⟩) n n) := hg5.cell hu0 (by simp)
      have hc35 : Ext w3 w5 := hg35
      have hc5 : Ext w5 w5 := (grown_refl _ none)
      have hOc := World.ownsRow.kept hO5 hc5 (by cases hv : (Value.slice a5 vs.length c5).ownBlock <;> simp)
      refine step_app_rowH (by rfl) _ _ (by rfl) w3.heap.size _ vs (by rfl) hOc (w3.heap.size + 1) _ (by rfl) ⟨hu, rfl⟩ (by omega) hc35.size ?_
      intro v6 w6 hO6 hg6 hat6
      have hg36 : Ext w3 w6 := grown_own hc35 hg6 (fun j hj hlt => by have := (hO5.lt j hj).1; omega)
      have hRows6 := rows_app (L := R) (y := List.replicate n 0) hO6 HE5.out.2 (by omega) HE5.out.1 hc5 hg6 hM (fun k hk => ⟨hk.1, fun e => by have h1 := hbb k e; have h2 := (hO5.lt k e).2; omega⟩)
      obtain ⟨a6, c6, hv6, _⟩ : ∃ a c, v6 = .slice a (vs.length + 1) c ∧ True := by
       have hll : (vs ++ [Value.slice (some ⟨w3.heap.size, 0, none⟩) n n]).length = vs.length + 1 := by simp
       rcases hO6.form with ⟨h1, h2⟩ | ⟨g5, cap5, h1, _⟩
       ·simp at h2
       ·exact ⟨_, _, by rw [h1, hll], trivial⟩
      subst hv6
      have r1 := hg36.cell hcr (by simp)
      have r2 := (World.frozen?_of_block (a := ⟨g, 0, none⟩) (hg36.block g hgl (by simp))).trans hfg
      refine hKc.out _ _ ?_ (fun hHeld => ?_)
      ·exact Near.of hg36
      clear hKc Kc
      try simp only [Act.put, List.getElem_toArray, List.getElem_cons_succ, List.getElem_cons_zero, List.setIfInBounds_toArray, List.set_cons_zero, List.set_cons_succ]
      refine wpAnyH_take (i := 13) (v := ?vc13_11) rfl (by kernel_rfl) (by kernel_rfl) (by kernel_rfl) (fun _ _ _ h => h) (Or.inl ⟨by rfl, ?hyc13_11⟩) (by assumption) ?restc13_11
      case hyc13_11 => (intro w hSw; (try dsimp only at hSw); go_simp; try with_reducible rfl)
      try simp only [Act.put, List.getElem_toArray, List.getElem_cons_succ, List.getElem_cons_zero, List.setIfInBounds_toArray, List.set_cons_zero, List.set_cons_succ]
      refine wpAnyH_ready (rs := [14]) (by kernel_rfl) (by simp) ?_
      refine AllReadyH.cons rfl (fun Kc hKc => ?_) AllReadyH.nil
      go_simp
      refine hKc.out _ _ ?_ (fun hHeld => ?_)
      ·exact Near.store hg36
      clear hKc Kc
      try simp only [Act.put, List.getElem_toArray, List.getElem_cons_succ, List.getElem_cons_zero, List.setIfInBounds_toArray, List.set_cons_zero, List.set_cons_succ]
      refine wpAnyH_done (by kernel_rfl) ?_ _
      clear r1 r2 hmk e0 e1
      have hT := grown_set1 w6 g 0 (.slice a6 (vs.length + 1) c6)
      have hb7 := (hbQ3.ext hg36).moved hT (by omega)
      have hbR7 := (hbR3.ext hg36).moved hT (by omega)
      have hg7 := grown_own (grown_trans hgw3 (grown_of_ext (some sb) hg36)) hT (fun j hj hlt => by have := Option.some.inj hj; omega)
      have hs7 := (HX3.out.2.1.ext hg36).own hT (fun k hk => by have := Option.some.inj hk; omega)
      have hP7 := HX3.out.1.putRow 0 hn1 HX3.out.2.2.2.2 hg36 hRows6
      have HF := Lib.hid (And.intro hb7 (And.intro hbR7 (And.intro hg7 (And.intro hs7 hP7)))); clear hb7 hbR7 hg7 hs7 hP7 hT hRows6
      go_wp2_with fail
      go_meet
      obtain ⟨hb7, hbR7, hg7, hs7, Q7, hq7, hP7⟩ := HF.out
      exact ⟨_, _, _, _, _, _, _, _, _, _, hb7, hbR7, hg7, hs7, (by rw [hq7, ← HX3.out.2.2.1]; omega), (OrdLe.same hq7), hP7.mono (fun k hk hlt => ⟨by rcases hk with hk | hk <;> omega, hlt, rfl⟩)⟩
   ·go_simp
    refine hKc.out _ _ ?_ (fun hHeld => ?_)
    ·exact Near.of (grown_trans (grown_trans (grown_refl w3 none) (World.grownBy_alloc w3 (.cells (madeCells #[.int .i64 0] n) 2) none)) (grown_drew _ none))
    clear hKc Kc
    try simp only [Act.put, List.getElem_toArray, List.getElem_cons_succ, List.getElem_cons_zero, List.setIfInBounds_toArray, List.set_cons_zero, List.set_cons_succ]
    refine wpAnyH_ready (rs := [5, 11]) (by kernel_rfl) (by simp) ?_
    refine AllReadyH.cons rfl (fun Kc hKc => ?_) (AllReadyH.cons rfl (fun Kc hKc => ?_) AllReadyH.nil)
    ·have f2 : (w3.alloc (.cells (madeCells #[.int .i64 0] n) 2)).drew.cell? ⟨g, 0, none⟩ = some (.slice ae R.length ce) := ((grown_trans (grown_trans (grown_refl w3 none) (World.grownBy_alloc w3 (.cells (madeCells #[.int .i64 0] n) 2) none)) (grown_drew _ none)) : Ext w3 (w3.alloc (.cells (madeCells #[.int .i64 0] n) 2)).drew).cell hcr (by simp)
     go_simp
     refine hKc.out _ _ ?_ (fun hHeld => ?_)
     ·exact Near.of (grown_trans (grown_trans (grown_refl w3 none) (World.grownBy_alloc w3 (.cells (madeCells #[.int .i64 0] n) 2) none)) (grown_drew _ none))
     clear hKc Kc
     try simp only [Act.put, List.getElem_toArray, List.getElem_cons_succ, List.getElem_cons_zero, List.setIfInBounds_toArray, List.set_cons_zero, List.set_cons_succ]
     refine wpAnyH_ready (rs := [6, 11]) (by kernel_rfl) (by simp) ?_
     refine AllReadyH.cons rfl (fun Kc hKc => ?_) (AllReadyH.cons rfl (fun Kc hKc => ?_) AllReadyH.nil)
     ·go_simp
      go_at_call 213
      refine Calls.mono (l01Own2_ok (w3.alloc (.cells (madeCells #[.int .i64 0] n) 2)).drew _ R _ (Rows2.ext hre (grown_trans (grown_trans (grown_refl w3 none) (World.grownBy_alloc w3 (.cells (madeCells #[.int .i64 0] n) 2) none)) (grown_drew _ none))) HR.out.1 (by omega)) ?_
      rintro e5 w5 ⟨v5, rfl, hg5, hO5⟩
      have hg35 : Ext w3 w5 := grown_trans (grown_trans (grown_trans (grown_refl w3 none) (World.grownBy_alloc w3 (.cells (madeCells #[.int .i64 0] n) 2) none)) (grown_drew _ none)) hg5
      obtain ⟨vs, G, hvl, hO5, hG5, _, hE5⟩ := hO5
      have hsd : (w3.alloc (.cells (madeCells #[.int .i64 0] n) 2)).drew.heap.size = w3.heap.size + 1 := (by simp : (w3.alloc (.cells (madeCells #[.int .i64 0] n) 2)).heap.size = w3.heap.size + 1)
      have hbb : ∀ k, v5.ownBlock = some k → w3.heap.size + 1 ≤ k := fun k hk => by have := (hO5.lt k hk).1; omega
      have hO5 : OwnV w3.heap.size 24 w5 v5 vs := ownsRow_move hO5 (fun k hk => ⟨rfl, Nat.le_trans ((grown_trans (grown_trans (grown_refl w3 none) (World.grownBy_alloc w3 (.cells (madeCells #[.int .i64 0] n) 2) none)) (grown_drew _ none)) : Ext w3 (w3.alloc (.cells (madeCells #[.int .i64 0] n) 2)).drew).size (hO5.lt k hk).1⟩)
      have hE5 : ∀ i, i < R.length → Ints (fun k => w3.heap.size ≤ k ∧ v5.ownBlock ≠ some k) w5 (gt vs i) (gt R i) := fun i hi => Ints.sub (hE5 i hi).ints (fun k hk _ => ⟨Nat.le_trans ((grown_trans (grown_trans (grown_refl w3 none) (World.grownBy_alloc w3 (.cells (madeCells #[.int .i64 0] n) 2) none)) (grown_drew _ none)) : Ext w3 (w3.alloc (.cells (madeCells #[.int .i64 0] n) 2)).drew).size (hG5 i k hi hk).1, (hG5 i k hi hk).2.1⟩)
      obtain ⟨a5, c5, hv5, _⟩ : ∃ a c, v5 = .slice a vs.length c ∧ True := by
       rcases hO5.form with ⟨h1, h2⟩ | ⟨g5, cap5, h1, _⟩
       ·exact ⟨_, _, by rw [h1, h2]; rfl, trivial⟩
       ·exact ⟨_, _, h1, trivial⟩
      have hvl6 : vs.length ≤ 6 := by omega
      subst hv5
      have HE5 := Lib.hid (And.intro hE5 hvl); clear hE5 hvl hG5
      go_wp2_with fail
      refine hKc.out _ _ ?_ (fun hHeld => ?_)
      ·exact Near.of hg35
      clear hKc Kc
      try simp only [Act.put, List.getElem_toArray, List.getElem_cons_succ, List.getElem_cons_zero, List.setIfInBounds_toArray, List.set_cons_zero, List.set_cons_succ]
      refine wpAnyH_ready (rs := [11]) (by kernel_rfl) (by simp) ?_
      refine AllReadyH.cons rfl (fun Kc hKc => ?_) AllReadyH.nil
      go_simp
      refine hKc.out _ _ ?_ (fun hHeld => ?_)
      ·exact Near.of (grown_trans hg35 (World.grownBy_alloc w5 (.cells #[.slice (some ⟨w3.heap.size, 0, none⟩) n n] 24) none))
      clear hKc Kc
      try simp only [Act.put, List.getElem_toArray, List.getElem_cons_succ, List.getElem_cons_zero, List.setIfInBounds_toArray, List.set_cons_zero, List.set_cons_succ]
      refine wpAnyH_ready (rs := [12]) (by kernel_rfl) (by simp) ?_
      refine AllReadyH.cons rfl (fun Kc hKc => ?_) AllReadyH.nil
      have hM0 : Ints (fun k => w3.heap.size ≤ k ∧ k = w3.heap.size) (w3.alloc (.cells (madeCells #[.int .i64 0] n) 2)) (.slice (some ⟨w3.heap.size, 0, none⟩) n n) (List.replicate n 0) := ints_of_own (own_mk_ints n (by omega) w3) (by simp; omega) (fun k hk => by have := own_blk hk; subst this; exact ⟨by first | exact Nat.le_refl _ | exact hg35.size, rfl⟩)
      have hM : Ints (fun k => w3.heap.size ≤ k ∧ k = w3.heap.size) (w5.alloc (.cells #[.slice (some ⟨w3.heap.size, 0, none⟩) n n] 24)) (.slice (some ⟨w3.heap.size, 0, none⟩) n n) (List.replicate n 0) := Ints.ext hM0 (grown_trans (grown_trans (grown_trans (grown_refl _ none) (grown_drew (w3.alloc (.cells (madeCells #[.int .i64 0] n) 2)) none)) (hg5)) (World.grownBy_alloc w5 (.cells #[.slice (some ⟨w3.heap.size, 0, none⟩) n n] 24) none))
      have hszl : w5.heap.size = w5.heap.size := rfl
      have hu0 : (w5.alloc (.cells #[.slice (some ⟨w3.heap.size, 0, none⟩) n n] 24)).cell? ⟨w5.heap.size, 0, none⟩ = some (.slice (some ⟨w3.heap.size, 0, none⟩) n n) := by rw [World.cell?_alloc_at _ _ _ _ hszl.symm]; rfl
      have hu := hu0
      have hc35 : Ext w3 (w5.alloc (.cells #[.slice (some ⟨w3.heap.size, 0, none⟩) n n] 24)) := (grown_trans hg35 (World.grownBy_alloc w5 (.cells #[.slice (some ⟨w3.heap.size, 0, none⟩) n n] 24) none))
      have hc5 : Ext w5 (w5.alloc (.cells #[.slice (some ⟨w3.heap.size, 0, none⟩) n n] 24)) := (grown_trans (grown_refl _ none) (World.grownBy_alloc w5 (.cells #[.slice (some ⟨w3.heap.size, 0, none⟩) n n] 24) none))
      have hOc := World.ownsRow.kept hO5 hc5 (by cases hv : (Value.slice a5 vs.length c5).ownBlock <;> simp)
      refine step_app_rowH (by rfl) _ _ (by rfl) w3.heap.size _ vs (by rfl) hOc (w5.heap.size) _ (by rfl) ⟨hu, rfl⟩ (by omega) hc35.size ?_
      intro v6 w6 hO6 hg6 hat6
      have hg36 : Ext w3 w6 := grown_own hc35 hg6 (fun j hj hlt => by have := (hO5.lt j hj).1; omega)
      have hRows6 := rows_app (L := R) (y := List.replicate n 0) hO6 HE5.out.2 (by omega) HE5.out.1 hc5 hg6 hM (fun k hk => ⟨hk.1, fun e => by have h1 := hbb k e; have h2 := (hO5.lt k e).2; omega⟩)
      obtain ⟨a6, c6, hv6, _⟩ : ∃ a c, v6 = .slice a (vs.length + 1) c ∧ True := by
       have hll : (vs ++ [Value.slice (some ⟨w3.heap.size, 0, none⟩) n n]).length = vs.length + 1 := by simp
       rcases hO6.form with ⟨h1, h2⟩ | ⟨g5, cap5, h1, _⟩
       ·simp at h2
       ·exact ⟨_, _, by rw [h1, hll], trivial⟩
      subst hv6
      have r1 := hg36.cell hcr (by simp)
      have r2 := (World.frozen?_of_block (a := ⟨g, 0, none⟩) (hg36.block g hgl (by simp))).trans hfg
      refine hKc.out _ _ ?_ (fun hHeld => ?_)
      ·exact Near.of hg36
      clear hKc Kc
      try simp only [Act.put, List.getElem_toArray, List.getElem_cons_succ, List.getElem_cons_zero, List.setIfInBounds_toArray, List.set_cons_zero, List.set_cons_succ]
      refine wpAnyH_take (i := 13) (v := ?vc13_12) rfl (by kernel_rfl) (by kernel_rfl) (by kernel_rfl) (fun _ _ _ h => h) (Or.inl ⟨by rfl, ?hyc13_12⟩) (by assumption) ?restc13_12
      case hyc13_12 => (intro w hSw; (try dsimp only at hSw); go_simp; try with_reducible rfl)
      try simp only [Act.put, List.getElem_toArray, List.getElem_cons_succ, List.getElem_cons_zero, List.setIfInBounds_toArray, List.set_cons_zero, List.set_cons_succ]
      refine wpAnyH_ready (rs := [14]) (by kernel_rfl) (by simp) ?_
      refine AllReadyH.cons rfl (fun Kc hKc => ?_) AllReadyH.nil
      go_simp
      refine hKc.out _ _ ?_ (fun hHeld => ?_)
      ·exact Near.store hg36
      clear hKc Kc
      try simp only [Act.put, List.getElem_toArray, List.getElem_cons_succ, List.getElem_cons_zero, List.setIfInBounds_toArray, List.set_cons_zero, List.set_cons_succ]
      refine wpAnyH_done (by kernel_rfl) ?_ _
      clear r1 r2 hmk e0 e1
      have hT := grown_set1 w6 g 0 (.slice a6 (vs.length + 1) c6)
      have hb7 := (hbQ3.ext hg36).moved hT (by omega)
      have hbR7 := (hbR3.ext hg36).moved hT (by omega)
      have hg7 := grown_own (grown_trans hgw3 (grown_of_ext (some sb) hg36)) hT (fun j hj hlt => by have := Option.some.inj hj; omega)
      have hs7 := (HX3.out.2.1.ext hg36).own hT (fun k hk => by have := Option.some.inj hk; omega)
      have hP7 := HX3.out.1.putRow 0 hn1 HX3.out.2.2.2.2 hg36 hRows6
      have HF := Lib.hid (And.intro hb7 (And.intro hbR7 (And.intro hg7 (And.intro hs7 hP7)))); clear hb7 hbR7 hg7 hs7 hP7 hT hRows6
      go_wp2_with fail
      go_meet
      obtain ⟨hb7, hbR7, hg7, hs7, Q7, hq7, hP7⟩ := HF.out
      exact ⟨_, _, _, _, _, _, _, _, _, _, hb7, hbR7, hg7, hs7, (by rw [hq7, ← HX3.out.2.2.1]; omega), (OrdLe.same hq7), hP7.mono (fun k hk hlt => ⟨by rcases hk with hk | hk <;> omega, hlt, rfl⟩)⟩
     ·go_simp
      refine hKc.out _ _ ?_ (fun hHeld => ?_)
      ·exact Near.of (grown_trans (grown_trans (grown_trans (grown_refl w3 none) (World.grownBy_alloc w3 (.cells (madeCells #[.int .i64 0] n) 2) none)) (World.grownBy_alloc (w3.alloc (.cells (madeCells #[.int .i64 0] n) 2)) (.cells #[.slice (some ⟨w3.heap.size, 0, none⟩) n n] 24) none)) (grown_drew _ none))
      clear hKc Kc
      try simp only [Act.put, List.getElem_toArray, List.getElem_cons_succ, List.getElem_cons_zero, List.setIfInBounds_toArray, List.set_cons_zero, List.set_cons_succ]
      refine wpAnyH_ready (rs := [6]) (by kernel_rfl) (by simp) ?_
      refine AllReadyH.cons rfl (fun Kc hKc => ?_) AllReadyH.nil
      go_simp
      go_at_call 213
      refine Calls.mono (l01Own2_ok ((w3.alloc (.cells (madeCells #[.int .i64 0] n) 2)).alloc (.cells #[.slice (some ⟨w3.heap.size, 0, none⟩) n n] 24)).drew _ R _ (Rows2.ext hre (grown_trans (grown_trans (grown_trans (grown_refl w3 none) (World.grownBy_alloc w3 (.cells (madeCells #[.int .i64 0] n) 2) none)) (World.grownBy_alloc (w3.alloc (.cells (madeCells #[.int .i64 0] n) 2)) (.cells #[.slice (some ⟨w3.heap.size, 0, none⟩) n n] 24) none)) (grown_drew _ none))) HR.out.1 (by omega)) ?_
      rintro e5 w5 ⟨v5, rfl, hg5, hO5⟩
      have hg35 : Ext w3 w5 := grown_trans (grown_trans (grown_trans (grown_trans (grown_refl w3 none) (World.grownBy_alloc w3 (.cells (madeCells #[.int .i64 0] n) 2) none)) (World.grownBy_alloc (w3.alloc (.cells (madeCells #[.int .i64 0] n) 2)) (.cells #[.slice (some ⟨w3.heap.size, 0, none⟩) n n] 24) none)) (grown_drew _ none)) hg5
      obtain ⟨vs, G, hvl, hO5, hG5, _, hE5⟩ := hO5
      have hsd : ((w3.alloc (.cells (madeCells #[.int .i64 0] n) 2)).alloc (.cells #[.slice (some ⟨w3.heap.size, 0, none⟩) n n] 24)).drew.heap.size = w3.heap.size + 2 := (by simp : ((w3.alloc (.cells (madeCells #[.int .i64 0] n) 2)).alloc (.cells #[.slice (some ⟨w3.heap.size, 0, none⟩) n n] 24)).heap.size = w3.heap.size + 2)
      have hbb : ∀ k, v5.ownBlock = some k → w3.heap.size + 2 ≤ k := fun k hk => by have := (hO5.lt k hk).1; omega
      have hO5 : OwnV w3.heap.size 24 w5 v5 vs := ownsRow_move hO5 (fun k hk => ⟨rfl, Nat.le_trans ((grown_trans (grown_trans (grown_trans (grown_refl w3 none) (World.grownBy_alloc w3 (.cells (madeCells #[.int .i64 0] n) 2) none)) (World.grownBy_alloc (w3.alloc (.cells (madeCells #[.int .i64 0] n) 2)) (.cells #[.slice (some ⟨w3.heap.size, 0, none⟩) n n] 24) none)) (grown_drew _ none)) : Ext w3 ((w3.alloc (.cells (madeCells #[.int .i64 0] n) 2)).alloc (.cells #[.slice (some ⟨w3.heap.size, 0, none⟩) n n] 24)).drew).size (hO5.lt k hk).1⟩)
      have hE5 : ∀ i, i < R.length → Ints (fun k => w3.heap.size ≤ k ∧ v5.ownBlock ≠ some k) w5 (gt vs i) (gt R i) := fun i hi => Ints.sub (hE5 i hi).ints (fun k hk _ => ⟨Nat.le_trans ((grown_trans (grown_trans (grown_trans (grown_refl w3 none) (World.grownBy_alloc w3 (.cells (madeCells #[.int .i64 0] n) 2) none)) (World.grownBy_alloc (w3.alloc (.cells (madeCells #[.int .i64 0] n) 2)) (.cells #[.slice (some ⟨w3.heap.size, 0, none⟩) n n] 24) none)) (grown_drew _ none)) : Ext w3 ((w3.alloc (.cells (madeCells #[.int .i64 0] n) 2)).alloc (.cells #[.slice (some ⟨w3.heap.size, 0, none⟩) n n] 24)).drew).size (hG5 i k hi hk).1, (hG5 i k hi hk).2.1⟩)
      obtain ⟨a5, c5, hv5, _⟩ : ∃ a c, v5 = .slice a vs.length c ∧ True := by
       rcases hO5.form with ⟨h1, h2⟩ | ⟨g5, cap5, h1, _⟩
       ·exact ⟨_, _, by rw [h1, h2]; rfl, trivial⟩
       ·exact ⟨_, _, h1, trivial⟩
      have hvl6 : vs.length ≤ 6 := by omega
      subst hv5
      have HE5 := Lib.hid (And.intro hE5 hvl); clear hE5 hvl hG5
      go_wp2_with fail
      refine hKc.out _ _ ?_ (fun hHeld => ?_)
      ·exact Near.of hg35
      clear hKc Kc
      try simp only [Act.put, List.getElem_toArray, List.getElem_cons_succ, List.getElem_cons_zero, List.setIfInBounds_toArray, List.set_cons_zero, List.set_cons_succ]
      refine wpAnyH_ready (rs := [12]) (by kernel_rfl) (by simp) ?_
      refine AllReadyH.cons rfl (fun Kc hKc => ?_) AllReadyH.nil
      have hM0 : Ints (fun k => w3.heap.size ≤ k ∧ k = w3.heap.size) (w3.alloc (.cells (madeCells #[.int .i64 0] n) 2)) (.slice (some ⟨w3.heap.size, 0, none⟩) n n) (List.replicate n 0) := ints_of_own (own_mk_ints n (by omega) w3) (by simp; omega) (fun k hk => by have := own_blk hk; subst this; exact ⟨by first | exact Nat.le_refl _ | exact hg35.size, rfl⟩)
      have hM : Ints (fun k => w3.heap.size ≤ k ∧ k = w3.heap.size) w5 (.slice (some ⟨w3.heap.size, 0, none⟩) n n) (List.replicate n 0) := Ints.ext hM0 (grown_trans (grown_trans (grown_trans (grown_refl _ none) (World.grownBy_alloc (w3.alloc (.cells (madeCells #[.int .i64 0] n) 2)) (.cells #[.slice (some ⟨w3.heap.size, 0, none⟩) n n] 24) none)) (grown_drew ((w3.alloc (.cells (madeCells #[.int .i64 0] n) 2)).alloc (.cells #[.slice (some ⟨w3.heap.size, 0, none⟩) n n] 24)) none)) (hg5))
      have hszl : (w3.alloc (.cells (madeCells #[.int .i64 0] n) 2)).heap.size = w3.heap.size + 1 := by simp
      have hu0 : ((w3.alloc (.cells (madeCells #[.int .i64 0] n) 2)).alloc (.cells #[.slice (some ⟨w3.heap.size, 0, none⟩) n n] 24)).cell? ⟨w3.heap.size + 1, 0, none⟩ = some (.slice (some ⟨w3.heap.size, 0, none⟩) n n) := by rw [World.cell?_alloc_at _ _ _ _ hszl.symm]; rfl
      have hu : w5.cell? ⟨w3.heap.size + 1, 0, none⟩ = some (.slice (some ⟨w3.heap.size, 0, none⟩) n n) := hg5.cell hu0 (by simp)
      have hc35 : Ext w3 w5 := hg35
      have hc5 : Ext w5 w5 := (grown_refl _ none)
      have hOc := World.ownsRow.kept hO5 hc5 (by cases hv : (Value.slice a5 vs.length c5).ownBlock <;> simp)
      refine step_app_rowH (by rfl) _ _ (by rfl) w3.heap.size _ vs (by rfl) hOc (w3.heap.size + 1) _ (by rfl) ⟨hu, rfl⟩ (by omega) hc35.size ?_
      intro v6 w6 hO6 hg6 hat6
      have hg36 : Ext w3 w6 := grown_own hc35 hg6 (fun j hj hlt => by have := (hO5.lt j hj).1; omega)
      have hRows6 := rows_app (L := R) (y := List.replicate n 0) hO6 HE5.out.2 (by omega) HE5.out.1 hc5 hg6 hM (fun k hk => ⟨hk.1, fun e => by have h1 := hbb k e; have h2 := (hO5.lt k e).2; omega⟩)
      obtain ⟨a6, c6, hv6, _⟩ : ∃ a c, v6 = .slice a (vs.length + 1) c ∧ True := by
       have hll : (vs ++ [Value.slice (some ⟨w3.heap.size, 0, none⟩) n n]).length = vs.length + 1 := by simp
       rcases hO6.form with ⟨h1, h2⟩ | ⟨g5, cap5, h1, _⟩
       ·simp at h2
       ·exact ⟨_, _, by rw [h1, hll], trivial⟩
      subst hv6
      have r1 := hg36.cell hcr (by simp)
      have r2 := (World.frozen?_of_block (a := ⟨g, 0, none⟩) (hg36.block g hgl (by simp))).trans hfg
      refine hKc.out _ _ ?_ (fun hHeld => ?_)
      ·exact Near.of hg36
      clear hKc Kc
      try simp only [Act.put, List.getElem_toArray, List.getElem_cons_succ, List.getElem_cons_zero, List.setIfInBounds_toArray, List.set_cons_zero, List.set_cons_succ]
      refine wpAnyH_take (i := 13) (v := ?vc13_13) rfl (by kernel_rfl) (by kernel_rfl) (by kernel_rfl) (fun _ _ _ h => h) (Or.inl ⟨by rfl, ?hyc13_13⟩) (by assumption) ?restc13_13
      case hyc13_13 => (intro w hSw; (try dsimp only at hSw); go_simp; try with_reducible rfl)
      try simp only [Act.put, List.getElem_toArray, List.getElem_cons_succ, List.getElem_cons_zero, List.setIfInBounds_toArray, List.set_cons_zero, List.set_cons_succ]
      refine wpAnyH_ready (rs := [14]) (by kernel_rfl) (by simp) ?_
      refine AllReadyH.cons rfl (fun Kc hKc => ?_) AllReadyH.nil
      go_simp
      refine hKc.out _ _ ?_ (fun hHeld => ?_)
      ·exact Near.store hg36
      clear hKc Kc
      try simp only [Act.put, List.getElem_toArray, List.getElem_cons_succ, List.getElem_cons_zero, List.setIfInBounds_toArray, List.set_cons_zero, List.set_cons_succ]
      refine wpAnyH_done (by kernel_rfl) ?_ _
      clear r1 r2 hmk e0 e1
      have hT := grown_set1 w6 g 0 (.slice a6 (vs.length + 1) c6)
      have hb7 := (hbQ3.ext hg36).moved hT (by omega)
      have hbR7 := (hbR3.ext hg36).moved hT (by omega)
      have hg7 := grown_own (grown_trans hgw3 (grown_of_ext (some sb) hg36)) hT (fun j hj hlt => by have := Option.some.inj hj; omega)
      have hs7 := (HX3.out.2.1.ext hg36).own hT (fun k hk => by have := Option.some.inj hk; omega)
      have hP7 := HX3.out.1.putRow 0 hn1 HX3.out.2.2.2.2 hg36 hRows6
      have HF := Lib.hid (And.intro hb7 (And.intro hbR7 (And.intro hg7 (And.intro hs7 hP7)))); clear hb7 hbR7 hg7 hs7 hP7 hT hRows6
      go_wp2_with fail
      go_meet
      obtain ⟨hb7, hbR7, hg7, hs7, Q7, hq7, hP7⟩ := HF.out
      exact ⟨_, _, _, _, _, _, _, _, _, _, hb7, hbR7, hg7, hs7, (by rw [hq7, ← HX3.out.2.2.1]; omega), (OrdLe.same hq7), hP7.mono (fun k hk hlt => ⟨by rcases hk with hk | hk <;> omega, hlt, rfl⟩)⟩
    ·go_simp
     refine hKc.out _ _ ?_ (fun hHeld => ?_)
     ·exact Near.of (grown_trans (grown_trans (grown_trans (grown_refl w3 none) (World.grownBy_alloc w3 (.cells (madeCells #[.int .i64 0] n) 2) none)) (World.grownBy_alloc (w3.alloc (.cells (madeCells #[.int .i64 0] n) 2)) (.cells #[.slice (some ⟨w3.heap.size, 0, none⟩) n n] 24) none)) (grown_drew _ none))
     clear hKc Kc
     try simp only [Act.put, List.getElem_toArray, List.getElem_cons_succ, List.getElem_cons_zero, List.setIfInBounds_toArray, List.set_cons_zero, List.set_cons_succ]
     refine wpAnyH_ready (rs := [5]) (by kernel_rfl) (by simp) ?_
     refine AllReadyH.cons rfl (fun Kc hKc => ?_) AllReadyH.nil
     have f2 : ((w3.alloc (.cells (madeCells #[.int .i64 0] n) 2)).alloc (.cells #[.slice (some ⟨w3.heap.size, 0, none⟩) n n] 24)).drew.cell? ⟨g, 0, none⟩ = some (.slice ae R.length ce) := ((grown_trans (grown_trans (grown_trans (grown_refl w3 none) (World.grownBy_alloc w3 (.cells (madeCells #[.int .i64 0] n) 2) none)) (World.grownBy_alloc (w3.alloc (.cells (madeCells #[.int .i64 0] n) 2)) (.cells #[.slice (some ⟨w3.heap.size, 0, none⟩) n n] 24) none)) (grown_drew _ none)) : Ext w3 ((w3.alloc (.cells (madeCells #[.int .i64 0] n) 2)).alloc (.cells #[.slice (some ⟨w3.heap.size, 0, none⟩) n n] 24)).drew).cell hcr (by simp)
     go_simp
     refine hKc.out _ _ ?_ (fun hHeld => ?_)
     ·exact Near.of (grown_trans (grown_trans (grown_trans (grown_refl w3 none) (World.grownBy_alloc w3 (.cells (madeCells #[.int .i64 0] n) 2) none)) (World.grownBy_alloc (w3.alloc (.cells (madeCells #[.int .i64 0] n) 2)) (.cells #[.slice (some ⟨w3.heap.size, 0, none⟩) n n] 24) none)) (grown_drew _ none))
     clear hKc Kc
     try simp only [Act.put, List.getElem_toArray, List.getElem_cons_succ, List.getElem_cons_zero, List.setIfInBounds_toArray, List.set_cons_zero, List.set_cons_succ]
     refine wpAnyH_ready (rs := [6]) (by kernel_rfl) (by simp) ?_
     refine AllReadyH.cons rfl (fun Kc hKc => ?_) AllReadyH.nil
     go_simp
     go_at_call 213
     refine Calls.mono (l01Own2_ok ((w3.alloc (.cells (madeCells #[.int .i64 0] n) 2)).alloc (.cells #[.slice (some ⟨w3.heap.size, 0, none⟩) n n] 24)).drew _ R _ (Rows2.ext hre (grown_trans (grown_trans (grown_trans (grown_refl w3 none) (World.grownBy_alloc w3 (.cells (madeCells #[.int .i64 0] n) 2) none)) (World.grownBy_alloc (w3.alloc (.cells (madeCells #[.int .i64 0] n) 2)) (.cells #[.slice (some ⟨w3.heap.size, 0, none⟩) n n] 24) none)) (grown_drew _ none))) HR.out.1 (by omega)) ?_
     rintro e5 w5 ⟨v5, rfl, hg5, hO5⟩
     have hg35 : Ext w3 w5 := grown_trans (grown_trans (grown_trans (grown_trans (grown_refl w3 none) (World.grownBy_alloc w3 (.cells (madeCells #[.int .i64 0] n) 2) none)) (World.grownBy_alloc (w3.alloc (.cells (madeCells #[.int .i64 0] n) 2)) (.cells #[.slice (some ⟨w3.heap.size, 0, none⟩) n n] 24) none)) (grown_drew _ none)) hg5
     obtain ⟨vs, G, hvl, hO5, hG5, _, hE5⟩ := hO5
     have hsd : ((w3.alloc (.cells (madeCells #[.int .i64 0] n) 2)).alloc (.cells #[.slice (some ⟨w3.heap.size, 0, none⟩) n n] 24)).drew.heap.size = w3.heap.size + 2 := (by simp : ((w3.alloc (.cells (madeCells #[.int .i64 0] n) 2)).alloc (.cells #[.slice (some ⟨w3.heap.size, 0, none⟩) n n] 24)).heap.size = w3.heap.size + 2)
     have hbb : ∀ k, v5.ownBlock = some k → w3.heap.size + 2 ≤ k := fun k hk => by have := (hO5.lt k hk).1; omega
     have hO5 : OwnV w3.heap.size 24 w5 v5 vs := ownsRow_move hO5 (fun k hk => ⟨rfl, Nat.le_trans ((grown_trans (grown_trans (grown_trans (grown_refl w3 none) (World.grownBy_alloc w3 (.cells (madeCells #[.int .i64 0] n) 2) none)) (World.grownBy_alloc (w3.alloc (.cells (madeCells #[.int .i64 0] n) 2)) (.cells #[.slice (some ⟨w3.heap.size, 0, none⟩) n n] 24) none)) (grown_drew _ none)) : Ext w3 ((w3.alloc (.cells (madeCells #[.int .i64 0] n) 2)).alloc (.cells #[.slice (some ⟨w3.heap.size, 0, none⟩) n n] 24)).drew).size (hO5.lt k hk).1⟩)
     have hE5 : ∀ i, i < R.length → Ints (fun k => w3.heap.size ≤ k ∧ v5.ownBlock ≠ some k) w5 (gt vs i) (gt R i) := fun i hi => Ints.sub (hE5 i hi).ints (fun k hk _ => ⟨Nat.le_trans ((grown_trans (grown_trans (grown_trans (grown_refl w3 none) (World.grownBy_alloc w3 (.cells (madeCells #[.int .i64 0] n) 2) none)) (World.grownBy_alloc (w3.alloc (.cells (madeCells #[.int .i64 0] n) 2)) (.cells #[.slice (some ⟨w3.heap.size, 0, none⟩) n n] 24) none)) (grown_drew _ none)) : Ext w3 ((w3.alloc (.cells (madeCells #[.int .i64 0] n) 2)).alloc (.cells #[.slice (some ⟨w3.heap.size, 0, none⟩) n n] 24)).drew).size (hG5 i k hi hk).1, (hG5 i k hi hk).2.1⟩)
     obtain ⟨a5, c5, hv5, _⟩ : ∃ a c, v5 = .slice a vs.length c ∧ True := by
      rcases hO5.form with ⟨h1, h2⟩ | ⟨g5, cap5, h1, _⟩
      ·exact ⟨_, _, by rw [h1, h2]; rfl, trivial⟩
      ·exact ⟨_, _, h1, trivial⟩
     have hvl6 : vs.length ≤ 6 := by omega
     subst hv5
     have HE5 := Lib.hid (And.intro hE5 hvl); clear hE5 hvl hG5
     go_wp2_with fail
     refine hKc.out _ _ ?_ (fun hHeld => ?_)
     ·exact Near.of hg35
     clear hKc Kc
     try simp only [Act.put, List.getElem_toArray, List.getElem_cons_succ, List.getElem_cons_zero, List.setIfInBounds_toArray, List.set_cons_zero, List.set_cons_succ]
     refine wpAnyH_ready (rs := [12]) (by kernel_rfl) (by simp) ?_
     refine AllReadyH.cons rfl (fun Kc hKc => ?_) AllReadyH.nil
     have hM0 : Ints (fun k => w3.heap.size ≤ k ∧ k = w3.heap.size) (w3.alloc (.cells (madeCells #[.int .i64 0] n) 2)) (.slice (some ⟨w3.heap.size, 0, none⟩) n n) (List.replicate n 0) := ints_of_own (own_mk_ints n (by omega) w3) (by simp; omega) (fun k hk => by have := own_blk hk; subst this; exact ⟨by first | exact Nat.le_refl _ | exact hg35.size, rfl⟩)
     have hM : Ints (fun k => w3.heap.size ≤ k ∧ k = w3.heap.size) w5 (.slice (some ⟨w3.heap.size, 0, none⟩) n n) (List.replicate n 0) := Ints.ext hM0 (grown_trans (grown_trans (grown_trans (grown_refl _ none) (World.grownBy_alloc (w3.alloc (.cells (madeCells #[.int .i64 0] n) 2)) (.cells #[.slice (some ⟨w3.heap.size, 0, none⟩) n n] 24) none)) (grown_drew ((w3.alloc (.cells (madeCells #[.int .i64 0] n) 2)).alloc (.cells #[.slice (some ⟨w3.heap.size, 0, none⟩) n n] 24)) none)) (hg5))
     have hszl : (w3.alloc (.cells (madeCells #[.int .i64 0] n) 2)).heap.size = w3.heap.size + 1 := by simp
     have hu0 : ((w3.alloc (.cells (madeCells #[.int .i64 0] n) 2)).alloc (.cells #[.slice (some ⟨w3.heap.size, 0, none⟩) n n] 24)).cell? ⟨w3.heap.size + 1, 0, none⟩ = some (.slice (some ⟨w3.heap.size, 0, none⟩) n n) := by rw [World.cell?_alloc_at _ _ _ _ hszl.symm]; rfl
     have hu : w5.cell? ⟨w3.heap.size + 1, 0, none⟩ = some (.slice (some ⟨w3.heap.size, 0, none⟩) n n) := hg5.cell hu0 (by simp)
     have hc35 : Ext w3 w5 := hg35
     have hc5 : Ext w5 w5 := (grown_refl _ none)
     have hOc := World.ownsRow.kept hO5 hc5 (by cases hv : (Value.slice a5 vs.length c5).ownBlock <;> simp)
     refine step_app_rowH (by rfl) _ _ (by rfl) w3.heap.size _ vs (by rfl) hOc (w3.heap.size + 1) _ (by rfl) ⟨hu, rfl⟩ (by omega) hc35.size ?_
     intro v6 w6 hO6 hg6 hat6
     have hg36 : Ext w3 w6 := grown_own hc35 hg6 (fun j hj hlt => by have := (hO5.lt j hj).1; omega)
     have hRows6 := rows_app (L := R) (y := List.replicate n 0) hO6 HE5.out.2 (by omega) HE5.out.1 hc5 hg6 hM (fun k hk => ⟨hk.1, fun e => by have h1 := hbb k e; have h2 := (hO5.lt k e).2; omega⟩)
     obtain ⟨a6, c6, hv6, _⟩ : ∃ a c, v6 = .slice a (vs.length + 1) c ∧ True := by
      have hll : (vs ++ [Value.slice (some ⟨w3.heap.size, 0, none⟩) n n]).length = vs.length + 1 := by simp
      rcases hO6.form with ⟨h1, h2⟩ | ⟨g5, cap5, h1, _⟩
      ·simp at h2
      ·exact ⟨_, _, by rw [h1, hll], trivial⟩
     subst hv6
     have r1 := hg36.cell hcr (by simp)
     have r2 := (World.frozen?_of_block (a := ⟨g, 0, none⟩) (hg36.block g hgl (by simp))).trans hfg
     refine hKc.out _ _ ?_ (fun hHeld => ?_)
     ·exact Near.of hg36
     clear hKc Kc
     try simp only [Act.put, List.getElem_toArray, List.getElem_cons_succ, List.getElem_cons_zero, List.setIfInBounds_toArray, List.set_cons_zero, List.set_cons_succ]
     refine wpAnyH_take (i := 13) (v := ?vc13_14) rfl (by kernel_rfl) (by kernel_rfl) (by kernel_rfl) (fun _ _ _ h => h) (Or.inl ⟨by rfl, ?hyc13_14⟩) (by assumption) ?restc13_14
     case hyc13_14 => (intro w hSw; (try dsimp only at hSw); go_simp; try with_reducible rfl)
     try simp only [Act.put, List.getElem_toArray, List.getElem_cons_succ, List.getElem_cons_zero, List.setIfInBounds_toArray, List.set_cons_zero, List.set_cons_succ]
     refine wpAnyH_ready (rs := [14]) (by kernel_rfl) (by simp) ?_
     refine AllReadyH.cons rfl (fun Kc hKc => ?_) AllReadyH.nil
     go_simp
     refine hKc.out _ _ ?_ (fun hHeld => ?_)
     ·exact Near.store hg36
     clear hKc Kc
     try simp only [Act.put, List.getElem_toArray, List.getElem_cons_succ, List.getElem_cons_zero, List.setIfInBounds_toArray, List.set_cons_zero, List.set_cons_succ]
     refine wpAnyH_done (by kernel_rfl) ?_ _
     clear r1 r2 hmk e0 e1
     have hT := grown_set1 w6 g 0 (.slice a6 (vs.length + 1) c6)
     have hb7 := (hbQ3.ext hg36).moved hT (by omega)
     have hbR7 := (hbR3.ext hg36).moved hT (by omega)
     have hg7 := grown_own (grown_trans hgw3 (grown_of_ext (some sb) hg36)) hT (fun j hj hlt => by have := Option.some.inj hj; omega)
     have hs7 := (HX3.out.2.1.ext hg36).own hT (fun k hk => by have := Option.some.inj hk; omega)
     have hP7 := HX3.out.1.putRow 0 hn1 HX3.out.2.2.2.2 hg36 hRows6
     have HF := Lib.hid (And.intro hb7 (And.intro hbR7 (And.intro hg7 (And.intro hs7 hP7)))); clear hb7 hbR7 hg7 hs7 hP7 hT hRows6
     go_wp2_with fail
     go_meet
     obtain ⟨hb7, hbR7, hg7, hs7, Q7, hq7, hP7⟩ := HF.out
     exact ⟨_, _, _, _, _, _, _, _, _, _, hb7, hbR7, hg7, hs7, (by rw [hq7, ← HX3.out.2.2.1]; omega), (OrdLe.same hq7), hP7.mono (fun k hk hlt => ⟨by rcases hk with hk | hk <;> omega, hlt, rfl⟩)⟩
 ·go_wp2_with fail
  have hgL5 : Ext w3 (w3.alloc (.cells #[.int .i64 7, .int .i64 7, .int .i64 7, .int .i64 7] 2)) := World.grownBy_alloc _ _ _
  have hL5 : Ints Any (w3.alloc (.cells #[.int .i64 7, .int .i64 7, .int .i64 7, .int .i64 7] 2)) (.slice (some ⟨w3.heap.size, 0, none⟩) 4 4) [7, 7, 7, 7] := Ints.sub (ints_litL w3 [7, 7, 7, 7] (by simp)) (fun _ _ _ => trivial)
  have hsL5 : (w3.alloc (.cells #[.int .i64 7, .int .i64 7, .int .i64 7, .int .i64 7] 2)).heap.size = w3.heap.size + 1 := by simp
  refine Calls.mono (l07Trivial_ok _ _ [7, 7, 7, 7] _ hL5 (by simp)) ?_
  rintro e5 w5 ⟨v5, rfl, hg5, uo5, up5, uc5, rfl, hX5⟩
  obtain ⟨x15, z15, x25, z25, x35, z35, rfl, rfl, rfl⟩ := trivX_shape hX5
  have hgT5 := grown_trans hgL5 hg5
  have hsz5 := hgT5.size
  have hbQ5 := hbQ3.ext hgT5
  have hbR5 := hbR3.ext hgT5
  obtain ⟨q0, q1, q2, q3, q4⟩ := id hbQ5
  have hT5 := grown_set3 w5 qb (.slice x15 4 z15) (.slice x25 4 z25) (.slice x35 4 z35)
  have hbS5 := hbQ5.all (.slice x15 4 z15) (.slice x25 4 z25) (.slice x35 4 z35)
  have hbU5 := hbR5.moved hT5 (by omega)
  have hP5 : Pres3 (fun k => w.heap.size + 2 ≤ k) (((w5.setCell ⟨qb, 0, none⟩ (.slice x15 4 z15)).setCell ⟨qb, 1, none⟩ (.slice x25 4 z25)).setCell ⟨qb, 2, none⟩ (.slice x35 4 z35)) (.slice x15 4 z15) (.slice x25 4 z25) (.slice x35 4 z35) (trivP [7, 7, 7, 7]) :=
   hX5.p3.mono (fun k hk hlt => by
    have hk : (w3.alloc (.cells #[.int .i64 7, .int .i64 7, .int .i64 7, .int .i64 7] 2)).heap.size ≤ k := hk
    exact ⟨by omega, Nat.lt_of_lt_of_le hlt hT5.size, hT5.block k hlt (fun e => by have := Option.some.inj e; omega)⟩)
  clear hX5 hL5 hsL5 hg5 hgL5 hbQ5 hbR5
  have hg35 := grown_own (grown_trans hgw3 (grown_of_ext (some sb) hgT5)) hT5 (fun j hj hlt => by have := Option.some.inj hj; omega)
  have hs5 := (HX3.out.2.1.ext hgT5).own hT5 (fun k hk => by have := Option.some.inj hk; omega)
  have hsq5 := hT5.size
  have HF := Lib.hid (And.intro hP5 (And.intro hg35 hs5)); clear hP5 hg35 hs5 hT5
  go_wp2_with fail
  generalize ((w5.setCell ⟨qb, 0, none⟩ (.slice x15 4 z15)).setCell ⟨qb, 1, none⟩ (.slice x25 4 z25)).setCell ⟨qb, 2, none⟩ (.slice x35 4 z35) = w6 at *
  refine Calls.mono (l01Next_ok B0 w6 sb 2 HF.out.2.2) ?_
  rintro e7 w7 ⟨v7, rfl, hg7, y, rfl, _, _, hs7⟩
  have hb7 := hbS5.moved hg7 (by omega)
  have hbR7 := hbU5.moved hg7 (by omega)
  have hgw7 := grown_trans HF.out.2.1 hg7
  have hP7 : Pres3 (fun k => w.heap.size + 2 ≤ k) w7 (.slice x15 4 z15) (.slice x25 4 z25) (.slice x35 4 z35) (trivP [7, 7, 7, 7]) := HF.out.1.mono (fun k hk hlt => ⟨hk, Nat.lt_of_lt_of_le hlt hg7.size, hg7.block k hlt (fun e => by have := Option.some.inj e; omega)⟩)
  have hsz7 := hg7.size
  clear HF hbS5 hbU5 hg7
  by_cases hy : y = 0
  ·have hyb : (y == 0) = true := by simp [hy]
   clear hy
   go_wp2_with fail
   have hgL8 : Ext w7 (w7.alloc (.cells #[.int .i64 2, .int .i64 2, .int .i64 2, .int .i64 2, .int .i64 2, .int .i64 2, .int .i64 2] 2)) := World.grownBy_alloc _ _ _
   have hL8 : Ints Any (w7.alloc (.cells #[.int .i64 2, .int .i64 2, .int .i64 2, .int .i64 2, .int .i64 2, .int .i64 2, .int .i64 2] 2)) (.slice (some ⟨w7.heap.size, 0, none⟩) 7 7) [2, 2, 2, 2, 2, 2, 2] := Ints.sub (ints_litL w7 [2, 2, 2, 2, 2, 2, 2] (by simp)) (fun _ _ _ => trivial)
   have hsL8 : (w7.alloc (.cells #[.int .i64 2, .int .i64 2, .int .i64 2, .int .i64 2, .int .i64 2, .int .i64 2, .int .i64 2] 2)).heap.size = w7.heap.size + 1 := by simp
   refine Calls.mono (l07Trivial_ok _ _ [2, 2, 2, 2, 2, 2, 2] _ hL8 (by simp)) ?_
   rintro e8 w8 ⟨v8, rfl, hg8, uo8, up8, uc8, rfl, hX8⟩
   obtain ⟨x18, z18, x28, z28, x38, z38, rfl, rfl, rfl⟩ := trivX_shape hX8
   have hgT8 := grown_trans hgL8 hg8
   have hsz8 := hgT8.size
   have hbQ8 := hb7.ext hgT8
   have hbR8 := hbR7.ext hgT8
   obtain ⟨q0, q1, q2, q3, q4⟩ := id hbQ8
   have hT8 := grown_set3 w8 qb (.slice x18 7 z18) (.slice x28 7 z28) (.slice x38 7 z38)
   have hbS8 := hbQ8.all (.slice x18 7 z18) (.slice x28 7 z28) (.slice x38 7 z38)
   have hbU8 := hbR8.moved hT8 (by omega)
   have hP8 : Pres3 (fun k => w.heap.size + 2 ≤ k) (((w8.setCell ⟨qb, 0, none⟩ (.slice x18 7 z18)).setCell ⟨qb, 1, none⟩ (.slice x28 7 z28)).setCell ⟨qb, 2, none⟩ (.slice x38 7 z38)) (.slice x18 7 z18) (.slice x28 7 z28) (.slice x38 7 z38) (trivP [2, 2, 2, 2, 2, 2, 2]) :=
    hX8.p3.mono (fun k hk hlt => by
     have hk : (w7.alloc (.cells #[.int .i64 2, .int .i64 2, .int .i64 2, .int .i64 2, .int .i64 2, .int .i64 2, .int .i64 2] 2)).heap.size ≤ k := hk
     exact ⟨by omega, Nat.lt_of_lt_of_le hlt hT8.size, hT8.block k hlt (fun e => by have := Option.some.inj e; omega)⟩)
   clear hX8 hL8 hsL8 hg8 hgL8 hbQ8 hbR8
   have hg8 := grown_own (grown_trans hgw7 (grown_of_ext (some sb) hgT8)) hT8 (fun j hj hlt => by have := Option.some.inj hj; omega)
   have hs8 := (hs7.ext hgT8).own hT8 (fun k hk => by have := Option.some.inj hk; omega)
   have HF := Lib.hid (And.intro hP8 (And.intro hg8 (And.intro hs8 (And.intro hbS8 hbU8)))); clear hP8 hg8 hs8 hT8 hbS8 hbU8
   go_wp2_with fail
   go_meet
   exact ⟨_, _, _, _, _, _, _, _, _, _, HF.out.2.2.2.1, HF.out.2.2.2.2, HF.out.2.1, HF.out.2.2.1, by decide, (by exact fun h => absurd h.n6 (by decide)), HF.out.1⟩
  ·have hyb : (y == 0) = false := by simp [hy]
   clear hy
   go_wp2_with fail
   go_meet
   exact ⟨_, _, _, _, _, _, _, _, _, _, hb7, hbR7, hgw7, hs7, by decide, (by exact fun h => absurd h.le729 (by decide)), hP7⟩
end Go.Proofs.YtdcobapnlpeaaaaGreat
namespace Go.Proofs.YtdcobapnlpeaaaaGreat
open Go.RowKit
attribute [local go_sem ↓] Go.wp_at_zero Go.wp_at_succ
set_option maxRecDepth 100000 in
set_option maxHeartbeats 16000000 in
theorem l07DrawL_ok (B0 : Nat) (w : World) (sb : Nat) (limit : Int) (hB0 : B0 ≤ w.heap.size) (hs : Src B0 w sb) :
  Calls Tryz.prog 148 #[.pointer (some ⟨sb, 0, none⟩), .int .i64 limit] w (Mut w (some sb) (DrawR B0 sb (PresAL 7 (LimOk limit) w.heap.size))) := by
 have hsb := hs.lt
 have hbB := Box3.made w 28 (.slice none 0 0) (.slice none 0 0) (.slice none 0 0)
 have hg0 : Ext w (w.alloc (.cells #[.slice none 0 0, .slice none 0 0, .slice none 0 0] 28)) := World.grownBy_alloc _ _ _
 have hs0 : (w.alloc (.cells #[.slice none 0 0, .slice none 0 0, .slice none 0 0] 28)).heap.size = w.heap.size + 1 := by simp
 have hsW := Lib.hid (hs.ext hg0); clear hs
 go_enter Tryz.func148, Tryz.ntmps148
 go_wp2_with fail
 generalize w.alloc (.cells #[.slice none 0 0, .slice none 0 0, .slice none 0 0] 28) = w0 at *
 have hs00 : w.heap.size + 1 ≤ w0.heap.size := by omega
 clear hs0
 refine Calls.mono (l07GroupL_ok B0 w0 sb limit (by omega) hsW.out) ?_
 rintro e1 w1 ⟨v1, rfl, hg1, hP1, hs1⟩
 obtain ⟨vo, vp, vc, Q, rfl, hV, hQ, hLQ⟩ := hP1
 have HLQ := Lib.hid hLQ; clear hLQ
 obtain ⟨a1, n1, c1, a2, n2, c2, a3, n3, c3, rfl, rfl, rfl⟩ := PresN3.shape ⟨Q, hV.shp, hQ⟩
 have hgq : Ext w1 (w1.alloc (.cells #[.slice a1 n1 c1, .slice a2 n2 c2, .slice a3 n3 c3] 28)) := World.grownBy_alloc _ _ _
 have hbQ := Box3.made w1 28 (.slice a1 n1 c1) (.slice a2 n2 c2) (.slice a3 n3 c3)
 obtain ⟨pb, hpb⟩ : ∃ pb, pb = w1.heap.size := ⟨_, rfl⟩
 rw [← hpb] at hbQ
 have hs1' := hg1.size
 have hQ2 : Pres3 (fun k => w0.heap.size ≤ k ∧ k ≠ pb) (w1.alloc (.cells #[.slice a1 n1 c1, .slice a2 n2 c2, .slice a3 n3 c3] 28)) (.slice a1 n1 c1) (.slice a2 n2 c2) (.slice a3 n3 c3) Q := hQ.mono (fun k hk hlt => ⟨⟨hk, by omega⟩, Nat.lt_of_lt_of_le hlt hgq.size, hgq.block k hlt (by simp)⟩)
 have hb1 := hbB.moved hg1 (by omega)
 have hb2 := hb1.ext hgq
 have hs2 := hs1.ext hgq
 have hgw2 := grown_trans (grown_of_ext (some sb) hg0) (grown_trans hg1 (grown_of_ext (some sb) hgq))
 have HP := Lib.hid hpb
 have HQ := Lib.hid (And.intro hQ2 (And.intro hs2 hV)); clear hQ hQ2 hs2 hs1 hV hg1 hbB hg0 hsW hb1 hgq
 go_wp2_with fail
 rw [← HP.out]
 generalize w1.alloc (.cells #[.slice a1 n1 c1, .slice a2 n2 c2, .slice a3 n3 c3] 28) = w2 at *
 have hpw : w0.heap.size ≤ pb := by omega
 clear hpb HP hs1'
 refine Calls.mono (l01Next_ok B0 w2 sb 24 HQ.out.2.1) ?_
 rintro e3 w3 ⟨v3, rfl, hg3, x, rfl, _, hx1, hs3⟩
 have hb3 := hb2.moved hg3 (by omega)
 have hbQ3 := hbQ.moved hg3 (by omega)
 have hQ3 : Pres3 (fun k => w0.heap.size ≤ k ∧ k ≠ pb) w3 (.slice a1 n1 c1) (.slice a2 n2 c2) (.slice a3 n3 c3) Q := HQ.out.1.mono (fun k hk hlt => ⟨hk, Nat.lt_of_lt_of_le hlt hg3.size, hg3.block k hlt (fun e => by have := Option.some.inj e; omega)⟩)
 have hgw3 := grown_trans hgw2 hg3
 have hV := HQ.out.2.2
 have hsz3 := hgw3.size
 have hp3 := hbQ3.1
 have HQ := Lib.hid (And.intro hQ3 (And.intro hs3 hV)); clear hQ3 hs3 hV hg3 hbQ hb2 hgw2 hx1
 obtain ⟨q0, q1, q2, q3, q4⟩ := id hbQ3
 by_cases hx0 : x = 0
 ·have hxb : (x == 0) = true := by simp [hx0]
  clear hx0
  go_wp2_with fail
  refine Calls.mono (l07BendL_ok B0 w3 sb _ Q _ (by omega) HQ.out.2.1 ⟨_, _, _, rfl, HQ.out.1⟩ HQ.out.2.2) ?_
  rintro e4 w4 ⟨v4, rfl, hg4, ⟨uo, up, uc, R, rfl, hRl, hR, hRo⟩, hs4⟩
  obtain ⟨y1, m1, k1, hy1⟩ : ∃ a n c, uo = .slice a n c := by obtain ⟨a, c, e, _⟩ := hR.o.shape; exact ⟨_, _, _, e⟩
  obtain ⟨y2, m2, k2, hy2⟩ : ∃ a n c, up = .slice a n c := by obtain ⟨a, c, e, _⟩ := Sl.shape hR.p; exact ⟨_, _, _, e⟩
  obtain ⟨y3, m3, k3, hy3⟩ : ∃ a n c, uc = .slice a n c := by obtain ⟨a, c, e, _⟩ := Sl.shape hR.c; exact ⟨_, _, _, e⟩
  subst hy1 hy2 hy3
  have hb4 := hb3.moved hg4 (by omega)
  have hgw4 := grown_trans hgw3 hg4
  obtain ⟨b0, b1, b2, b3, b4⟩ := id hb4
  have hZ := hb4.all (.slice y1 m1 k1) (.slice y2 m2 k2) (.slice y3 m3 k3)
  obtain ⟨-, z0, z1, z2, -⟩ := id hZ
  have HF := Lib.hid (And.intro hgw4 (And.intro hs4 (And.intro hR (And.intro hRl (HLQ.out.le HQ.out.2.2 hRo))))); clear hZ hgw4 hs4 hR hRl hb4 hg4 hRo
  go_wp2_with fail
  refine bodyPost_ret (v := .agg #[.slice y1 m1 k1, .slice y2 m2 k2, .slice y3 m3 k3]) (by simp [results, Tryz.results148, go_sem, z0, z1, z2]) rfl ?_
  exact a_ret HF.out.1 (br := w.heap.size) (Nat.le_refl _) (fun k hk _ => by have hk : w3.heap.size ≤ k := hk; exact ⟨by omega, by omega⟩) HF.out.2.1 hB0 HF.out.2.2.2.1 HF.out.2.2.1 HF.out.2.2.2.2
 have hxb : (x == 0) = false := by simp [hx0]
 by_cases hx12 : x = 1 ∨ x = 2
 ·rcases hx12 with rfl | rfl
  all_goals
   clear hx0
   go_wp2_with fail
   refine Calls.mono (l07TurnL_ok B0 w3 sb _ Q _ (by omega) HQ.out.2.1 ⟨_, _, _, rfl, HQ.out.1⟩ HQ.out.2.2) ?_
   rintro e4 w4 ⟨v4, rfl, hg4, ⟨uo, up, uc, R, rfl, hRl, hR, hRo⟩, hs4⟩
   obtain ⟨y1, m1, k1, hy1⟩ : ∃ a n c, uo = .slice a n c := by obtain ⟨a, c, e, _⟩ := hR.o.shape; exact ⟨_, _, _, e⟩
   obtain ⟨y2, m2, k2, hy2⟩ : ∃ a n c, up = .slice a n c := by obtain ⟨a, c, e, _⟩ := Sl.shape hR.p; exact ⟨_, _, _, e⟩
   obtain ⟨y3, m3, k3, hy3⟩ : ∃ a n c, uc = .slice a n c := by obtain ⟨a, c, e, _⟩ := Sl.shape hR.c; exact ⟨_, _, _, e⟩
   subst hy1 hy2 hy3
   have hb4 := hb3.moved hg4 (by omega)
   have hgw4 := grown_trans hgw3 hg4
   obtain ⟨b0, b1, b2, b3, b4⟩ := id hb4
   have hZ := hb4.all (.slice y1 m1 k1) (.slice y2 m2 k2) (.slice y3 m3 k3)
   obtain ⟨-, z0, z1, z2, -⟩ := id hZ
   have HF := Lib.hid (And.intro hgw4 (And.intro hs4 (And.intro hR (And.intro hRl (HLQ.out.le HQ.out.2.2 hRo))))); clear hZ hgw4 hs4 hR hRl hb4 hg4 hRo
   go_wp2_with fail
   refine bodyPost_ret (v := .agg #[.slice y1 m1 k1, .slice y2 m2 k2, .slice y3 m3 k3]) (by simp [results, Tryz.results148, go_sem, z0, z1, z2]) rfl ?_
   exact a_ret HF.out.1 (br := w.heap.size) (Nat.le_refl _) (fun k hk _ => by have hk : w3.heap.size ≤ k := hk; exact ⟨by omega, by omega⟩) HF.out.2.1 hB0 HF.out.2.2.2.1 HF.out.2.2.1 HF.out.2.2.2.2
 ·have hxb1 : (x == 1) = false := by simp; omega
  have hxb2 : (x == 2) = false := by simp; omega
  clear hx12 hx0
  obtain ⟨b0, b1, b2, b3, b4⟩ := id hb3
  have hZ := hb3.all (.slice a1 n1 c1) (.slice a2 n2 c2) (.slice a3 n3 c3)
  obtain ⟨-, z0, z1, z2, -⟩ := id hZ
  have HF := Lib.hid hgw3; clear hZ hgw3 hb3
  go_wp2_with fail
  refine bodyPost_ret (v := .agg #[.slice a1 n1 c1, .slice a2 n2 c2, .slice a3 n3 c3]) (by simp [results, Tryz.results148, go_sem, z0, z1, z2]) rfl ?_
  exact a_ret HF.out (br := w.heap.size) (Nat.le_refl _) (fun k hk _ => ⟨by omega, by omega⟩) HQ.out.2.1 hB0 (by have := HQ.out.2.2.n6; omega) HQ.out.1 HLQ.out
theorem l07Draw_ok (B0 : Nat) (w : World) (sb : Nat) (limit : Int) (hB0 : B0 ≤ w.heap.size) (hs : Src B0 w sb) :
  Calls Tryz.prog 148 #[.pointer (some ⟨sb, 0, none⟩), .int .i64 limit] w (Mut w (some sb) (DrawR B0 sb (PresA 7 w.heap.size))) :=
 Calls.mono (l07DrawL_ok B0 w sb limit hB0 hs) (fun _ _ ⟨v, h1, h2, ⟨vo, vp, vc, Q, h3, h4, h5, _⟩, h6⟩ => ⟨v, h1, h2, ⟨vo, vp, vc, Q, h3, h4, h5⟩, h6⟩)
end Go.Proofs.YtdcobapnlpeaaaaGreat
namespace Go.Proofs.YtdcobapnlpeaaaaGreat
open Go.RowKit
attribute [local go_sem ↓] Go.wp_at_zero Go.wp_at_succ
def VecD (M B : Nat) (w' : World) (v : Value) : Prop := ∃ (a : Option Addr) (c : Nat) (l : List Int), v = .slice a l.length c ∧ l.length ≤ M ∧ Own B w' (.slice a l.length c) l
set_option maxRecDepth 100000 in
set_option maxHeartbeats 8000000 in
theorem l07Vectors_ok (B0 : Nat) (w : World) (sb : Nat) (pv : Value) (Q : Pr) (F : Nat → Prop) (hB0 : B0 ≤ w.heap.size) (hs : Src B0 w sb) (hp : PresV F w pv Q) (hF : ∀ k, F k → k ≠ sb) (hQ : Q.orders.length ≤ 20) :
  Calls Tryz.prog 115 #[.pointer (some ⟨sb, 0, none⟩), pv] w (Mut w (some sb) (DrawR B0 sb (VecD 21 w.heap.size))) := by
 have hsb := hs.lt
 obtain ⟨vo, vp, vc, rfl, h3⟩ := hp
 obtain ⟨ao, co, hvo, _, _⟩ := h3.o.shape
 obtain ⟨ap, cp, hvp, _, _⟩ := Sl.shape h3.p
 obtain ⟨ac, cc, hvc, _, _⟩ := Sl.shape h3.c
 subst hvo hvp hvc
 have hbA := Box3.made w 28 (.slice ao Q.orders.length co) (.slice ap Q.powers.length cp) (.slice ac Q.conj.length cc)
 have hgA : Ext w (w.alloc (.cells #[.slice ao Q.orders.length co, .slice ap Q.powers.length cp, .slice ac Q.conj.length cc] 28)) := World.grownBy_alloc _ _ _
 have hoA := h3.o.ext hgA
 have hsA := hs.ext hgA
 have hzA : (w.alloc (.cells #[.slice ao Q.orders.length co, .slice ap Q.powers.length cp, .slice ac Q.conj.length cc] 28)).heap.size = w.heap.size + 1 := by simp
 have HZ := Lib.hid (And.intro hzA hsA); clear hzA hsA hs h3
 go_enter Tryz.func115, Tryz.ntmps115
 go_wp2_with fail
 generalize w.alloc (.cells #[.slice ao Q.orders.length co, .slice ap Q.powers.length cp, .slice ac Q.conj.length cc] 28) = w0 at *
 have hzA : w0.heap.size = w.heap.size + 1 := HZ.out.1
 have hgE := World.grownBy_alloc w0 (.cells #[] 2) none
 have hOE : Own w0.heap.size (w0.alloc (.cells #[] 2)) (.slice (some ⟨w0.heap.size, 0, none⟩) 0 0) [] := World.ownsRow_lit w0 #[] 0 (Nat.le_refl _) (by decide) rfl
 have HS := Lib.hid (HZ.out.2.ext hgE)
 have hg0 := grown_of_ext (some sb) hgE
 clear hgE
 have HW := Lib.hid hzA
 rw [hzA] at hOE
 have hz1 : w.heap.size + 1 ≤ w0.heap.size := by omega
 clear hzA HZ
 generalize w0.alloc (.cells #[] 2) = w1 at *
 rw [← HW.out] at hOE
 rw [← HW.out]
 go_loopw [5, 6] (fun ov iv wr => ∃ (i : Nat) (l : List Int) (v4 : Value), v4 = ov ∧ iv = .int .i64 i ∧ i ≤ Q.orders.length ∧ Hid (l.length = i) ∧ w0.grownBy wr (some sb) ∧ Own w0.heap.size wr v4 l ∧ Hid (Src B0 wr sb)) (fun _ iv _ => Q.orders.length - (intOf iv).toNat)
 case atStart => exact ⟨0, [], _, rfl, rfl, by omega, Lib.hid rfl, hg0, hOE, HS⟩
 case round =>
  clear hg0 hOE HS
  obtain ⟨i, l, v4, rfl, rfl, hi, hli, hg, hO, hsr⟩ := hrel
  have hbr := hbA.moved hg (by omega)
  obtain ⟨b0, b1, b2, b3, b4⟩ := id hbr
  have hob : ∀ j, v4.ownBlock = some j → w0.heap.size ≤ j := fun j hj => (hO.lt j hj).1
  have HO := Lib.hid hob; clear hob
  by_cases hlt : i < Q.orders.length
  ·have hlt' : (i : Int) < Q.orders.length := by omega
   obtain ⟨bo, oo, rfl, hboF, _, hco⟩ := Ints.at hoA i hlt
   have hc := hg.cell hco (by simp; exact hF _ hboF)
   obtain ⟨x, hx⟩ : ∃ x, x = gt Q.orders i := ⟨_, rfl⟩
   rw [← hx] at hc hco
   clear hx hco
   go_wp2_with fail
   refine Calls.mono (l01Next_ok B0 wr sb x hsr.out) ?_
   rintro e3 w3 ⟨v3, rfl, hg3, y, rfl, _, _, hs3⟩
   have hg03 := grown_trans hg hg3
   have hO3 : Own w0.heap.size w3 _ l := hO.kept hg3 (.inr (fun e => by have := HO.out sb e; omega))
   have hll : l.length ≤ 1000000 := by have := hli.out; omega
   have HS3 := Lib.hid (And.intro hs3 hll); clear hs3 hc hll hO
   go_wp2_with (first | (at_builtin; refine wp_app_int rfl _ _ rfl w0.heap.size v4 l y rfl w3 hO3 rfl rfl HS3.out.2 hg03.size ?_; intro v5 w5 hO5 hg5) | fail)
   have hs5 := HS3.out.1.own hg5 (fun j hj => by have := HO.out j hj; omega)
   have hg05 : w0.grownBy w5 (some sb) := grown_own hg03 hg5 (fun j hj hlt => by have := HO.out j hj; omega)
   have hll : (l ++ [y]).length = l.length + 1 := by simp
   go_roundw
   case rel => exact ⟨i + 1, l ++ [y], v5, rfl, by go_num, by omega, Lib.hid (by have := hli.out; omega), hg05, hO5, Lib.hid hs5⟩
   case measure => simp [intOf]; omega
  ·have hlt' : ¬ ((i : Int) < Q.orders.length) := by omega
   have hlr : l.length ≤ 20 := by have := hli.out; omega
   obtain ⟨al, cl, rfl, _⟩ := (hO.ints (by omega)).shape
   have hgw : w.grownBy wr (some sb) := grown_trans (grown_of_ext (some sb) hgA) hg
   go_wp2_with fail
   refine Calls.mono (l01Next_ok B0 wr sb 40 hsr.out) ?_
   rintro e3 w3 ⟨v3, rfl, hg3, y, rfl, _, _, hs3⟩
   have hg03 := grown_trans hg hg3
   have hgw3 := grown_trans hgw hg3
   have hO3 : Own w0.heap.size w3 _ l := hO.kept hg3 (.inr (fun e => by have := HO.out sb e; omega))
   have hb3 := hbr.moved hg3 (by omega)
   have HS3 := Lib.hid hs3; clear hs3 hO hsr hbr b0 b1 b2 b3 b4 hgw
   by_cases hy : y = 0
   ·have hyb : (y == 0) = true := by simp [hy]
    clear hy
    have hlQ : l.length = Q.orders.length := by have := hli.out; omega
    have HLQ := Lib.hid hlQ; clear hlQ
    by_cases hl0 : l.length = 0
    ·have hlb : decide (0 < l.length) = false := by simp [hl0]
     have hlb2 : ((0 : Int) < l.length) = False := by simp [hl0]
     clear hl0
     go_wp2_with (first | (at_builtin; refine wp_app_int rfl _ _ rfl w0.heap.size _ l 0 rfl w3 hO3 rfl rfl (by omega) hg03.size ?_; intro v5 w5 hO5 hg5) | fail)
     have hs5 := HS3.out.own hg5 (fun j hj => by have := HO.out j hj; omega)
     have hg5w : w.grownBy w5 (some sb) := grown_own hgw3 hg5 (fun j hj hlt => by have := HO.out j hj; omega)
     have hll : (l ++ [(0 : Int)]).length = l.length + 1 := by simp
     obtain ⟨a5, c5, hv5, _⟩ := (hO5.ints (by omega)).shape
     subst hv5
     go_ret
     exact ⟨_, rfl, hg5w, ⟨a5, c5, l ++ [0], rfl, by omega, Own.weak hO5 (by omega)⟩, hs5⟩
    ·have hl1 : (0 : Int) < l.length := by omega
     have hq1 : 0 < Q.orders.length := by have := HLQ.out; omega
     have hqI : (0 : Int) < Q.orders.length := by omega
     clear hl0
     go_wp2_with fail
     refine Calls.mono (l01Next_ok B0 w3 sb 2 HS3.out) ?_
     rintro e4 w4 ⟨v4, rfl, hg4, z, rfl, _, _, hs4⟩
     have hg04 := grown_trans hg03 hg4
     have hgw4 := grown_trans hgw3 hg4
     have hO4 : Own w0.heap.size w4 _ l := hO3.kept hg4 (.inr (fun e => by have := HO.out sb e; omega))
     have hb4 := hb3.moved hg4 (by omega)
     have HS4 := Lib.hid hs4; clear hs4 hO3 hb3 HS3
     by_cases hz : z = 0
     ·have hzb : (z == 0) = true := by simp [hz]
      clear hz
      obtain ⟨b0, b1, b2, b3, b4⟩ := id hb4
      obtain ⟨bo, oo, rfl, hboF, _, hco⟩ := Ints.at hoA 0 hq1
      have hc := hg04.cell hco (by simp; exact hF _ hboF)
      rw [Nat.add_zero] at hc
      generalize gt Q.orders 0 = o0 at hc hco
      have hgL : Ext w4 (w4.alloc (.cells #[.int .i64 o0, .int .i64 (-1)] 2)) := World.grownBy_alloc _ _ _
      have hL := ints_litL w4 [o0, -1] (by simp)
      clear hco
      go_wp2_with fail
      refine Calls.mono (l01Pick_ok B0 _ sb _ [o0, -1] _ (HS4.out.ext hgL) hL (fun k hk => by have := hg04.size; omega) (by simp) (by simp)) ?_
      rintro e5 w5 ⟨v5, rfl, hg5, j, hj, rfl, hs5⟩
      generalize gt [o0, -1] j = u
      have hg45 := grown_trans (grown_of_ext (some sb) hgL) hg5
      have hO5 : Own w0.heap.size w5 _ l := hO4.kept hg45 (.inr (fun e => by have := HO.out sb e; omega))
      obtain ⟨g, capg, hvo, hgB, hgl⟩ := hO5.form (by omega)
      obtain ⟨rfl, rfl⟩ : al = some ⟨g, 0, none⟩ ∧ cl = capg := by cases hvo; exact ⟨rfl, rfl⟩
      clear hvo
      have hc0 := hO5.cell 0 (by omega)
      have hf0 := hO5.frozen 0
      generalize gt l 0 = l00 at hc0
      obtain ⟨hO6, hT⟩ := hO5.store 0 u
      have hgw6 : w.grownBy (w5.setCell ⟨g, 0, none⟩ (.int .i64 u)) (some sb) := grown_own (grown_trans hgw4 hg45) hT (fun j hj hlt => by have := Option.some.inj hj; omega)
      have hs6 := hs5.own hT (fun k hk => by have := Option.some.inj hk; omega)
      have HF := Lib.hid (And.intro hO6 (And.intro hgw6 hs6)); clear hO6 hgw6 hs6 hT hO5 hL hc hj hs5 hg5 hgL
      go_wp2_with fail
      go_ret
      obtain ⟨hO6, hgw6, hs6⟩ := HF.out
      exact ⟨_, rfl, hgw6, ⟨some ⟨g, 0, none⟩, cl, l.set 0 u, by rw [List.length_set]; rfl, by rw [List.length_set]; omega, by rw [List.length_set]; exact Own.weak hO6 (by omega)⟩, hs6⟩
     ·have hzb : (z == 0) = false := by simp [hz]
      clear hz
      go_wp2_with (first | (at_builtin; refine wp_app_int rfl _ _ rfl w0.heap.size _ l 0 rfl w4 hO4 rfl rfl (by omega) hg04.size ?_; intro v5 w5 hO5 hg5) | fail)
      have hs5 := HS4.out.own hg5 (fun j hj => by have := HO.out j hj; omega)
      have hg5w : w.grownBy w5 (some sb) := grown_own hgw4 hg5 (fun j hj hlt => by have := HO.out j hj; omega)
      have hll : (l ++ [(0 : Int)]).length = l.length + 1 := by simp
      obtain ⟨a5, c5, hv5, _⟩ := (hO5.ints (by omega)).shape
      subst hv5
      go_ret
      exact ⟨_, rfl, hg5w, ⟨a5, c5, l ++ [0], rfl, by omega, Own.weak hO5 (by omega)⟩, hs5⟩
   ·have hyb : (y == 0) = false := by simp [hy]
    clear hy
    go_wp2_with fail
    go_ret
    exact ⟨_, rfl, hgw3, ⟨al, cl, l, rfl, by omega, Own.weak hO3 (by omega)⟩, HS3.out⟩
end Go.Proofs.YtdcobapnlpeaaaaGreat
namespace Go.Proofs.YtdcobapnlpeaaaaGreat
open Go.RowKit
theorem tab_kept {B gb n W : Nat} {wI w2 : World} {v1 v2 : Value} {b : List (List Int)} (h : TabAt B (fun k => v1.ownBlock = some k) wI gb n b) (hv : ∀ k, v1.ownBlock = some k → W ≤ k) (hgb : gb < W)
  (hg2 : wI.grownBy w2 v1.ownBlock) (hb2 : v2.ownBlock = v1.ownBlock ∨ ∀ k, v2.ownBlock = some k → wI.heap.size ≤ k) : TabAt B (fun k => v2.ownBlock = some k) w2 gb n b := by
 refine h.kept hg2.size (fun k hk hc => hg2.block k hk (fun e => ?_)) (fun k hk e => ?_)
 ·rcases hc with rfl | hc
  ·have := hv _ e.symm; omega
  ·exact hc e.symm
 ·rcases hb2 with h | h
  ·rw [← h]; exact e
  ·have := h k e; omega
theorem tab_keptF {B gb n W W0 : Nat} {wI w2 : World} {v1 v2 : Value} {b : List (List Int)} (h : TabAt B (fun k => v1.ownBlock = some k ∨ k < W0) wI gb n b) (hv : ∀ k, v1.ownBlock = some k → W ≤ k) (hgb : gb < W)
  (hg2 : wI.grownBy w2 v1.ownBlock) (hb2 : v2.ownBlock = v1.ownBlock ∨ ∀ k, v2.ownBlock = some k → wI.heap.size ≤ k) : TabAt B (fun k => v2.ownBlock = some k ∨ k < W0) w2 gb n b := by
 refine h.kept hg2.size (fun k hk hc => hg2.block k hk (fun e => ?_)) (fun k hk e => ?_)
 ·rcases hc with rfl | hc
  ·have := hv _ e.symm; omega
  ·exact hc (.inl e.symm)
 ·rcases e with e | e
  ·rcases hb2 with h | h
   ·rw [← h]; exact .inl e
   ·have := h k e; omega
  ·exact .inr e
theorem SlO.shq {bad : Nat → Prop} {B : Nat} {w : World} {v : Value} {xs : List (List Int)} (h : RowsO B w v xs) (hbad : ∀ k, bad k → k < B) : ShQ bad B w v xs := by
 obtain ⟨vs, G, hl, hO, hG, _, hE⟩ := h
 refine ⟨vs, hl, QOwn.of hO, fun i hi => Ints.sub (hE i hi).ints (fun k hk _ => ?_)⟩
 obtain ⟨h1, h2, _⟩ := hG i k hi hk
 exact ⟨fun h => by have := hbad k h; omega, h2⟩
def HeldB (w0 w1 : World) (g : Nat) (w' : World) : Prop := Ext w0 w' ∧ w'.heap[g]? = w1.heap[g]?
theorem heldB_ext {w0 w1 w' : World} {g : Nat} (h0 : Ext w0 w1) (hg : g < w1.heap.size) (h : Ext w1 w') : HeldB w0 w1 g w' := ⟨grown_trans h0 h, h.block g hg (by simp)⟩
theorem HeldB.cell {w0 w1 w' : World} {g i : Nat} {v : Value} (h : HeldB w0 w1 g w') (hc : w1.cell? ⟨g, i, none⟩ = some v) : w'.cell? ⟨g, i, none⟩ = some v := (World.cell?_of_block (w := w1) h.2).trans hc
set_option maxRecDepth 100000 in
set_option maxHeartbeats 8000000 in
theorem l12CloseF_ok (P : Pr) (G : Grp P) (w : World) (pv lv : Value) (L : List (List Int)) (Sp Sr : Nat → Prop) (hpv : PresV Sp w pv P) (hl : Rows2 Sr w lv L) (hL : ∀ x ∈ L, Vec P.orders x) (hlen : L.length ≤ 10000) :
  Calls Tryz.prog 108 #[pv, lv] w (Ret w fun w' v => ShQ (fun k => k < w.heap.size) w.heap.size w' v (cseq P (genP P (fun x => x ∈ L)))) := by
 have hP := G.v
 have hn6 := hP.n6
 obtain ⟨vo, vp, vc, rfl, h3⟩ := hpv
 have hp0 := PresP.box h3 28
 have hg0 : Ext w (w.alloc (.cells #[vo, vp, vc] 28)) := World.grownBy_alloc _ _ _
 have hs0 : (w.alloc (.cells #[vo, vp, vc] 28)).heap.size = w.heap.size + 1 := by simp
 obtain ⟨vo6, vp6, vc6, _, _, hc0, hc1, hc2, h36⟩ := hp0.at
 simp only [Nat.zero_add] at hc1 hc2
 obtain ⟨ao, capo, rfl, _, _⟩ := h36.o.shape
 clear hp0
 obtain ⟨al, capl, rfl, _, _⟩ := Sl.shape hl
 have hLl : ∀ x ∈ L, x.length ≤ 1000000 := fun x hx => by rw [(hL x hx).1]; omega
 have HL := Lib.hid (And.intro hL hLl); clear hL hLl
 go_enter Tryz.func108, Tryz.ntmps108
 go_wp2_with (first | (at_make; refine wp_make_tab rfl _ _ rfl w.heap.size P.orders.length (w.heap.size + 1) (by simp) _ rfl rfl rfl (by omega) (by omega) ?_; intro w1 hT1 hg1 hlt1) | fail)
 have HS := Lib.hid hs0; clear hs0
 generalize hw0 : w.alloc (.cells #[vo, vp, vc] 28) = w0 at *
 clear hw0
 have hl0 := Rows2.ext hl hg0
 clear hl
 have hgb1 : w.heap.size + 1 < w1.heap.size := hlt1
 refine Calls.mono (l01Own2_ok w1 _ L Sr (Rows2.ext hl0 hg1) HL.out.2 (by omega)) ?_
 rintro e2 w2 ⟨qv0, rfl, hg2, hQ2⟩
 have hq2 : ShQ (fun k => k = w.heap.size + 1) w1.heap.size w2 qv0 L := hQ2.shq (fun k hk => by omega)
 have hg02 := grown_trans hg1 hg2
 have hown2 : ∀ k, qv0.ownBlock = some k → w1.heap.size ≤ k := fun k hk => (hq2.lt k hk).1
 have hT2 : TabAt w.heap.size (fun k => qv0.ownBlock = some k ∨ k < w.heap.size) w2 (w.heap.size + 1) P.orders.length (List.replicate P.orders.length []) := (hT1 _).ext hg2
 clear hT1 hQ2 hl0
 -- facts of the box and the orders
 have hbx : ∀ w', Ext w0 w' → w'.cell? ⟨w.heap.size, 0, none⟩ = some (.slice ao P.orders.length capo) ∧ w'.cell? ⟨w.heap.size, 1, none⟩ = some vp6 ∧ w'.cell? ⟨w.heap.size, 2, none⟩ = some vc6 := fun w' h => ⟨h.cell hc0 (by simp), h.cell hc1 (by simp), h.cell hc2 (by simp)⟩
 have HB := Lib.hid hbx; clear hbx hc0 hc1 hc2
 obtain ⟨Q, hQ⟩ : ∃ Q : List Int → Prop, Q = fun x => x = zeros P.orders.length ∨ x ∈ L.reverse := ⟨_, rfl⟩
 have hst : ∃ R, AddInv P Q (gt (List.replicate P.orders.length [])) L.reverse R := by
  rw [hQ]; exact ⟨_, G.addInv_start G.ind_one (fun x hx => HL.out.1 x (List.mem_reverse.1 hx))⟩
 have hQL : genP P Q = genP P (fun x => x ∈ L) := by
  rw [hQ, genP_one]
  congr 1
  funext x
  simp
 have HST := Lib.hid (And.intro hst hQL); clear hst hQL hQ
 go_wp2
 go_loopg [7] (miss (List.replicate P.orders.length ([] : List Int)) P.orders.length * (P.orders.length + 3) + L.length) (fun gk qv wr => ∃ (b q : List (List Int)), gk ≤ 20000 ∧ gk = miss b P.orders.length * (P.orders.length + 3) + q.length ∧ Ext w0 wr ∧
  TabAt w.heap.size (fun k => qv.ownBlock = some k ∨ k < w.heap.size) wr (w.heap.size + 1) P.orders.length b ∧ ShQ (fun k => k = w.heap.size + 1) w1.heap.size wr qv q ∧ Hid (∃ R, AddInv P Q (gt b) q.reverse R))
 case atStart =>
  have hk0 : miss (List.replicate P.orders.length ([] : List Int)) P.orders.length * (P.orders.length + 3) + L.length ≤ 20000 := by
   have h3 : miss (List.replicate P.orders.length ([] : List Int)) P.orders.length * (P.orders.length + 3) ≤ 6 * 9 := Nat.mul_le_mul (by have := miss_le (List.replicate P.orders.length ([] : List Int)) P.orders.length; omega) (by omega)
   omega
  exact ⟨_, L, hk0, rfl, hg02, hT2, hq2, Lib.hid HST.out.1⟩
 case round =>
  clear hT2 hq2 hown2 hg02
  obtain ⟨b, q, hgkb, hgk, hg, hT, hq, hA⟩ := hrel
  have hlb := hT.len
  obtain ⟨hb1, hb2, hb3⟩ := HB.out wr hg
  have hqc : q = [] ∨ ∃ q1 y, q = q1 ++ [y] := by
   rcases List.eq_nil_or_concat q with h | ⟨q1, y, h⟩
   ·exact .inl h
   ·exact .inr ⟨q1, y, by rw [h, List.concat_eq_append]⟩
  rcases hqc with rfl | ⟨q1, y, rfl⟩
  ·obtain ⟨aq, capq, rfl, _⟩ := hq.shape
   have hnk : w.heap.size ≤ wr.heap.size := (grown_trans hg0 hg).size
   have hI : Ind P (genP P Q) (gt b) := by obtain ⟨R, hA⟩ := hA.out; exact G.addInv_end hA
   have HI := Lib.hid hI; clear hI hA
   go_wp2_with fail
   refine Calls.mono (l12FullF_ok P G wr _ _ b (genP P Q) Any _ ⟨_, _, _, rfl, Pres3.ext h36 hg⟩ (hT.rows (by omega)) hlb HI.out (fun k => k < w.heap.size) (fun k hk => ⟨by have := (grown_trans hg0 hg).size; omega, fun e => by rcases e with e | e; omega; exact e.2 (.inr hk)⟩)) ?_
   rintro eF wF ⟨vF, rfl, hgF, hRF⟩
   rw [HST.out.2] at hRF
   obtain ⟨aR, capR, rfl, _⟩ := hRF.shape
   go_wp2
   go_ret
   exact ⟨_, rfl, grown_trans hg0 (grown_trans hg hgF), hRF.weak hnk⟩
  ·obtain ⟨aq, capq, rfl, _⟩ := hq.shape
   obtain ⟨k1, hk1⟩ : ∃ k1, k1 = q1.length := ⟨_, rfl⟩
   obtain ⟨gq, off, u, rfl, hgB, hglt, hcell, hyI⟩ := ShQ.head hq q1.length (by simp)
   rw [gt_concat] at hyI
   have hcap : k1 ≤ capq := by
    obtain ⟨vs, hvl, hqo, _⟩ := hq
    rcases hqo with ⟨h, _⟩ | ⟨g, o, cp, cur, hv, _, _, h1, _⟩
    ·simp at h
    ·simp only [Value.slice.injEq] at hv
     obtain ⟨_, _, rfl⟩ := hv
     simp at hvl; omega
   have hq1 := hq.init
   rw [← hk1] at hcell hq1
   have hml : (q1 ++ [y]).length = k1 + 1 := by simp [hk1]
   obtain ⟨m, hm⟩ : ∃ m, m = (q1 ++ [y]).length := ⟨_, rfl⟩
   rw [← hm] at hml hgk ⊢
   have hyV : Vec P.orders y := by obtain ⟨R, hA⟩ := hA.out; exact hA.vec _ (hA.que _ (by simp))
   have htab : ∀ d, d < P.orders.length → gt b d ≠ [] → T P d (gt b d) ∧ gt (gt b d) d = 1 := by obtain ⟨R, hA⟩ := hA.out; exact fun d hd h => (hA.tab d hd h).2
   have hA1 : ∃ R, AddInv P Q (gt b) (y :: q1.reverse) R := by
    obtain ⟨R, hA⟩ := hA.out
    rw [List.reverse_append] at hA
    exact ⟨R, hA⟩
   obtain ⟨ay, capy, hvy, _, _⟩ := hyI.shape
   rw [hyV.1] at hvy
   subst hvy
   have HY := Lib.hid (And.intro hyV (And.intro htab (And.intro hA1 (And.intro hk1 hgk)))); clear hyV htab hA1 hA hk1 hgk
   have hmb : m ≤ 20000 := by have := HY.out.2.2.2.2; omega
   have hmi : (0 : Int) < m := by omega
   have hwm : IntKind.i64.wrap ((m : Int) - 1) = (k1 : Int) := by rw [show (m : Int) - 1 = (k1 : Int) by omega]; exact IntWalk.i64_in _ (by omega)
   have hkm : (k1 : Int) < m := by omega
   have hk0 : (0 : Int) ≤ k1 := by omega
   have hrt := run_head_rows wr (some ⟨gq, off, none⟩) m capq (k1 : Int) hk0 (by omega)
   rw [show ((k1 : Int)).toNat = k1 by omega] at hrt
   have HM := Lib.hid (And.intro hml hm); clear hml hm
   have hTr := hT.rows (by omega)
   go_wp2_with fail
   refine Calls.mono (l12Strip_ok P G wr _ _ _ b y Any _ _ ⟨_, _, _, rfl, Pres3.ext h36 hg⟩ hTr hyI HY.out.1 hlb HY.out.2.1) ?_
   rintro eS wS ⟨vS, rfl, hgS, d, rv, Y, rfl, hOY, hSY, hdn, hdY⟩
   have hYV := hSY.vec.1
   have hYi := hOY.ints (by rw [hYV.1]; omega)
   have hA2 : ∃ R, AddInv P Q (gt b) (Y :: q1.reverse) R := by
    obtain ⟨R, hA⟩ := HY.out.2.2.1
    exact hSY.inv _ _ _ hA
   obtain ⟨ar, capr, hvr, _, _⟩ := hYi.shape
   rw [hYV.1] at hvr
   subst hvr
   have hgT := grown_trans hg hgS
   have hqS := hq1.ext hgS
   have hTS : TabAt w.heap.size (fun k => (Value.slice (some ⟨gq, off, none⟩) k1 capq).ownBlock = some k ∨ k < w.heap.size) wS (w.heap.size + 1) P.orders.length b := hT.ext hgS
   have HLB := Lib.hid hlb
   clear hT hq hq1 hTr hyI hcell hrt hwm hb1 hb2 hb3 hlb
   have hT0 := hSY.vec
   have HA2 := Lib.hid (And.intro hA2 (And.intro hT0 hYV)); clear hA2 hT0 hYV hSY
   by_cases hd : d = P.orders.length
   ·have hY0 : Y = zeros P.orders.length := T.top hP (by rw [← hd]; exact HA2.out.2.1)
    have hA3 : Hid (∃ R, AddInv P Q (gt b) q1.reverse R) := by
     obtain ⟨R, hA⟩ := HA2.out.1
     exact Lib.hid ⟨R, addInv_drop hA hY0⟩
    clear hdY hY0
    subst hd
    go_wp2
    go_roundg (gk - 1)
    case measure => have := HY.out.2.2.2.2; omega
    case rel => exact ⟨b, q1, by omega, by have := HY.out.2.2.2.2; have := HY.out.2.2.2.1; have := HM.out.1; omega, hgT, hTS, hqS, hA3⟩
   ·have hdl : d < P.orders.length := by omega
    obtain ⟨hy0, hbd⟩ := hdY hdl
    clear hdY
    have hdi : ((d : Int) == (P.orders.length : Int)) = false := by simp; omega
    have hYV := HA2.out.2.2
    have ho := hP.ord7 d hdl
    have hpr := hP.ord d hdl
    have hyd := hYV.2 d hdl
    obtain ⟨br, or_, rfl, _, _, hcr⟩ := Ints.at hYi d (by rw [hYV.1]; exact hdl)
    obtain ⟨bo, oo, rfl, _, _, hco⟩ := Ints.at (Ints.ext h36.o hgT) d hdl
    have hyd1 : 1 ≤ gt Y d := by omega
    have HD := Lib.hid (And.intro hbd (And.intro hpr (And.intro hy0 hd))); clear hbd hpr hy0 hd
    have hd0 : (0 : Int) ≤ d := by omega
    have hdn' : (d : Int) < P.orders.length := by omega
    have e1 : ∀ w', Ext wS w' → w'.cell? ⟨w.heap.size, 0, none⟩ = some (.slice (some ⟨bo, oo, none⟩) P.orders.length capo) := fun w' h => (HB.out w' (grown_trans hgT h)).1
    have e2 : ∀ w', Ext wS w' → w'.cell? ⟨w.heap.size, 1, none⟩ = some vp6 := fun w' h => (HB.out w' (grown_trans hgT h)).2.1
    have e3 : ∀ w', Ext wS w' → w'.cell? ⟨w.heap.size, 2, none⟩ = some vc6 := fun w' h => (HB.out w' (grown_trans hgT h)).2.2
    have e4 : ∀ w', Ext wS w' → w'.cell? ⟨br, or_ + d, none⟩ = some (.int .i64 (gt Y d)) := fun w' h => h.cell hcr (by simp)
    have e5 : ∀ w', Ext wS w' → w'.cell? ⟨bo, oo + d, none⟩ = some (.int .i64 (gt P.orders d)) := fun w' h => h.cell hco (by simp)
    clear hcr hco
    go_wp2
    go_region_held3 (fun w' => Ext wS w') (first | exact grown_drew _ _ | assumption)
     (first
      | (go_at_call 215; refine Calls.mono (Calls.rel (w0 := wS) (by first | exact grown_drew _ _ | assumption) (l01Inv_ok (gt Y d) (gt P.orders d) _ HD.out.2.1 hyd1 hyd.2)) ?_; rintro eI wI ⟨vI, rfl, hgI, hsI, kk, rfl, hk1', hk2', hkk⟩; have HK := Lib.hid hkk; clear hkk)
      | (go_at_call 106; refine Calls.mono (Calls.rel (w0 := wS) (by assumption) (l10Pow_ok P G _ _ _ Y _ Any Any ⟨_, _, _, rfl, Pres3.ext (Pres3.ext h36 hgT) (by assumption)⟩ (Ints.sub (Ints.ext hYi (by assumption)) (fun _ _ _ => trivial)) hYV (by omega))) ?_; rintro eZ wZ ⟨zv, rfl, hgZ, hsZ, hOZ⟩))
    clear e1 e2 e3 e4 e5
    rw [pwZ_nat _ _ _ hk1'] at hOZ
    obtain ⟨Z, hZ⟩ : ∃ Z, Z = pw P Y kk.toNat := ⟨_, rfl⟩
    rw [← hZ] at hOZ
    have hZV : Vec P.orders Z := by rw [hZ]; exact G.pw_vec hYV _
    have hZl : Z.length = P.orders.length := hZV.1
    have hZne : Z ≠ [] := fun h => by rw [h] at hZl; simp at hZl; omega
    have hgwZ := grown_trans hgT hgZ
    have hszS := hgS.size
    have hZI : Ints (fun k => k ≠ w.heap.size + 1 ∧ ¬ ((Value.slice (some ⟨gq, off, none⟩) k1 capq).ownBlock = some k ∨ k < w.heap.size)) wZ zv Z := ints_of_own hOZ (by omega) (fun k hk => by
     have h1 := (hOZ.lt k hk).1
     exact ⟨by omega, fun e => e.elim (fun e => by have := own_blk e; omega) (fun e => by omega)⟩)
    obtain ⟨az, capz, hvz, _, _⟩ := hZI.shape
    rw [hZl] at hvz
    subst hvz
    obtain ⟨hT5, hg5⟩ := (hTS.ext hgZ).put d hZI hZne
    obtain ⟨hfr, hcc⟩ := (hTS.ext hgZ).at d hdl
    have hcd : wZ.cell? ⟨w.heap.size + 1, d, none⟩ = some (.slice none 0 0) := hcc.elim (fun h => h.2) (fun h => absurd HD.out.1 h.1)
    have hfar : ∀ (S : Nat → Prop) k, (k ≠ w.heap.size + 1 ∧ S k) → k < wZ.heap.size → (k ≠ w.heap.size + 1 ∧ S k) ∧ k < (wZ.setCell ⟨w.heap.size + 1, d, none⟩ (.slice az P.orders.length capz)).heap.size ∧ (wZ.setCell ⟨w.heap.size + 1, d, none⟩ (.slice az P.orders.length capz)).heap[k]? = wZ.heap[k]? := fun S k hk hlt => ⟨hk, Nat.lt_of_lt_of_le hlt hg5.size, hg5.block k hlt (fun e => hk.1 (by cases e; rfl))⟩
    have hZ5 := Ints.sub (Ints.mono hZI (hfar _)) (S' := fun k => k ≠ w.heap.size + 1 ∧ ¬ ((Value.slice (some ⟨gq, off, none⟩) k1 capq).ownBlock = some k)) (fun k hk _ => ⟨hk.1, fun e => hk.2 (.inl e)⟩)
    have hr5 : Ints (fun k => k ≠ w.heap.size + 1 ∧ ¬ ((Value.slice (some ⟨gq, off, none⟩) k1 capq).ownBlock = some k)) (wZ.setCell ⟨w.heap.size + 1, d, none⟩ (.slice az P.orders.length capz)) (.slice (some ⟨br, or_, none⟩) P.orders.length capr) Y := Ints.mono (ints_of_own (hOY.ext0 hgZ) (by rw [hYV.1]; omega) (fun k hk => by
     have h1 := ((hOY.ext0 hgZ).lt k hk).1
     exact ⟨by omega, fun e => by have := own_blk e; omega⟩)) (hfar _)
    have hq5 : ShQ (fun k => k = w.heap.size + 1) w1.heap.size (wZ.setCell ⟨w.heap.size + 1, d, none⟩ (.slice az P.orders.length capz)) (.slice (some ⟨gq, off, none⟩) k1 capq) q1 := (hqS.ext hgZ).kept hg5.size (fun j hj hc => hg5.block j hj (fun e => by
     have e := Option.some.inj e
     subst e
     rcases hc with hc | hc
     ·have := own_blk hc; omega
     ·exact hc rfl)) (fun _ _ h => h)
    have hgw5 : Ext w0 (wZ.setCell ⟨w.heap.size + 1, d, none⟩ (.slice az P.orders.length capz)) := grown_own hgwZ hg5 (fun j hj hlt => by cases hj; have := HS.out; omega)
    have hqown : ∀ k, (Value.slice (some ⟨gq, off, none⟩) k1 capq).ownBlock = some k → w1.heap.size ≤ k := fun k hk => by have := own_blk hk; omega
    have HZ := Lib.hid (And.intro hZ (And.intro hZV (And.intro hZl hZne))); clear hZ hZV hZl hZne hcc hTS hqS hOZ hOY hZI
    have hq1l : q1.length ≤ 20000 := by have := HY.out.2.2.2.1; omega
    generalize hw5 : wZ.setCell ⟨w.heap.size + 1, d, none⟩ (.slice az P.orders.length capz) = w5 at *
    have hs5 : w1.heap.size ≤ w5.heap.size := by have := hgw5.size; have := hg5.size; have := hgZ.size; omega
    go_wp2_with (first | (at_builtin; refine wp_shq_app rfl _ _ rfl (fun k => k = w.heap.size + 1) w1.heap.size _ _ q1 Y rfl w5 hq5 rfl hr5 rfl (by omega) hs5 ?_; intro v6 w6 hq6 hg6 hb6; have hgw6 := grown_own hgw5 hg6 (fun j hj hlt => by have := hqown j hj; have := HS.out; omega)) | fail)
    have hT6 := tab_keptF hT5 hqown hgb1 hg6 hb6
    have hZ6 : Ints (fun k => ¬ (k = w.heap.size + 1) ∧ v6.ownBlock ≠ some k) w6 (.slice az P.orders.length capz) Z := Ints.mono hZ5 (q_kept (bad := fun k => k = w.heap.size + 1) hg6 hb6)
    have hs6 : w1.heap.size ≤ w6.heap.size := by have := hg6.size; omega
    have hqlt6 : ∀ k, v6.ownBlock = some k → w1.heap.size ≤ k := fun k hk => (hq6.lt k hk).1
    clear hw5 hfar hT5 hg5 hZ5 hr5 hq5 hg6 hb6 hfr hcd hqown
    have hTV : Vec P.orders (pw P Z (gt P.orders d).toNat) := G.pw_vec HZ.out.2.1 _
    have hTl : (pw P Z (gt P.orders d).toNat).length ≤ 6 := by rw [hTV.1]; omega
    have hTe : pwZ P Z (gt P.orders d) = pw P Z (gt P.orders d).toNat := pwZ_nat _ _ _ (by omega)
    have HTV := Lib.hid (And.intro hTl hTe); clear hTl hTe hTV
    have e1 : ∀ w', Ext w0 w' → w'.cell? ⟨w.heap.size, 0, none⟩ = some (.slice (some ⟨bo, oo, none⟩) P.orders.length capo) := fun w' h => (HB.out w' h).1
    have e2 : ∀ w', Ext w0 w' → w'.cell? ⟨w.heap.size, 1, none⟩ = some vp6 := fun w' h => (HB.out w' h).2.1
    have e3 : ∀ w', Ext w0 w' → w'.cell? ⟨w.heap.size, 2, none⟩ = some vc6 := fun w' h => (HB.out w' h).2.2
    obtain ⟨_, _, hbb, _, _, hco⟩ := Ints.at h36.o d hdl
    have e5 : ∀ w', Ext w0 w' → w'.cell? ⟨bo, oo + d, none⟩ = some (.int .i64 (gt P.orders d)) := fun w' h => h.cell (by cases hbb; exact hco) (by simp)
    clear hco hbb
    go_region_held3 (fun w' => Ext w0 w') (first | exact grown_trans hgw6 (grown_drew _ _) | assumption | exact grown_trans hgwT (World.grownBy_alloc _ _ _))
     (first
      | (go_at_call 106; refine Calls.mono (Calls.rel2 (w0 := w6) (grown_drew _ _) (l10Pow_ok P G _ _ _ Z (gt P.orders d) Any _ ⟨_, _, _, rfl, Pres3.ext h36 (grown_trans hgw6 (grown_drew _ _))⟩ (hZ6.ext (grown_drew _ _)) HZ.out.2.1 (by omega))) ?_; rintro eT wT ⟨vT, rfl, hgT6, hgT7, hsT, hOT⟩; have hgwT := grown_trans hgw6 hgT6; rw [HTV.out.2] at hOT; have hTI : Ints (fun k => ¬ (k = w.heap.size + 1) ∧ v6.ownBlock ≠ some k) wT vT (pw P Z (gt P.orders d).toNat) := ints_of_own hOT (by have := HTV.out.1; omega) (fun k hk => by
        have h1 := (hOT.lt k hk).1
        have h3 := hgw6.size
        exact ⟨by omega, fun e => by have := (hq6.lt k e).2; omega⟩); obtain ⟨aT, capT, hvT, _, _⟩ := hTI.shape; subst hvT)
      | (refine step_shq_app rfl _ _ rfl (fun k => k = w.heap.size + 1) w1.heap.size v6 _ (q1 ++ [Y]) _ rfl wT (hq6.ext hgT6) rfl hTI rfl (by simp; omega) (by have := hgT6.size; omega) ?_; intro v7 w7 hq7 hg7 hb7; have hgw7 := grown_own hgwT hg7 (fun j hj hlt => by have := hqlt6 j hj; have := HS.out; omega)))
    clear e1 e2 e3 e5
    have hs7 : w1.heap.size ≤ w7.heap.size := by have := hg7.size; have := hgT6.size; omega
    have hT7 := tab_keptF (hT6.ext hgT6) hqlt6 hgb1 hg7 hb7
    have hZ7 : Ints (fun k => ¬ (k = w.heap.size + 1) ∧ v7.ownBlock ≠ some k) w7 (.slice az P.orders.length capz) Z := Ints.mono (hZ6.ext hgT6) (q_kept (bad := fun k => k = w.heap.size + 1) hg7 hb7)
    obtain ⟨T1, hT1e⟩ : ∃ T1, T1 = pw P Z (gt P.orders d).toNat := ⟨_, rfl⟩
    rw [← hT1e] at hq7
    have HT1 := Lib.hid hT1e; clear hT1e hq6 hT6 hZ6 hqlt6 hTI hOT hg7 hb7
    go_wp2
    go_loopw [7, 12] (fun qv ev wr2 => ∃ (e : Nat) (v8 : Value), v8 = qv ∧ ev = .int .i64 e ∧ e ≤ P.orders.length ∧ w1.heap.size ≤ wr2.heap.size ∧ Ext w0 wr2 ∧ TabAt w.heap.size (fun j => v8.ownBlock = some j ∨ j < w.heap.size) wr2 (w.heap.size + 1) P.orders.length (b.set d Z) ∧
     ShQ (fun k => k = w.heap.size + 1) w1.heap.size wr2 v8 (q1 ++ [Y] ++ [T1] ++ comsR P b Z e) ∧ Ints (fun j => ¬ (j = w.heap.size + 1) ∧ v8.ownBlock ≠ some j) wr2 (.slice az P.orders.length capz) Z) (fun _ ev _ => P.orders.length - (intOf ev).toNat)
    case atStart => exact ⟨0, v7, rfl, rfl, by omega, hs7, hgw7, hT7, by simpa [comsR] using hq7, hZ7⟩
    case round =>
     obtain ⟨e, v8, rfl, rfl, he, hs8, hg8, hT8, hq8, hZ8⟩ := hrel
     clear hT7 hq7 hZ7
     have hqlt8 : ∀ j, v8.ownBlock = some j → w1.heap.size ≤ j := fun j hj => (hq8.lt j hj).1
     by_cases he2 : e < P.orders.length
     ·have he' : (e : Int) < P.orders.length := by omega
      have he0 : (0 : Int) ≤ e := by omega
      by_cases hed : e = d
      ·have hcs : comsR P b Z (e + 1) = comsR P b Z e := by simp only [comsR]; rw [if_pos (by rw [hed]; exact HD.out.1), List.append_nil]
       have hne : ((e : Int) != (d : Int)) = false := by simp [hed]
       have HC := Lib.hid hcs; clear hcs hed
       go_wp2
       go_roundw
       case rel => exact ⟨e + 1, v8, rfl, by go_num, by omega, hs8, hg8, hT8, by rw [HC.out]; exact hq8, hZ8⟩
       case measure => simp [intOf]; omega
      ·have hne : ((e : Int) != (d : Int)) = true := by simp; omega
       have hbe : gt (b.set d Z) e = gt b e := gt_set_ne _ _ _ _ (fun h => hed h.symm)
       obtain ⟨_, hcc⟩ := hT8.at e he2
       rw [hbe] at hcc
       clear hbe hed
       rcases hcc with ⟨h0, hcell⟩ | ⟨hnn, ab, capb, hcell, hbI⟩
       ·have hcs : comsR P b Z (e + 1) = comsR P b Z e := by simp only [comsR]; rw [if_pos h0, List.append_nil]
        have HC := Lib.hid hcs; clear hcs h0
        go_wp2
        go_roundw
        case rel => exact ⟨e + 1, v8, rfl, by go_num, by omega, hs8, hg8, hT8, by rw [HC.out]; exact hq8, hZ8⟩
        case measure => simp [intOf]; omega
       ·have hcs : comsR P b Z (e + 1) = comsR P b Z e ++ [comR P Z (gt b e)] := by simp only [comsR]; rw [if_neg hnn]
        have hbV := (HY.out.2.1 e he2 hnn).1.1
        have hcV : Vec P.orders (comR P Z (gt b e)) := G.mulV (G.invV (G.mulV hbV HZ.out.2.1)) (G.mulV HZ.out.2.1 hbV)
        have hbl : (0 : Int) < (gt b e).length := by
         have : 0 < (gt b e).length := List.length_pos_iff.2 hnn
         omega
        have hcl := comsR_len P b Z e
        have HC := Lib.hid (And.intro hcs (And.intro hbV (And.intro hcV hcl))); clear hcs hbV hcV hcl hnn
        have hgbl : w.heap.size + 1 < wr.heap.size := by have := hT8.lt; omega
        go_wp2
        have e1 : ∀ w', HeldB w0 wr (w.heap.size + 1) w' → w'.cell? ⟨w.heap.size, 0, none⟩ = some (.slice (some ⟨bo, oo, none⟩) P.orders.length capo) := fun w' h => (HB.out w' h.1).1
        have e2 : ∀ w', HeldB w0 wr (w.heap.size + 1) w' → w'.cell? ⟨w.heap.size, 1, none⟩ = some vp6 := fun w' h => (HB.out w' h.1).2.1
        have e3 : ∀ w', HeldB w0 wr (w.heap.size + 1) w' → w'.cell? ⟨w.heap.size, 2, none⟩ = some vc6 := fun w' h => (HB.out w' h.1).2.2
        have e4 : ∀ w', HeldB w0 wr (w.heap.size + 1) w' → w'.cell? ⟨w.heap.size + 1, e, none⟩ = some (.slice (some ab) (gt b e).length capb) := fun w' h => h.cell hcell
        clear hcell
        go_region_held3 (fun w' => HeldB w0 wr (w.heap.size + 1) w') (first | exact heldB_ext hg8 hgbl (grown_drew _ _) | assumption | exact heldB_ext hg8 hgbl hgC | exact heldB_ext hg8 hgbl (grown_trans hgC (World.grownBy_alloc _ _ _)))
         (first
          | (go_at_call 216; refine Calls.mono (Calls.rel2 (w0 := wr) (grown_drew _ _) (l10Comm_ok P G _ _ _ _ Z (gt b e) Any _ _ ⟨_, _, _, rfl, Pres3.ext h36 (grown_trans hg8 (grown_drew _ _))⟩ (hZ8.ext (grown_drew _ _)) (Ints.ext hbI (grown_drew _ _)) HZ.out.2.1 HC.out.2.1)) ?_; rintro eC wC ⟨vC, rfl, hgC, hgC2, hsC, hOC⟩; have hCI : Ints (fun k => ¬ (k = w.heap.size + 1) ∧ v8.ownBlock ≠ some k) wC vC (comR P Z (gt b e)) := ints_of_own hOC (by rw [HC.out.2.2.1.1]; omega) (fun k hk => by
            have h1 := (hOC.lt k hk).1
            exact ⟨by omega, fun e => by have := (hq8.lt k e).2; omega⟩); obtain ⟨aC, capC, hvC, _, _⟩ := hCI.shape; subst hvC)
          | (refine step_shq_app rfl _ _ rfl (fun k => k = w.heap.size + 1) w1.heap.size v8 _ (q1 ++ [Y] ++ [T1] ++ comsR P b Z e) _ rfl wC (hq8.ext hgC) rfl hCI rfl (by have := HC.out.2.2.2; simp; omega) (by have := hgC.size; omega) ?_; intro v9 w9 hq9 hg9 hb9; have hH9 : HeldB w0 wr (w.heap.size + 1) w9 := ⟨grown_own (grown_trans hg8 hgC) hg9 (fun j hj hlt => by have := hqlt8 j hj; have := HS.out; omega), (hg9.block _ (by have := hgC.size; omega) (fun e => by have := hqlt8 _ e.symm; omega)).trans (hgC.block _ hgbl (by simp))⟩))
        clear e1 e2 e3 e4
        have hs9 : w1.heap.size ≤ w9.heap.size := by have := hg9.size; have := hgC.size; omega
        have hT9 := tab_keptF (hT8.ext hgC) hqlt8 hgb1 hg9 hb9
        have hZ9 : Ints (fun k => ¬ (k = w.heap.size + 1) ∧ v9.ownBlock ≠ some k) w9 (.slice az P.orders.length capz) Z := Ints.mono (hZ8.ext hgC) (q_kept (bad := fun k => k = w.heap.size + 1) hg9 hb9)
        clear hq8 hT8 hZ8 hg9 hb9 hCI hOC
        go_wp2
        go_roundw
        case rel => exact ⟨e + 1, v9, rfl, by go_num, by omega, hs9, hH9.1, hT9, by rw [HC.out.1, ← List.append_assoc]; exact hq9, hZ9⟩
        case measure => simp [intOf]; omega
     ·have hee : e = P.orders.length := by omega
      subst hee
      have hms := miss_set (b := b) (z := Z) HD.out.1 HZ.out.2.2.2 P.orders.length (by rw [HLB.out]; exact Nat.le_refl _)
      rw [if_pos hdl] at hms
      have hcl := comsR_len P b Z P.orders.length
      have hll : (q1 ++ [Y] ++ [T1] ++ comsR P b Z P.orders.length).length ≤ q1.length + 2 + P.orders.length := by simp; omega
      have hmul : miss b P.orders.length * (P.orders.length + 3) = miss (b.set d Z) P.orders.length * (P.orders.length + 3) + (P.orders.length + 3) := by rw [← hms, Nat.add_mul, Nat.one_mul]
      have hA5 : Hid (∃ R, AddInv P Q (gt (b.set d Z)) (q1 ++ [Y] ++ [T1] ++ comsR P b Z P.orders.length).reverse R) := by
       obtain ⟨R, hA⟩ := HA2.out.1
       have hst := G.close_step (q' := (q1 ++ [Y] ++ [T1] ++ comsR P b Z P.orders.length).reverse) hA hdl HA2.out.2.1 HD.out.1 HLB.out kk hk1' HK.out (fun x => by
        rw [← HZ.out.1, ← HT1.out]
        simp only [List.mem_reverse, List.mem_append, List.mem_singleton, or_assoc])
       rw [← HZ.out.1] at hst
       exact Lib.hid hst
      have hlt5 : miss (b.set d Z) P.orders.length * (P.orders.length + 3) + (q1 ++ [Y] ++ [T1] ++ comsR P b Z P.orders.length).length < gk := by
       have := HY.out.2.2.2.2; have := HY.out.2.2.2.1; have := HM.out.1; omega
      have HX := Lib.hid (And.intro hll (And.intro hlt5 (And.intro hmul hms))); clear hll hmul hms hlt5 hcl hZ8
      go_wp2
      go_roundg (miss (b.set d Z) P.orders.length * (P.orders.length + 3) + (q1 ++ [Y] ++ [T1] ++ comsR P b Z P.orders.length).length)
      case measure => exact HX.out.2.1
      case rel => exact ⟨b.set d Z, _, by have := HX.out.2.1; omega, rfl, hg8, hT8, hq8, hA5⟩
theorem l12Close_ok (P : Pr) (G : Grp P) (w : World) (pv lv : Value) (L : List (List Int)) (Sp Sr : Nat → Prop) (hpv : PresV Sp w pv P) (hl : Rows2 Sr w lv L) (hL : ∀ x ∈ L, Vec P.orders x) (hlen : L.length ≤ 10000) :
  Calls Tryz.prog 108 #[pv, lv] w (Ret w fun w' v => Rows2 Any w' v (cseq P (genP P (fun x => x ∈ L)))) :=
 (l12CloseF_ok P G w pv lv L Sp Sr hpv hl hL hlen).mono (fun _ _ ⟨v, he, hg, h⟩ => ⟨v, he, hg, h.rows⟩)
end Go.Proofs.YtdcobapnlpeaaaaGreat
namespace Go.Proofs.YtdcobapnlpeaaaaGreat
theorem flatMap_len' {α β : Type} (l : List α) (f : α → List β) (n : Nat) (h : ∀ x ∈ l, (f x).length = n) : (l.flatMap f).length = l.length * n := by
 induction l with
 | nil => simp
 | cons a l ih =>
  rw [List.flatMap_cons, List.length_append, h a (List.mem_cons_self ..), ih (fun x hx => h x (List.mem_cons_of_mem _ hx)), List.length_cons, Nat.succ_mul]; omega
end Go.Proofs.YtdcobapnlpeaaaaGreat
namespace Go.Proofs.YtdcobapnlpeaaaaGreat
open Go.RowKit
theorem ShQ.rowsB {bad : Nat → Prop} {B : Nat} {w : World} {v : Value} {xs : List (List Int)} (h : ShQ bad B w v xs) (hb : ∀ k, bad k → k < B) : Rows2 (fun k => ¬ bad k) w v xs := by
 obtain ⟨vs, hl, hq, hr⟩ := h
 rcases hq with ⟨rfl, rfl⟩ | ⟨g, off, cap, cur, rfl, hB, hg, hnc, hcm, hsz, hc⟩
 ·have : xs = [] := List.eq_nil_of_length_eq_zero (by simpa using hl.symm)
  subst this
  exact ⟨none, 0, rfl, ⟨by simp, by simp, fun _ => rfl⟩, fun i hi => by simp at hi⟩
 ·have hgs : g < w.heap.size := (Array.getElem?_eq_some_iff.1 hg).1
  have hcm2 : cap ≤ 9223372036854775807 := by unfold maxLen at hcm; omega
  refine ⟨_, cap, by rw [hl], ⟨by omega, by omega, fun h => by cases h⟩, fun i hi => ⟨g, off, gt vs i, rfl, fun h => by have := hb g h; omega, hgs, ?_, Ints.sub (hr i hi) (fun k hk _ => hk.1)⟩⟩
  simp only [World.cell?, hg, Option.isSome_none, Bool.false_eq_true, if_false]
  exact hc i (by omega)
end Go.Proofs.YtdcobapnlpeaaaaGreat
namespace Go.Proofs.YtdcobapnlpeaaaaGreat
open Go.RowKit
attribute [local go_sem ↓] Go.wp_at_zero Go.wp_at_succ
theorem Pres3.keptB {B : Nat} {r : Option Nat} {w w' : World} {vo vp vc : Value} {P : Pr} (h : Pres3 (From B) w vo vp vc P) (hg : w.grownBy w' r) (hr : ∀ k, r = some k → k < B) : Pres3 (From B) w' vo vp vc P :=
 h.mono (frame_of hg (fun k hk _ => ⟨hk, fun e => by have := hr k e; have hk : B ≤ k := hk; omega⟩))
theorem Pres3.low {B B' : Nat} {w : World} {vo vp vc : Value} {P : Pr} (h : Pres3 (From B) w vo vp vc P) (hB : B' ≤ B) : Pres3 (From B') w vo vp vc P :=
 h.mono (fun _ hk hlt => ⟨Nat.le_trans hB hk, hlt, rfl⟩)
end Go.Proofs.YtdcobapnlpeaaaaGreat
namespace Go.Proofs.YtdcobapnlpeaaaaGreat
open Go.RowKit
attribute [local go_sem ↓] Go.wp_at_zero Go.wp_at_succ
set_option maxRecDepth 100000 in
set_option maxHeartbeats 8000000 in
theorem l01From_ok (w : World) (cv : Value) (bs : List Int) (S : Nat → Prop) (hb : Bytes S w cv bs) :
  Calls Tryz.prog 96 #[cv] w (Ret w fun w' v => v = .pointer (some ⟨w.heap.size, 0, none⟩) ∧ Src (w.heap.size + 1) w' w.heap.size) := by
 obtain ⟨a, cap, rfl, _, hlen⟩ := Sl.shape hb
 have hbA := Box3.made w 172 (.slice a bs.length cap) (.int .i64 0) (.int .i64 76001)
 have hgA : Ext w (w.alloc (.cells #[.slice a bs.length cap, .int .i64 0, .int .i64 76001] 172)) := World.grownBy_alloc _ _ _
 go_enter Tryz.func96, Tryz.ntmps96
 go_wp2_with fail
 generalize w.alloc (.cells #[.slice a bs.length cap, .int .i64 0, .int .i64 76001] 172) = w0 at *
 go_loopw [4] (fun iv wr => ∃ (i seed : Nat), iv = .int .i64 i ∧ i ≤ bs.length ∧ seed < 2147483647 ∧ Ext w wr ∧ Box3 wr w.heap.size (.slice a bs.length cap) (.int .i64 0) (.int .i64 seed)) (fun iv _ => bs.length - (intOf iv).toNat)
 case atStart => exact ⟨0, 76001, rfl, by omega, by omega, hgA, hbA⟩
 case round =>
  clear hbA hgA
  obtain ⟨i, seed, rfl, hi, hs, hg, hB⟩ := hrel
  by_cases hlt : i < bs.length
  ·by_cases h64 : i < 64
   ·obtain ⟨b, off, rfl, hbS, hbl, hcb, hx0, hx1⟩ := Bytes.at hb i hlt
    have hcr := hg.cell hcb (by simp)
    generalize gt bs i = x at hcb hcr hx0 hx1
    have hli : (i : Int) < (bs.length : Nat) := by omega
    have h6i : (i : Int) < 64 := by omega
    obtain ⟨s2, hs2⟩ : ∃ s2 : Nat, ((seed : Int) * 71 + x) % 2147483647 = (s2 : Int) ∧ s2 < 2147483647 := ⟨(((seed : Int) * 71 + x) % 2147483647).toNat, by omega, by omega⟩
    have hBs := (hB.put (.int .i64 (s2 : Nat))).2.2
    have hgs := grown_set wr w.heap.size 2 (.int .i64 (s2 : Nat))
    have hgn : Ext w (wr.setCell ⟨w.heap.size, 2, none⟩ (.int .i64 (s2 : Nat))) := grown_own hg hgs (fun j hj hlt => by have := Option.some.inj hj; omega)
    have hBd := hBs.ext (grown_drew (wr.setCell ⟨w.heap.size, 2, none⟩ (.int .i64 (s2 : Nat))) none)
    have hgd := grown_trans hgn (grown_drew (wr.setCell ⟨w.heap.size, 2, none⟩ (.int .i64 (s2 : Nat))) none)
    have hw1 : IntKind.i64.wrap ((seed : Int) * 71) = (seed : Int) * 71 := IntWalk.i64_in _ (by omega)
    have hw2 : IntKind.i64.wrap ((seed : Int) * 71 + x) = (seed : Int) * 71 + x := IntWalk.i64_in _ (by omega)
    have hw0 : IntKind.i64.wrap x = x := IntWalk.i64_in _ (by omega)
    have hrem : ((seed : Int) * 71 + x).tmod 2147483647 = (s2 : Int) := by rw [Int.tmod_eq_emod_of_nonneg (by omega)]; exact hs2.1
    obtain ⟨h0, h1, h2, h3, h4⟩ := id hB
    have c0 : wr.drew.cell? ⟨w.heap.size, 2, none⟩ = some (.int .i64 seed) := h3
    have c1 : wr.drew.cell? ⟨b, off + i, none⟩ = some (.int .u8 x) := hcr
    have c2 : w.heap.size < wr.drew.heap.size := h0
    have c3 := h4
    have HQ := Lib.hid (And.intro hgd (And.intro hBd (And.intro hs2.2 hb))); clear hgd hBd hs2 hb hgn hgs hBs hB hg h0 h1 h2 h3 hcb hcr
    go_wp2
    go_still_tail 15, (by kernel_rfl)
    change wpList _ _ _ _ _ wr.drew
    go_wp2
    go_roundw
    case rel => exact ⟨i + 1, s2, by go_num, by omega, HQ.out.2.2.1, HQ.out.1, HQ.out.2.1⟩
    case measure => simp [intOf]; omega
   ·have hli : (i : Int) < (bs.length : Nat) := by omega
    have h6i : ¬ (i : Int) < 64 := by omega
    have HQ := Lib.hid (And.intro hg hB); clear hg hB
    go_wp2
    go_ret
    exact ⟨_, rfl, HQ.out.1, rfl, _, 0, seed, bs, HQ.out.2, Bytes.mono hb (fun k _ hlt => ⟨⟨by omega, by omega⟩, Nat.lt_of_lt_of_le hlt HQ.out.1.size, HQ.out.1.block k hlt (by simp)⟩), by omega, hs, by omega⟩
  ·have hli : ¬ (i : Int) < (bs.length : Nat) := by omega
   have HQ := Lib.hid (And.intro hg hB); clear hg hB
   go_wp2
   go_ret
   exact ⟨_, rfl, HQ.out.1, rfl, _, 0, seed, bs, HQ.out.2, Bytes.mono hb (fun k _ hlt => ⟨⟨by omega, by omega⟩, Nat.lt_of_lt_of_le hlt HQ.out.1.size, HQ.out.1.block k hlt (by simp)⟩), by omega, hs, by omega⟩
end Go.Proofs.YtdcobapnlpeaaaaGreat
namespace Go.Proofs.YtdcobapnlpeaaaaGreat
open Go.RowKit
attribute [local go_sem ↓] Go.wp_at_zero Go.wp_at_succ
theorem big_ok (w : World) (cv : Value) (bs : List Int) (S : Nat → Prop) (hb : Bytes S w cv bs) :
  Calls Tryz.prog 15 #[cv] w fun e w' => e = .returned (.bool (decide (4096 < bs.length))) ∧ w = w' := by
 obtain ⟨a, cap, rfl, _, hlen⟩ := Sl.shape hb
 go_enter Tryz.func15, Tryz.ntmps15
 by_cases h : 4096 < bs.length
 ·have hi : (4096 : Int) < (bs.length : Nat) := by omega
  go_wp2
  go_ret
  exact ⟨ret_b (by simp [h]), rfl⟩
 ·have hi : ¬ (4096 : Int) < (bs.length : Nat) := by omega
  go_wp2
  go_ret
  exact ⟨ret_b (by simp), rfl⟩
end Go.Proofs.YtdcobapnlpeaaaaGreat
namespace Go.Proofs.YtdcobapnlpeaaaaGreat
open Go.RowKit
theorem expZ_neg (o e : List Int) : expZB o e (-1) = expB o e := by
 unfold expZB expB
 congr 1
 congr 1
 funext i
 have : decide ((i : Int) ≤ -1) = false := by simp; omega
 rw [this]; simp
theorem l10Element_ok (P : Pr) (hP : Valid P) (w : World) (pv xv : Value) (X : List Int) (Sp Sx : Nat → Prop) (hpv : PresV Sp w pv P) (hx : Ints Sx w xv X) :
  Calls Tryz.prog 119 #[pv, xv] w (Ret w fun _ v => v = .bool (expB P.orders X)) := by
 obtain ⟨vo, vp, vc, rfl, h3⟩ := hpv
 have hp0 := PresP.box h3 28
 have hg0 : Ext w (w.alloc (.cells #[vo, vp, vc] 28)) := World.grownBy_alloc _ _ _
 have hx0 := hx.ext hg0
 obtain ⟨ao, capo, hco, hoi⟩ := hp0.ordAt
 obtain ⟨ax, capx, rfl, _, _⟩ := hx.shape
 have hcon := l07Exponents_ok _ _ _ P.orders X (-1) Any Sx hoi hx0 (fun i hi => by have := hP.ord7 i hi; omega)
 rw [expZ_neg] at hcon
 go_enter Tryz.func119, Tryz.ntmps119
 go_wp2_with fail
 refine Calls.mono hcon ?_
 rintro e1 w1 ⟨rfl, hd⟩
 clear hcon
 go_wp2
 go_ret
 exact ⟨_, rfl, grown_trans hg0 hd.ext, rfl⟩
set_option maxHeartbeats 1000000 in
theorem l10Elements_ok (P : Pr) (hP : Valid P) (w : World) (pv lv : Value) (L : List (List Int)) (Sp Sr : Nat → Prop) (hpv : PresV Sp w pv P) (hl : Rows2 Sr w lv L) :
  Calls Tryz.prog 161 #[pv, lv] w (Ret w fun _ v => ∃ r : Bool, v = .bool r ∧ (r = true ↔ ∀ x ∈ L, Vec P.orders x)) := by
 obtain ⟨vo, vp, vc, rfl, h3⟩ := hpv
 have hp0 := PresP.box h3 28
 have hg0 : Ext w (w.alloc (.cells #[vo, vp, vc] 28)) := World.grownBy_alloc _ _ _
 have hl0 := Rows2.ext hl hg0
 obtain ⟨al, capl, rfl, _, _⟩ := Sl.shape hl
 obtain ⟨vo6, vp6, vc6, _, _, hc0, hc1, hc2, h36⟩ := hp0.at
 simp only [Nat.zero_add] at hc1 hc2
 clear hp0 hl
 go_enter Tryz.func161, Tryz.ntmps161
 go_wp2
 generalize hw0 : w.alloc (.cells #[vo, vp, vc] 28) = w0 at *
 clear hw0
 go_loopw [5] (fun iv wr => ∃ i : Nat, iv = .int .i64 i ∧ i ≤ L.length ∧ Ext w0 wr ∧ Hid (∀ j, j < i → Vec P.orders (gt L j))) (fun iv _ => L.length - (intOf iv).toNat)
 case atStart => exact ⟨0, rfl, by omega, Ext.refl _, Lib.hid (fun j h => by omega)⟩
 case round =>
  obtain ⟨i, rfl, hi, hg, hV⟩ := hrel
  by_cases hlt : i < L.length
  ·have hlt' : (i : Int) < L.length := by omega
   obtain ⟨b, off, a2, cap2, rfl, _, _, hc, hr⟩ := Rows2.at (Rows2.ext hl0 hg) i hlt
   have e1 : ∀ w', Ext wr w' → w'.cell? ⟨w.heap.size, 0, none⟩ = some vo6 := fun w' h => (grown_trans hg h).cell hc0 (by simp)
   have e2 : ∀ w', Ext wr w' → w'.cell? ⟨w.heap.size, 1, none⟩ = some vp6 := fun w' h => (grown_trans hg h).cell hc1 (by simp)
   have e3 : ∀ w', Ext wr w' → w'.cell? ⟨w.heap.size, 2, none⟩ = some vc6 := fun w' h => (grown_trans hg h).cell hc2 (by simp)
   have e4 : ∀ w', Ext wr w' → w'.cell? ⟨b, off + i, none⟩ = some (.slice a2 (gt L i).length cap2) := fun w' h => h.cell hc (by simp)
   clear hc
   cases hx : expB P.orders (gt L i) with
   | true =>
    have HX := Lib.hid (expB_vec.1 hx)
    have HX2 := Lib.hid hx; clear hx
    go_wp2
    go_region_held3 (fun w' => Ext wr w') (first | exact grown_drew _ _ | assumption)
     (first
      | (go_at_call 119; refine Calls.mono (Calls.rel (w0 := wr) (by assumption) (l10Element_ok P hP _ _ _ (gt L i) Any Any ⟨_, _, _, rfl, Pres3.ext (Pres3.ext h36 hg) (by assumption)⟩ (Ints.sub (Ints.ext hr (by assumption)) (fun _ _ _ => trivial)))) ?_; rintro eA wA ⟨vA, rfl, hgA, hsA, hvA⟩; rw [HX2.out] at hvA; subst hvA))
    clear e1 e2 e3 e4
    go_wp2
    go_roundw
    case rel => exact ⟨i + 1, by go_num, by omega, grown_trans hg hgA, Lib.hid (fun j hj => by
     rcases Nat.lt_succ_iff_lt_or_eq.1 hj with h | h
     ·exact hV.out j h
     ·rw [h]; exact HX.out)⟩
    case measure => simp [intOf]; omega
   | false =>
    have hno : ¬ ∀ x ∈ L, Vec P.orders x := fun h => by
     have := expB_vec.2 (h _ (gtMem hlt))
     rw [hx] at this; cases this
    have HX := Lib.hid hno
    have HX2 := Lib.hid hx; clear hx hno
    go_wp2
    go_region_held3 (fun w' => Ext wr w') (first | exact grown_drew _ _ | assumption)
     (first
      | (go_at_call 119; refine Calls.mono (Calls.rel (w0 := wr) (by assumption) (l10Element_ok P hP _ _ _ (gt L i) Any Any ⟨_, _, _, rfl, Pres3.ext (Pres3.ext h36 hg) (by assumption)⟩ (Ints.sub (Ints.ext hr (by assumption)) (fun _ _ _ => trivial)))) ?_; rintro eA wA ⟨vA, rfl, hgA, hsA, hvA⟩; rw [HX2.out] at hvA; subst hvA))
    clear e1 e2 e3 e4
    go_wp2
    go_ret
    exact ⟨_, rfl, grown_trans hg0 (grown_trans hg hgA), false, rfl, by simp only [Bool.false_eq_true, false_iff]; exact HX.out⟩
  ·have hie : i = L.length := by omega
   subst hie
   go_wp2
   go_ret
   exact ⟨_, rfl, grown_trans hg0 hg, true, rfl, by
    simp only [true_iff]
    intro x hx
    obtain ⟨l, hl, rfl⟩ := List.getElem_of_mem hx
    rw [← gt_eq L l hl]; exact hV.out l hl⟩
end Go.Proofs.YtdcobapnlpeaaaaGreat
namespace Go.Proofs.YtdcobapnlpeaaaaGreat
open Go.RowKit
theorem rows3One {S : Nat → Prop} {w : World} {u : Value} {U : List (List Int)} (h : Rows2 S w u U) : Rows3 Any (w.alloc (.cells #[u] 25)) (.slice (some ⟨w.heap.size, 0, none⟩) 1 1) [U] := by
 refine ⟨_, 1, rfl, ⟨by simp, by simp, fun h => by cases h⟩, fun i hi => ?_⟩
 have : i = 0 := by simpa using hi
 subst this
 refine ⟨w.heap.size, 0, u, rfl, trivial, by simp, by rw [World.cell?_alloc_at _ _ _ _ rfl]; rfl, ?_⟩
 exact Rows2.sub (Rows2.ext h (World.grownBy_alloc _ _ _)) (fun _ _ _ => trivial)
end Go.Proofs.YtdcobapnlpeaaaaGreat
namespace Go.Proofs.YtdcobapnlpeaaaaGreat
open Go.RowKit
theorem RowsO.shapeC {B : Nat} {w : World} {v : Value} {L : List (List Int)} (h : RowsO B w v L) (hl : L.length ≤ 1000000) : ∃ a c, v = .slice a L.length c := by
 obtain ⟨a, c, hv, _, _⟩ := SlD.shape (h.toD (by omega))
 exact ⟨a, c, hv⟩
def conjL (P : Pr) (L : List (List Int)) (X : List Int) : List (List Int) := L.map (fun y => rConj P y X)
set_option maxHeartbeats 1000000 in
theorem conjugates_ok (P : Pr) (G : Grp P) (w : World) (p lv xv : Value) (L : List (List Int)) (X : List Int) (Sp Sr Sx : Nat → Prop) (hp : PresP Sp w p P) (hl : Rows2 Sr w lv L) (hL : ∀ y ∈ L, Vec P.orders y) (hlen : L.length ≤ 10000) (hx : Ints Sx w xv X) (hX : Vec P.orders X) :
  Calls Tryz.prog 230 #[p, lv, xv] w (Ret w fun w' v => RowsO w.heap.size w' v (conjL P L X)) := by
 have hP := G.v
 have hn6 := hP.n6
 obtain ⟨pb, po, rfl⟩ := hp.shape
 obtain ⟨al, capl, rfl, _, _⟩ := Sl.shape hl
 obtain ⟨ax, capx, rfl, _, _⟩ := hx.shape
 have HL := Lib.hid (And.intro hL hX); clear hL hX
 have hcl : (conjL P L X).length = L.length := by unfold conjL; rw [List.length_map]
 have HCL := Lib.hid hcl; clear hcl
 go_enter Tryz.func230, Tryz.ntmps230
 go_wp2
 go_loopw [7, 12] (fun ov iv wr => ∃ (k : Nat) (v4 : Value), v4 = ov ∧ iv = .int .i64 k ∧ k ≤ L.length ∧ Ext w wr ∧ RowsO w.heap.size wr v4 ((conjL P L X).take k)) (fun _ iv _ => L.length - (intOf iv).toNat)
 case atStart => exact ⟨0, _, rfl, rfl, by omega, Ext.refl _, SlO.nil _ _ _ _⟩
 case round =>
  obtain ⟨k, v4, rfl, rfl, hk, hg, hO⟩ := hrel
  by_cases hlt : k < L.length
  ·have hlt' : (k : Int) < L.length := by omega
   obtain ⟨b, off, a2, cap2, rfl, _, _, hc, hi⟩ := Rows2.at (Rows2.ext hl hg) k hlt
   have hyV := HL.out.1 _ (gtMem hlt)
   have hstep : (conjL P L X).take (k + 1) = (conjL P L X).take k ++ [rConj P (gt L k) X] := by
    rw [take_succ_gt _ k (by rw [HCL.out]; exact hlt)]
    unfold conjL
    rw [gt_map _ _ _ hlt]
   have htl : ((conjL P L X).take k).length ≤ 1000000 := by rw [List.length_take]; have := HCL.out; omega
   have HS := Lib.hid (And.intro hstep hyV); clear hstep hyV
   go_wp2_with fail
   refine Calls.mono (conjugate_ok P hP wr _ _ _ (gt L k) X Sp Sr Sx (hp.ext hg) hi (hx.ext hg) HS.out.2 HL.out.2) ?_
   rintro eC wC ⟨vC, rfl, hgC, hOC⟩
   rw [G.iConj_eq HS.out.2 HL.out.2] at hOC
   have hcV := G.conjV HS.out.2 HL.out.2
   have hYO : OwnIn (From wr.heap.size) wC vC (rConj P (gt L k) X) := OwnIn.of hOC (by rw [hcV.1]; omega) (fun j h1 _ => h1)
   obtain ⟨ay, capy, hvy, _, _⟩ := hYO.ints.shape
   subst hvy
   clear hc hcV
   go_wp2_with (first | (at_builtin; refine wp_app_row rfl _ _ rfl w.heap.size wr wC v4 _ ((conjL P L X).take k) (rConj P (gt L k) X) rfl hO hgC hYO rfl rfl htl hg.size ?_; intro v5 w5 hO5 hg5 hg6; have hgw5 := hO.extw hg (Nat.le_refl _) hg5) | fail)
   go_roundw
   case rel => exact ⟨k + 1, v5, rfl, by go_num, by omega, hgw5, by rw [HS.out.1]; exact hO5⟩
   case measure => simp [intOf]; omega
  ·have hke : k = L.length := by omega
   subst hke
   rw [List.take_of_length_le (by rw [HCL.out]; exact Nat.le_refl _)] at hO
   obtain ⟨az, capz, hvz, _, _⟩ := SlD.shape (hO.toD (by rw [HCL.out]; omega))
   subst hvz
   go_wp2
   go_ret
   exact ⟨_, rfl, hg, hO⟩
set_option maxHeartbeats 400000 in
theorem conjugateSubgroup_ok (P : Pr) (G : Grp P) (w : World) (p lv xv : Value) (L : List (List Int)) (X : List Int) (Sp Sr Sx : Nat → Prop) (hp : PresP Sp w p P) (hl : Rows2 Sr w lv L) (hL : ∀ y ∈ L, Vec P.orders y) (hlen : L.length ≤ 10000) (hx : Ints Sx w xv X) (hX : Vec P.orders X) :
  Calls Tryz.prog 132 #[p, lv, xv] w (Ret w fun w' v => RowsO w.heap.size w' v (cseq P (genP P (fun z => z ∈ conjL P L X)))) := by
 have hcl : (conjL P L X).length = L.length := by unfold conjL; rw [List.length_map]
 have hcon := conjugates_ok P G w p lv xv L X Sp Sr Sx hp hl hL hlen hx hX
 obtain ⟨pb, po, rfl⟩ := hp.shape
 obtain ⟨al, capl, rfl, _, _⟩ := Sl.shape hl
 obtain ⟨ax, capx, rfl, _, _⟩ := hx.shape
 have hCV : ∀ z ∈ conjL P L X, Vec P.orders z := fun z hz => by
  unfold conjL at hz
  obtain ⟨y, hy, rfl⟩ := List.mem_map.1 hz
  exact G.conjV (hL y hy) hX
 have HC := Lib.hid (And.intro hCV hcl); clear hCV hcl
 go_enter Tryz.func132, Tryz.ntmps132
 go_wp2_with fail
 refine Calls.mono hcon ?_
 rintro e1 w1 ⟨v1, rfl, hg1, hO⟩
 clear hcon
 have hR := RowsD.rows (hO.toD (by rw [HC.out.2]; omega))
 obtain ⟨a1, cap1, hv1, _, _⟩ := Sl.shape hR
 subst hv1
 go_wp2_with fail
 refine Calls.mono (generated_ok P G w1 _ _ (conjL P L X) Sp _ (hp.ext hg1) hR HC.out.1 (by rw [HC.out.2]; omega)) ?_
 rintro e2 w2 ⟨v2, rfl, hg2, hO2⟩
 go_wp2
 go_ret
 exact ⟨_, rfl, grown_trans hg1 hg2, hO2.weak hg1.size⟩
end Go.Proofs.YtdcobapnlpeaaaaGreat
namespace Go.Proofs.YtdcobapnlpeaaaaGreat
def cjS (P : Pr) (K : List Int → Prop) (g x : List Int) : Prop := ∃ y, K y ∧ x = rConj P y g
section
variable {P : Pr} (G : Grp P)
include G
theorem Grp.conj_zeros {g : List Int} (hg : Vec P.orders g) : rConj P (zeros P.orders.length) g = zeros P.orders.length := by
 unfold rConj
 rw [G.grp.el _ hg, G.inv_mul hg]
theorem Grp.conj_inv {x g : List Int} (hx : Vec P.orders x) (hg : Vec P.orders g) : rConj P (rInv P x) g = rInv P (rConj P x g) := by
 refine G.inv_of (G.conjV hx hg) (G.conjV (G.invV hx) hg) ?_
 rw [← G.conj_hom hx (G.invV hx) hg, G.mul_inv hx, G.conj_zeros hg]
theorem Grp.cj_sub {K : List Int → Prop} (S : Sub P K) {g : List Int} (hg : Vec P.orders g) : Sub P (cjS P K g) := by
 refine ⟨?_, ⟨_, S.one, (G.conj_zeros hg).symm⟩, ?_, ?_⟩
 ·rintro x ⟨y, hy, rfl⟩; exact G.conjV (S.vec y hy) hg
 ·rintro x x' ⟨y, hy, rfl⟩ ⟨y', hy', rfl⟩
  exact ⟨_, S.mul _ _ hy hy', (G.conj_hom (S.vec y hy) (S.vec y' hy') hg).symm⟩
 ·rintro x ⟨y, hy, rfl⟩
  exact ⟨_, S.inv _ hy, (G.conj_inv (S.vec y hy) hg).symm⟩
end
end Go.Proofs.YtdcobapnlpeaaaaGreat
namespace Go.Proofs.YtdcobapnlpeaaaaGreat
abbrev gU (P : Pr) (U : List (List Int)) : List Int → Prop := genP P (fun x => x ∈ U)
end Go.Proofs.YtdcobapnlpeaaaaGreat
namespace Go.Proofs.YtdcobapnlpeaaaaGreat
open Go.RowKit
def nrP (P : Pr) (H : List Int → Prop) (x : List Int) : Prop := Vec P.orders x ∧ ∀ y, H y → H (rConj P y x)
theorem Grp.nr_pw {P : Pr} (G : Grp P) {H : List Int → Prop} (S : Sub P H) {x : List Int} (h : nrP P H x) (k : Nat) : nrP P H (pw P x k) := by
 induction k with
 | zero => exact ⟨G.oneV, fun y hy => by rw [pw_zero, G.conj_one (S.vec y hy)]; exact hy⟩
 | succ k ih => exact ⟨G.pw_vec h.1 _, fun y hy => by rw [pw_succ, ← G.conj_mul (S.vec y hy) (G.pw_vec h.1 k) h.1]; exact h.2 _ (ih.2 y hy)⟩
theorem Grp.nr_sub {P : Pr} (G : Grp P) {H : List Int → Prop} (S : Sub P H) : Sub P (nrP P H) :=
 ⟨fun _ h => h.1, ⟨G.oneV, fun y hy => by rw [G.conj_one (S.vec y hy)]; exact hy⟩,
  fun x z hx hz => ⟨G.mulV hx.1 hz.1, fun y hy => by rw [← G.conj_mul (S.vec y hy) hx.1 hz.1]; exact hz.2 _ (hx.2 y hy)⟩,
  fun x hx => by obtain ⟨k, hk⟩ := G.inv_pw hx.1; rw [hk]; exact G.nr_pw S hx k⟩
theorem Grp.nr_ge {P : Pr} (_G : Grp P) {H : List Int → Prop} (S : Sub P H) (x : List Int) (hx : H x) : nrP P H x :=
 ⟨S.vec x hx, fun y hy => by unfold rConj; exact S.mul _ _ (S.inv _ hx) (S.mul _ _ hy hx)⟩
end Go.Proofs.YtdcobapnlpeaaaaGreat
namespace Go.Proofs.YtdcobapnlpeaaaaGreat
open Go.RowKit
section
variable {P : Pr} (G : Grp P)
include G
theorem Grp.order_elems {H : List Int → Prop} (S : Sub P H) : prodU P (cseq P H) (cseq P H).length = (elemsIn P H).length := by
 rw [← G.els_sorted S, (sortL_perm _).length_eq]
 exact (elsP_len G.v (G.seq_facts S).1 _ (Nat.le_refl _)).symm
omit G in
theorem elemsIn_nodup {P : Pr} (hP : Valid P) (H : List Int → Prop) : (elemsIn P H).Nodup :=
 List.nodup_iff_pairwise_ne.2 ((elemsIn_asc hP H).imp (fun {a b} h e => by subst e; omega))
end
section
variable {P : Pr} (G : Grp P)
include G
end
end Go.Proofs.YtdcobapnlpeaaaaGreat
namespace Go.Proofs.YtdcobapnlpeaaaaGreat
def El {P : Pr} (_ : Grp P) : Type := {x : List Int // Vec P.orders x}
section
variable {P : Pr} {G : Grp P}
instance : Mul (El G) := ⟨fun x y => ⟨rMul P x.1 y.1, G.mulV x.2 y.2⟩⟩
instance : One (El G) := ⟨⟨zeros P.orders.length, G.oneV⟩⟩
instance : Inv (El G) := ⟨fun x => ⟨rInv P x.1, G.invV x.2⟩⟩
theorem El.ass (x y z : El G) : x * y * z = x * (y * z) := Subtype.ext (G.ass x.2 y.2 z.2)
theorem El.ol (x : El G) : 1 * x = x := Subtype.ext (G.grp.el _ x.2)
theorem El.or (x : El G) : x * 1 = x := Subtype.ext (G.grp.er _ x.2)
theorem El.il (x : El G) : x⁻¹ * x = 1 := Subtype.ext (G.inv_mul x.2)
theorem El.ir (x : El G) : x * x⁻¹ = 1 := Subtype.ext (G.mul_inv x.2)
theorem El.ilc (x y : El G) : x⁻¹ * (x * y) = y := by rw [← El.ass, El.il, El.ol]
theorem El.irc (x y : El G) : x * (x⁻¹ * y) = y := by rw [← El.ass, El.ir, El.ol]
theorem El.inv_of {x y : El G} (h : x * y = 1) : y = x⁻¹ := by rw [← El.ilc x y, h, El.or]
structure SG (H : El G → Prop) : Prop where
 one : H 1
 mul : ∀ x y, H x → H y → H (x * y)
 inv : ∀ x, H x → H x⁻¹
theorem els_ex (G : Grp P) : ∃ l : List (El G), l.Nodup ∧ ∀ x, x ∈ l := by
 have key : ∀ m : List (List Int), m.Nodup → ∃ l : List (El G), l.Nodup ∧ ∀ x : El G, x ∈ l ↔ x.1 ∈ m := by
  intro m
  induction m with
  | nil => intro _; exact ⟨[], List.nodup_nil, fun x => by simp⟩
  | cons a m ih =>
   intro h
   obtain ⟨h1, h2⟩ := List.nodup_cons.1 h
   obtain ⟨l, hl, hm⟩ := ih h2
   by_cases ha : Vec P.orders a
   ·obtain ⟨y, hy⟩ : ∃ y : El G, y.1 = a := ⟨⟨a, ha⟩, rfl⟩
    refine ⟨y :: l, List.nodup_cons.2 ⟨fun hh => h1 (hy ▸ (hm _).1 hh), hl⟩, fun x => ?_⟩
    rw [List.mem_cons, List.mem_cons, hm x]
    exact ⟨fun hh => hh.elim (fun e => .inl (by rw [e]; exact hy)) .inr, fun hh => hh.elim (fun e => .inl (Subtype.ext (e.trans hy.symm))) .inr⟩
   ·refine ⟨l, hl, fun x => ?_⟩
    rw [hm x, List.mem_cons]
    exact ⟨.inr, fun hh => hh.elim (fun e => absurd (e ▸ x.2) ha) id⟩
 obtain ⟨l, h1, h2⟩ := key (elemsIn P (Vec P.orders)) (elemsIn_nodup G.v _)
 exact ⟨l, h1, fun x => (h2 x).2 ((elemsIn_mem G.v (fun _ h => h)) x.1 |>.2 x.2)⟩
noncomputable def els (G : Grp P) : List (El G) := Classical.choose (els_ex G)
theorem els_nodup (G : Grp P) : (els G).Nodup := (Classical.choose_spec (els_ex G)).1
theorem els_mem (G : Grp P) (x : El G) : x ∈ els G := (Classical.choose_spec (els_ex G)).2 x
open Classical in
noncomputable def elsIn (H : El G → Prop) : List (El G) := (els G).filter (fun x => decide (H x))
theorem elsIn_nodup (H : El G → Prop) : (elsIn H).Nodup := (els_nodup G).filter _
theorem elsIn_mem {H : El G → Prop} {x : El G} : x ∈ elsIn H ↔ H x := by
 classical
 unfold elsIn; rw [List.mem_filter, decide_eq_true_iff]; exact ⟨fun h => h.2, fun h => ⟨els_mem G x, h⟩⟩
noncomputable def cd (H : El G → Prop) : Nat := (elsIn H).length
theorem cd_list {H : El G → Prop} {l : List (El G)} (h1 : l.Nodup) (h2 : ∀ x, x ∈ l ↔ H x) : cd H = l.length :=
 ((List.perm_ext_iff_of_nodup (elsIn_nodup H) h1).2 (fun x => elsIn_mem.trans (h2 x).symm)).length_eq
theorem cd_pos {H : El G → Prop} (S : SG H) : 0 < cd H := List.length_pos_of_mem (elsIn_mem.2 S.one)
def eqv (N : El G → Prop) (x y : El G) : Prop := N (x⁻¹ * y)
theorem eqv_refl {N : El G → Prop} (S : SG N) (x : El G) : eqv N x x := by unfold eqv; rw [El.il]; exact S.one
theorem flat_len {α β : Type} (l : List α) (f : α → List β) (n : Nat) (h : ∀ x ∈ l, (f x).length = n) : (l.flatMap f).length = l.length * n := flatMap_len' l f n h
theorem cd_mul {N B : El G → Prop} (S : SG N) {ts : List (El G)} (hn : ts.Nodup) (hc : ∀ t ∈ ts, ∀ n, N n → B (t * n)) (h1 : ∀ t ∈ ts, ∀ u ∈ ts, eqv N t u → t = u) (h2 : ∀ x, B x → ∃ t ∈ ts, eqv N t x) : cd B = ts.length * cd N := by
 rw [cd_list (H := B) (l := ts.flatMap (fun t => (elsIn N).map (fun n => t * n))) ?_ ?_]
 ·exact flat_len _ _ _ (fun x _ => List.length_map ..)
 ·refine List.nodup_iff_pairwise_ne.2 (List.pairwise_flatMap.2 ⟨fun t _ => ?_, ?_⟩)
  ·rw [List.pairwise_map]
   refine (List.nodup_iff_pairwise_ne.1 (elsIn_nodup N)).imp (fun {a b} hab e => hab ?_)
   have := congrArg (fun z => t⁻¹ * z) e
   simpa only [El.ilc] using this
  ·refine (List.nodup_iff_pairwise_ne.1 hn).imp_of_mem (fun {a b} ha hb hab x hx y hy e => hab (h1 a ha b hb ?_))
   obtain ⟨n, hn1, rfl⟩ := List.mem_map.1 hx
   obtain ⟨m, hm1, rfl⟩ := List.mem_map.1 hy
   unfold eqv
   have e2 : a⁻¹ * b = n * m⁻¹ := by
    have e3 : b = a * n * m⁻¹ := by rw [e, El.ass, El.ir, El.or]
    rw [e3, El.ass, El.ilc]
   rw [e2]
   exact S.mul _ _ (elsIn_mem.1 hn1) (S.inv _ (elsIn_mem.1 hm1))
 ·intro x
  rw [List.mem_flatMap]
  constructor
  ·rintro ⟨t, ht, hx⟩
   obtain ⟨n, hn1, rfl⟩ := List.mem_map.1 hx
   exact hc t ht n (elsIn_mem.1 hn1)
  ·intro hx
   obtain ⟨t, ht, h⟩ := h2 x hx
   exact ⟨t, ht, List.mem_map.2 ⟨t⁻¹ * x, elsIn_mem.2 h, El.irc t x⟩⟩
end
end Go.Proofs.YtdcobapnlpeaaaaGreat
namespace Go.Proofs.YtdcobapnlpeaaaaGreat
open Go.RowKit
section
variable {P : Pr} (G : Grp P)
include G
theorem Grp.cjS_mul {K : List Int → Prop} (S : Sub P K) {g h : List Int} (hg : Vec P.orders g) (hh : Vec P.orders h) : cjS P (cjS P K g) h = cjS P K (rMul P g h) := by
 refine funext fun x => propext ⟨?_, ?_⟩
 ·rintro ⟨y, ⟨z, hz, rfl⟩, rfl⟩
  exact ⟨z, hz, by rw [G.conj_mul (S.vec z hz) hg hh]⟩
 ·rintro ⟨z, hz, rfl⟩
  exact ⟨_, ⟨z, hz, rfl⟩, by rw [G.conj_mul (S.vec z hz) hg hh]⟩
end
end Go.Proofs.YtdcobapnlpeaaaaGreat
namespace Go.Proofs.YtdcobapnlpeaaaaGreat
open Go.RowKit
section
variable {P : Pr} {G : Grp P}
def toE (G : Grp P) (H : List Int → Prop) : El G → Prop := fun x => H x.1
theorem toE_sg {H : List Int → Prop} (S : Sub P H) : SG (toE G H) := ⟨S.one, fun _ _ h k => S.mul _ _ h k, fun _ h => S.inv _ h⟩
theorem order_cd {H : List Int → Prop} (S : Sub P H) : prodU P (cseq P H) (cseq P H).length = (cd (toE G H) : Int) := by
 rw [G.order_elems S]
 have h1 : ((elsIn (toE G H)).map (fun x : El G => x.1)).Nodup := by
  refine List.nodup_iff_pairwise_ne.2 ?_
  rw [List.pairwise_map]
  exact (List.nodup_iff_pairwise_ne.1 (elsIn_nodup _)).imp (fun {a b} hab e => hab (Subtype.ext e))
 have h2 := (List.perm_ext_iff_of_nodup (elemsIn_nodup G.v H) h1).2 (fun x => by
  rw [elemsIn_mem G.v S.vec, List.mem_map]
  constructor
  ·intro hx
   exact ⟨⟨x, S.vec x hx⟩, elsIn_mem.2 hx, rfl⟩
  ·rintro ⟨y, hy, rfl⟩
   exact elsIn_mem.1 hy)
 rw [h2.length_eq, List.length_map]
 rfl
end
end Go.Proofs.YtdcobapnlpeaaaaGreat
namespace Go.Proofs.YtdcobapnlpeaaaaGreat
open Go.RowKit
section
variable {P : Pr} (G : Grp P)
noncomputable def szP (P : Pr) (H : List Int → Prop) : Int := prodU P (cseq P H) (cseq P H).length
include G in
theorem Grp.sz_pos {H : List Int → Prop} (S : Sub P H) : 1 ≤ szP P H := by
 unfold szP; rw [order_cd (G := G) S]
 have := cd_pos (toE_sg (G := G) S)
 omega
include G in
theorem Grp.sz_729 {H : List Int → Prop} (S : Sub P H) : szP P H ≤ 729 := (prodU_729 G.v (G.seq_facts S).1 _ (Nat.le_refl _)).2
include G in
include G in
include G in
include G in
end
end Go.Proofs.YtdcobapnlpeaaaaGreat
namespace Go.Proofs.YtdcobapnlpeaaaaGreat
section
variable {P : Pr} (G : Grp P)
include G
theorem Grp.cj_kept {C : List Int → Prop} (S : Sub P C) {g : List Int} (hg : Vec P.orders g) (h : ∀ x, C x → C (rConj P x g)) : cjS P C g = C := by
 have hi := G.invV hg
 have hpw : ∀ k x, C x → C (rConj P x (pw P g k)) := fun k => by
  induction k with
  | zero => intro x hx; rw [pw_zero, G.conj_one (S.vec x hx)]; exact hx
  | succ k ih =>
   intro x hx
   rw [pw_succ, ← G.conj_mul (S.vec x hx) (G.pw_vec hg k) hg]
   exact h _ (ih x hx)
 refine funext fun x => propext ⟨?_, fun hx => ?_⟩
 ·rintro ⟨y, hy, rfl⟩; exact h y hy
 ·obtain ⟨k, hk⟩ := G.inv_pw hg
  have h1 := hpw k x hx
  rw [← hk] at h1
  refine ⟨_, h1, ?_⟩
  rw [G.conj_mul (S.vec x hx) hi hg, G.inv_mul hg, G.conj_one (S.vec x hx)]
end
end Go.Proofs.YtdcobapnlpeaaaaGreat
namespace Go.Proofs.YtdcobapnlpeaaaaGreat
section
variable {P : Pr} (G : Grp P)
include G
theorem Grp.cseq_one {H K : List Int → Prop} (S : Sub P H) (T : Sub P K) (h : cseq P H = cseq P K) : H = K := by
 rw [← G.genP_cseq S, ← G.genP_cseq T, h]
theorem Grp.nr_cj {H : List Int → Prop} (S : Sub P H) {w : List Int} (h : nrP P H w) : cjS P H w = H := G.cj_kept S h.1 h.2
theorem Grp.cj_same {H : List Int → Prop} (S : Sub P H) {x t : List Int} (hx : Vec P.orders x) (ht : Vec P.orders t) : cjS P H x = cjS P H t ↔ nrP P H (rMul P x (rInv P t)) := by
 have hi := G.invV ht
 have hm := G.mulV hx hi
 constructor
 ·intro h
  refine ⟨hm, fun y hy => ?_⟩
  have h1 : cjS P H x (rConj P y x) := ⟨y, hy, rfl⟩
  rw [h] at h1
  obtain ⟨z, hz, e⟩ := h1
  rw [← G.conj_mul (S.vec y hy) hx hi, e, G.conj_back (S.vec z hz) ht]
  exact hz
 ·intro h
  have e : rMul P (rMul P x (rInv P t)) t = x := by rw [G.ass hx hi ht, G.inv_mul ht, G.grp.er _ hx]
  rw [← e, ← G.cjS_mul S hm ht, G.nr_cj S h]
end
open Classical in
noncomputable def fdL (P : Pr) (H : List Int → Prop) : Nat → List (List (List Int))
 | 0 => []
 | t + 1 => if cseq P (cjS P H (elAt P t)) ∈ fdL P H t then fdL P H t else fdL P H t ++ [cseq P (cjS P H (elAt P t))]
theorem fdL_yes {P : Pr} {H : List Int → Prop} {t : Nat} (h : cseq P (cjS P H (elAt P t)) ∈ fdL P H t) : fdL P H (t + 1) = fdL P H t := by unfold fdL; rw [if_pos h]; cases t <;> rfl
theorem fdL_no {P : Pr} {H : List Int → Prop} {t : Nat} (h : ¬ cseq P (cjS P H (elAt P t)) ∈ fdL P H t) : fdL P H (t + 1) = fdL P H t ++ [cseq P (cjS P H (elAt P t))] := by
 rw [fdL, if_neg h]
theorem fdL_ix (P : Pr) (H : List Int → Prop) (t : Nat) : ∃ ix : List Nat, fdL P H t = ix.map (fun i => cseq P (cjS P H (elAt P (i : Nat)))) ∧ (∀ i ∈ ix, i < t) ∧ (ix.map (fun i => cseq P (cjS P H (elAt P (i : Nat))))).Nodup ∧ ∀ j, j < t → cseq P (cjS P H (elAt P (j : Nat))) ∈ fdL P H t := by
 induction t with
 | zero => exact ⟨[], rfl, by simp, by simp, fun j hj => by omega⟩
 | succ t ih =>
  obtain ⟨ix, h1, h2, h3, h4⟩ := ih
  by_cases h : cseq P (cjS P H (elAt P t)) ∈ fdL P H t
  ·rw [fdL_yes h]
   refine ⟨ix, h1, fun i hi => by have := h2 i hi; omega, h3, fun j hj => ?_⟩
   rcases Nat.lt_succ_iff_lt_or_eq.1 hj with h5 | h5
   ·exact h4 j h5
   ·rw [h5]; exact h
  ·rw [fdL_no h]
   refine ⟨ix ++ [t], by rw [List.map_append, ← h1]; rfl, fun i hi => ?_, ?_, fun j hj => ?_⟩
   ·rcases List.mem_append.1 hi with h5 | h5
    ·have := h2 i h5; omega
    ·have : i = t := by simpa using h5
     omega
   ·rw [List.map_append, List.nodup_append]
    refine ⟨h3, by simp, fun a ha b hb e => h ?_⟩
    have hb' : b = cseq P (cjS P H (elAt P t)) := by simpa using hb
    rw [← hb', ← e, h1]; exact ha
   ·rcases Nat.lt_succ_iff_lt_or_eq.1 hj with h5 | h5
    ·exact List.mem_append_left _ (h4 j h5)
    ·rw [h5]; exact List.mem_append_right _ (by simp)
theorem nodup_inj {α β : Type} {f : α → β} {l : List α} (h : (l.map f).Nodup) {a b : α} (ha : a ∈ l) (hb : b ∈ l) (e : f a = f b) : a = b := by
 induction l with
 | nil => cases ha
 | cons c l ih =>
  rw [List.map_cons, List.nodup_cons] at h
  rcases List.mem_cons.1 ha with rfl | ha1
  ·rcases List.mem_cons.1 hb with rfl | hb1
   ·rfl
   ·exact absurd (List.mem_map.2 ⟨b, hb1, e.symm⟩) h.1
  ·rcases List.mem_cons.1 hb with rfl | hb1
   ·exact absurd (List.mem_map.2 ⟨a, ha1, e⟩) h.1
   ·exact ih h.2 ha1 hb1
theorem Grp.fd_count {P : Pr} (G : Grp P) {H : List Int → Prop} (S : Sub P H) : ((fdL P H (ordP P).toNat).length : Int) * szP P (nrP P H) = ordP P := by
 have hP := G.v
 have hop := hP.ordP_pos
 obtain ⟨ix, h1, h2, h3, h4⟩ := fdL_ix P H (ordP P).toNat
 have SN := G.nr_sub S
 let aE : Nat → El G := fun i => ⟨elAt P (i : Nat), elAt_vec hP _ (by omega)⟩
 let tE : Nat → El G := fun i => (aE i)⁻¹
 have key : ∀ i j : Nat, eqv (toE G (nrP P H)) (tE i) (tE j) ↔ cseq P (cjS P H (elAt P (i : Nat))) = cseq P (cjS P H (elAt P (j : Nat))) := fun i j => by
  have hvi := elAt_vec hP (i : Int) (by omega)
  have hvj := elAt_vec hP (j : Int) (by omega)
  have e : eqv (toE G (nrP P H)) (tE i) (tE j) ↔ nrP P H (rMul P (elAt P (i : Nat)) (rInv P (elAt P (j : Nat)))) := by
   show nrP P H (rMul P (rInv P (rInv P (elAt P (i : Nat)))) (rInv P (elAt P (j : Nat)))) ↔ _
   rw [G.inv_inv hvi]
  rw [e, ← G.cj_same S hvi hvj]
  exact ⟨fun h => by rw [h], fun h => G.cseq_one (G.cj_sub S hvi) (G.cj_sub S hvj) h⟩
 have hall : cd (fun _ : El G => True) = (ordP P).toNat := by
  rw [cd_list (H := fun _ : El G => True) (l := (List.range (ordP P).toNat).map aE) ?_ ?_]
  ·rw [List.length_map, List.length_range]
  ·rw [List.nodup_iff_pairwise_ne, List.pairwise_map]
   refine (List.pairwise_lt_range).imp_of_mem (fun {a b} ha hb hab e => ?_)
   have e1 : elAt P (a : Nat) = elAt P (b : Nat) := congrArg Subtype.val e
   have ha' := List.mem_range.1 ha
   have hb' := List.mem_range.1 hb
   have n1 := num_elAt hP (a : Int) (by omega) (by omega)
   have n2 := num_elAt hP (b : Int) (by omega) (by omega)
   rw [e1, n2] at n1
   omega
  ·intro x
   refine ⟨fun _ => trivial, fun _ => List.mem_map.2 ⟨(num P x.1).toNat, ?_, Subtype.ext ?_⟩⟩
   ·have := num_bd hP x.2; rw [List.mem_range]; omega
   ·have := num_bd hP x.2
    show elAt P (((num P x.1).toNat : Nat) : Int) = x.1
    rw [show (((num P x.1).toNat : Nat) : Int) = num P x.1 by omega]
    exact elAt_num hP x.2
 have hm := cd_mul (N := toE G (nrP P H)) (B := fun _ : El G => True) (toE_sg SN) (ts := ix.map tE) ?_ (fun _ _ _ _ => trivial) ?_ ?_
 ·rw [hall, List.length_map] at hm
  have ho := order_cd (G := G) SN
  rw [h1, List.length_map]
  unfold szP
  rw [ho, ← Int.natCast_mul, ← hm]
  omega
 ·rw [List.nodup_iff_pairwise_ne, List.pairwise_map]
  have h5 := List.nodup_iff_pairwise_ne.1 h3
  rw [List.pairwise_map] at h5
  refine h5.imp (fun {a b} hab e => hab ?_)
  have := (key a b).1 (by rw [e]; exact eqv_refl (toE_sg SN) _)
  exact this
 ·intro t ht u hu h
  obtain ⟨i, hi, rfl⟩ := List.mem_map.1 ht
  obtain ⟨j, hj, rfl⟩ := List.mem_map.1 hu
  rw [nodup_inj h3 hi hj ((key i j).1 h)]
 ·intro x _
  have hv := G.invV x.2
  have hb := num_bd hP hv
  have hmem := h4 (num P (rInv P x.1)).toNat (by omega)
  rw [h1] at hmem
  obtain ⟨i, hi, he⟩ := List.mem_map.1 hmem
  refine ⟨tE i, List.mem_map.2 ⟨i, hi, rfl⟩, ?_⟩
  have h6 := (key i (num P (rInv P x.1)).toNat).2 he
  have h7 : tE (num P (rInv P x.1)).toNat = x := by
   apply Subtype.ext
   show rInv P (elAt P (((num P (rInv P x.1)).toNat : Nat) : Int)) = x.1
   rw [show (((num P (rInv P x.1)).toNat : Nat) : Int) = num P (rInv P x.1) by omega, elAt_num hP hv, G.inv_inv x.2]
  rw [h7] at h6
  exact h6
end Go.Proofs.YtdcobapnlpeaaaaGreat
namespace Go.Proofs.YtdcobapnlpeaaaaGreat
open Go.RowKit
set_option maxRecDepth 100000 in
set_option maxHeartbeats 2000000 in
theorem sOrder_ok (P : Pr) (hr : rconsB P = true) (w : World) (pv : Value) (Sp : Nat → Prop) (hpv : PresV Sp w pv P) :
  Calls Tryz.prog 146 #[pv] w (Ret w fun _ v => v = .tuple #[.int .i64 (ordP P), .int .i64 0]) := by
 have G := grp_of_r hr
 have hP := G.v
 obtain ⟨vo, vp, vc, rfl, h3⟩ := hpv
 have hp0 := PresP.box h3 28
 have hg0 : Ext w (w.alloc (.cells #[vo, vp, vc] 28)) := World.grownBy_alloc _ _ _
 obtain ⟨vo6, vp6, vc6, _, _, hc0, hc1, hc2, h36⟩ := hp0.at
 simp only [Nat.zero_add] at hc1 hc2
 have hE := sIsPresentation_ok (w.alloc (.cells #[vo, vp, vc] 28)) (.agg #[vo6, vp6, vc6]) P Any ⟨_, _, _, rfl, h36⟩
 have hv := validB_true hP
 rw [hv] at hE
 have hbx : ∀ w', Ext (w.alloc (.cells #[vo, vp, vc] 28)) w' → w'.cell? ⟨w.heap.size, 0, none⟩ = some vo6 := fun w' h => h.cell hc0 (by simp)
 have HB := Lib.hid hbx; clear hbx hv
 go_enter Tryz.func146, Tryz.ntmps146
 go_wp2_with fail
 clear hc0 hc1 hc2
 generalize w.alloc (.cells #[vo, vp, vc] 28) = w0 at *
 refine Calls.mono hE ?_
 rintro e1 w1 ⟨v1, rfl, hg1, rfl⟩
 clear hE
 have hb0 := HB.out w1 hg1
 have hob : ∀ i, i < P.orders.length → 1 ≤ gt P.orders i ∧ gt P.orders i ≤ 7 := fun i hi => by have := hP.ord7 i hi; omega
 have hpr := l07Product_ok w1 vo6 P.orders Any (h36.o.ext hg1) hob
 have hcap : capTo P.orders P.orders.length = ordP P := by
  have h := capTo_le P.orders.length (fun i hi => (hob i hi).1)
  have h2 := hP.le729
  exact h.2 (h.1.2 h2)
 rw [hcap] at hpr
 have HPR := Lib.hid hpr; clear hpr hcap hob
 go_wp2_with fail
 refine Calls.mono HPR.out ?_
 rintro _ _ ⟨rfl, rfl⟩
 go_wp2
 go_ret2
 exact ⟨_, rfl, grown_trans hg0 hg1, rfl⟩
set_option maxRecDepth 100000 in
set_option maxHeartbeats 1000000 in
theorem size9_ok (P : Pr) (hr : rconsB P = true) (w : World) (pv : Value) (Sp : Nat → Prop) (hpv : PresV Sp w pv P) :
  Calls Tryz.prog 44 #[pv] w (Ret w fun _ v => v = .int .i64 (ordP P)) := by
 have hrH := Lib.hid hr; clear hr
 obtain ⟨vo, vp, vc, rfl, h3⟩ := hpv
 have hp0 := PresP.box h3 28
 have hg0 : Ext w (w.alloc (.cells #[vo, vp, vc] 28)) := World.grownBy_alloc _ _ _
 obtain ⟨vo6, vp6, vc6, _, _, hc0, hc1, hc2, h36⟩ := hp0.at
 simp only [Nat.zero_add] at hc1 hc2
 clear hp0
 go_enter Tryz.func44, Tryz.ntmps44
 go_wp2_with fail
 clear hc0 hc1 hc2
 refine Calls.mono (sOrder_ok P hrH.out _ _ _ ⟨_, _, _, rfl, h36⟩) ?_
 rintro e1 w1 ⟨v1, rfl, hg1, rfl⟩
 go_wp2
 go_ret
 exact ⟨_, rfl, grown_trans hg0 hg1, rfl⟩
end Go.Proofs.YtdcobapnlpeaaaaGreat
namespace Go.Proofs.YtdcobapnlpeaaaaGreat
open Go.RowKit
theorem Grp.conjL_vec {P : Pr} (G : Grp P) {U : List (List Int)} {X : List Int} (hU : ∀ x ∈ U, Vec P.orders x) (hX : Vec P.orders X) : ∀ z ∈ conjL P U X, Vec P.orders z := fun z hz => by
 unfold conjL at hz
 obtain ⟨y, hy, rfl⟩ := List.mem_map.1 hz
 exact G.conjV (hU y hy) hX
end Go.Proofs.YtdcobapnlpeaaaaGreat
namespace Go.Proofs.YtdcobapnlpeaaaaGreat
open Go.RowKit
set_option maxRecDepth 100000 in
set_option maxHeartbeats 4000000 in
theorem iOrder_ok (P : Pr) (hr : rconsB P = true) (w : World) (pv uv : Value) (U : List (List Int)) (Sp Su : Nat → Prop) (hpv : PresV Sp w pv P) (hu : Rows2 Su w uv U) (hU : SubB P U) :
  Calls Tryz.prog 43 #[pv, uv] w (Ret w fun _ v => v = .tuple #[.int .i64 (prodU P U U.length), .int .i64 0]) := by
 have G := grp_of_r hr
 have hn6 := G.v.n6
 obtain ⟨vo, vp, vc, rfl, h3⟩ := hpv
 have hp0 := PresP.box h3 28
 have hg0 : Ext w (w.alloc (.cells #[vo, vp, vc] 28)) := World.grownBy_alloc _ _ _
 have hs0 : (w.alloc (.cells #[vo, vp, vc] 28)).heap.size = w.heap.size + 1 := by simp
 have hu0 := Rows2.ext hu hg0
 obtain ⟨au, capu, rfl, _, _⟩ := Sl.shape hu
 have hg1 : Ext (w.alloc (.cells #[vo, vp, vc] 28)) ((w.alloc (.cells #[vo, vp, vc] 28)).alloc (.cells #[.slice au U.length capu] 25)) := World.grownBy_alloc _ _ _
 have hl := rows3One hu0
 have hcon := areSubgroups_ok P _ _ _ [U] Any Any (hp0.ext hg1) hl
 rw [hs0] at hcon
 clear hl hu
 have hulU : U.length ≤ P.orders.length := G.sub_len hU
 have HH := Lib.hid (And.intro hr (And.intro hU ((trivial : True)))); clear hr hU
 go_enter Tryz.func43, Tryz.ntmps43
 go_wp2_with fail
 refine Calls.mono hcon ?_
 rintro e1 w1 ⟨v1, rfl, hgA, r1, rfl, hr1⟩
 clear hcon
 obtain rfl : r1 = true := hr1.2 (by have := HH.out; simp only [List.mem_cons, List.mem_nil_iff, or_false]; exact ⟨this.1, fun u hu => by subst hu; exact this.2.1⟩)
 clear hr1
 have hg01 := grown_trans hg1 hgA
 have HS := Lib.hid hs0; clear hs0
 generalize hw0 : (w.alloc (.cells #[vo, vp, vc] 28)) = w0 at *
 clear hw0 hg1 hgA
 have hp1 := hp0.ext hg01
 have hu1 := Rows2.ext hu0 hg01
 have hfac := G.seq_facts (G.subB HH.out.2.1)
 rw [← HH.out.2.1.2] at hfac
 have HF := Lib.hid hfac; clear hfac
 go_wp2_with fail
 refine Calls.mono (sizeOf_ok P G.v w1 _ _ U Any Su hp1 hu1 HF.out.1 (by omega)) ?_
 rintro e2 w2 ⟨v2, rfl, hg2, rfl⟩
 go_wp2
 go_ret2
 exact ⟨_, rfl, grown_trans hg0 (grown_trans hg01 hg2), rfl⟩
set_option maxRecDepth 100000 in
set_option maxHeartbeats 4000000 in
theorem iConjSub_ok (P : Pr) (hr : rconsB P = true) (w : World) (pv uv xv : Value) (U : List (List Int)) (X : List Int) (Sp Su Sx : Nat → Prop) (hpv : PresV Sp w pv P) (hu : Rows2 Su w uv U) (hx : Ints Sx w xv X) (hU : SubB P U) (hX : Vec P.orders X) :
  Calls Tryz.prog 35 #[pv, uv, xv] w (Ret w fun w' v => ∃ a n c, v = .tuple #[.slice a n c, .int .i64 0] ∧ RowsO w.heap.size w' (.slice a n c) (cseq P (gU P (conjL P U X)))) := by
 have G := grp_of_r hr
 have hn6 := G.v.n6
 obtain ⟨vo, vp, vc, rfl, h3⟩ := hpv
 have hp0 := PresP.box h3 28
 have hg0 : Ext w (w.alloc (.cells #[vo, vp, vc] 28)) := World.grownBy_alloc _ _ _
 have hs0 : (w.alloc (.cells #[vo, vp, vc] 28)).heap.size = w.heap.size + 1 := by simp
 have hu0 := Rows2.ext hu hg0
 have hx0 := Ints.ext hx hg0
 obtain ⟨au, capu, rfl, _, _⟩ := Sl.shape hu
 obtain ⟨ax, capx, rfl, _, _⟩ := hx.shape
 have hg1 : Ext (w.alloc (.cells #[vo, vp, vc] 28)) ((w.alloc (.cells #[vo, vp, vc] 28)).alloc (.cells #[.slice au U.length capu] 25)) := World.grownBy_alloc _ _ _
 have hl := rows3One hu0
 have hcon := areSubgroups_ok P _ _ _ [U] Any Any (hp0.ext hg1) hl
 rw [hs0] at hcon
 clear hl hu hx
 have hulU : U.length ≤ P.orders.length := G.sub_len hU
 have HH := Lib.hid (And.intro hr (And.intro hU ( And.intro hX ((trivial : True))))); clear hr hU hX
 go_enter Tryz.func35, Tryz.ntmps35
 go_wp2_with fail
 refine Calls.mono hcon ?_
 rintro e1 w1 ⟨v1, rfl, hgA, r1, rfl, hr1⟩
 clear hcon
 obtain rfl : r1 = true := hr1.2 (by have := HH.out; simp only [List.mem_cons, List.mem_nil_iff, or_false]; exact ⟨this.1, fun u hu => by subst hu; exact this.2.1⟩)
 clear hr1
 have hg01 := grown_trans hg1 hgA
 have HS := Lib.hid hs0; clear hs0
 generalize hw0 : (w.alloc (.cells #[vo, vp, vc] 28)) = w0 at *
 clear hw0 hg1 hgA
 have hp1 := hp0.ext hg01
 have hu1 := Rows2.ext hu0 hg01
 have hx1 := Ints.ext hx0 hg01
 have hex := isExponents_ok w1 _ _ P X Any Sx hp1 hx1 (fun i hi => by have := G.v.ord7 i hi; omega)
 rw [expB_vec.2 HH.out.2.2.1] at hex
 go_wp2_with fail
 refine Calls.mono hex ?_
 rintro _ _ ⟨rfl, rfl⟩
 clear hex
 go_wp2_with fail
 refine Calls.mono (conjugateSubgroup_ok P G w1 _ _ _ U X Any Su Sx hp1 hu1 HH.out.2.1.1 (by omega) hx1 HH.out.2.2.1) ?_
 rintro e4 w4 ⟨v4, rfl, hg4, hO4⟩
 have hcl : (cseq P (gU P (conjL P U X))).length ≤ P.orders.length := G.cseq_len (G.genP_sub (G.conjL_vec HH.out.2.1.1 HH.out.2.2.1))
 obtain ⟨ad, nd, capd, hvd⟩ : ∃ a n c, v4 = .slice a n c := by
  obtain ⟨a, c, h⟩ := RowsO.shapeC hO4 (by show (cseq P (gU P (conjL P U X))).length ≤ _; omega)
  exact ⟨a, _, c, h⟩
 subst hvd
 go_wp2
 go_ret2
 exact ⟨_, rfl, grown_trans hg0 (grown_trans hg01 hg4), _, _, _, rfl, hO4.weak (by have := hg01.size; have := hg0.size; omega)⟩
end Go.Proofs.YtdcobapnlpeaaaaGreat
namespace Go.Proofs.YtdcobapnlpeaaaaGreat
open Go.RowKit
theorem Ints.extA {S : Nat → Prop} {w w' : World} {v : Value} {xs : List Int} (h : Ints S w v xs) (hg : Ext w w') : Ints Any w' v xs := Ints.sub (Ints.ext h hg) (fun _ _ _ => trivial)
end Go.Proofs.YtdcobapnlpeaaaaGreat
namespace Go.Proofs.YtdcobapnlpeaaaaGreat
open Go.RowKit
set_option maxHeartbeats 400000 in
theorem likeInts_ok (v1 v2 : Value) (l1 l2 : List Int) (w : World) (S1 S2 : Nat → Prop) (h1 : Ints S1 w v1 l1) (h2 : Ints S2 w v2 l2) :
  Calls Tryz.prog 26 #[v1, v2] w (Ret w fun _ v => v = .bool (eqB l1 l2)) := by
 obtain ⟨a, cap, rfl, _, _⟩ := h1.shape
 obtain ⟨a2, cap2, rfl, _, _⟩ := h2.shape
 by_cases hl : l1.length = l2.length
 ·have hd : ((l1.length : Int) != (l2.length : Int)) = false := by simp [hl]
  have hl1 : l1.length ≤ l2.length ∧ l2.length ≤ l1.length := by omega
  have HL := Lib.hid hl; clear hl
  go_enter Tryz.func26, Tryz.ntmps26
  go_wp2
  go_loopw [5] (fun i wr => ∃ k : Nat, i = .int .i64 k ∧ k ≤ l1.length ∧ Ext w wr ∧ ∀ i, i < k → gt l1 i = gt l2 i) (fun i _ => l1.length - (intOf i).toNat)
  case atStart => exact ⟨0, rfl, by omega, Ext.refl _, fun i hi => by omega⟩
  case round =>
   obtain ⟨k, rfl, hk, hg, hz⟩ := hrel
   have HZ := Lib.hid hz; clear hz
   by_cases hlt : k < l1.length
   ·obtain ⟨b, off, rfl, _, _, hc⟩ := Ints.at (h1.ext hg) k hlt
    obtain ⟨b2, off2, rfl, _, _, hc2⟩ := Ints.at (h2.ext hg) k (by omega)
    by_cases hx : gt l1 k = gt l2 k
    ·have hb : (gt l1 k != gt l2 k) = false := by simp [hx]
     have hx2 := Lib.hid hx; clear hx
     go_wp2
     go_quiet (fail)
     go_wp2
     go_roundw
     case rel => exact ⟨k + 1, by go_num, by omega, grown_trans hg (grown_drewN _ _ _), fun i hi => by
      rcases Nat.lt_or_ge i k with h1 | h1
      ·exact HZ.out i h1
      ·have : i = k := by omega
       rw [this, hx2.out]⟩
     case measure => simp [intOf]; omega
    ·have hb : (gt l1 k != gt l2 k) = true := by simp [hx]
     have hx2 := Lib.hid hx; clear hx
     go_wp2
     go_quiet (fail)
     go_wp2
     go_ret
     exact ret_bool (grown_trans hg (grown_drewN _ _ _)) (by rw [eqB_false_at (hx := hx2.out)])
   ·go_wp2
    go_ret
    exact ret_bool hg (by rw [eqB_true.2 (ext_gt HL.out (fun i hi => HZ.out i (by omega)))])
 ·have hd : ((l1.length : Int) != (l2.length : Int)) = true := by simp; omega
  have HL := Lib.hid hl; clear hl
  go_enter Tryz.func26, Tryz.ntmps26
  go_wp2
  go_ret
  exact ret_bool (Ext.refl _) (by rw [eqB_false.2 (fun h => HL.out (by rw [h]))])
set_option maxRecDepth 100000 in
set_option maxHeartbeats 2000000 in
theorem like29_ok (v1 v2 : Value) (l1 l2 : List (List Int)) (w : World) (S1 S2 : Nat → Prop) (h1 : Rows2 S1 w v1 l1) (h2 : Rows2 S2 w v2 l2) :
  Calls Tryz.prog 19 #[v1, v2] w (Ret w fun _ v => v = .bool (eqB l1 l2)) := by
 obtain ⟨a, cap, rfl, _, _⟩ := Sl.shape h1
 obtain ⟨a2, cap2, rfl, _, _⟩ := Sl.shape h2
 by_cases hl : l1.length = l2.length
 ·have hd : ((l1.length : Int) != (l2.length : Int)) = false := by simp [hl]
  have hl1 : l1.length ≤ l2.length ∧ l2.length ≤ l1.length := by omega
  have HL := Lib.hid hl; clear hl
  go_enter Tryz.func19, Tryz.ntmps19
  go_wp2
  go_loopw [5] (fun i wr => ∃ k : Nat, i = .int .i64 k ∧ k ≤ l1.length ∧ Ext w wr ∧ ∀ i, i < k → gt l1 i = gt l2 i) (fun i _ => l1.length - (intOf i).toNat)
  case atStart => exact ⟨0, rfl, by omega, Ext.refl _, fun i hi => by omega⟩
  case round =>
   obtain ⟨k, rfl, hk, hg, hz⟩ := hrel
   have HZ := Lib.hid hz; clear hz
   by_cases hlt : k < l1.length
   ·obtain ⟨b, off, x1, c1, rfl, _, _, hc, hi1⟩ := Rows2.at (Rows2.ext h1 hg) k hlt
    obtain ⟨b2, off2, x2, c2, rfl, _, _, hc2, hi2⟩ := Rows2.at (Rows2.ext h2 hg) k (by omega)
    have e1 : ∀ w', Ext wr w' → w'.cell? ⟨b, off + k, none⟩ = some (.slice x1 (gt l1 k).length c1) := fun w' h => h.cell hc (by simp)
    have e2 : ∀ w', Ext wr w' → w'.cell? ⟨b2, off2 + k, none⟩ = some (.slice x2 (gt l2 k).length c2) := fun w' h => h.cell hc2 (by simp)
    clear hc hc2
    have hlt2 : k < l2.length := by omega
    go_wp2
    cases hx : eqB (gt l1 k) (gt l2 k) with
    | true =>
     have hx2 := Lib.hid hx
     go_region_held3 (fun w' => Ext wr w') (first | exact grown_drew _ _ | assumption)
      (first
       | (go_at_call 26; refine Calls.mono (Calls.rel (w0 := wr) (by assumption) (likeInts_ok _ _ _ _ _ Any Any ((Ints.extA hi1 (by assumption))) (Ints.extA hi2 (by assumption)))) ?_; rintro eA wA ⟨vA, rfl, hgA, hsA, rfl⟩))
     clear e1 e2
     go_wp2
     go_roundw
     case rel => exact ⟨k + 1, by go_num, by omega, grown_trans hg hgA, fun i hi => by
      rcases Nat.lt_or_ge i k with h1 | h1
      ·exact HZ.out i h1
      ·have : i = k := by omega
       rw [this]; exact eqB_true.1 hx2.out⟩
     case measure => simp [intOf]; omega
    | false =>
     have hx2 := Lib.hid hx
     go_region_held3 (fun w' => Ext wr w') (first | exact grown_drew _ _ | assumption)
      (first
       | (go_at_call 26; refine Calls.mono (Calls.rel (w0 := wr) (by assumption) (likeInts_ok _ _ _ _ _ Any Any (Ints.extA hi1 (by assumption)) (Ints.extA hi2 (by assumption)))) ?_; rintro eA wA ⟨vA, rfl, hgA, hsA, rfl⟩))
     clear e1 e2
     go_wp2
     go_ret
     exact ret_bool (grown_trans hg hgA) (by rw [eqB_false_at (hx := eqB_false.1 hx2.out)])
   ·go_wp2
    go_ret
    exact ret_bool hg (by rw [eqB_true.2 (ext_gt HL.out (fun i hi => HZ.out i (by omega)))])
 ·have hd : ((l1.length : Int) != (l2.length : Int)) = true := by simp; omega
  have HL := Lib.hid hl; clear hl
  go_enter Tryz.func19, Tryz.ntmps19
  go_wp2
  go_ret
  exact ret_bool (Ext.refl _) (by rw [eqB_false.2 (fun e => HL.out (by rw [e]))])
end Go.Proofs.YtdcobapnlpeaaaaGreat
namespace Go.Proofs.YtdcobapnlpeaaaaGreat
open Go.RowKit Go.ChangeShapes Go.WideShapes Go.Deep
section
variable {H : Type} {enc : TypeId × Value → H} {W : World} {sp : Nat → Bool}
theorem open_sl {α : Type} [Inhabited α] {El : World → Value → α → Prop} {t e : TypeId} (ht : Tryz.prog.underlying t = some (.slice e)) (hc : Tryz.prog.cellsOf e = 1)
  (hEl : ∀ n c x, DataW.trod enc Tryz.prog W 0 sp true n e [c] = some x → ∃ y, El W c y) {fuel : Nat} {c : Value} {x : DataW H × List MemPlace} (h : DataW.trod enc Tryz.prog W 0 sp true fuel t [c] = some x) :
  ∃ xs : List α, Sl El Any W c xs := by
 rcases open_slice1 ht hc h with ⟨hcs, _⟩ | ⟨a, len, cap, m, n, V, D, Pl, hcs, _, hl, hm, hmm, _, hx⟩
 ·cases hcs
  exact ⟨[], none, 0, rfl, ⟨by simp, by simp, fun _ => rfl⟩, fun i hi => by simp at hi⟩
 ·cases hcs
  have hlm : len ≤ m := by rw [hmm]; split <;> omega
  obtain ⟨Z, hZ⟩ := choose_lt (α := α) (n := len) (p := fun i y => El W (V i) y) (fun i hi => hEl n (V i) _ (hx i (by omega)).2)
  refine ⟨(List.range len).map Z, some a, cap, by simp, ⟨by simpa using hl, by simp; unfold maxLen at hm; omega, fun h => by cases h⟩, fun i hi => ?_⟩
  simp only [List.length_map, List.length_range] at hi
  obtain ⟨h1, h2⟩ := hx i (by omega)
  obtain ⟨b, off, spot⟩ := a
  have hs : spot = none := by
   have h0 := (hx 0 (by omega)).1
   exact World.cell?_spot (by simpa [Addr.add] using h0)
  subst hs
  have hcell : W.cell? ⟨b, off + i, none⟩ = some (V i) := by
   have e : (⟨b, off, none⟩ : Addr).add i = ⟨b, off + i, none⟩ := by
    unfold Addr.add; split
    ·rename_i h; subst h; rfl
    ·rfl
   rw [← e]; exact h1
  refine ⟨b, off, V i, rfl, trivial, World.block_lt_of_cell? W _ hcell, hcell, ?_⟩
  have : gt ((List.range len).map Z) i = Z i := by simp [gt, hi]
  rw [this]; exact hZ i hi
end
end Go.Proofs.YtdcobapnlpeaaaaGreat
namespace Go.Proofs.YtdcobapnlpeaaaaGreat
open Go.RowKit Go.ChangeShapes Go.WideShapes Go.ChangeAt
theorem ownB : ownKnob Tryz.prog.godebug = none := by kernel_rfl
theorem laidOutP : laidOutB Tryz.prog = true := by kernel_rfl
theorem und_u8 : Tryz.prog.underlying 5 = some (.int .u8) := by kernel_rfl
theorem und_bytesB : Tryz.prog.underlying 22 = some (.slice 5) := by kernel_rfl
theorem cells_u8 : Tryz.prog.cellsOf 5 = 1 := by kernel_rfl
theorem open_u8 {H : Type} {enc : TypeId × Value → H} {W : World} {sp : Nat → Bool} {n : Nat} {c : Value} {x : DataW H × List MemPlace} (h : DataW.trod enc Tryz.prog W 0 sp true n 5 [c] = some x) : ∃ y, ByteEl W c y := by
 cases n with
 | zero => simp [DataW.trod] at h
 | succ n =>
  unfold DataW.trod at h
  rw [und_u8] at h
  cases c <;> simp at h
  rename_i k z
  obtain ⟨⟨rfl, hz⟩, _⟩ := h
  have hz2 : 0 ≤ z ∧ z ≤ 255 := by
   have h2 := hz
   simp [Lit.wf, IntKind.min, IntKind.max, IntKind.signed, IntKind.bits] at h2
   omega
  exact ⟨z, rfl, hz2⟩
theorem open_bytes {H : Type} {enc : TypeId × Value → H} {W : World} {sp : Nat → Bool} {n : Nat} {c : Value} {x : DataW H × List MemPlace} (h : DataW.trod enc Tryz.prog W 0 sp true n 22 [c] = some x) : ∃ l, Bytes Any W c l :=
 open_sl (El := ByteEl) und_bytesB cells_u8 (fun _ _ _ h => open_u8 h) h
end Go.Proofs.YtdcobapnlpeaaaaGreat
