/-
  append to a queue of rows inside a region that draws its order; v[1:] at rows.
  (*impl.sequence).canonical.
  (*impl.sequence).add.
  impl.generated.
  impl.sameRows, impl.areSubgroups.
  Plain: a sequence as a table by depths, as the reference lays it; coset representatives, sifting and the reduced sequence by such a table.
  Plain: generated subgroups of sets; intersections.
  impl.isMember.
  impl.conjugates, impl.conjugateSubgroup.
  impl.isNormal.
  Plain: the greatest normal subgroup within a subgroup.
  Plain: a group of order at most 32 has at most 17408 subgroups (a crude bound).
  impl.sizeOf.
  Plain: the subgroups of a small group as sets of bits; all of them are found; the ascending list is one.
  Plain: what impl.extendMask and spec.l19Span compute.
  Plain: what spec.l19Span computes: the bits of the subgroup that some elements generate.
  Plain: what spec.l19Sequence and l19Insert compute.
  The search for all subgroups: the list of masks that grows.
  Moebius values of a list of masks in ascending order.
  Plain: the list of products, element by element (for impl.elementsOf).
  Moebius values of the lattice: the sum over all subgroups above one; the number of generating lists.
  Maps that a call makes, by a general reading: what stands under each key.
-/
import Derived.Test.YtdklekdpdbjfiaaGreatM4
import Derived.Test.YtdklekdpdbjfiaaGreatM3
import Derived.Maps.OwnSet
import Derived.Maps.StringElems
import Derived.StringKeys
/- append to a queue of rows inside a region that draws its order; v[1:] at rows. -/
namespace Go.Proofs.YtdklekdpdbjfiaaGreat
open Go.RowKit
theorem step_append_at {P : Program} (w : World) {ops : Array Oper} {o : Oper} {a : Act} {K : Act → World → Prop} {Q : Exit → Act → World → Prop} {Ex : Prop}
  (hg : o.guard = none) (s x : Operand) (t : TypeId) (hop : o.op = Op.call { callee := Callee.builtin Builtin.append, args := #[s, x], argTypes := #[t, t] })
  (e : TypeId) (i : TypeInfo) (z : Value) (size bytes : Nat) (h1 : P.underlying t = some (.slice e)) (h2 : P.info? e = some i) (h3 : i.zero = some z) (h4 : i.size = size) (h5 : i.bytes = bytes) (h6 : z.cells.size = size) (h7 : 0 < size)
  (b off n cap : Nat) (olds : List Value) (hs : a.eval s = .slice (some ⟨b, off, none⟩) n cap) (hlo : olds.length = n * size) (holds : ∀ j u, olds[j]? = some u → w.cell? ⟨b, off + j, none⟩ = some u)
  (ad : Addr) (m c : Nat) (news : List Value) (hx : a.eval x = .slice (some ad) m c) (hn : news.length = m * size) (hc : ∀ j u, news[j]? = some u → w.cell? (ad.add j) = some u) (h1c : ∀ u ∈ news, u.oneCell' = true)
  (hspare : n + m ≤ cap → ∀ j, j < news.length → (w.cell? ⟨b, off + n * size + j, none⟩).isSome = true ∧ w.frozen? ⟨b, off + n * size + j, none⟩ = false)
  (b1 : n + m ≤ maxLen) (b2 : (n + m) * bytes ≤ 140737488355328)
  (hroom : n + m ≤ cap → K (a.put o.dst (.slice (some ⟨b, off, none⟩) (n + m) cap)) (w.setCells b (off + n * size) news))
  (hgrow : cap < n + m → ∀ v' w', w'.ownsRow w.heap.size e size v' (n + m) (olds ++ news) → w.grownBy w' none → K (a.put o.dst v') w') :
  if Region.wanted o (yielded ops a.tmps) = true then Oper.wp P o a w K Q else Ex := by
 have hw : Region.wanted o (yielded ops a.tmps) = true := by simp [Region.wanted, hg]
 rw [if_pos hw]
 by_cases hr : n + m ≤ cap
 ·subst h4
  have hrun := run_append_room_cells (P := P) w t o.type e i h1 h2 b off n cap ad m c news hn hc h1c hr (fun j hj => (hspare hr j hj).1) (fun j hj => (hspare hr j hj).2)
  unfold Oper.wp
  simp [execOp, hop, resolve, invoke, builtin, hs, hx, hrun, Result.andThen]
  exact hroom hr
 ·obtain ⟨v', w', hrun, r1, r2⟩ := run_append_arg_grows (P := P) w t o.type e i z size bytes h1 h2 h3 h4 h5 h6 h7 ⟨b, off, none⟩ n cap olds hlo (fun j u hj => by rw [Addr.add_lit]; exact holds j u hj) ad m c news hn hc (by omega) b1 b2
  unfold Oper.wp
  simp [execOp, hop, resolve, invoke, builtin, hs, hx, hrun, Result.andThen]
  exact hgrow (by omega) v' w' r1 r2
theorem step_q_app (T E : Nat) (z : Value) (bytes : Nat) (hT : Tryz.prog.underlying T = some (.slice E)) (hE : (Tryz.prog.info? E).map (fun i => (i.zero, i.size, i.bytes)) = some (some z, 1, bytes))
  (hzs : z.cells.size = 1) (hbt : bytes ≤ 64) {ops : Array Oper} {o : Oper} {a : Act} {K : Act → World → Prop} {Q : Exit → Act → World → Prop} {Ex : Prop} {w : World} (hgd : o.guard = none) (s x : Operand)
  (ho : o.op = Op.call { callee := Callee.builtin Builtin.append, args := #[s, x], argTypes := #[T, T] }) (base : Nat) (v : Value) (xs : List Value) (hs : a.eval s = v) (hown : QOwn base E w v xs)
  (H : Nat) (u : Value) (hx : a.eval x = .slice (some ⟨H, 0, none⟩) 1 1) (hu : w.cell? ⟨H, 0, none⟩ = some u) (h1 : u.oneCell' = true) (hlen : xs.length ≤ 1000000) (hbase : base ≤ w.heap.size)
  (h : ∀ v' w', QOwn base E w' v' (xs ++ [u]) → w.grownBy w' v.ownBlock → (v'.ownBlock = v.ownBlock ∨ ∀ k, v'.ownBlock = some k → w.heap.size ≤ k) → K (a.put o.dst v') w') :
  if Region.wanted o (yielded ops a.tmps) = true then Oper.wp Tryz.prog o a w K Q else Ex := by
 rcases hown with ⟨rfl, rfl⟩ | ⟨g, off, cap, cur, rfl, hb, hg, hnc, hcm, hsz, hc⟩
 ·refine step_app T E z bytes hT hE hzs hbt hgd s x ho base (.slice none 0 0) [] hs (World.ownsRow_nil _ _ _ _) H u hx hu h1 (by simp) hbase ?_
  intro v' w' k1 k2 k4
  exact h v' w' (QOwn.of k1) k2 (k4.imp id (fun e k hk => by rw [e] at hk; cases hk; exact Nat.le_refl _))
 ·obtain ⟨i0, hi, hz0, hz1, hz2⟩ := info_parts hE
  have hgs : g < w.heap.size := (Array.getElem?_eq_some_iff.1 hg).1
  have hcell : ∀ i, i < cur.size → w.cell? ⟨g, i, none⟩ = cur[i]? := fun i _ => by
   simp only [World.cell?, hg, Option.isSome_none, Bool.false_eq_true, if_false]
  refine step_append_at w hgd s x T ho E i0 z 1 bytes hT hi hz0 hz1 hz2 hzs (by decide) g off xs.length cap xs hs (by omega) ?_ ⟨H, 0, none⟩ 1 1 [u] hx rfl ?_ ?_ ?_ (by unfold maxLen; omega) (by have := Nat.mul_le_mul (show xs.length + 1 ≤ 1000001 by omega) hbt; omega) ?_ ?_
  ·intro j u' hj
   have hj2 : j < xs.length := by
    rcases Nat.lt_or_ge j xs.length with h | h
    ·exact h
    ·rw [List.getElem?_eq_none h] at hj; cases hj
   rw [hcell _ (by omega), hc j hj2]
   simp [gt, hj]
  ·intro j u' hj
   match j, hj with
   | 0, hj =>
    simp at hj; subst hj
    simpa [Addr.add] using hu
  ·intro u' hu'
   simp at hu'; subst hu'; exact h1
  ·intro hroom j hj
   have : j = 0 := by simpa using hj
   subst this
   refine ⟨?_, ?_⟩
   ·rw [hcell _ (by omega), Array.getElem?_eq_getElem (by omega)]; rfl
   ·simp [World.frozen?, hg]
  ·intro hroom
   have e : w.setCells g (off + xs.length * 1) [u] = w.setCell ⟨g, off + xs.length, none⟩ u := by
    simp [World.setCells]
   rw [e]
   refine h _ _ (.inr ⟨g, off, cap, cur.setIfInBounds (off + xs.length) u, by simp, hb, ?_, by simpa using hroom, hcm, by simpa using hsz, fun i hi => ?_⟩) ?_ (.inl rfl)
   ·simp only [World.setCell, Array.getElem?_modify, if_true, hg, Option.map_some]
    simp
   ·simp only [List.length_append, List.length_singleton] at hi
    by_cases ei : i = xs.length
    ·subst ei
     rw [gt_concat, Array.getElem?_setIfInBounds_self]
     simp; omega
    ·rw [gt_append_left _ _ _ (by omega), Array.getElem?_setIfInBounds_ne (by omega)]
     exact hc i (by omega)
   ·exact ⟨rfl, rfl, rfl, by simp [World.setCell], fun k hk hne => Below.heap_setCell _ _ _ _ (by intro e2; exact hne (by rw [e2]; rfl))⟩
  ·intro hgrow v' w' k1 k2
   have k3 : OwnV base E w' v' (xs ++ [u]) := by
    unfold OwnV
    rw [List.length_append]
    obtain ⟨h1', h2'⟩ := k1
    refine ⟨h1', ?_⟩
    rcases h2' with h | ⟨g', cap', cur', hv, hg', r⟩
    ·exact .inl h
    ·exact .inr ⟨g', cap', cur', hv, by omega, r⟩
   refine h v' w' (QOwn.of k3) (grown_of_ext _ k2) (.inr (fun k hk => ?_))
   obtain ⟨_, h2'⟩ := k1
   rcases h2' with h | ⟨g', cap', cur', rfl, hg', r⟩
   ·rw [h.1] at hk; simp [Value.ownBlock] at hk
   ·simp [Value.ownBlock] at hk
    omega
theorem step_shq_app {ops : Array Oper} {o : Oper} {a : Act} {K : Act → World → Prop} {Q : Exit → Act → World → Prop} {Ex : Prop} {w : World} (hgd : o.guard = none) (s x : Operand)
  (ho : o.op = Op.call { callee := Callee.builtin Builtin.append, args := #[s, x], argTypes := #[23, 23] }) (bad : Nat → Prop) (B : Nat) (v u : Value) (xs : List (List Int)) (y : List Int) (hs : a.eval s = v) (w0 : World) (hown : ShQ bad B w0 v xs)
  (hw : w = w0.alloc (.cells #[u] 22)) (hu : Ints (fun k => ¬ bad k ∧ v.ownBlock ≠ some k) w0 u y) (hx : a.eval x = .slice (some ⟨w0.heap.size, 0, none⟩) 1 1) (hlen : xs.length ≤ 1000000) (hbase : B ≤ w0.heap.size)
  (h : ∀ v' w', ShQ bad B w' v' (xs ++ [y]) → w0.grownBy w' v.ownBlock → (v'.ownBlock = v.ownBlock ∨ ∀ k, v'.ownBlock = some k → w0.heap.size ≤ k) → K (a.put o.dst v') w') :
  if Region.wanted o (yielded ops a.tmps) = true then Oper.wp Tryz.prog o a w K Q else Ex := by
 subst hw
 obtain ⟨vs, hl, hq, hr⟩ := hown
 have hga : Ext w0 (w0.alloc (.cells #[u] 22)) := World.grownBy_alloc _ _ _
 have hlt := hq.lt
 have hq2 : QOwn B 22 (w0.alloc (.cells #[u] 22)) v vs := hq.kept (fun k hk => hga.block k (hlt k hk).2 (by simp))
 have hone : u.oneCell' = true := rdInts.one hu
 refine step_q_app 23 22 (.slice none 0 0) 24 und_rows Tryz.infoRow rfl (by decide) hgd s x ho B v vs hs hq2 w0.heap.size u hx (by rw [World.cell?_alloc_at _ _ _ _ rfl]; rfl) hone (by omega) (by have := hga.size; omega) ?_
 intro v' w' h1 h2 h3
 have hg2 : w0.grownBy w' v.ownBlock := grown_trans (grown_of_ext _ hga) h2
 have hnew : ∀ k, k < w0.heap.size → v'.ownBlock = some k → v.ownBlock = some k := fun k hk e => by
  rcases h3 with h | h
  ·rw [← h]; exact e
  ·have := h k e; simp at this; omega
 refine h v' w' ⟨vs ++ [u], by simp [hl], h1, fun i hi => ?_⟩ hg2 (h3.imp id (fun h k hk => by have := h k hk; simp at this; omega))
 simp only [List.length_append, List.length_singleton] at hi
 have hfr : ∀ k, (¬ bad k ∧ v.ownBlock ≠ some k) → k < w0.heap.size → (¬ bad k ∧ v'.ownBlock ≠ some k) ∧ k < w'.heap.size ∧ w'.heap[k]? = w0.heap[k]? := fun k hk hlt =>
  ⟨⟨hk.1, fun e => hk.2 (hnew k hlt e)⟩, Nat.lt_of_lt_of_le hlt hg2.size, hg2.block k hlt (fun e => hk.2 e.symm)⟩
 by_cases hlt : i < xs.length
 ·rw [gt_append_left _ _ _ (by omega), gt_append_left _ _ _ hlt]
  exact Ints.mono (hr i hlt) hfr
 ·have hi2 : i = xs.length := by omega
  subst hi2
  rw [gt_concat, ← hl, gt_concat]
  exact Ints.mono hu hfr
theorem run_tail_rows (w : World) (a : Option Addr) (n cap : Nat) (k : Int) (h0 : 0 ≤ k) (h1 : k ≤ n) :
  (Instr.slice 23 (.slice a n cap) (some (.int .i64 k)) none none).run Tryz.prog w = .ok (subSl (.slice a n cap) k.toNat n) w := by
 rw [run_slice_l w 23 a n cap (by kernel_rfl) .i64 k h0 h1]
 have : (sizeOf (Tryz.prog.elem 23)).run Tryz.prog w = .ok 1 w := by kernel_rfl
 rw [this]
 simp [Result.andThen, sliced, subSl]
theorem Sl.vals {α : Type} [Inhabited α] {El : World → Value → α → Prop} {S : Nat → Prop} {w : World} {a : Option Addr} {n cap : Nat} {xs : List α} (h : Sl El S w (.slice a n cap) xs) :
  ∃ vs : List Value, vs.length = xs.length ∧ ∀ i, i < xs.length → (∃ b off, a = some ⟨b, off, none⟩ ∧ w.cell? ⟨b, off + i, none⟩ = some (gt vs i)) ∧ El w (gt vs i) (gt xs i) := by
 have h1 : ∀ i, ∃ u, i < xs.length → (∃ b off, a = some ⟨b, off, none⟩ ∧ w.cell? ⟨b, off + i, none⟩ = some u) ∧ El w u (gt xs i) := fun i => by
  by_cases hi : i < xs.length
  ·obtain ⟨b, off, u, h1, _, _, h4, h5⟩ := h.at i hi
   exact ⟨u, fun _ => ⟨⟨b, off, h1, h4⟩, h5⟩⟩
  ·exact ⟨undef, fun h => absurd h hi⟩
 obtain ⟨f, hf⟩ := Classical.axiomOfChoice h1
 refine ⟨(List.range xs.length).map f, by simp, fun i hi => ?_⟩
 have e : gt ((List.range xs.length).map f) i = f i := by simp [gt, hi]
 rw [e]
 exact hf i hi
set_option maxHeartbeats 400000 in
theorem cloneRows_ok (w : World) (v : Value) (xs : List (List Int)) (S bad : Nat → Prop) (hv : Rows2 S w v xs) (hS : ∀ k, S k → k < w.heap.size → ¬ bad k) (hl : xs.length ≤ 1000000) :
  Calls Tryz.prog 135 #[v] w (Ret w fun w' r => ShQ bad w.heap.size w' r xs) := by
 obtain ⟨a, cap, rfl, _, _⟩ := Sl.shape hv
 have he := fun n => Lib.run_eql_slice_nil (P := Tryz.prog) w 23 22 a n cap 0 0 (by kernel_rfl)
 cases a with
 | none =>
  obtain ⟨rfl, rfl⟩ := Sl.nil_of_none hv
  clear hv hl
  go_enter Tryz.func135, Tryz.ntmps135
  go_wp2_with fail
  go_ret
  exact ⟨_, rfl, Ext.refl _, ShQ.nil _ _ _⟩
 | some a =>
  obtain ⟨vs, hvl, hvs⟩ := Sl.vals hv
  have hnews : ∀ w', Ext w w' → ∀ j, j < xs.length → ∃ b off, some a = some ⟨b, off, none⟩ ∧ w'.cell? ⟨b, off + j, none⟩ = some (gt vs j) := fun w' hg j hj => by
   obtain ⟨⟨b, off, h1, h2⟩, _⟩ := hvs j hj
   exact ⟨b, off, h1, hg.cell h2 (by simp)⟩
  have h1 : ∀ u, u ∈ vs → u.oneCell' = true := fun u hu => by
   obtain ⟨j, hj, rfl⟩ := List.getElem_of_mem hu
   rw [← gt_eq vs j hj]
   exact rdInts.one (hvs j (by omega)).2
  have hcl : ∀ (w1 : World) (v' : Value), OwnV w.heap.size 22 w1 v' vs → Ext w w1 → ShQ bad w.heap.size w1 v' xs := fun w1 v' ho hg => by
   refine ⟨vs, hvl, QOwn.of ho, fun i hi => Ints.mono (hvs i hi).2 (fun k hk hlt => ⟨⟨hS k hk hlt, fun e => ?_⟩, Nat.lt_of_lt_of_le hlt hg.size, hg.block k hlt (by simp)⟩)⟩
   have := (ho.lt k e).1; omega
  have HC := Lib.hid (And.intro hnews (And.intro h1 hcl)); clear hnews h1 hcl hvs
  go_enter Tryz.func135, Tryz.ntmps135
  go_wp2_with (at_builtin; refine wp_app 23 22 (.slice none 0 0) 24 und_rows Tryz.infoRow rfl (by decide) rfl _ _ rfl w.heap.size _ [] rfl (World.ownsRow_lit w #[] 0 (Nat.le_refl _) (by decide) rfl) (some a) xs.length cap vs rfl hvl (by simp) (HC.out.1 _ (World.grownBy_alloc _ _ _)) HC.out.2.1 (by simp; omega) (by simp) ?_; intro v' w1 ho1 hg1 hn1 hb1)
  go_ret
  have hg : Ext w w1 := grown_own (World.grownBy_alloc _ _ _) hg1 (fun j hj hlt => by have := own_blk hj; omega)
  exact ⟨_, rfl, hg, HC.out.2.2 w1 v' (by simpa using ho1) hg⟩
end Go.Proofs.YtdklekdpdbjfiaaGreat

/- (*impl.sequence).canonical. -/
namespace Go.Proofs.YtdklekdpdbjfiaaGreat
open Go.RowKit
theorem OwnV.weak {B B' E : Nat} {w : World} {v : Value} {vs : List Value} (h : OwnV B E w v vs) (hb : B' ≤ B) : OwnV B' E w v vs := by
 obtain ⟨h1, h2⟩ := h
 refine ⟨h1, ?_⟩
 rcases h2 with h | ⟨g, cap, cur, hv, hg, r⟩
 ·exact .inl h
 ·exact .inr ⟨g, cap, cur, hv, Nat.le_trans hb hg, r⟩
theorem wp_prep_row {ops : Array Oper} {rest : List Oper} {o : Oper} {a : Act} {Q : Exit → Act → World → Prop} {w : World} (hgd : o.guard = none) (s x : Operand)
  (ho : o.op = Op.call { callee := Callee.builtin Builtin.append, args := #[s, x], argTypes := #[23, 23] }) (B : Nat) (w1 w2 : World) (v u : Value) (xs : List (List Int)) (y : List Int) (hown : RowsO B w1 v xs) (hB : B ≤ w1.heap.size)
  (hg : Ext w1 w2) (hu : OwnIn (From w1.heap.size) w2 u y) (hw : w = w2.alloc (.cells #[u] 22)) (hs : a.eval s = .slice (some ⟨w2.heap.size, 0, none⟩) 1 1) (hx : a.eval x = v) (hlen : xs.length ≤ 1000000)
  (h : ∀ v' w', RowsO B w' v' (y :: xs) → Ext w1 w' → wpList Tryz.prog ops Q rest (a.put o.dst v') w') :
  wpList Tryz.prog ops Q (o :: rest) a w := by
 subst hw
 obtain ⟨vs, F, hvl, hO, hG, hd, hEx⟩ := hown
 have hga : Ext w2 (w2.alloc (.cells #[u] 22)) := World.grownBy_alloc _ _ _
 have hg1a := grown_trans hg hga
 have hO2 : OwnV B 22 (w2.alloc (.cells #[u] 22)) v vs := hO.kept hg1a (by cases hv : v.ownBlock <;> simp)
 have hlit : OwnV w2.heap.size 22 (w2.alloc (.cells #[u] 22)) (.slice (some ⟨w2.heap.size, 0, none⟩) 1 1) [u] := World.ownsRow_lit w2 #[u] 1 (Nat.le_refl _) (by decide) rfl
 have hsz := hg.size
 have hshape : ∃ sa c, v = .slice sa vs.length c ∧ (sa = none → c = 0) ∧ ∀ j, j < vs.length → ∃ b off, sa = some ⟨b, off, none⟩ ∧ (w2.alloc (.cells #[u] 22)).cell? ⟨b, off + j, none⟩ = some (gt vs j) := by
  rcases hO2.form with ⟨rfl, h2⟩ | ⟨g, cp, rfl, _⟩
  ·exact ⟨none, 0, by rw [h2]; rfl, fun _ => rfl, fun j hj => by rw [h2] at hj; simp at hj⟩
  ·exact ⟨_, _, rfl, fun h => by simp at h, fun j hj => ⟨g, 0, rfl, by rw [Nat.zero_add]; exact hO2.cell j hj⟩⟩
 obtain ⟨sa, c, hv, hc0, hcells⟩ := hshape
 refine wp_app 23 22 (.slice none 0 0) 24 und_rows Tryz.infoRow rfl (by decide) hgd s x ho w2.heap.size _ [u] hs hlit sa vs.length c vs (hx.trans hv) rfl hc0 hcells ?_ (by simp; omega) hga.size ?_
 ·intro u' hu'
  obtain ⟨j, hj, rfl⟩ := List.getElem_of_mem hu'
  rw [← gt_eq vs j hj]
  exact rdOwn.one (hEx j (by omega))
 ·intro v' w' k1 k2 _ _
  have hg2 : Ext w2 w' := grown_own hga k2 (fun j hj hlt => by have := own_blk hj; omega)
  have hg1 := grown_trans hg hg2
  have hv'b : ∀ k, v'.ownBlock = some k → w2.heap.size ≤ k := fun k hk => (k1.lt k hk).1
  refine h v' w' ⟨[u] ++ vs, fun i k => if i = 0 then w1.heap.size ≤ k ∧ k < w2.heap.size else F (i - 1) k ∧ k < w1.heap.size, by simp [hvl], ?_, ?_, ?_, ?_⟩ hg1
  ·exact OwnV.weak k1 (by omega)
  ·intro i k hi hk
   split at hk
   ·exact ⟨by omega, fun e => by have := hv'b k e; omega, Nat.lt_of_lt_of_le hk.2 hg2.size⟩
   ·rename_i h0
    simp only [List.length_cons] at hi
    obtain ⟨a1, a2, a3⟩ := hG (i - 1) k (by omega) hk.1
    exact ⟨a1, fun e => by have := hv'b k e; omega, Nat.lt_of_lt_of_le a3 hg1.size⟩
  ·intro i j k hi hj hk hk'
   simp only [List.length_cons] at hi hj
   split at hk <;> split at hk'
   ·omega
   ·omega
   ·omega
   ·have := hd (i - 1) (j - 1) k (by omega) (by omega) hk.1 hk'.1; omega
  ·intro i hi
   simp only [List.length_cons] at hi
   by_cases h0 : i = 0
   ·subst h0
    simp only [if_true]
    exact rdOwn.mono hu (fun k hk hkl => ⟨⟨hk, hkl⟩, Nat.lt_of_lt_of_le hkl hg2.size, hg2.block k hkl (by simp)⟩)
   ·simp only [if_neg h0]
    have e1 : gt ([u] ++ vs) i = gt vs (i - 1) := by
     obtain ⟨j, rfl⟩ : ∃ j, i = j + 1 := ⟨i - 1, by omega⟩
     simp [gt]
    have e2 : gt (y :: xs) i = gt xs (i - 1) := by
     obtain ⟨j, rfl⟩ : ∃ j, i = j + 1 := ⟨i - 1, by omega⟩
     simp [gt]
    rw [e1, e2]
    exact rdOwn.mono (hEx (i - 1) (by omega)) (fun k hk hkl => ⟨⟨hk, hkl⟩, Nat.lt_of_lt_of_le hkl hg1.size, hg1.block k hkl (by simp)⟩)
set_option maxRecDepth 100000 in
set_option maxHeartbeats 1000000 in
theorem canonical_ok (P : Pr) (G : Grp P) (w : World) (sb gb B : Nat) (p : Value) (b : List (List Int)) (H : List Int → Prop) (Sp bad : Nat → Prop) (hp : PresP Sp w p P) (hs : SeqAt B bad w sb gb p P.orders.length b) (hI : Ind P H (gt b)) :
  Calls Tryz.prog 124 #[.pointer (some ⟨sb, 0, none⟩)] w (Ret w fun w' v => RowsO w.heap.size w' v (cseq P H)) := by
 have hP := G.v
 have hn6 := hP.n6
 obtain ⟨pb, po, rfl⟩ := hp.shape
 have hc0 := hs.c0
 have hc1 := hs.c1
 have HI := Lib.hid hI; clear hI
 have hwn : IntKind.i64.wrap ((P.orders.length : Int) - 1) = (P.orders.length : Int) - 1 := IntWalk.i64_in _ (by omega)
 go_enter Tryz.func124, Tryz.ntmps124
 go_wp2
 clear hwn
 go_loopw [3, 4] (fun ov dv wr => ∃ (m : Nat) (r : Nat → List Int) (v4 : Value), v4 = ov ∧ dv = .int .i64 ((m : Int) - 1) ∧ m ≤ P.orders.length ∧ Ext w wr ∧ RowsO w.heap.size wr v4 (sq r (P.orders.length - m) m) ∧ Hid (CanInv P H (gt b) r m)) (fun _ dv _ => (intOf dv + 1).toNat)
 case atStart => exact ⟨P.orders.length, fun _ => [], _, rfl, rfl, Nat.le_refl _, Ext.refl _, by rw [Nat.sub_self]; exact SlO.nil _ _ _ _, Lib.hid ⟨fun e h1 h2 => by omega, fun e h1 h2 => by omega, fun e e' h1 h2 h3 => by omega⟩⟩
 case round =>
  obtain ⟨m, r, v4, rfl, rfl, hm, hg, hO, hC⟩ := hrel
  clear hc0 hc1
  by_cases hm0 : m = 0
  ·subst hm0
   have hsl := sq_len r P.orders.length 0
   rw [G.can_end HI.out hC.out] at hsl
   rw [Nat.sub_zero, G.can_end HI.out hC.out] at hO
   have hneg : ((0 : Nat) : Int) - 1 = -1 := rfl
   rw [hneg]
   obtain ⟨az, capz, rfl, _⟩ := SlD.shape (hO.toD (by omega))
   go_wp2
   go_ret
   exact ⟨_, rfl, hg, hO⟩
  ·obtain ⟨d, rfl⟩ : ∃ d, m = d + 1 := ⟨m - 1, by omega⟩
   obtain ⟨k, hk⟩ : ∃ k, k = P.orders.length - (d + 1) := ⟨_, rfl⟩
   rw [← hk] at hO
   have hkn : d + 1 + k = P.orders.length := by omega
   have hkd : P.orders.length - d = k + 1 := by omega
   rw [show (((d + 1 : Nat)) : Int) - 1 = d by omega]
   have hdn : (d : Int) < P.orders.length := by omega
   have hd0 : (0 : Int) ≤ d := by omega
   have hwd : IntKind.i64.wrap ((d : Int) - 1) = (d : Int) - 1 := IntWalk.i64_in _ (by omega)
   have hsr := hs.ext hg
   have hc0 := hsr.c0
   have hc1 := hsr.c1
   have hsl := sq_len r k (d + 1)
   have hk6 : k ≤ 6 := by omega
   have HK := Lib.hid (And.intro hkn hkd); clear hkn hkd hk hm0
   obtain ⟨_, hcc⟩ := hsr.tab.at d (by omega)
   rcases hcc with ⟨h0, hcell⟩ | ⟨hne, ab, capb, hcell, hbI⟩
   ·obtain ⟨hC2, hq2⟩ := can_skip (k := k) hC.out h0
    have HC2 := Lib.hid (And.intro hC2 hq2); clear hC2 hq2 h0
    go_wp2
    go_roundw
    case rel => exact ⟨d, _, v4, rfl, rfl, by omega, hg, by rw [HK.out.2, HC2.out.2]; exact hO, Lib.hid HC2.out.1⟩
    case measure => simp [intOf]
   ·have hO4 := hO.toD (by omega)
    obtain ⟨az, capz, hvz, _, _⟩ := SlD.shape hO4
    subst hvz
    have hU := RowsD.rows hO4
    have hSq := hC.out.seqOk HK.out.1
    have hbm := (HI.out.mem d (by omega) hne).2.1.1
    have hpr := hp.ext hg
    have HX := Lib.hid (And.intro hSq (And.intro hbm hne)); clear hSq hbm hne
    have e1 : ∀ w', Ext wr w' → w'.cell? ⟨sb, 0, none⟩ = some (.pointer (some ⟨pb, po, none⟩)) := fun w' h => h.cell hc0 (by simp)
    have e2 : ∀ w', Ext wr w' → w'.cell? ⟨sb, 1, none⟩ = some (.slice (some ⟨gb, 0, none⟩) P.orders.length P.orders.length) := fun w' h => h.cell hc1 (by simp)
    have e3 : ∀ w', Ext wr w' → w'.cell? ⟨gb, d, none⟩ = some (.slice (some ab) (gt b d).length capb) := fun w' h => h.cell hcell (by simp)
    go_wp2
    go_region_held3 (fun w' => Ext wr w') (first | exact grown_drew _ _ | assumption)
     (first
      | (go_at_call 168; refine Calls.mono (Calls.rel (w0 := wr) (by assumption) (representative_ok P G _ _ _ _ (sq r k (d + 1)) (gt b d) Any Any Any (PresP.sub (PresP.ext hpr (by assumption)) (fun _ _ _ => trivial)) (Rows2.sub (Rows2.ext hU (by assumption)) (fun _ _ _ => trivial)) HX.out.1 (by omega) (Ints.sub (Ints.ext hbI (by assumption)) (fun _ _ _ => trivial)) HX.out.2.1)) ?_; rintro eY wY ⟨yv, rfl, hgY, hsY, Y, hOY, hRY⟩))
    have hYl : Y.length ≤ 6 := by rw [hRY.vec.1]; omega
    obtain ⟨hC2, hq2⟩ := G.can_step HI.out hC.out HK.out.1 HX.out.2.2 hRY
    have HC2 := Lib.hid (And.intro hC2 hq2); clear hC2 hq2
    have hYO : OwnIn (From wr.heap.size) wY yv Y := OwnIn.of hOY (by omega) (fun j h1 _ => Nat.le_trans hsY h1)
    obtain ⟨ay, capy, hvy, _, _⟩ := hYO.ints.shape
    subst hvy
    clear e1 e2 e3 hcell hc0 hc1 hRY
    go_wp2_with (first | (at_builtin; refine wp_prep_row rfl _ _ rfl w.heap.size wr wY _ _ (sq r k (d + 1)) Y hO hg.size hgY hYO rfl rfl rfl (by omega) ?_; intro v5 w5 hO5 hg5) | fail)
    go_roundw
    case rel => exact ⟨d, _, v5, rfl, rfl, by omega, grown_trans hg hg5, by rw [HK.out.2, HC2.out.2]; exact hO5, Lib.hid HC2.out.1⟩
    case measure => simp [intOf]
end Go.Proofs.YtdklekdpdbjfiaaGreat

/- (*impl.sequence).add. -/
namespace Go.Proofs.YtdklekdpdbjfiaaGreat
open Go.RowKit
theorem inverseMod_ret (a m : Int) (w : World) (hm : m = 2 ∨ m = 3 ∨ m = 5 ∨ m = 7) (h1 : 1 ≤ a) (h2 : a < m) :
  Calls Tryz.prog 189 #[.int .i64 a, .int .i64 m] w (Ret w fun _ v => ∃ k : Int, v = .tuple #[.int .i64 k, .bool true] ∧ 0 ≤ k ∧ k < m ∧ (k * a) % m = 1) :=
 (inverseMod_ok a m w hm h1 h2).mono (by rintro e w' ⟨⟨k, rfl, h⟩, rfl⟩; exact ⟨_, rfl, Ext.refl _, k, rfl, h⟩)
theorem q_kept {bad : Nat → Prop} {wI w2 : World} {v1 v2 : Value} (hg2 : wI.grownBy w2 v1.ownBlock) (hb2 : v2.ownBlock = v1.ownBlock ∨ ∀ k, v2.ownBlock = some k → wI.heap.size ≤ k) :
  ∀ k, (¬ bad k ∧ v1.ownBlock ≠ some k) → k < wI.heap.size → (¬ bad k ∧ v2.ownBlock ≠ some k) ∧ k < w2.heap.size ∧ w2.heap[k]? = wI.heap[k]? := fun k hk hlt =>
 ⟨⟨hk.1, fun e => by
  rcases hb2 with h | h
  ·exact hk.2 (by rw [← h]; exact e)
  ·have := h k e; omega⟩, Nat.lt_of_lt_of_le hlt hg2.size, hg2.block k hlt (fun e => hk.2 e.symm)⟩
theorem seq_kept {B sb gb n W : Nat} {pv : Value} {wI w2 : World} {v1 v2 : Value} {b : List (List Int)} (h : SeqAt B (fun k => v1.ownBlock = some k) wI sb gb pv n b) (hv : ∀ k, v1.ownBlock = some k → W ≤ k) (hgb : gb < W) (hsb : sb < W)
  (hg2 : wI.grownBy w2 v1.ownBlock) (hb2 : v2.ownBlock = v1.ownBlock ∨ ∀ k, v2.ownBlock = some k → wI.heap.size ≤ k) : SeqAt B (fun k => v2.ownBlock = some k) w2 sb gb pv n b := by
 refine h.kept hg2.size (fun k hk hc => hg2.block k hk (fun e => ?_)) (fun k hk e => ?_)
 ·rcases hc with rfl | rfl | hc
  ·have := hv _ e.symm; omega
  ·have := hv _ e.symm; omega
  ·exact hc e.symm
 ·rcases hb2 with h | h
  ·rw [← h]; exact e
  ·have := h k e; omega
def AddPost (P : Pr) (H : List Int → Prop) (L b b' : List (List Int)) (g : Bool) : Prop :=
 Ind P (genP P (fun x => H x ∨ x ∈ L)) (gt b') ∧ (g = false → b' = b) ∧ (g = true → miss b' P.orders.length < miss b P.orders.length)
def AddSt (P : Pr) (H : List Int → Prop) (L b b' q : List (List Int)) (g : Bool) : Prop :=
 (∃ R, AddInv P (fun x => H x ∨ x ∈ L) (gt b') q R) ∧ (g = false → b' = b) ∧ (g = true → miss b' P.orders.length < miss b P.orders.length) ∧ miss b' P.orders.length ≤ miss b P.orders.length
set_option maxRecDepth 100000 in
set_option maxHeartbeats 2000000 in
theorem add_ok (P : Pr) (G : Grp P) (w : World) (sb gb B : Nat) (p lv : Value) (L b : List (List Int)) (H : List Int → Prop) (hp : PresP (fun k => k ≠ gb) w p P) (hs : SeqAt B (fun _ => False) w sb gb p P.orders.length b) (hI : Ind P H (gt b))
  (hL : ∀ x ∈ L, Vec P.orders x) (hl : Rows2 (fun k => ¬ (k = gb ∨ k = sb)) w lv L) (hlen : L.length ≤ 10000) :
  Calls Tryz.prog 123 #[.pointer (some ⟨sb, 0, none⟩), lv] w fun e w' => ∃ b' g, e = .returned (.bool g) ∧ w.grownBy w' (some gb) ∧ SeqAt B (fun _ => False) w' sb gb p P.orders.length b' ∧ AddPost P H L b b' g := by
 have hP := G.v
 have hn6 := hP.n6
 obtain ⟨pb, po, rfl⟩ := hp.shape
 obtain ⟨ao, capo, hco0, hoi⟩ := hp.ordAt
 obtain ⟨_, _, _, hpb, hpbl, _⟩ := hp.at
 have hgbs := hs.tab.lt
 have hpw : ∀ w', w.grownBy w' (some gb) → PresP (fun k => k ≠ gb) w' (.pointer (some ⟨pb, po, none⟩)) P := fun w' h => hp.mono (frame_of h (fun k hk _ => ⟨hk, fun e => hk (Option.some.inj e).symm⟩))
 have hc0w : ∀ w', w.grownBy w' (some gb) → w'.cell? ⟨sb, 0, none⟩ = some (.pointer (some ⟨pb, po, none⟩)) := fun w' h => (World.cell?_of_block (h.block sb hs.slt (by simpa using hs.ne))).trans hs.c0
 have hc1w : ∀ w', w.grownBy w' (some gb) → w'.cell? ⟨sb, 1, none⟩ = some (.slice (some ⟨gb, 0, none⟩) P.orders.length P.orders.length) := fun w' h => (World.cell?_of_block (h.block sb hs.slt (by simpa using hs.ne))).trans hs.c1
 have hc2w : ∀ w', w.grownBy w' (some gb) → w'.cell? ⟨pb, po, none⟩ = some (.slice ao P.orders.length capo) := fun w' h => (World.cell?_of_block (h.block pb hpbl (by simpa using hpb))).trans hco0
 have HW := Lib.hid (And.intro hpw (And.intro hc0w (And.intro hc1w hc2w))); clear hpw hc0w hc1w hc2w hco0
 have HI := Lib.hid (And.intro hI hL); clear hI hL
 go_enter Tryz.func123, Tryz.ntmps123
 go_wp2_with fail
 refine Calls.mono (cloneRows_ok w lv L _ (fun k => k = gb ∨ k = sb) hl (fun k hk _ => hk) (by omega)) ?_
 rintro e0 w0 ⟨qv0, rfl, hg0, hq0⟩
 go_wp2
 go_loopg [5, 6] (miss b P.orders.length * (P.orders.length + 3) + L.length) (fun gk gv qv wr => ∃ (b' q : List (List Int)) (g : Bool), gk ≤ 20000 ∧ gk = miss b' P.orders.length * (P.orders.length + 3) + q.length ∧ gv = .bool g ∧ w.grownBy wr (some gb) ∧
  SeqAt B (fun k => qv.ownBlock = some k) wr sb gb (.pointer (some ⟨pb, po, none⟩)) P.orders.length b' ∧ ShQ (fun k => k = gb ∨ k = sb) w.heap.size wr qv q ∧ Hid (AddSt P H L b b' q g))
 case atStart =>
  have hk0 : miss b P.orders.length * (P.orders.length + 3) + L.length ≤ 20000 := by
   have h3 : miss b P.orders.length * (P.orders.length + 3) ≤ 6 * 9 := Nat.mul_le_mul (by have := miss_le b P.orders.length; omega) (by omega)
   omega
  exact ⟨b, L, false, hk0, rfl, rfl, grown_of_ext _ hg0, hs.kept hg0.size (fun k hk _ => hg0.block k hk (by simp)) (fun k hk h => by have := (hq0.lt k h).1; omega), hq0, Lib.hid ⟨⟨_, G.addInv_start HI.out.1 HI.out.2⟩, fun _ => rfl, by simp, Nat.le_refl _⟩⟩
 case round =>
  obtain ⟨b', q, g, hgkb, hgk, rfl, hg, hsq, hq, hSt⟩ := hrel
  cases q with
  | nil =>
   obtain ⟨aq, capq, rfl, _⟩ := hq.shape
   go_wp2
   go_ret
   exact ⟨b', g, rfl, hg, hsq.kept (Nat.le_refl _) (fun _ _ _ => rfl) (fun _ _ h => h.elim), by obtain ⟨⟨R, hA⟩, h2, h3, _⟩ := hSt.out; exact ⟨G.addInv_end hA, h2, h3⟩⟩
  | cons y q =>
   obtain ⟨aq, capq, rfl, _⟩ := hq.shape
   obtain ⟨gq, off, u, rfl, hgB, hglt, hcell, hyI⟩ := ShQ.head hq 0 (by simp)
   obtain ⟨m, hm⟩ : ∃ m, m = (y :: q).length := ⟨_, rfl⟩
   rw [← hm] at hq hgk ⊢
   have hm1 : m = q.length + 1 := by rw [hm]; rfl
   have hyI : Ints (fun k => ¬ (k = gb ∨ k = sb) ∧ k ≠ gq) wr u y := hyI
   obtain ⟨ay, capy, rfl, _, _⟩ := hyI.shape
   have hmb : m ≤ 20000 := by omega
   have hc0 := HW.out.2.1 wr hg
   have hc1 := HW.out.2.2.1 wr hg
   rw [Nat.add_zero] at hcell
   have hmi : (0 : Int) < m := by omega
   have HM := Lib.hid (And.intro hgk (And.intro hm hm1)); clear hgk hm hm1
   have hyV : Vec P.orders y := by obtain ⟨⟨R, hA⟩, _⟩ := hSt.out; exact hA.vec _ (hA.que _ List.mem_cons_self)
   have htab : ∀ d, d < P.orders.length → gt b' d ≠ [] → T P d (gt b' d) ∧ gt (gt b' d) d = 1 := by obtain ⟨⟨R, hA⟩, _⟩ := hSt.out; exact fun d hd h => (hA.tab d hd h).2
   have HT := Lib.hid (And.intro hyV htab); clear hyV htab
   go_wp2_with fail
   refine Calls.mono (sift_ok P G wr sb gb B _ _ y b' _ _ _ (HW.out.1 wr hg) hsq HT.out.2 hyI HT.out.1) ?_
   rintro e1 w1 ⟨xv, rfl, hg1, Y, hYI, hYV, hYd, hΦ⟩
   have hgw1 := grown_trans hg (grown_of_ext (some gb) hg1)
   have hSt1 : Hid (AddSt P H L b b' (Y :: q) g) := by
    obtain ⟨⟨R, hA⟩, h2⟩ := hSt.out
    exact Lib.hid ⟨G.sift_add hA hΦ, h2⟩
   clear hΦ hSt hc0 hc1 hcell
   have hq1t : ShQ (fun k => k = gb ∨ k = sb) w.heap.size w1 (subSl (.slice (some ⟨gq, off, none⟩) m capq) 1 m) q := (hq.ext hg1).tail
   have hrt := run_tail_rows w1 (some ⟨gq, off, none⟩) m capq 1 (by omega) (by omega)
   have hown1 : ∀ k, (subSl (.slice (some ⟨gq, off, none⟩) m capq) 1 m).ownBlock = some k → k = gq := fun k hk => by
    have h3 := QOwn.own_tail k hk
    simp [Value.ownBlock] at h3; exact h3.symm
   rw [show (1 : Int).toNat = 1 from rfl] at hrt
   generalize subSl (.slice (some ⟨gq, off, none⟩) m capq) 1 m = qv1 at hq1t hrt hown1
   have hsq1 : SeqAt B (fun k => qv1.ownBlock = some k) w1 sb gb (.pointer (some ⟨pb, po, none⟩)) P.orders.length b' := (hsq.ext hg1).kept (Nat.le_refl _) (fun _ _ _ => rfl) (fun k _ h => by rw [hown1 k h]; rfl)
   have hYI2 : Ints (fun k => ¬ (k = gb ∨ k = sb) ∧ qv1.ownBlock ≠ some k) w1 xv Y := Ints.sub hYI (fun k hk _ => by
    have h1 := hs.slt
    have h2 := hg.size
    rcases hk with hk | hk
    ·exact ⟨hk.1, fun e => hk.2 (hown1 k e)⟩
    ·exact ⟨by omega, fun e => by have := hown1 k e; omega⟩)
   obtain ⟨a1, cap1, rfl, _⟩ := hq1t.shape
   obtain ⟨ax, capx, hv, _, _⟩ := hYI2.shape
   rw [hYV.1] at hv
   subst hv
   clear hsq hq hyI hYI hown1
   have HY := Lib.hid (And.intro hYV hYd); clear hYV hYd
   by_cases hdn : dep Y = P.orders.length
   ·have hSt2 : Hid (AddSt P H L b b' q g) := by
     obtain ⟨⟨R, hA⟩, h2⟩ := hSt1.out
     exact Lib.hid ⟨⟨R, addInv_drop hA ((dep_top hP HY.out.1).1 hdn)⟩, h2⟩
    clear hSt1
    go_wp2_with (go_at_call 188; refine Calls.mono (depthOf_ok _ Y w1 _ hYI2) ?_; rintro eD wD ⟨rfl, rfl⟩)
    go_roundg (gk - 1)
    case measure => have := HM.out; omega
    case rel => exact ⟨b', q, g, by omega, by have := HM.out; omega, rfl, hgw1, hsq1, hq1t, hSt2⟩
   ·have hd : dep Y < P.orders.length := by have := dep_le Y; have := HY.out.1.1; omega
    have hTY := dep_T HY.out.1
    have hy0 := dep_ne (x := Y) (by rw [HY.out.1.1]; exact hd)
    have hb0 := HY.out.2 hd
    obtain ⟨d, hde⟩ : ∃ d, d = dep Y := ⟨_, rfl⟩
    rw [← hde] at hd hTY hy0 hb0 hdn
    have ho := hP.ord7 d hd
    have hpr := hP.ord d hd
    have hyd := hTY.1.2 d hd
    have hyd1 : 1 ≤ gt Y d := by omega
    obtain ⟨bx, ox, rfl, _, _, hcx⟩ := Ints.at hYI2 d (by rw [HY.out.1.1]; exact hd)
    obtain ⟨b2, off2, rfl, hb2, hlt2, hcord⟩ := Ints.at hoi d hd
    have c1 : ∀ w', w.grownBy w' (some gb) → w'.cell? ⟨b2, off2 + d, none⟩ = some (.int .i64 (gt P.orders d)) := fun w' h => (World.cell?_of_block (h.block b2 hlt2 (by simpa using hb2))).trans hcord
    have HD := Lib.hid (And.intro hde (And.intro hTY (And.intro hb0 (And.intro c1 (And.intro hpr hdn))))); clear hTY hy0 hb0 c1 hpr hcord hdn
    have e1 : ∀ w', Ext w1 w' → w'.cell? ⟨sb, 0, none⟩ = some (.pointer (some ⟨pb, po, none⟩)) := fun w' h => HW.out.2.1 w' (grown_trans hgw1 (grown_of_ext _ h))
    have e2 : ∀ w', Ext w1 w' → w'.cell? ⟨pb, po, none⟩ = some (.slice (some ⟨b2, off2, none⟩) P.orders.length capo) := fun w' h => HW.out.2.2.2 w' (grown_trans hgw1 (grown_of_ext _ h))
    have e3 : ∀ w', Ext w1 w' → w'.cell? ⟨b2, off2 + d, none⟩ = some (.int .i64 (gt P.orders d)) := fun w' h => HD.out.2.2.2.1 w' (grown_trans hgw1 (grown_of_ext _ h))
    have e4 : ∀ w', Ext w1 w' → w'.cell? ⟨bx, ox + d, none⟩ = some (.int .i64 (gt Y d)) := fun w' h => h.cell hcx (by simp)
    have q1 : (d : Int) < P.orders.length := by omega
    have q2 : (0 : Int) ≤ d := by omega
    have q3 : ((d : Int) == (P.orders.length : Int)) = false := by simp; omega
    have hdc : Calls Tryz.prog 188 #[.slice (some ⟨bx, ox, none⟩) P.orders.length capx] w1 (fun e w' => e = .returned (.int .i64 d) ∧ w1 = w') := by rw [hde]; exact depthOf_ok _ Y w1 _ hYI2
    clear hde
    go_wp2_with (go_at_call 188; refine Calls.mono hdc ?_; rintro eD wD ⟨rfl, rfl⟩)
    go_region_held3 (fun w' => Ext w1 w') (first | exact grown_drew _ _ | assumption)
     (first
      | (go_at_call 189; refine Calls.mono (Calls.rel (w0 := w1) (by assumption) (inverseMod_ret (gt Y d) (gt P.orders d) _ HD.out.2.2.2.2.1 hyd1 hyd.2)) ?_; rintro eI wI ⟨vI, rfl, hgI, hsI, kk, rfl, hk0, hk1, hkm⟩; have HK := Lib.hid hkm; clear hkm))
    clear e1 e2 e3 e4 hdc hrt
    have hgwI := grown_trans hgw1 (grown_of_ext (some gb) hgI)
    have hqI := hq1t.ext hgI
    have hsqI := hsq1.ext hgI
    have hYI3 := hYI2.ext hgI
    have hqlt : ∀ k, (Value.slice a1 q.length cap1).ownBlock = some k → w.heap.size ≤ k := fun k hk => (hqI.lt k hk).1
    have hql : q.length ≤ 20000 := by have := HM.out.2.2; omega
    clear hq1t hsq1 hYI2 hcx
    go_wp2_with (first | (at_builtin; refine wp_shq_app rfl _ _ rfl (fun k => k = gb ∨ k = sb) w.heap.size _ _ q Y rfl wI hqI rfl hYI3 rfl (by omega) hgwI.size ?_; intro v2 w2 hq2 hg2 hb2; have hgw2 := grown_own hgwI hg2 (fun j hj hlt => by have := hqlt j hj; omega); have hc02 := HW.out.2.1 w2 hgw2) | fail)
    have hsq2 := seq_kept hsqI hqlt hgbs.2 hs.slt hg2 hb2
    have hYI4 := Ints.mono hYI3 (q_kept hg2 hb2)
    clear hqI hsqI hYI3
    refine Calls.mono (power_ok P hP w2 _ _ Y kk _ _ (HW.out.1 w2 hgw2) hYI4 HY.out.1 (by omega)) ?_
    rintro eZ wZ ⟨zv, rfl, hgZ, hOZ⟩
    have eZ : iPow P Y kk = pw P Y kk.toNat := G.iPow_eq HY.out.1 kk
    rw [eZ] at hOZ
    clear eZ
    obtain ⟨Z, hZ⟩ : ∃ Z, Z = pw P Y kk.toNat := ⟨_, rfl⟩
    rw [← hZ] at hOZ
    have hZV : Vec P.orders Z := by rw [hZ]; exact G.pw_vec HY.out.1 _
    have HZ := Lib.hid hZ; clear hZ
    have hgwZ := grown_trans hgw2 (grown_of_ext (some gb) hgZ)
    have hqZ := hq2.ext hgZ
    have hsqZ := hsq2.ext hgZ
    have hZI : Ints (fun k => ¬ (k = gb ∨ k = sb) ∧ v2.ownBlock ≠ some k) wZ zv Z := ints_of_own hOZ (by rw [hZV.1]; omega) (fun k hk => by
     have h1 := (hOZ.lt k hk).1
     have h2 := hs.slt
     have h3 := hgw2.size
     exact ⟨by omega, fun e => by have := (hq2.lt k e).2; omega⟩)
    have hqlt2 : ∀ k, v2.ownBlock = some k → w.heap.size ≤ k := fun k hk => (hqZ.lt k hk).1
    clear hq2 hsq2 hYI4 hg2 hb2
    obtain ⟨az, capz, hv, _, _⟩ := hZI.shape
    rw [hZV.1] at hv
    subst hv
    have HZV := Lib.hid hZV; clear hZV
    have hTV : Vec P.orders (pw P Z (gt P.orders d).toNat) := G.pw_vec HZV.out _
    have hTl : (pw P Z (gt P.orders d).toNat).length ≤ 6 := by rw [hTV.1]; omega
    have hTe : iPow P Z (gt P.orders d) = pw P Z (gt P.orders d).toNat := G.iPow_eq HZV.out _
    have HTV := Lib.hid (And.intro hTl hTe); clear hTl hTe hTV
    have e1 : ∀ w', w.grownBy w' (some gb) → w'.cell? ⟨sb, 0, none⟩ = some (.pointer (some ⟨pb, po, none⟩)) := HW.out.2.1
    have e2 : ∀ w', w.grownBy w' (some gb) → w'.cell? ⟨pb, po, none⟩ = some (.slice (some ⟨b2, off2, none⟩) P.orders.length capo) := HW.out.2.2.2
    have e3 : ∀ w', w.grownBy w' (some gb) → w'.cell? ⟨b2, off2 + d, none⟩ = some (.int .i64 (gt P.orders d)) := HD.out.2.2.2.1
    go_wp2
    go_region_held3 (fun w' => w.grownBy w' (some gb)) (first | exact grown_trans hgwZ (grown_drew _ _) | assumption | exact grown_trans hgwT (World.grownBy_alloc _ _ _))
     (first
      | (go_at_call 190; refine Calls.mono (Calls.rel2 (w0 := wZ) (grown_drew _ _) (power_ok P hP _ _ _ Z (gt P.orders d) _ _ ((HW.out.1 wZ hgwZ).ext (grown_drew _ _)) (hZI.ext (grown_drew _ _)) HZV.out (by omega))) ?_; rintro eT wT ⟨vT, rfl, hgT, hgT2, hsT, hOT⟩; have hgwT := grown_trans hgwZ (grown_of_ext (some gb) hgT); rw [HTV.out.2] at hOT; have hTI : Ints (fun k => ¬ (k = gb ∨ k = sb) ∧ v2.ownBlock ≠ some k) wT vT (pw P Z (gt P.orders d).toNat) := ints_of_own hOT (by have := HTV.out.1; omega) (fun k hk => by
        have h1 := (hOT.lt k hk).1
        have h2 := hs.slt
        have h3 := hgwZ.size
        exact ⟨by omega, fun e => by have := (hqZ.lt k e).2; omega⟩); obtain ⟨aT, capT, hvT, _, _⟩ := hTI.shape; subst hvT)
      | (refine step_shq_app rfl _ _ rfl (fun k => k = gb ∨ k = sb) w.heap.size v2 _ (q ++ [Y]) _ rfl wT (hqZ.ext hgT) rfl hTI rfl (by simp; omega) hgwT.size ?_; intro v3 w3 hq3 hg3 hb3; have hgw3 := grown_own hgwT hg3 (fun j hj hlt => by have := hqlt2 j hj; omega)))
    clear e1 e2 e3
    have hsq3 := seq_kept (hsqZ.ext hgT) hqlt2 hgbs.2 hs.slt hg3 hb3
    have hZI3 := Ints.mono (hZI.ext hgT) (q_kept hg3 hb3)
    have hc13 := HW.out.2.2.1 w3 hgw3
    have hc03 := HW.out.2.1 w3 hgw3
    obtain ⟨T1, hT1⟩ : ∃ T1, T1 = pw P Z (gt P.orders d).toNat := ⟨_, rfl⟩
    rw [← hT1] at hq3
    have HT1 := Lib.hid hT1; clear hT1
    clear hqZ hsqZ hZI hTI hOT hOZ hg3 hb3
    go_wp2
    clear hc13 hc03
    go_loopw [6, 84] (fun qv iv wr2 => ∃ (k : Nat) (v4 : Value), v4 = qv ∧ iv = .int .i64 k ∧ k ≤ P.orders.length ∧ w.grownBy wr2 (some gb) ∧ SeqAt B (fun j => v4.ownBlock = some j) wr2 sb gb (.pointer (some ⟨pb, po, none⟩)) P.orders.length b' ∧
     ShQ (fun k => k = gb ∨ k = sb) w.heap.size wr2 v4 (q ++ [Y] ++ [T1] ++ coms P b' Z k) ∧ Ints (fun j => ¬ (j = gb ∨ j = sb) ∧ v4.ownBlock ≠ some j) wr2 (.slice az P.orders.length capz) Z) (fun _ iv _ => P.orders.length - (intOf iv).toNat)
    case atStart => exact ⟨0, _, rfl, rfl, by omega, hgw3, hsq3, by simpa [coms] using hq3, hZI3⟩
    case round =>
     obtain ⟨k, v4, rfl, rfl, hk, hg4, hsq4, hq4, hZI4⟩ := hrel
     clear hsq3 hq3 hZI3
     have hqlt4 : ∀ j, v4.ownBlock = some j → w.heap.size ≤ j := fun j hj => (hq4.lt j hj).1
     by_cases hk2 : k < P.orders.length
     ·obtain ⟨_, hcc⟩ := hsq4.tab.at k hk2
      rcases hcc with ⟨h0, hcell⟩ | ⟨hne, ab, capb, hcell, hbI⟩
      ·have hcs : coms P b' Z (k + 1) = coms P b' Z k := by simp only [coms]; rw [if_pos h0, List.append_nil]
       have HC := Lib.hid hcs; clear hcs h0
       go_wp2
       go_roundw
       case rel => exact ⟨k + 1, v4, rfl, by go_num, by omega, hg4, hsq4, by rw [HC.out]; exact hq4, hZI4⟩
       case measure => simp [intOf]; omega
      ·have hcs : coms P b' Z (k + 1) = coms P b' Z k ++ [comR P (gt b' k) Z] := by simp only [coms]; rw [if_neg hne]
       have hbV := (HT.out.2 k hk2 hne).1.1
       have hcV : Vec P.orders (comR P (gt b' k) Z) := G.mulV (G.invV (G.mulV HZV.out hbV)) (G.mulV hbV HZV.out)
       have HC := Lib.hid (And.intro hcs (And.intro hbV hcV)); clear hcs hbV hcV hne
       have hp0 := HW.out.2.1 wr hg4
       go_wp2_with fail
       refine Calls.mono (commutator_ok P G wr _ _ _ (gt b' k) Z _ _ _ (HW.out.1 wr hg4) hbI hZI4 HC.out.2.1 HZV.out) ?_
       rintro eC wC ⟨vC, rfl, hgC, hOC⟩
       have hOC : Own wr.heap.size wC vC (comR P (gt b' k) Z) := hOC
       have hCI : Ints (fun j => ¬ (j = gb ∨ j = sb) ∧ v4.ownBlock ≠ some j) wC vC (comR P (gt b' k) Z) := ints_of_own hOC (by rw [HC.out.2.2.1]; omega) (fun j hj => by
        have h1 := (hOC.lt j hj).1
        have h2 := hs.slt
        have h3 := hg4.size
        exact ⟨by omega, fun e => by have := (hq4.lt j e).2; omega⟩)
       have hgwC := grown_trans hg4 (grown_of_ext (some gb) hgC)
       obtain ⟨aC, capC, hvC, _, _⟩ := hCI.shape
       subst hvC
       have hcl := coms_len P b' Z k
       clear hOC hcell hp0
       go_wp2_with (first | (at_builtin; refine wp_shq_app rfl _ _ rfl (fun k => k = gb ∨ k = sb) w.heap.size v4 _ (q ++ [Y] ++ [T1] ++ coms P b' Z k) (comR P (gt b' k) Z) rfl wC (hq4.ext hgC) rfl hCI rfl (by simp; omega) hgwC.size ?_; intro v5 w5 hq5 hg5 hb5; have hgw5 := grown_own hgwC hg5 (fun j hj hlt => by have := hqlt4 j hj; omega)) | fail)
       go_roundw
       case rel => exact ⟨k + 1, v5, rfl, by go_num, by omega, hgw5, seq_kept (hsq4.ext hgC) hqlt4 hgbs.2 hs.slt hg5 hb5, by rw [HC.out.1, ← List.append_assoc]; exact hq5, Ints.mono (hZI4.ext hgC) (q_kept hg5 hb5)⟩
       case measure => simp [intOf]; omega
     ·have hke : k = P.orders.length := by omega
      subst hke
      have hZne : Z ≠ [] := fun h => by have := HZV.out.1; rw [h] at this; simp at this; omega
      obtain ⟨hs5, hg5⟩ := hsq4.put d (u := .slice az P.orders.length capz) (y := Z) (Ints.sub hZI4 (fun j hj _ => ⟨fun e => hj.1 (.inl e), fun h => h.elim (fun e => hj.1 (.inr e)) hj.2⟩)) hZne
      obtain ⟨hfr, hcc⟩ := hsq4.tab.at d hd
      have hcd : wr.cell? ⟨gb, d, none⟩ = some (.slice none 0 0) := hcc.elim (fun h => h.2) (fun h => absurd HD.out.2.2.1 h.1)
      have hq5 : ShQ (fun k => k = gb ∨ k = sb) w.heap.size (wr.setCell ⟨gb, d, none⟩ (.slice az P.orders.length capz)) v4 (q ++ [Y] ++ [T1] ++ coms P b' Z P.orders.length) := hq4.kept hg5.size (fun j hj hc => hg5.block j hj (fun e => by
       have e := Option.some.inj e
       subst e
       rcases hc with hc | hc
       ·have := hqlt4 _ hc; have := hgbs.2; omega
       ·exact hc (.inl rfl))) (fun _ _ h => h)
      have hc1 := HW.out.2.2.1 wr hg4
      have hms := miss_set (b := b') (z := Z) HD.out.2.2.1 hZne P.orders.length (by rw [hsq4.tab.len]; exact Nat.le_refl _)
      rw [if_pos hd] at hms
      have hll : (q ++ [Y] ++ [T1] ++ coms P b' Z P.orders.length).length ≤ q.length + 2 + P.orders.length := by have := coms_len P b' Z P.orders.length; simp; omega
      have hmul : miss b' P.orders.length * (P.orders.length + 3) = miss (b'.set d Z) P.orders.length * (P.orders.length + 3) + (P.orders.length + 3) := by rw [← hms, Nat.add_mul, Nat.one_mul]
      have hSt5 : Hid (AddSt P H L b (b'.set d Z) (q ++ [Y] ++ [T1] ++ coms P b' Z P.orders.length) true) := by
       obtain ⟨⟨R, hA⟩, h2, h3, h4⟩ := hSt1.out
       have hst := G.add_step hA hd HD.out.2.1 HD.out.2.2.1 hsq4.tab.len kk hk0 HK.out
       rw [← HZ.out, ← HT1.out] at hst
       exact Lib.hid ⟨hst, by simp, fun _ => by omega, by omega⟩
      have hlt5 : miss (b'.set d Z) P.orders.length * (P.orders.length + 3) + (q ++ [Y] ++ [T1] ++ coms P b' Z P.orders.length).length < gk := by have := HM.out; omega
      have HX := Lib.hid (And.intro hll (And.intro hlt5 (And.intro hmul hms))); clear hll hmul hms hlt5 hSt1 hcc hq4 hsq4 hZI4
      have q1' : (d : Int) < P.orders.length := by omega
      go_wp2
      go_roundg (miss (b'.set d Z) P.orders.length * (P.orders.length + 3) + (q ++ [Y] ++ [T1] ++ coms P b' Z P.orders.length).length)
      case measure => exact HX.out.2.1
      case rel => exact ⟨b'.set d Z, _, true, by have := HX.out.2.1; omega, rfl, rfl, grown_trans hg4 hg5, hs5, hq5, hSt5⟩
end Go.Proofs.YtdklekdpdbjfiaaGreat

/- impl.generated. -/
namespace Go.Proofs.YtdklekdpdbjfiaaGreat
open Go.RowKit
section
variable {P : Pr} (G : Grp P)
include G
theorem Grp.inv_one : rInv P (zeros P.orders.length) = zeros P.orders.length := by
 have h := G.inv_mul G.oneV
 rwa [G.grp.er _ (G.invV G.oneV)] at h
theorem Grp.sub_one : Sub P (fun x => x = zeros P.orders.length) :=
 ⟨fun x h => by rw [h]; exact G.oneV, rfl, fun x y hx hy => by rw [hx, hy]; exact G.grp.el _ G.oneV, fun x h => by rw [h]; exact G.inv_one⟩
theorem Grp.ind_one : Ind P (fun x => x = zeros P.orders.length) (gt (List.replicate P.orders.length ([] : List Int))) :=
 ⟨G.sub_one, fun d hd h => absurd (by simp [gt, hd]) h, fun x hx d hd _ h0 => absurd (by rw [hx]; exact gt_replicate _ _) h0⟩
omit G in
theorem genP_one (Q : List Int → Prop) : genP P (fun x => x = zeros P.orders.length ∨ Q x) = genP P Q :=
 funext fun x => propext ⟨fun h K S hQ => h K S (fun y hy => hy.elim (fun e => by rw [e]; exact S.one) (hQ y)), fun h K S hQ => h K S (fun y hy => hQ y (.inr hy))⟩
end
set_option maxHeartbeats 400000 in
theorem generated_ok (P : Pr) (G : Grp P) (w : World) (p lv : Value) (L : List (List Int)) (Sp Sr : Nat → Prop) (hp : PresP Sp w p P) (hl : Rows2 Sr w lv L) (hL : ∀ x ∈ L, Vec P.orders x) (hlen : L.length ≤ 10000) :
  Calls Tryz.prog 72 #[p, lv] w (Ret w fun w' v => RowsO w.heap.size w' v (cseq P (genP P (fun x => x ∈ L)))) := by
 have hP := G.v
 have hn6 := hP.n6
 obtain ⟨pb, po, rfl⟩ := hp.shape
 obtain ⟨al, capl, rfl, _, _⟩ := Sl.shape hl
 have HL := Lib.hid hL; clear hL
 go_enter Tryz.func72, Tryz.ntmps72
 go_wp2_with fail
 refine Calls.mono (newSequence_ok P w _ Sp (fun _ => False) hp hn6) ?_
 rintro e1 w1 ⟨v1, rfl, hg1, sb, gb, rfl, hs⟩
 have hgb := hs.tab.lt
 have hsb := hs.sB
 go_wp2_with fail
 refine Calls.mono (add_ok P G w1 sb gb w.heap.size _ _ L _ (fun x => x = zeros P.orders.length) (hp.mono (fun k _ hlt => ⟨by omega, Nat.lt_of_lt_of_le hlt hg1.size, hg1.block k hlt (by simp)⟩)) hs G.ind_one HL.out (Rows2.mono hl (fun k _ hlt => ⟨by omega, Nat.lt_of_lt_of_le hlt hg1.size, hg1.block k hlt (by simp)⟩)) hlen) ?_
 rintro e2 w2 ⟨b2, g, rfl, hg2, hs2, hA, _, _⟩
 rw [genP_one] at hA
 have hgw2 : Ext w w2 := grown_own hg1 hg2 (fun j hj hlt => by cases hj; omega)
 have HA := Lib.hid hA; clear hA
 go_wp2_with fail
 refine Calls.mono (canonical_ok P G w2 sb gb w.heap.size _ b2 _ _ _ (hp.ext hgw2) hs2 HA.out) ?_
 rintro e3 w3 ⟨v3, rfl, hg3, hO⟩
 go_wp2
 go_ret
 exact ⟨_, rfl, grown_trans hgw2 hg3, hO.weak hgw2.size⟩
end Go.Proofs.YtdklekdpdbjfiaaGreat

/- impl.sameRows, impl.areSubgroups. -/
namespace Go.Proofs.YtdklekdpdbjfiaaGreat
open Go.RowKit
set_option maxHeartbeats 1000000 in
theorem eqRows_ok (v1 v2 : Value) (A B : List (List Int)) (w : World) (S1 S2 : Nat → Prop) (h1 : Rows2 S1 w v1 A) (h2 : Rows2 S2 w v2 B) :
  Calls Tryz.prog 183 #[v1, v2, .func (.func 167) #[] #[]] w (Ret w fun _ v => v = .bool (eqB A B)) := by
 obtain ⟨a1, cap1, rfl, _, _⟩ := Sl.shape h1
 obtain ⟨a2, cap2, rfl, _, _⟩ := Sl.shape h2
 by_cases hl : A.length = B.length
 ·have HL := Lib.hid hl
  have hb0 : ((A.length : Int) != (B.length : Int)) = false := by simp [hl]
  clear hl
  go_enter Tryz.func183, Tryz.ntmps183
  go_wp2
  go_loopw [17] (fun iv wr => ∃ k : Nat, iv = .int .i64 k ∧ k ≤ A.length ∧ Ext w wr ∧ Hid (∀ j, j < k → gt A j = gt B j)) (fun iv _ => A.length - (intOf iv).toNat)
  case atStart => exact ⟨0, rfl, by omega, Ext.refl _, Lib.hid (fun j h => by omega)⟩
  case round =>
   obtain ⟨k, rfl, hk, hg, hE⟩ := hrel
   clear hb0
   by_cases hlt : k < A.length
   ·have hlt' : (k : Int) < A.length := by omega
    have hlt2 : (k : Int) < B.length := by have := HL.out; omega
    obtain ⟨b1, o1, c1, d1, rfl, _, _, hc1, hi1⟩ := Rows2.at (Rows2.ext h1 hg) k hlt
    obtain ⟨b2, o2, c2, d2, rfl, _, _, hc2, hi2⟩ := Rows2.at (Rows2.ext h2 hg) k (by omega)
    have hk0 : (0 : Int) ≤ k := by omega
    go_wp2_with fail
    refine Calls.mono (sEqual_ok _ _ (gt A k) (gt B k) wr _ _ hi1 hi2) ?_
    rintro eE wE ⟨vE, rfl, hgE, rfl⟩
    clear hc1 hc2
    cases hq : eqB (gt A k) (gt B k) with
    | true =>
     have HQ := Lib.hid hq; clear hq
     go_wp2
     go_roundw
     case rel => exact ⟨k + 1, by go_num, by omega, grown_trans hg hgE, Lib.hid (fun j hj => by
      rcases Nat.lt_succ_iff_lt_or_eq.1 hj with h | h
      ·exact hE.out j h
      ·rw [h]; exact eqB_true.1 HQ.out)⟩
     case measure => simp [intOf]; omega
    | false =>
     have hf := eqB_false_at (eqB_false.1 hq)
     have HQ := Lib.hid hf; clear hq hf
     go_wp2
     go_ret
     exact ⟨_, rfl, grown_trans hg hgE, by rw [HQ.out]; rfl⟩
   ·have he : eqB A B = true := eqB_true.2 (ext_gt HL.out (fun i hi => hE.out i (by omega)))
    have HE := Lib.hid he; clear he
    go_wp2
    go_ret
    exact ⟨_, rfl, hg, by rw [HE.out]; rfl⟩
 ·have he : eqB A B = false := eqB_false.2 (fun e => hl (by rw [e]))
  have HE := Lib.hid he; clear he
  have hb0 : ((A.length : Int) != (B.length : Int)) = true := by simp; omega
  clear hl
  go_enter Tryz.func183, Tryz.ntmps183
  go_wp2
  go_ret
  exact ⟨_, rfl, Ext.refl _, by rw [HE.out]; rfl⟩
theorem sameRows_ok (v1 v2 : Value) (A B : List (List Int)) (w : World) (S1 S2 : Nat → Prop) (h1 : Rows2 S1 w v1 A) (h2 : Rows2 S2 w v2 B) :
  Calls Tryz.prog 119 #[v1, v2] w (Ret w fun _ v => v = .bool (eqB A B)) := by
 have hcon := eqRows_ok v1 v2 A B w S1 S2 h1 h2
 obtain ⟨a1, cap1, rfl, _, _⟩ := Sl.shape h1
 obtain ⟨a2, cap2, rfl, _, _⟩ := Sl.shape h2
 go_enter Tryz.func119, Tryz.ntmps119
 go_wp2_with fail
 refine Calls.mono hcon ?_
 rintro e1 w1 ⟨v, rfl, hg, rfl⟩
 clear hcon
 go_wp2
 go_ret
 exact ⟨_, rfl, hg, rfl⟩
def SubB (P : Pr) (u : List (List Int)) : Prop := (∀ x ∈ u, Vec P.orders x) ∧ u = cseq P (genP P (fun x => x ∈ u))
theorem Grp.cseq_len {P : Pr} (G : Grp P) {H : List Int → Prop} (S : Sub P H) : (cseq P H).length ≤ P.orders.length := by
 obtain ⟨r, _, h⟩ := G.cseq_spec S
 rw [h, sq_all]; exact sq_len _ _ _
theorem Grp.sub_len {P : Pr} (G : Grp P) {u : List (List Int)} (h : SubB P u) : u.length ≤ P.orders.length := by
 rw [h.2]; exact G.cseq_len (G.genP_sub h.1)
set_option maxRecDepth 100000 in
set_option maxHeartbeats 2000000 in
theorem areSubgroups_ok (P : Pr) (w : World) (p lv : Value) (us : List (List (List Int))) (Sp Sr : Nat → Prop) (hp : PresP Sp w p P) (hl : Rows3 Sr w lv us) :
  Calls Tryz.prog 66 #[p, lv] w (Ret w fun _ v => ∃ r : Bool, v = .bool r ∧ (r = true ↔ rconsB P = true ∧ ∀ u ∈ us, SubB P u)) := by
 obtain ⟨pb, po, rfl⟩ := hp.shape
 obtain ⟨al, capl, rfl, _, _⟩ := Sl.shape hl
 obtain ⟨vo, vp, vc, _, _, hc0, hc1, hc2, h3⟩ := hp.at
 obtain ⟨ao, capo, rfl, _, _⟩ := h3.o.shape
 obtain ⟨ap, capp, rfl, _, _⟩ := Sl.shape h3.p
 obtain ⟨ac, capc, rfl, _, _⟩ := Sl.shape h3.c
 have hcon := isConsistent_ok P w (.agg #[.slice ao P.orders.length capo, .slice ap P.powers.length capp, .slice ac P.conj.length capc]) Sp ⟨_, _, _, rfl, h3⟩
 rw [icons_eq] at hcon
 go_enter Tryz.func66, Tryz.ntmps66
 go_wp2_with fail
 refine Calls.mono hcon ?_
 rintro e1 w1 ⟨v, rfl, hg1, rfl⟩
 clear hcon
 cases hq : rconsB P with
 | false =>
  have HQ := Lib.hid hq; clear hq
  go_wp2
  go_ret
  exact ⟨_, rfl, hg1, false, rfl, by simp only [Bool.false_eq_true, false_iff]; rintro ⟨h, _⟩; rw [HQ.out] at h; cases h⟩
 | true =>
  have G := grp_of_r hq
  have hn6 := G.v.n6
  have HQ := Lib.hid hq; clear hq hc1 hc2
  go_wp2
  go_loopw [16] (fun iv wr => ∃ i : Nat, iv = .int .i64 i ∧ i ≤ us.length ∧ Ext w wr ∧ Hid (∀ j, j < i → SubB P (gt us j))) (fun iv _ => us.length - (intOf iv).toNat)
  case atStart => exact ⟨0, rfl, by omega, hg1, Lib.hid (fun j h => by omega)⟩
  case round =>
   obtain ⟨i, rfl, hi, hg, hS⟩ := hrel
   by_cases hlt : i < us.length
   ·have hlt' : (i : Int) < us.length := by omega
    obtain ⟨b, off, a2, cap2, rfl, _, _, hcu, hu⟩ := Rows3.at hl i hlt
    obtain ⟨U, hU⟩ : ∃ U, U = gt us i := ⟨_, rfl⟩
    rw [← hU] at hcu hu
    have HUe := Lib.hid hU; clear hU
    have hc0r := hg.cell hc0 (by simp)
    have hcur := hg.cell hcu (by simp)
    by_cases hlen : U.length ≤ P.orders.length
    ·have hgt : ¬ (P.orders.length : Int) < U.length := by omega
     go_wp2
     clear hcur hc0r hgt
     go_loopw [30] (fun jv wr => ∃ j : Nat, jv = .int .i64 j ∧ j ≤ U.length ∧ Ext w wr ∧ Hid (∀ l, l < j → Vec P.orders (gt U l))) (fun jv _ => U.length - (intOf jv).toNat)
     case atStart => exact ⟨0, rfl, by omega, hg, Lib.hid (fun j h => by omega)⟩
     case round =>
      clear hg
      obtain ⟨j, rfl, hj, hg, hV⟩ := hrel
      by_cases hjl : j < U.length
      ·have hjl' : (j : Int) < U.length := by omega
       obtain ⟨b3, off3, a3, cap3, rfl, _, _, hc3, hr3⟩ := Rows2.at (Rows2.ext hu hg) j hjl
       have hex := isExponents_ok wr _ _ P (gt U j) Sp Sr (hp.ext hg) hr3 (fun i hi => by have := G.v.ord7 i hi; omega)
       cases hb : expB P.orders (gt U j) with
       | true =>
        rw [hb] at hex
        have HB := Lib.hid (expB_vec.1 hb); clear hb
        go_wp2_with fail
        refine Calls.mono hex ?_
        rintro eE wE ⟨rfl, rfl⟩
        clear hex
        go_wp2
        go_roundw
        case rel => exact ⟨j + 1, by go_num, by omega, hg, Lib.hid (fun l hl => by
         rcases Nat.lt_succ_iff_lt_or_eq.1 hl with h | h
         ·exact hV.out l h
         ·rw [h]; exact HB.out)⟩
        case measure => simp [intOf]; omega
       | false =>
        rw [hb] at hex
        have hno : ¬ SubB P U := fun h => by
         have := expB_vec.2 (h.1 _ (gtMem hjl))
         rw [hb] at this; cases this
        have HB := Lib.hid hno; clear hb hno
        go_wp2_with fail
        refine Calls.mono hex ?_
        rintro eE wE ⟨rfl, rfl⟩
        clear hex
        go_wp2
        go_ret
        exact ⟨_, rfl, hg, false, rfl, by
         simp only [Bool.false_eq_true, false_iff]
         rintro ⟨_, h⟩
         exact HB.out (by rw [HUe.out]; exact h _ (gtMem hlt))⟩
      ·have hje : j = U.length := by omega
       subst hje
       have hUV : ∀ x ∈ U, Vec P.orders x := fun x hx => by
        obtain ⟨l, hl, rfl⟩ := List.getElem_of_mem hx
        rw [← gt_eq U l hl]; exact hV.out l hl
       have hcl : (cseq P (genP P (fun x => x ∈ U))).length ≤ P.orders.length := G.cseq_len (G.genP_sub hUV)
       have HUV := Lib.hid hUV; clear hUV
       go_wp2_with fail
       refine Calls.mono (generated_ok P G wr _ _ U Sp Sr (hp.ext hg) (Rows2.ext hu hg) HUV.out (by omega)) ?_
       rintro eG wG ⟨vG, rfl, hgG, hOG⟩
       have hgw := grown_trans hg hgG
       have hRG := RowsD.rows (hOG.toD (by omega))
       obtain ⟨aG, capG, hvG, _, _⟩ := Sl.shape hRG
       subst hvG
       go_wp2_with fail
       refine Calls.mono (sameRows_ok _ _ _ U wG _ _ hRG (Rows2.ext hu hgw)) ?_
       rintro eS wS ⟨vS, rfl, hgS, rfl⟩
       cases hb : eqB (cseq P (genP P (fun x => x ∈ U))) U with
       | true =>
        have HB := Lib.hid (eqB_true.1 hb); clear hb
        go_wp2
        go_roundw
        case rel => exact ⟨i + 1, by go_num, by omega, grown_trans hgw hgS, Lib.hid (fun l hl => by
         rcases Nat.lt_succ_iff_lt_or_eq.1 hl with h | h
         ·exact hS.out l h
         ·rw [h, ← HUe.out]; exact ⟨HUV.out, HB.out.symm⟩)⟩
        case measure => simp [intOf]; omega
       | false =>
        have HB := Lib.hid (eqB_false.1 hb); clear hb
        go_wp2
        go_ret
        exact ⟨_, rfl, grown_trans hgw hgS, false, rfl, by
         simp only [Bool.false_eq_true, false_iff]
         rintro ⟨_, h⟩
         have := h _ (gtMem hlt)
         rw [← HUe.out] at this
         exact HB.out this.2.symm⟩
    ·have hgt : (P.orders.length : Int) < U.length := by omega
     have hno : ¬ SubB P U := fun h => hlen (G.sub_len h)
     have HB := Lib.hid hno; clear hno hlen
     go_wp2
     go_ret
     exact ⟨_, rfl, hg, false, rfl, by
      simp only [Bool.false_eq_true, false_iff]
      rintro ⟨_, h⟩
      exact HB.out (by rw [HUe.out]; exact h _ (gtMem hlt))⟩
   ·have hie : i = us.length := by omega
    subst hie
    go_wp2
    go_ret
    exact ⟨_, rfl, hg, true, rfl, by
     simp only [true_iff]
     exact ⟨HQ.out, fun u hu => by
      obtain ⟨l, hl, rfl⟩ := List.getElem_of_mem hu
      rw [← gt_eq us l hl]; exact hS.out l hl⟩⟩
end Go.Proofs.YtdklekdpdbjfiaaGreat

/- Plain: a sequence as a table by depths, as the reference lays it; coset representatives, sifting and the reduced sequence by such a table. -/
namespace Go.Proofs.YtdklekdpdbjfiaaGreat
theorem pwZ_nat (P : Pr) (x : List Int) (k : Int) (hk : 0 ≤ k) : pwZ P x k = pw P x k.toNat := by
 unfold pwZ; rw [if_neg (by omega)]
def tabTo (U : List (List Int)) (n : Nat) : Nat → List (List Int)
 | 0 => List.replicate n []
 | k + 1 => (tabTo U n k).set (dep (gt U k)) (gt U k)
theorem tabTo_len (U : List (List Int)) (n k : Nat) : (tabTo U n k).length = n := by
 induction k with
 | zero => simp [tabTo]
 | succ k ih => simp only [tabTo, List.length_set]; exact ih
theorem tabTo_at (P : Pr) (U : List (List Int)) : ∀ k, k ≤ U.length → ∀ d, d < P.orders.length →
  (gt (tabTo U P.orders.length k) d = [] ∧ ∀ j, j < k → dep (gt U j) ≠ d) ∨ ∃ j, j < k ∧ dep (gt U j) = d ∧ gt (tabTo U P.orders.length k) d = gt U j := by
 intro k
 induction k with
 | zero => intro _ d hd; exact .inl ⟨by simp [tabTo, gt, hd], fun j hj => by omega⟩
 | succ k ih =>
  intro hk d hd
  have hl := tabTo_len U P.orders.length k
  simp only [tabTo]
  by_cases h : dep (gt U k) = d
  ·right
   exact ⟨k, by omega, h, by rw [h, gt_set_eq _ _ _ (by omega)]⟩
  ·rw [gt_set_ne _ _ _ _ h]
   rcases ih (by omega) d hd with ⟨h1, h2⟩ | ⟨j, h1, h2, h3⟩
   ·left
    refine ⟨h1, fun j hj => ?_⟩
    rcases Nat.lt_succ_iff_lt_or_eq.1 hj with hj | hj
    ·exact h2 j hj
    ·rw [hj]; exact h
   ·right
    exact ⟨j, by omega, h2, h3⟩
theorem tabTo_vec {P : Pr} {U : List (List Int)} (hU : SeqOk P U) (d : Nat) (hd : d < P.orders.length) (hne : gt (tabTo U P.orders.length U.length) d ≠ []) :
  T P d (gt (tabTo U P.orders.length U.length) d) ∧ gt (gt (tabTo U P.orders.length U.length) d) d = 1 := by
 rcases tabTo_at P U U.length (Nat.le_refl _) d hd with ⟨h, _⟩ | ⟨j, hj, hjd, he⟩
 ·exact absurd h hne
 ·obtain ⟨a, _, c⟩ := hU.1 _ (gtMem hj)
  rw [he, ← hjd]
  exact ⟨dep_T a, c⟩
structure RedTo (P : Pr) (H : List Int → Prop) (b : List (List Int)) (X : List Int) (d : Nat) (Y : List Int) : Prop where
 vec : Vec P.orders Y
 cos : H (rMul P (rInv P X) Y)
 zer : ∀ e, e < d → gt b e ≠ [] → gt Y e = 0
structure StripTo (P : Pr) (b : List (List Int)) (X : List Int) (d : Nat) (Y : List Int) : Prop where
 vec : T P d Y
 inv : ∀ Q q R, AddInv P Q (gt b) (X :: q) R → ∃ R', AddInv P Q (gt b) (Y :: q) R'
structure FullTo (P : Pr) (r : Nat → List Int) (m : Nat) (X : List Int) (e : Nat) (Y : List Int) : Prop where
 vec : Vec P.orders Y
 zer : ∀ i, m ≤ i → i < e → r i ≠ [] → gt Y i = 0
 cos : ∀ K, Sub P K → (∀ i, m ≤ i → i < P.orders.length → r i ≠ [] → K (r i)) → K (rMul P (rInv P X) Y)
 old : ∀ k, (∀ i, m ≤ i → i < P.orders.length → r i ≠ [] → k < i) → gt Y k = gt X k
def comsR (P : Pr) (b : List (List Int)) (z : List Int) : Nat → List (List Int)
 | 0 => []
 | k + 1 => comsR P b z k ++ (if gt b k = [] then [] else [comR P z (gt b k)])
theorem comsR_len (P : Pr) (b : List (List Int)) (z : List Int) (k : Nat) : (comsR P b z k).length ≤ k := by
 induction k with
 | zero => exact Nat.le_refl _
 | succ k ih => simp only [comsR]; split <;> simp <;> omega
theorem mem_comsR {P : Pr} {b : List (List Int)} {z x : List Int} {k : Nat} : x ∈ comsR P b z k ↔ ∃ e, e < k ∧ gt b e ≠ [] ∧ x = comR P z (gt b e) := by
 induction k with
 | zero => simp [comsR]
 | succ k ih =>
  simp only [comsR, List.mem_append, ih]
  constructor
  ·rintro (⟨e, h1, h2, h3⟩ | h)
   ·exact ⟨e, by omega, h2, h3⟩
   ·split at h
    ·simp at h
    ·rename_i hk
     simp at h
     exact ⟨k, by omega, hk, h⟩
  ·rintro ⟨e, h1, h2, h3⟩
   rcases Nat.lt_succ_iff_lt_or_eq.1 h1 with h | h
   ·exact .inl ⟨e, h, h2, h3⟩
   ·subst h; right; rw [if_neg h2]; simp [h3]
section
variable {P : Pr} (G : Grp P)
include G
theorem Grp.ind_tab {H : List Int → Prop} (S : Sub P H) : Ind P H (gt (tabTo (cseq P H) P.orders.length (cseq P H).length)) := by
 obtain ⟨h1, h2, h3⟩ := G.seq_facts S
 refine ⟨S, fun d hd hne => ?_, fun x hx d hd hT h0 => ?_⟩
 ·refine ⟨?_, tabTo_vec h1 d hd hne⟩
  rcases tabTo_at P _ _ (Nat.le_refl _) d hd with ⟨h, _⟩ | ⟨j, hj, _, he⟩
  ·exact absurd h hne
  ·rw [he]; exact h2 _ (gtMem hj)
 ·obtain ⟨j, hj, hjd⟩ := h3 x hx d hd hT h0
  rcases tabTo_at P _ _ (Nat.le_refl _) d hd with ⟨_, h⟩ | ⟨i, hi, _, he⟩
  ·exact absurd hjd (h j hj)
  ·rw [he]
   intro hn
   have := (h1.1 _ (gtMem hi)).1.1
   rw [hn] at this; simp at this; omega
theorem Grp.redTo_zero {H : List Int → Prop} {b : List (List Int)} (S : Sub P H) {X : List Int} (hX : Vec P.orders X) : RedTo P H b X 0 X :=
 ⟨hX, by rw [G.inv_mul hX]; exact S.one, fun e he => by omega⟩
omit G in
theorem RedTo.skip {H : List Int → Prop} {b : List (List Int)} {X Y : List Int} {d : Nat} (h : RedTo P H b X d Y) (h0 : gt b d = [] ∨ gt Y d = 0) : RedTo P H b X (d + 1) Y :=
 ⟨h.vec, h.cos, fun e he hb => by
  rcases Nat.lt_succ_iff_lt_or_eq.1 he with h1 | h1
  ·exact h.zer e h1 hb
  ·subst h1; exact h0.elim (fun h => absurd h hb) id⟩
theorem Grp.redTo_step {H : List Int → Prop} {b : List (List Int)} (I : Ind P H (gt b)) {X Y : List Int} {d : Nat} (hX : Vec P.orders X) (hd : d < P.orders.length) (hb : gt b d ≠ []) (h : RedTo P H b X d Y) :
  RedTo P H b X (d + 1) (rMul P Y (pwZ P (gt b d) (-(gt Y d)))) := by
 obtain ⟨m1, m2, m3⟩ := I.mem d hd hb
 have hc := G.right_clear hd h.vec m2 m3
 refine ⟨hc.2.2, ?_, fun e he hbe => ?_⟩
 ·rw [← G.ass (G.invV hX) h.vec (G.pwZ_vec m2.1 _)]
  exact I.sub.mul _ _ h.cos (I.sub.pwZ m1 _)
 ·rcases Nat.lt_succ_iff_lt_or_eq.1 he with h1 | h1
  ·rw [hc.2.1 e h1]; exact h.zer e h1 hbe
  ·subst h1; exact hc.1
omit G in
theorem RedTo.rep {H : List Int → Prop} {b : List (List Int)} {X Y : List Int} (h : RedTo P H b X P.orders.length Y) : Rep P H (gt b) X Y := ⟨h.vec, h.cos, h.zer⟩
theorem Grp.rep_mem {H : List Int → Prop} {b : Nat → List Int} (I : Ind P H b) {X Y : List Int} (hX : Vec P.orders X) (h : Rep P H b X Y) : Y = zeros P.orders.length ↔ H X := by
 have hi := G.invV hX
 constructor
 ·intro h0
  have h1 := h.2.1
  rw [h0, G.grp.er _ hi] at h1
  have := I.sub.inv _ h1
  rwa [G.inv_inv hX] at this
 ·intro hx
  refine G.rep_one I hX h ⟨G.oneV, ?_, fun e _ _ => gt_replicate _ _⟩
  rw [G.grp.er _ hi]; exact I.sub.inv _ hx
omit G in
theorem stripTo_zero {b : List (List Int)} {X : List Int} (hX : Vec P.orders X) : StripTo P b X 0 X := ⟨T_zero.2 hX, fun _ _ R A => ⟨R, A⟩⟩
omit G in
theorem StripTo.skip {b : List (List Int)} {X Y : List Int} {d : Nat} (h : StripTo P b X d Y) (h0 : gt Y d = 0) : StripTo P b X (d + 1) Y := ⟨h.vec.up h0, h.inv⟩
theorem Grp.stripTo_step {b : List (List Int)} {X Y : List Int} {d : Nat} (hd : d < P.orders.length) (hb : gt b d ≠ []) (ht : T P d (gt b d) ∧ gt (gt b d) d = 1) (h0 : gt Y d ≠ 0) (h : StripTo P b X d Y) :
  StripTo P b X (d + 1) (rMul P Y (pwZ P (gt b d) (-(gt Y d)))) := by
 have hc := G.right_clear hd h.vec.1 ht.1 ht.2
 have hT : T P (d + 1) (rMul P Y (pwZ P (gt b d) (-(gt Y d)))) := T.up ⟨hc.2.2, fun k hk => by rw [hc.2.1 k hk]; exact h.vec.2 k hk⟩ hc.1
 have hp := G.pwZ_vec ht.1.1 (-(gt Y d))
 refine ⟨hT, fun Q q R A => ?_⟩
 obtain ⟨R1, A1⟩ := h.inv Q q R A
 refine ⟨_, addInv_sift A1 hd h.vec h0 hb hT (fun K S h1 h2 => ?_) (fun K S h1 h2 => S.mul _ _ h2 (S.pwZ h1 _))⟩
 have h3 := S.mul _ _ h2 (S.inv _ (S.pwZ h1 (-(gt Y d))))
 rwa [G.ass h.vec.1 hp (G.invV hp), G.mul_inv hp, G.grp.er _ h.vec.1] at h3
theorem Grp.close_step {Q : List Int → Prop} {b q q' : List (List Int)} {R : List Int → Prop} {y : List Int} (A : AddInv P Q (gt b) (y :: q) R) {d : Nat} (hd : d < P.orders.length) (hT : T P d y) (hb : gt b d = []) (hlen : b.length = P.orders.length)
  (k : Int) (hk0 : 0 ≤ k) (hk : (k * gt y d) % gt P.orders d = 1) (hq' : ∀ x, x ∈ q' ↔ x ∈ q ∨ x = y ∨ x = pw P (pw P y k.toNat) (gt P.orders d).toNat ∨ x ∈ comsR P b (pw P y k.toNat) P.orders.length) :
  ∃ R', AddInv P Q (gt (b.set d (pw P y k.toNat))) q' R' := by
 obtain ⟨hz, hz1⟩ := G.lead_one hd hT k hk0 hk
 refine ⟨_, G.addInv_insert A hd hT hb hz hz1 (fun K S h => S.pw h _) (fun e he => ?_) (fun x hx => ?_) (fun x hx => ?_) (fun e he hbe => .inr ?_)⟩
 ·by_cases h : e = d
  ·subst h; rw [if_pos rfl, gt_set_eq _ _ _ (by omega)]
  ·rw [if_neg h, gt_set_ne _ _ _ _ (fun h2 => h h2.symm)]
 ·rcases (hq' x).1 hx with h | h | h | h
  ·exact .inl h
  ·exact .inr (.inl h)
  ·exact .inr (.inr (.inr (.inl h)))
  ·obtain ⟨e, h1, h2, h3⟩ := mem_comsR.1 h
   exact .inr (.inr (.inr (.inr ⟨e, h1, h2, .inr h3⟩)))
 ·rw [hq']
  rcases hx with h | h | h
  ·exact .inl h
  ·exact .inr (.inl h)
  ·exact .inr (.inr (.inl h))
 ·rw [hq']
  exact .inr (.inr (.inr (mem_comsR.2 ⟨e, he, hbe, rfl⟩)))
theorem Grp.fullTo_zero {r : Nat → List Int} {m : Nat} {X : List Int} (hX : Vec P.orders X) : FullTo P r m X m X :=
 ⟨hX, fun i h1 h2 => by omega, fun K S _ => by rw [G.inv_mul hX]; exact S.one, fun _ _ => rfl⟩
omit G in
theorem FullTo.skip {r : Nat → List Int} {m e : Nat} {X Y : List Int} (h : FullTo P r m X e Y) (h0 : r e = [] ∨ gt Y e = 0) : FullTo P r m X (e + 1) Y :=
 ⟨h.vec, fun i h1 h2 hr => by
  rcases Nat.lt_succ_iff_lt_or_eq.1 h2 with h3 | h3
  ·exact h.zer i h1 h3 hr
  ·subst h3; exact h0.elim (fun h => absurd h hr) id, h.cos, h.old⟩
theorem Grp.fullTo_step {r : Nat → List Int} {m e : Nat} {X Y : List Int} (hX : Vec P.orders X) (hme : m ≤ e) (he : e < P.orders.length) (hr : r e ≠ []) (ht : T P e (r e) ∧ gt (r e) e = 1) (h : FullTo P r m X e Y) :
  FullTo P r m X (e + 1) (rMul P Y (pwZ P (r e) (-(gt Y e)))) := by
 have hc := G.right_clear he h.vec ht.1 ht.2
 refine ⟨hc.2.2, fun i h1 h2 hri => ?_, fun K S hK => ?_, fun k hk => by rw [hc.2.1 k (hk e hme he hr)]; exact h.old k hk⟩
 ·rcases Nat.lt_succ_iff_lt_or_eq.1 h2 with h3 | h3
  ·rw [hc.2.1 i h3]; exact h.zer i h1 h3 hri
  ·subst h3; exact hc.1
 ·rw [← G.ass (G.invV hX) h.vec (G.pwZ_vec ht.1.1 _)]
  exact S.mul _ _ (h.cos K S hK) (S.pwZ (hK e hme he hr) _)
omit G in
theorem FullTo.repTo {H : List Int → Prop} {b r : Nat → List Int} {d k : Nat} {X Y : List Int} (h : FullTo P r (d + 1) X P.orders.length Y) (C : CanInv P H b r (d + 1)) (hk : d + 1 + k = P.orders.length) :
  RepTo P (sq r k (d + 1)) X (sq r k (d + 1)).length Y := by
 refine ⟨h.vec, fun j hj => ?_, fun K S hK => h.cos K S (fun i h1 h2 h3 => hK _ (mem_sq.2 ⟨i, h1, by omega, h3, rfl⟩)), fun j hj => h.old j (fun i h1 h2 h3 => by
  have := hj _ (mem_sq.2 ⟨i, h1, by omega, h3, rfl⟩)
  rwa [C.dep h1 h2 h3] at this)⟩
 obtain ⟨e, h1, h2, h3, h4⟩ := mem_sq.1 (gtMem hj)
 rw [h4, C.dep h1 (by omega) h3]
 exact h.zer e h1 (by omega) h3
end
end Go.Proofs.YtdklekdpdbjfiaaGreat

/- Plain: generated subgroups of sets; intersections. -/
namespace Go.Proofs.YtdklekdpdbjfiaaGreat
theorem genP_self {P : Pr} {H : List Int → Prop} (S : Sub P H) : genP P H = H :=
 funext fun _ => propext ⟨fun h => h H S (fun _ hy => hy), fun h => genP_mem h⟩
theorem genP_or (P : Pr) (Q L : List Int → Prop) : genP P (fun x => genP P Q x ∨ L x) = genP P (fun x => Q x ∨ L x) :=
 funext fun _ => propext ⟨fun h K S hQ => h K S (fun y hy => hy.elim (fun h => h K S (fun z hz => hQ z (.inl hz))) (fun h => hQ y (.inr h))),
  fun h K S hQ => h K S (fun y hy => hy.elim (fun h => hQ y (.inl (genP_mem h))) (fun h => hQ y (.inr h)))⟩
theorem Sub.and {P : Pr} {H K : List Int → Prop} (S : Sub P H) (R : Sub P K) : Sub P (fun x => H x ∧ K x) :=
 ⟨fun _ h => S.vec _ h.1, ⟨S.one, R.one⟩, fun _ _ h k => ⟨S.mul _ _ h.1 k.1, R.mul _ _ h.2 k.2⟩, fun _ h => ⟨S.inv _ h.1, R.inv _ h.2⟩⟩
theorem Grp.genP_none {P : Pr} (G : Grp P) : genP P (fun _ => False) = fun x => x = zeros P.orders.length :=
 funext fun _ => propext ⟨fun h => h _ G.sub_one (fun _ h => h.elim), fun h K S _ => by rw [h]; exact S.one⟩
theorem Grp.genP_cseq {P : Pr} (G : Grp P) {H : List Int → Prop} (S : Sub P H) : genP P (fun x => x ∈ cseq P H) = H := by
 have hm := G.seq_facts S
 have hV : ∀ y, y ∈ cseq P H → Vec P.orders y := fun y hy => S.vec y (hm.2.1 y hy)
 refine funext fun x => propext ⟨fun h => h H S hm.2.1, fun h => ?_⟩
 exact elsP_sub (G.genP_sub hV) (fun z hz => genP_mem hz) _ (Nat.le_refl _) x ((G.elsP_mem S hm.1 hm.2.1 hm.2.2 x).2 h)
theorem Grp.subB {P : Pr} (G : Grp P) {u : List (List Int)} (h : SubB P u) : Sub P (genP P (fun x => x ∈ u)) := G.genP_sub h.1
theorem Grp.subB_cseq {P : Pr} (G : Grp P) {H : List Int → Prop} (S : Sub P H) : SubB P (cseq P H) :=
 ⟨fun x hx => S.vec x ((G.seq_facts S).2.1 x hx), by rw [G.genP_cseq S]⟩
end Go.Proofs.YtdklekdpdbjfiaaGreat

/- impl.isMember. -/
namespace Go.Proofs.YtdklekdpdbjfiaaGreat
open Go.RowKit
theorem isZeroB_zeros {o l : List Int} (h : Vec o l) : isZeroB l = true ↔ l = zeros o.length := by
 rw [isZeroB_true]
 constructor
 ·intro h0
  refine ext_gt (by rw [h.1]; simp [zeros]) (fun i hi => ?_)
  rw [h0 i hi]; exact (gt_replicate _ _).symm
 ·intro h0 i hi
  rw [h0]; exact gt_replicate _ _
end Go.Proofs.YtdklekdpdbjfiaaGreat

/- impl.conjugates, impl.conjugateSubgroup. -/
namespace Go.Proofs.YtdklekdpdbjfiaaGreat
open Go.RowKit
def conjL (P : Pr) (L : List (List Int)) (X : List Int) : List (List Int) := L.map (fun y => rConj P y X)
set_option maxHeartbeats 1000000 in
theorem conjugates_ok (P : Pr) (G : Grp P) (w : World) (p lv xv : Value) (L : List (List Int)) (X : List Int) (Sp Sr Sx : Nat → Prop) (hp : PresP Sp w p P) (hl : Rows2 Sr w lv L) (hL : ∀ y ∈ L, Vec P.orders y) (hlen : L.length ≤ 10000) (hx : Ints Sx w xv X) (hX : Vec P.orders X) :
  Calls Tryz.prog 198 #[p, lv, xv] w (Ret w fun w' v => RowsO w.heap.size w' v (conjL P L X)) := by
 have hP := G.v
 have hn6 := hP.n6
 obtain ⟨pb, po, rfl⟩ := hp.shape
 obtain ⟨al, capl, rfl, _, _⟩ := Sl.shape hl
 obtain ⟨ax, capx, rfl, _, _⟩ := hx.shape
 have HL := Lib.hid (And.intro hL hX); clear hL hX
 have hcl : (conjL P L X).length = L.length := by unfold conjL; rw [List.length_map]
 have HCL := Lib.hid hcl; clear hcl
 go_enter Tryz.func198, Tryz.ntmps198
 go_wp2
 go_loopw [7, 12] (fun ov iv wr => ∃ (k : Nat) (v4 : Value), v4 = ov ∧ iv = .int .i64 k ∧ k ≤ L.length ∧ Ext w wr ∧ RowsO w.heap.size wr v4 ((conjL P L X).take k)) (fun _ iv _ => L.length - (intOf iv).toNat)
 case atStart => exact ⟨0, _, rfl, rfl, by omega, Ext.refl _, SlO.nil _ _ _ _⟩
 case round =>
  obtain ⟨k, v4, rfl, rfl, hk, hg, hO⟩ := hrel
  by_cases hlt : k < L.length
  ·have hlt' : (k : Int) < L.length := by omega
   obtain ⟨b, off, a2, cap2, rfl, _, _, hc, hi⟩ := Rows2.at (Rows2.ext hl hg) k hlt
   have hyV := HL.out.1 _ (gtMem hlt)
   have hstep : (conjL P L X).take (k + 1) = (conjL P L X).take k ++ [rConj P (gt L k) X] := by
    rw [take_succ_gt _ k (by rw [HCL.out]; exact hlt)]
    unfold conjL
    rw [gt_map _ _ _ hlt]
   have htl : ((conjL P L X).take k).length ≤ 1000000 := by rw [List.length_take]; have := HCL.out; omega
   have HS := Lib.hid (And.intro hstep hyV); clear hstep hyV
   go_wp2_with fail
   refine Calls.mono (conjugate_ok P hP wr _ _ _ (gt L k) X Sp Sr Sx (hp.ext hg) hi (hx.ext hg) HS.out.2 HL.out.2) ?_
   rintro eC wC ⟨vC, rfl, hgC, hOC⟩
   rw [G.iConj_eq HS.out.2 HL.out.2] at hOC
   have hcV := G.conjV HS.out.2 HL.out.2
   have hYO : OwnIn (From wr.heap.size) wC vC (rConj P (gt L k) X) := OwnIn.of hOC (by rw [hcV.1]; omega) (fun j h1 _ => h1)
   obtain ⟨ay, capy, hvy, _, _⟩ := hYO.ints.shape
   subst hvy
   clear hc hcV
   go_wp2_with (first | (at_builtin; refine wp_app_row rfl _ _ rfl w.heap.size wr wC v4 _ ((conjL P L X).take k) (rConj P (gt L k) X) rfl hO hgC hYO rfl rfl htl hg.size ?_; intro v5 w5 hO5 hg5 hg6; have hgw5 := hO.extw hg (Nat.le_refl _) hg5) | fail)
   go_roundw
   case rel => exact ⟨k + 1, v5, rfl, by go_num, by omega, hgw5, by rw [HS.out.1]; exact hO5⟩
   case measure => simp [intOf]; omega
  ·have hke : k = L.length := by omega
   subst hke
   rw [List.take_of_length_le (by rw [HCL.out]; exact Nat.le_refl _)] at hO
   obtain ⟨az, capz, hvz, _, _⟩ := SlD.shape (hO.toD (by rw [HCL.out]; omega))
   subst hvz
   go_wp2
   go_ret
   exact ⟨_, rfl, hg, hO⟩
set_option maxHeartbeats 400000 in
theorem conjugateSubgroup_ok (P : Pr) (G : Grp P) (w : World) (p lv xv : Value) (L : List (List Int)) (X : List Int) (Sp Sr Sx : Nat → Prop) (hp : PresP Sp w p P) (hl : Rows2 Sr w lv L) (hL : ∀ y ∈ L, Vec P.orders y) (hlen : L.length ≤ 10000) (hx : Ints Sx w xv X) (hX : Vec P.orders X) :
  Calls Tryz.prog 136 #[p, lv, xv] w (Ret w fun w' v => RowsO w.heap.size w' v (cseq P (genP P (fun z => z ∈ conjL P L X)))) := by
 have hcl : (conjL P L X).length = L.length := by unfold conjL; rw [List.length_map]
 have hcon := conjugates_ok P G w p lv xv L X Sp Sr Sx hp hl hL hlen hx hX
 obtain ⟨pb, po, rfl⟩ := hp.shape
 obtain ⟨al, capl, rfl, _, _⟩ := Sl.shape hl
 obtain ⟨ax, capx, rfl, _, _⟩ := hx.shape
 have hCV : ∀ z ∈ conjL P L X, Vec P.orders z := fun z hz => by
  unfold conjL at hz
  obtain ⟨y, hy, rfl⟩ := List.mem_map.1 hz
  exact G.conjV (hL y hy) hX
 have HC := Lib.hid (And.intro hCV hcl); clear hCV hcl
 go_enter Tryz.func136, Tryz.ntmps136
 go_wp2_with fail
 refine Calls.mono hcon ?_
 rintro e1 w1 ⟨v1, rfl, hg1, hO⟩
 clear hcon
 have hR := RowsD.rows (hO.toD (by rw [HC.out.2]; omega))
 obtain ⟨a1, cap1, hv1, _, _⟩ := Sl.shape hR
 subst hv1
 go_wp2_with fail
 refine Calls.mono (generated_ok P G w1 _ _ (conjL P L X) Sp _ (hp.ext hg1) hR HC.out.1 (by rw [HC.out.2]; omega)) ?_
 rintro e2 w2 ⟨v2, rfl, hg2, hO2⟩
 go_wp2
 go_ret
 exact ⟨_, rfl, grown_trans hg1 hg2, hO2.weak hg1.size⟩
end Go.Proofs.YtdklekdpdbjfiaaGreat

/- impl.isNormal. -/
namespace Go.Proofs.YtdklekdpdbjfiaaGreat
open Go.RowKit
end Go.Proofs.YtdklekdpdbjfiaaGreat

/- Plain: the greatest normal subgroup within a subgroup. -/
namespace Go.Proofs.YtdklekdpdbjfiaaGreat
def cjS (P : Pr) (K : List Int → Prop) (g x : List Int) : Prop := ∃ y, K y ∧ x = rConj P y g
section
variable {P : Pr} (G : Grp P)
include G
theorem Grp.conj_zeros {g : List Int} (hg : Vec P.orders g) : rConj P (zeros P.orders.length) g = zeros P.orders.length := by
 unfold rConj
 rw [G.grp.el _ hg, G.inv_mul hg]
theorem Grp.conj_inv {x g : List Int} (hx : Vec P.orders x) (hg : Vec P.orders g) : rConj P (rInv P x) g = rInv P (rConj P x g) := by
 refine G.inv_of (G.conjV hx hg) (G.conjV (G.invV hx) hg) ?_
 rw [← G.conj_hom hx (G.invV hx) hg, G.mul_inv hx, G.conj_zeros hg]
theorem Grp.pull_sub {H : List Int → Prop} (S : Sub P H) {g : List Int} (hg : Vec P.orders g) : Sub P (fun y => Vec P.orders y ∧ H (rConj P y g)) :=
 ⟨fun _ h => h.1, ⟨G.oneV, by rw [G.conj_zeros hg]; exact S.one⟩, fun x y hx hy => ⟨G.mulV hx.1 hy.1, by rw [G.conj_hom hx.1 hy.1 hg]; exact S.mul _ _ hx.2 hy.2⟩,
  fun x hx => ⟨G.invV hx.1, by rw [G.conj_inv hx.1 hg]; exact S.inv _ hx.2⟩⟩
theorem Grp.cj_sub {K : List Int → Prop} (S : Sub P K) {g : List Int} (hg : Vec P.orders g) : Sub P (cjS P K g) := by
 refine ⟨?_, ⟨_, S.one, (G.conj_zeros hg).symm⟩, ?_, ?_⟩
 ·rintro x ⟨y, hy, rfl⟩; exact G.conjV (S.vec y hy) hg
 ·rintro x x' ⟨y, hy, rfl⟩ ⟨y', hy', rfl⟩
  exact ⟨_, S.mul _ _ hy hy', (G.conj_hom (S.vec y hy) (S.vec y' hy') hg).symm⟩
 ·rintro x ⟨y, hy, rfl⟩
  exact ⟨_, S.inv _ hy, (G.conj_inv (S.vec y hy) hg).symm⟩
theorem Grp.genP_conjL {K : List Int → Prop} (S : Sub P K) {g : List Int} (hg : Vec P.orders g) : genP P (fun z => z ∈ conjL P (cseq P K) g) = cjS P K g := by
 have hf := (G.seq_facts S).2.1
 have hV : ∀ z, z ∈ conjL P (cseq P K) g → Vec P.orders z := fun z hz => by
  unfold conjL at hz
  obtain ⟨y, hy, rfl⟩ := List.mem_map.1 hz
  exact G.conjV (S.vec y (hf y hy)) hg
 have S2 := G.genP_sub (Q := fun z => z ∈ conjL P (cseq P K) g) hV
 refine funext fun x => propext ⟨fun h => h _ (G.cj_sub S hg) (fun z hz => ?_), ?_⟩
 ·unfold conjL at hz
  obtain ⟨y, hy, rfl⟩ := List.mem_map.1 hz
  exact ⟨y, hf y hy, rfl⟩
 ·rintro ⟨y, hy, rfl⟩
  have h1 : genP P (fun z => z ∈ cseq P K) y := by rw [G.genP_cseq S]; exact hy
  exact (h1 _ (G.pull_sub S2 hg) (fun z hz => ⟨S.vec z (hf z hz), genP_mem (List.mem_map.2 ⟨z, hz, rfl⟩)⟩)).2
end
end Go.Proofs.YtdklekdpdbjfiaaGreat

/- Plain: a group of order at most 32 has at most 17408 subgroups (a crude bound). -/
namespace Go.Proofs.YtdklekdpdbjfiaaGreat
def vecsO : List Int → List (List Int)
 | [] => [[]]
 | a :: o => (List.range a.toNat).flatMap (fun i : Nat => (vecsO o).map (fun t => (i : Int) :: t))
def prodN' : List Int → Nat
 | [] => 1
 | a :: o => a.toNat * prodN' o
theorem flatMap_len' {α β : Type} (l : List α) (f : α → List β) (n : Nat) (h : ∀ x ∈ l, (f x).length = n) : (l.flatMap f).length = l.length * n := by
 induction l with
 | nil => simp
 | cons a l ih =>
  rw [List.flatMap_cons, List.length_append, h a (List.mem_cons_self ..), ih (fun x hx => h x (List.mem_cons_of_mem _ hx)), List.length_cons, Nat.succ_mul]; omega
theorem vecsO_len : ∀ o, (vecsO o).length = prodN' o
 | [] => rfl
 | a :: o => by
  rw [vecsO, flatMap_len' _ _ (prodN' o) (fun i _ => by rw [List.length_map, vecsO_len o]), List.length_range]; rfl
theorem vecsO_mem : ∀ (o x : List Int), x.length = o.length → (∀ i, i < o.length → 0 ≤ gt x i ∧ gt x i < gt o i) → x ∈ vecsO o
 | [], x, hl, _ => by
  have : x = [] := List.eq_nil_of_length_eq_zero hl
  subst this; simp [vecsO]
 | a :: o, x, hl, h => by
  cases x with
  | nil => simp at hl
  | cons y x =>
   have h0 := h 0 (by simp)
   have e0 : gt (y :: x) 0 = y := rfl
   have e1 : gt (a :: o) 0 = a := rfl
   rw [e0, e1] at h0
   rw [vecsO, List.mem_flatMap]
   refine ⟨y.toNat, List.mem_range.2 (by omega), ?_⟩
   rw [List.mem_map]
   refine ⟨x, vecsO_mem o x (by simpa using hl) (fun i hi => by simpa [gt] using h (i + 1) (by simpa using hi)), by rw [show ((y.toNat : Nat) : Int) = y by omega]⟩
def seqsF (o : List Int) : Nat → List (List (List Int))
 | 0 => [[]]
 | k + 1 => seqsF o k ++ (vecsO (o.drop (o.length - k))).flatMap (fun t => (seqsF o k).map (fun s => (List.replicate (o.length - k - 1) 0 ++ 1 :: t) :: s))
theorem seqsF_len (o : List Int) (k : Nat) : (seqsF o (k + 1)).length = (seqsF o k).length * (1 + prodN' (o.drop (o.length - k))) := by
 rw [seqsF, List.length_append, flatMap_len' _ _ (seqsF o k).length (fun t _ => by rw [List.length_map]), vecsO_len, Nat.mul_add, Nat.mul_one, Nat.mul_comm (prodN' _)]
theorem gt_drop {l : List Int} {k i : Nat} : gt (l.drop k) i = gt l (k + i) := by
 simp [gt]
theorem lead_form {o x : List Int} {d : Nat} (hx : Vec o x) (hd : d < o.length) (h0 : ∀ k, k < d → gt x k = 0) (h1 : gt x d = 1) : x = List.replicate d 0 ++ 1 :: x.drop (d + 1) := by
 have hl := hx.1
 refine ext_gt (by simp; omega) (fun i hi => ?_)
 rcases Nat.lt_trichotomy i d with h | h | h
 ·rw [h0 i h, gt_append_left _ _ _ (by simpa using h), gt_replicate]
 ·subst h
  rw [h1]
  simp [gt]
 ·have e : gt (List.replicate d 0 ++ 1 :: x.drop (d + 1)) i = gt x i := by
   simp only [gt, List.getD_eq_getElem?_getD]
   rw [List.getElem?_append_right (by simp; omega), List.length_replicate]
   obtain ⟨j, hj⟩ : ∃ j, i - d = j + 1 := ⟨i - d - 1, by omega⟩
   rw [hj, List.getElem?_cons_succ, List.getElem?_drop, show d + 1 + j = i by omega]
  exact e.symm
theorem seqsF_mem {o : List Int} : ∀ (k : Nat) (u : List (List Int)), k ≤ o.length → (∀ z ∈ u, Vec o z ∧ o.length - k ≤ dep z ∧ dep z < o.length ∧ gt z (dep z) = 1 ∧ ∀ j, j < dep z → gt z j = 0) →
  (∀ i j, i < j → j < u.length → dep (gt u i) < dep (gt u j)) → u ∈ seqsF o k
 | 0, u, _, h, _ => by
  cases u with
  | nil => simp [seqsF]
  | cons z u => have := h z (List.mem_cons_self ..); omega
 | k + 1, u, hk, h, hs => by
  rw [seqsF, List.mem_append]
  cases u with
  | nil => exact .inl (seqsF_mem k [] (by omega) (fun z hz => by cases hz) (fun i j _ hj => by simp at hj))
  | cons z u =>
   have hz := h z (List.mem_cons_self ..)
   by_cases hd : dep z = o.length - k - 1
   ·refine .inr (List.mem_flatMap.2 ⟨z.drop (dep z + 1), ?_, List.mem_map.2 ⟨u, ?_, ?_⟩⟩)
    ·refine vecsO_mem _ _ (by simp [hz.1.1]; omega) (fun i hi => ?_)
     have hi : i < o.length - (o.length - k) := by simpa using hi
     rw [gt_drop, gt_drop, show dep z + 1 + i = o.length - k + i by omega]
     exact hz.1.2 _ (by omega)
    ·refine seqsF_mem k u (by omega) (fun y hy => ?_) (fun i j hij hj => by simpa [gt] using hs (i + 1) (j + 1) (by omega) (by simpa using hj))
     have hy2 := h y (List.mem_cons_of_mem _ hy)
     obtain ⟨i, hi, hie⟩ := List.getElem_of_mem hy
     have := hs 0 (i + 1) (by omega) (by simpa using hi)
     have e0 : gt (z :: u) 0 = z := rfl
     have e1 : gt (z :: u) (i + 1) = y := by simp [gt, hi, hie]
     rw [e0, e1] at this
     exact ⟨hy2.1, by omega, hy2.2.2.1, hy2.2.2.2⟩
    ·have := lead_form hz.1 hz.2.2.1 hz.2.2.2.2 hz.2.2.2.1
     rw [hd] at this
     rw [hd]
     exact (congrArg (· :: u) this).symm
   ·refine .inl (seqsF_mem k (z :: u) (by omega) (fun y hy => ?_) hs)
    have hy2 := h y hy
    refine ⟨hy2.1, ?_, hy2.2.2.1, hy2.2.2.2⟩
    rcases List.mem_cons.1 hy with rfl | hy'
    ·omega
    ·obtain ⟨i, hi, hie⟩ := List.getElem_of_mem hy'
     have := hs 0 (i + 1) (by omega) (by simpa using hi)
     have e0 : gt (z :: u) 0 = z := rfl
     have e1 : gt (z :: u) (i + 1) = y := by simp [gt, hi, hie]
     rw [e0, e1] at this
     omega
theorem nodup_sub_len {α : Type} : ∀ (l m : List α), l.Nodup → (∀ x ∈ l, x ∈ m) → l.length ≤ m.length
 | [], m, _, _ => by simp
 | a :: l, m, hn, hs => by
  obtain ⟨m1, m2, rfl⟩ := List.append_of_mem (hs a (List.mem_cons_self ..))
  have hn' := List.nodup_cons.1 hn
  have := nodup_sub_len l (m1 ++ m2) hn'.2 (fun x hx => by
   have h1 := hs x (List.mem_cons_of_mem _ hx)
   rw [List.mem_append, List.mem_cons] at h1
   rw [List.mem_append]
   rcases h1 with h1 | h1 | h1
   ·exact .inl h1
   ·subst h1; exact absurd hx hn'.1
   ·exact .inr h1)
  simp only [List.length_append, List.length_cons] at *
  omega
theorem prodN'_pos {o : List Int} (h : ∀ a ∈ o, 2 ≤ a) : 1 ≤ prodN' o := by
 induction o with
 | nil => simp [prodN']
 | cons a o ih =>
  have := ih (fun b hb => h b (List.mem_cons_of_mem _ hb))
  have := h a (List.mem_cons_self ..)
  rw [prodN']
  exact Nat.mul_pos (by omega) (by omega)
def bnd (c : Nat) : Nat := if c < 2 then 1 else if c < 4 then 2 else if c < 8 then 8 else if c < 16 then 64 else if c < 32 then 1024 else 17408
theorem bnd_step : ∀ c, c < 33 → 2 ≤ c → bnd (c / 2) * (1 + c / 2) ≤ bnd c := by decide
theorem bnd_pos (c : Nat) : 1 ≤ bnd c := by
  unfold bnd
  repeat' split
  all_goals omega
theorem seqsF_bound (o : List Int) (h2 : ∀ a ∈ o, 2 ≤ a) (hp : prodN' o ≤ 32) : (seqsF o o.length).length ≤ 17408 := by
 have half : ∀ (l : List Int), (∀ a ∈ l, 2 ≤ a) → ∀ a, 2 ≤ a → prodN' l ≤ prodN' (a :: l) / 2 := fun l _ a ha => by
  rw [prodN', Nat.le_div_iff_mul_le (by omega), Nat.mul_comm]
  exact Nat.mul_le_mul_right _ (by omega)
 have key : ∀ (m : List Int) (c : Nat), (∀ a ∈ m, 2 ≤ a) → prodN' m ≤ c → c ≤ 32 → ∀ pre : List Int, o = pre ++ m → (seqsF o m.length).length ≤ bnd c := by
  intro m
  induction m with
  | nil => intro c _ _ _ pre _; simp [seqsF]; exact bnd_pos c
  | cons a m ih =>
   intro c ha hc h32 pre he
   have ha2 := ha a (List.mem_cons_self ..)
   have hm2 : ∀ b ∈ m, 2 ≤ b := fun b hb => ha b (List.mem_cons_of_mem _ hb)
   have hh := half m hm2 a ha2
   have hpm := prodN'_pos hm2
   have hc2 : prodN' m ≤ c / 2 := Nat.le_trans hh (Nat.div_le_div_right hc)
   have hi := ih (c / 2) hm2 hc2 (by omega) (pre ++ [a]) (by rw [he]; simp)
   have hdr : o.drop (o.length - m.length) = m := by
    rw [he]
    rw [show (pre ++ a :: m).length - m.length = (pre ++ [a]).length by simp; omega, show pre ++ a :: m = (pre ++ [a]) ++ m by simp]
    exact List.drop_left
   rw [List.length_cons, seqsF_len, hdr]
   have h1 : 1 + prodN' m ≤ 1 + c / 2 := by omega
   exact Nat.le_trans (Nat.mul_le_mul hi h1) (bnd_step c (by omega) (by omega))
 exact key o 32 h2 hp (by omega) [] rfl
end Go.Proofs.YtdklekdpdbjfiaaGreat

/- impl.sizeOf. -/
namespace Go.Proofs.YtdklekdpdbjfiaaGreat
open Go.RowKit
def prodU (P : Pr) (U : List (List Int)) : Nat → Int
 | 0 => 1
 | k + 1 => prodU P U k * gt P.orders (dep (gt U k))
theorem prodU_le {P : Pr} (hP : Valid P) {U : List (List Int)} (hU : SeqOk P U) : ∀ k m, k ≤ U.length → (∀ j, j < k → dep (gt U j) < m) → m ≤ P.orders.length → 1 ≤ prodU P U k ∧ prodU P U k ≤ prodTo P.orders m := by
 intro k
 induction k with
 | zero => intro m _ _ hm; exact ⟨by simp [prodU], prodTo_pos m (fun i hi => hP.pos i (by omega))⟩
 | succ k ih =>
  intro m hk hj hm
  have hd := hj k (by omega)
  have hlt : k < U.length := by omega
  obtain ⟨h1, h2⟩ := ih (dep (gt U k)) (by omega) (fun j hj => hU.2 j k hj hlt) (by omega)
  have ho := hP.ord7 (dep (gt U k)) (by omega)
  have h3 : prodU P U k * gt P.orders (dep (gt U k)) ≤ prodTo P.orders (dep (gt U k)) * gt P.orders (dep (gt U k)) := Int.mul_le_mul_of_nonneg_right h2 (by omega)
  have h4 : prodTo P.orders (dep (gt U k) + 1) ≤ prodTo P.orders m := prodTo_mono _ _ (by omega) (fun i hi => hP.pos i (by omega))
  have h5 : 1 * 1 ≤ prodU P U k * gt P.orders (dep (gt U k)) := Int.mul_le_mul h1 (by omega) (by omega) (by omega)
  simp only [prodTo] at h4
  simp only [prodU]
  exact ⟨by omega, by omega⟩
theorem prodU_729 {P : Pr} (hP : Valid P) {U : List (List Int)} (hU : SeqOk P U) (k : Nat) (hk : k ≤ U.length) : 1 ≤ prodU P U k ∧ prodU P U k ≤ 729 := by
 obtain ⟨h1, h2⟩ := prodU_le hP hU k P.orders.length hk (fun j hj => (hU.1 _ (gtMem (by omega))).2.1) (Nat.le_refl _)
 have := hP.le729
 exact ⟨h1, by omega⟩
set_option maxHeartbeats 1000000 in
theorem sizeOf_ok (P : Pr) (hP : Valid P) (w : World) (p uv : Value) (U : List (List Int)) (Sp Su : Nat → Prop) (hp : PresP Sp w p P) (hu : Rows2 Su w uv U) (hU : SeqOk P U) (hl : U.length ≤ 100) :
  Calls Tryz.prog 69 #[p, uv] w (Ret w fun _ v => v = .int .i64 (prodU P U U.length)) := by
 have hn6 := hP.n6
 obtain ⟨pb, po, rfl⟩ := hp.shape
 obtain ⟨ao, capo, hco0, hoi⟩ := hp.ordAt
 obtain ⟨au, capu, rfl, _, _⟩ := Sl.shape hu
 have hUz : ∀ z ∈ U, dep z < z.length := fun z hz => by have := hU.1 z hz; rw [this.1.1]; exact this.2.1
 have HU := Lib.hid hU; clear hU
 go_enter Tryz.func69, Tryz.ntmps69
 go_wp2_with fail
 refine Calls.mono (pivots_ok _ U w Su hu hUz (by omega)) ?_
 rintro e1 w1 ⟨pv, rfl, hg1, hV1⟩
 have hpvs : ∃ az capz, pv = .slice az U.length capz := by
  rcases hV1.form with ⟨h1, h2⟩ | ⟨g, cp, h1, _⟩
  ·have h3 : U.length = 0 := by unfold depV at h2; rw [List.map_eq_nil_iff] at h2; rw [h2]; rfl
   exact ⟨none, 0, by rw [h1, h3]⟩
  ·exact ⟨_, _, by rw [h1]; unfold depV; rw [List.length_map]⟩
 obtain ⟨ap, capp, rfl⟩ := hpvs
 go_wp2
 go_loopw [5, 11] (fun mv iv wr => ∃ i : Nat, mv = .int .i64 (prodU P U i) ∧ iv = .int .i64 i ∧ i ≤ U.length ∧ w1 = wr) (fun _ iv _ => U.length - (intOf iv).toNat)
 case atStart => exact ⟨0, rfl, rfl, by omega, rfl⟩
 case round =>
  obtain ⟨i, rfl, rfl, hi, rfl⟩ := hrel
  by_cases hlt : i < U.length
  ·have hlt' : (i : Int) < U.length := by omega
   have hdi : gt (depV U) i = .int .i64 (dep (gt U i)) := by unfold depV; rw [gt_map _ _ _ hlt]
   have hpf : ∃ g, ap = some ⟨g, 0, none⟩ := by
    rcases hV1.form with ⟨h1, h2⟩ | ⟨g, cp, h1, _⟩
    ·unfold depV at h2; rw [List.map_eq_nil_iff] at h2; rw [h2] at hlt; simp at hlt
    ·simp only [Value.slice.injEq] at h1; exact ⟨g, h1.1⟩
   obtain ⟨gp, rfl⟩ := hpf
   have hcp := hV1.cell i (by unfold depV; rw [List.length_map]; exact hlt)
   rw [hdi] at hcp
   clear hdi
   have hst : prodU P U (i + 1) = prodU P U i * gt P.orders (dep (gt U i)) := rfl
   have hb := prodU_729 hP HU.out (i + 1) hlt
   rw [hst] at hb
   obtain ⟨d, hd⟩ : ∃ d, d = dep (gt U i) := ⟨_, rfl⟩
   rw [← hd] at hcp hst hb
   have hdn : d < P.orders.length := by rw [hd]; exact (HU.out.1 _ (gtMem hlt)).2.1
   clear hd
   have hdn' : (d : Int) < P.orders.length := by omega
   obtain ⟨b, off, rfl, _, _, hco⟩ := Ints.at (hoi.ext hg1) d hdn
   have hc0 := hg1.cell hco0 (by simp)
   have hw : IntKind.i64.wrap (prodU P U i * gt P.orders d) = prodU P U i * gt P.orders d := IntWalk.i64_in _ (by omega)
   have HS := Lib.hid hst; clear hst hb
   go_wp2
   go_roundw
   case rel => exact ⟨i + 1, by rw [HS.out], by go_num, by omega, trivial⟩
   case measure => simp [intOf]; omega
  ·have hie : i = U.length := by omega
   subst hie
   go_wp2
   go_ret
   exact ⟨_, rfl, hg1, rfl⟩
end Go.Proofs.YtdklekdpdbjfiaaGreat

/- Plain: the subgroups of a small group as sets of bits; all of them are found; the ascending list is one. -/
namespace Go.Proofs.YtdklekdpdbjfiaaGreat
open Classical in
noncomputable def maskTo (P : Pr) (H : List Int → Prop) : Nat → Nat
 | 0 => 0
 | k + 1 => if H (elAt P k) then maskTo P H k ||| 2 ^ k else maskTo P H k
noncomputable def msk (P : Pr) (H : List Int → Prop) : Nat := maskTo P H (ordP P).toNat
theorem bit_pow (k t : Nat) : (2 ^ k).testBit t = decide (k = t) := by
 by_cases h : k = t
 ·subst h; simp
 ·simp [Nat.testBit_two_pow_of_ne h, h]
theorem maskTo_bit (P : Pr) (H : List Int → Prop) (k t : Nat) : (maskTo P H k).testBit t = true ↔ t < k ∧ H (elAt P t) := by
 induction k with
 | zero => simp [maskTo]
 | succ k ih =>
  rw [maskTo]
  split
  ·rename_i h
   rw [Nat.testBit_or, Bool.or_eq_true, ih, bit_pow, decide_eq_true_iff]
   constructor
   ·rintro (⟨h1, h2⟩ | h1)
    ·exact ⟨by omega, h2⟩
    ·subst h1; exact ⟨by omega, h⟩
   ·rintro ⟨h1, h2⟩
    rcases Nat.lt_succ_iff_lt_or_eq.1 h1 with h3 | h3
    ·exact .inl ⟨h3, h2⟩
    ·exact .inr h3.symm
  ·rename_i h
   rw [ih]
   constructor
   ·rintro ⟨h1, h2⟩; exact ⟨by omega, h2⟩
   ·rintro ⟨h1, h2⟩
    rcases Nat.lt_succ_iff_lt_or_eq.1 h1 with h3 | h3
    ·exact ⟨h3, h2⟩
    ·subst h3; exact absurd h2 h
theorem msk_bit {P : Pr} {H : List Int → Prop} {t : Nat} (ht : t < (ordP P).toNat) : (msk P H).testBit t = true ↔ H (elAt P t) := by
 unfold msk; rw [maskTo_bit]; exact ⟨fun h => h.2, fun h => ⟨ht, h⟩⟩
theorem msk_high {P : Pr} {H : List Int → Prop} {t : Nat} (ht : (ordP P).toNat ≤ t) : (msk P H).testBit t = false := by
 rw [Bool.eq_false_iff]; intro h; unfold msk at h; rw [maskTo_bit] at h; omega
theorem msk_eq {P : Pr} {H : List Int → Prop} {m : Nat} (h1 : ∀ t, t < (ordP P).toNat → (m.testBit t = true ↔ H (elAt P t))) (h2 : ∀ t, (ordP P).toNat ≤ t → m.testBit t = false) : m = msk P H := by
 apply Nat.eq_of_testBit_eq
 intro t
 by_cases ht : t < (ordP P).toNat
 ·exact Bool.eq_iff_iff.2 ((h1 t ht).trans (msk_bit ht).symm)
 ·rw [h2 t (by omega), msk_high (by omega)]
theorem msk_lt (P : Pr) (H : List Int → Prop) : msk P H < 2 ^ (ordP P).toNat := by
 apply Nat.lt_pow_two_of_testBit
 intro t ht
 exact msk_high ht
section
variable {P : Pr} (G : Grp P)
include G
theorem Grp.num_lt {x : List Int} (hx : Vec P.orders x) : (num P x).toNat < (ordP P).toNat ∧ elAt P ((num P x).toNat : Int) = x := by
 have hb := num_bd G.v hx
 refine ⟨by omega, ?_⟩
 rw [show (((num P x).toNat : Nat) : Int) = num P x by omega]; exact elAt_num G.v hx
theorem Grp.msk_mem {H : List Int → Prop} (_hH : ∀ x, H x → Vec P.orders x) {x : List Int} (hx : Vec P.orders x) : (msk P H).testBit (num P x).toNat = true ↔ H x := by
 obtain ⟨h1, h2⟩ := G.num_lt hx
 rw [msk_bit h1, h2]
theorem Grp.msk_inj {H K : List Int → Prop} (S : Sub P H) (R : Sub P K) (h : msk P H = msk P K) : H = K :=
 funext fun x => propext ⟨fun hx => (G.msk_mem R.vec (S.vec x hx)).1 (h ▸ (G.msk_mem S.vec (S.vec x hx)).2 hx), fun hx => (G.msk_mem S.vec (R.vec x hx)).1 (h ▸ (G.msk_mem R.vec (R.vec x hx)).2 hx)⟩
theorem Grp.sub_closed {H : List Int → Prop} (h1 : ∀ x, H x → Vec P.orders x) (h2 : H (zeros P.orders.length)) (h3 : ∀ x y, H x → H y → H (rMul P x y)) : Sub P H := by
 refine ⟨h1, h2, h3, fun x hx => ?_⟩
 have hV := h1 x hx
 obtain ⟨M, hM, hp⟩ := G.fin P.orders.length 0 x (by omega) (T_zero.2 hV)
 have hpw : ∀ k, H (pw P x k) := fun k => by
  induction k with
  | zero => exact h2
  | succ k ih => exact h3 _ _ ih hx
 obtain ⟨m, rfl⟩ : ∃ m, M = m + 1 := ⟨M - 1, by omega⟩
 have e : rInv P x = pw P x m := by
  have hiV := G.invV hV
  have hpV := G.pw_vec hV m
  rw [G.pw_succ' hV] at hp
  rw [← G.grp.er _ hiV, ← hp, ← G.ass hiV hV hpV, G.inv_mul hV, G.grp.el _ hpV]
 rw [e]; exact hpw m
def extP (P : Pr) (H : List Int → Prop) (x : List Int) : List Int → Prop := genP P (fun y => H y ∨ y = x)
omit G in
theorem genP_cons (P : Pr) (y : List Int) (l : List (List Int)) : genP P (fun x => x ∈ y :: l) = extP P (genP P (fun x => x ∈ l)) y := by
 unfold extP
 rw [genP_or]
 congr 1
 funext x
 exact propext (by rw [List.mem_cons]; exact Or.comm)
theorem Grp.all_masks {M : List Nat} (h0 : msk P (fun x => x = zeros P.orders.length) ∈ M)
  (hn : ∀ H, Sub P H → msk P H ∈ M → ∀ t, t < (ordP P).toNat → ¬ H (elAt P t) → msk P (extP P H (elAt P t)) ∈ M) {H : List Int → Prop} (S : Sub P H) : msk P H ∈ M := by
 have key : ∀ l : List (List Int), (∀ x ∈ l, Vec P.orders x) → msk P (genP P (fun x => x ∈ l)) ∈ M := by
  intro l
  induction l with
  | nil =>
   intro _
   have : genP P (fun x => x ∈ ([] : List (List Int))) = fun x => x = zeros P.orders.length := by
    rw [← G.genP_none]; congr 1; funext x; simp
   rw [this]; exact h0
  | cons y l ih =>
   intro h
   have hl := ih (fun x hx => h x (List.mem_cons_of_mem _ hx))
   have hy := h y (List.mem_cons_self ..)
   have Sl := G.genP_sub (Q := fun x => x ∈ l) (fun x hx => h x (List.mem_cons_of_mem _ hx))
   rw [genP_cons]
   by_cases hin : genP P (fun x => x ∈ l) y
   ·have : extP P (genP P (fun x => x ∈ l)) y = genP P (fun x => x ∈ l) := by
     unfold extP
     have e : (fun z => genP P (fun x => x ∈ l) z ∨ z = y) = genP P (fun x => x ∈ l) := funext fun z => propext ⟨fun h => h.elim id (fun e => e ▸ hin), .inl⟩
     rw [e]; exact genP_self Sl
    rw [this]; exact hl
   ·obtain ⟨h1, h2⟩ := G.num_lt hy
    have := hn _ Sl hl _ h1 (by rw [h2]; exact hin)
    rw [h2] at this; exact this
 have := key (cseq P H) (fun x hx => S.vec x ((G.seq_facts S).2.1 x hx))
 rw [G.genP_cseq S] at this
 exact this
def ofMask (P : Pr) (m : Nat) (x : List Int) : Prop := Vec P.orders x ∧ m.testBit (num P x).toNat = true
theorem Grp.ofMask_msk {H : List Int → Prop} (S : Sub P H) : ofMask P (msk P H) = H :=
 funext fun x => propext ⟨fun h => (G.msk_mem S.vec h.1).1 h.2, fun h => ⟨S.vec x h, (G.msk_mem S.vec (S.vec x h)).2 h⟩⟩
omit G in
theorem prodTo_cons (a : Int) (l : List Int) (k : Nat) : prodTo (a :: l) (k + 1) = a * prodTo l k := by
 induction k with
 | zero => simp [prodTo, gt]
 | succ k ih =>
  rw [prodTo, ih]
  have : gt (a :: l) (k + 1) = gt l k := by simp [gt]
  rw [this, Int.mul_assoc]; rfl
omit G in
theorem prodN'_to : ∀ (l : List Int), (∀ a ∈ l, 0 ≤ a) → ((prodN' l : Nat) : Int) = prodTo l l.length
 | [], _ => rfl
 | a :: l, h => by
  have ih := prodN'_to l (fun b hb => h b (List.mem_cons_of_mem _ hb))
  have ha := h a (List.mem_cons_self ..)
  rw [prodN', List.length_cons, prodTo_cons, Int.natCast_mul, ih, show ((a.toNat : Nat) : Int) = a by omega]
omit G in
theorem prodN'_eq (hP : Valid P) : ((prodN' P.orders : Nat) : Int) = ordP P :=
 prodN'_to _ (fun a ha => by
  obtain ⟨i, hi, rfl⟩ := List.getElem_of_mem ha
  rw [← gt_eq _ _ hi]
  have := (hP.ord7 i hi).1
  omega)
theorem Grp.few_subs (h32 : ordP P ≤ 32) {M : List Nat} (hn : M.Nodup) (hM : ∀ m ∈ M, ∃ H, Sub P H ∧ m = msk P H) : M.length ≤ 17408 := by
 have hP := G.v
 have h2 : ∀ a ∈ P.orders, 2 ≤ a := fun a ha => by
  obtain ⟨i, hi, rfl⟩ := List.getElem_of_mem ha
  rw [← gt_eq _ _ hi]
  exact (hP.ord7 i hi).1
 have hp : prodN' P.orders ≤ 32 := by have := prodN'_eq hP; omega
 have hb := seqsF_bound P.orders h2 hp
 have hnd : (M.map (fun m => cseq P (ofMask P m))).Nodup := by
  refine List.nodup_iff_pairwise_ne.2 ?_
  rw [List.pairwise_map]
  refine (List.nodup_iff_pairwise_ne.1 hn).imp_of_mem (fun {a b} ha hb hne he => hne ?_)
  obtain ⟨H, S, rfl⟩ := hM a ha
  obtain ⟨K, R, rfl⟩ := hM b hb
  rw [G.ofMask_msk S, G.ofMask_msk R] at he
  have : H = K := by rw [← G.genP_cseq S, ← G.genP_cseq R, he]
  rw [this]
 have hsub : ∀ u ∈ M.map (fun m => cseq P (ofMask P m)), u ∈ seqsF P.orders P.orders.length := by
  intro u hu
  obtain ⟨m, hm, rfl⟩ := List.mem_map.1 hu
  obtain ⟨H, S, rfl⟩ := hM m hm
  rw [G.ofMask_msk S]
  have hs := (G.seq_facts S).1
  refine seqsF_mem _ _ (Nat.le_refl _) (fun z hz => ?_) hs.2
  obtain ⟨z1, z2, z3⟩ := hs.1 z hz
  exact ⟨z1, by omega, z2, z3, fun j hj => dep_zero hj⟩
 have := nodup_sub_len _ _ hnd hsub
 rw [List.length_map] at this
 omega
end
def subLt (P : Pr) (u v : List (List Int)) : Prop := prodU P u u.length < prodU P v v.length ∨ (prodU P u u.length = prodU P v v.length ∧ cmpL u.flatten v.flatten < 0)
def LatL (P : Pr) (L : List (List (List Int))) : Prop := L.Pairwise (subLt P) ∧ ∀ u, u ∈ L ↔ SubB P u
theorem subLt_irrefl {P : Pr} {u : List (List Int)} : ¬ subLt P u u := by
 rintro (h | ⟨_, h⟩)
 ·omega
 ·rw [(cmpL_zero _ _).2 rfl] at h; omega
theorem subLt_trans {P : Pr} {u v w : List (List Int)} (h : subLt P u v) (k : subLt P v w) : subLt P u w := by
 unfold subLt at *
 rcases h with h | ⟨h1, h2⟩ <;> rcases k with k | ⟨k1, k2⟩
 ·exact .inl (by omega)
 ·exact .inl (by omega)
 ·exact .inl (by omega)
 ·refine .inr ⟨by omega, ?_⟩
  have h3 := cmpL_le_trans u.flatten v.flatten w.flatten (by omega) (by omega)
  rcases Int.lt_or_eq_of_le h3 with h4 | h4
  ·exact h4
  ·rw [cmpL_zero] at h4
   rw [h4] at h2
   have := cmpL_swap w.flatten v.flatten
   omega
theorem sorted_one {α : Type} {r : α → α → Prop} (hi : ∀ a, ¬ r a a) (ht : ∀ a b c, r a b → r b c → r a c) : ∀ {l m : List α}, l.Pairwise r → m.Pairwise r → (∀ x, x ∈ l ↔ x ∈ m) → l = m
 | [], [], _, _, _ => rfl
 | [], b :: m, _, _, h => by have := (h b).2 (List.mem_cons_self ..); cases this
 | a :: l, [], _, _, h => by have := (h a).1 (List.mem_cons_self ..); cases this
 | a :: l, b :: m, hl, hm, h => by
  have hl' := List.pairwise_cons.1 hl
  have hm' := List.pairwise_cons.1 hm
  have hab : a = b := by
   rcases List.mem_cons.1 ((h a).1 (List.mem_cons_self ..)) with h1 | h1
   ·exact h1
   ·rcases List.mem_cons.1 ((h b).2 (List.mem_cons_self ..)) with h2 | h2
    ·exact h2.symm
    ·exact absurd (ht _ _ _ (hl'.1 b h2) (hm'.1 a h1)) (hi a)
  subst hab
  congr 1
  refine sorted_one hi ht hl'.2 hm'.2 (fun x => ⟨fun hx => ?_, fun hx => ?_⟩)
  ·rcases List.mem_cons.1 ((h x).1 (List.mem_cons_of_mem _ hx)) with h1 | h1
   ·subst h1; exact absurd (hl'.1 _ hx) (hi _)
   ·exact h1
  ·rcases List.mem_cons.1 ((h x).2 (List.mem_cons_of_mem _ hx)) with h1 | h1
   ·subst h1; exact absurd (hm'.1 _ hx) (hi _)
   ·exact h1
theorem LatL.one {P : Pr} {L M : List (List (List Int))} (h : LatL P L) (k : LatL P M) : L = M :=
 sorted_one (fun _ => subLt_irrefl) (fun _ _ _ => subLt_trans) h.1 k.1 (fun u => (h.2 u).trans (k.2 u).symm)
end Go.Proofs.YtdklekdpdbjfiaaGreat

/- Plain: what impl.extendMask and spec.l19Span compute. -/
namespace Go.Proofs.YtdklekdpdbjfiaaGreat
def tb (P : Pr) (a b : Nat) : Nat := (num P (rMul P (elAt P a) (elAt P b))).toNat
def rowB (P : Pr) (m a n : Nat) : Nat → Nat
 | 0 => n
 | b + 1 => if m.testBit b then rowB P m a n b ||| 2 ^ tb P a b else rowB P m a n b
def outA (P : Pr) (N m : Nat) : Nat → Nat
 | 0 => m
 | a + 1 => if m.testBit a then rowB P m a (outA P N m a) N else outA P N m a
theorem rowB_bit (P : Pr) (m a n k t : Nat) : (rowB P m a n k).testBit t = true ↔ n.testBit t = true ∨ ∃ b, b < k ∧ m.testBit b = true ∧ tb P a b = t := by
 induction k with
 | zero => simp [rowB]
 | succ k ih =>
  rw [rowB]
  split
  ·rename_i h
   rw [Nat.testBit_or, Bool.or_eq_true, ih, bit_pow, decide_eq_true_iff]
   constructor
   ·rintro ((h1 | ⟨b, h1, h2, h3⟩) | h1)
    ·exact .inl h1
    ·exact .inr ⟨b, by omega, h2, h3⟩
    ·exact .inr ⟨k, by omega, h, h1⟩
   ·rintro (h1 | ⟨b, h1, h2, h3⟩)
    ·exact .inl (.inl h1)
    ·rcases Nat.lt_succ_iff_lt_or_eq.1 h1 with h4 | h4
     ·exact .inl (.inr ⟨b, h4, h2, h3⟩)
     ·subst h4; exact .inr h3
  ·rename_i h
   rw [ih]
   constructor
   ·rintro (h1 | ⟨b, h1, h2, h3⟩)
    ·exact .inl h1
    ·exact .inr ⟨b, by omega, h2, h3⟩
   ·rintro (h1 | ⟨b, h1, h2, h3⟩)
    ·exact .inl h1
    ·rcases Nat.lt_succ_iff_lt_or_eq.1 h1 with h4 | h4
     ·exact .inr ⟨b, h4, h2, h3⟩
     ·subst h4; exact absurd h2 h
theorem outA_bit (P : Pr) (N m k t : Nat) : (outA P N m k).testBit t = true ↔ m.testBit t = true ∨ ∃ a b, a < k ∧ b < N ∧ m.testBit a = true ∧ m.testBit b = true ∧ tb P a b = t := by
 induction k with
 | zero => simp [outA]
 | succ k ih =>
  rw [outA]
  split
  ·rename_i h
   rw [rowB_bit, ih]
   constructor
   ·rintro ((h1 | ⟨a, b, h1, h2, h3, h4, h5⟩) | ⟨b, h1, h2, h3⟩)
    ·exact .inl h1
    ·exact .inr ⟨a, b, by omega, h2, h3, h4, h5⟩
    ·exact .inr ⟨k, b, by omega, h1, h, h2, h3⟩
   ·rintro (h1 | ⟨a, b, h1, h2, h3, h4, h5⟩)
    ·exact .inl (.inl h1)
    ·rcases Nat.lt_succ_iff_lt_or_eq.1 h1 with h6 | h6
     ·exact .inl (.inr ⟨a, b, h6, h2, h3, h4, h5⟩)
     ·subst h6; exact .inr ⟨b, h2, h4, h5⟩
  ·rename_i h
   rw [ih]
   constructor
   ·rintro (h1 | ⟨a, b, h1, h2, h3, h4, h5⟩)
    ·exact .inl h1
    ·exact .inr ⟨a, b, by omega, h2, h3, h4, h5⟩
   ·rintro (h1 | ⟨a, b, h1, h2, h3, h4, h5⟩)
    ·exact .inl h1
    ·rcases Nat.lt_succ_iff_lt_or_eq.1 h1 with h6 | h6
     ·exact .inr ⟨a, b, h6, h2, h3, h4, h5⟩
     ·subst h6; exact absurd h3 h
structure Btw (P : Pr) (H : List Int → Prop) (x : Nat) (m : Nat) : Prop where
 high : ∀ t, (ordP P).toNat ≤ t → m.testBit t = false
 below : ∀ t, t < (ordP P).toNat → m.testBit t = true → extP P H (elAt P x) (elAt P t)
 above : ∀ t, t < (ordP P).toNat → H (elAt P t) ∨ t = x → m.testBit t = true
theorem le_of_bits {a b : Nat} (h : ∀ t, a.testBit t = true → b.testBit t = true) : a ≤ b := by
 have : a ||| b = b := Nat.eq_of_testBit_eq (fun t => by
  rw [Nat.testBit_or]
  cases hb : b.testBit t with
  | true => simp
  | false =>
   cases ha : a.testBit t with
   | true => rw [h t ha] at hb; cases hb
   | false => rfl)
 rw [← this]; exact Nat.left_le_or
section
variable {P : Pr} (G : Grp P)
include G
theorem Grp.elAtV {t : Nat} (_ht : t < (ordP P).toNat) : Vec P.orders (elAt P t) := elAt_vec G.v _ (by omega)
theorem Grp.num_el {t : Nat} (ht : t < (ordP P).toNat) : (num P (elAt P t)).toNat = t := by
 rw [num_elAt G.v _ (by omega) (by omega)]; omega
theorem Grp.tb_lt {a b : Nat} (ha : a < (ordP P).toNat) (hb : b < (ordP P).toNat) : tb P a b < (ordP P).toNat ∧ elAt P (tb P a b) = rMul P (elAt P a) (elAt P b) :=
 G.num_lt (G.mulV (G.elAtV ha) (G.elAtV hb))
theorem Grp.ext_sub {H : List Int → Prop} (S : Sub P H) {x : List Int} (hx : Vec P.orders x) : Sub P (extP P H x) :=
 G.genP_sub (fun y h => h.elim (S.vec y) (fun e => e ▸ hx))
omit G in
theorem btw_start {H : List Int → Prop} {x : Nat} (hx : x < (ordP P).toNat) : Btw P H x (msk P H ||| 2 ^ x) := by
 refine ⟨fun t ht => ?_, fun t ht h => ?_, fun t ht h => ?_⟩
 ·rw [Nat.testBit_or, msk_high ht, bit_pow, Bool.false_or, decide_eq_false_iff_not]; omega
 ·rw [Nat.testBit_or, Bool.or_eq_true, msk_bit ht, bit_pow, decide_eq_true_iff] at h
  rcases h with h | h
  ·exact genP_mem (.inl h)
  ·subst h; exact genP_mem (.inr rfl)
 ·rw [Nat.testBit_or, Bool.or_eq_true, msk_bit ht, bit_pow, decide_eq_true_iff]
  exact h.imp id (fun e => e.symm)
theorem Grp.btw_next {H : List Int → Prop} (S : Sub P H) {x m : Nat} (hx : x < (ordP P).toNat) (B : Btw P H x m) : Btw P H x (outA P (ordP P).toNat m (ordP P).toNat) := by
 have SE := G.ext_sub S (G.elAtV hx)
 refine ⟨fun t ht => ?_, fun t ht h => ?_, fun t ht h => ?_⟩
 ·rw [Bool.eq_false_iff]
  intro h
  rw [outA_bit] at h
  rcases h with h | ⟨a, b, h1, h2, _, _, h5⟩
  ·rw [B.high t ht] at h; cases h
  ·have := (G.tb_lt h1 h2).1; omega
 ·rw [outA_bit] at h
  rcases h with h | ⟨a, b, h1, h2, h3, h4, h5⟩
  ·exact B.below t ht h
  ·rw [← h5, (G.tb_lt h1 h2).2]
   exact SE.mul _ _ (B.below a h1 h3) (B.below b h2 h4)
 ·rw [outA_bit]; exact .inl (B.above t ht h)
omit G in
theorem outA_le (N m k : Nat) : m ≤ outA P N m k := le_of_bits (fun t h => (outA_bit P N m k t).2 (.inl h))
theorem Grp.btw_end {H : List Int → Prop} (S : Sub P H) {x m : Nat} (hx : x < (ordP P).toNat) (B : Btw P H x m) (he : outA P (ordP P).toNat m (ordP P).toNat = m) : m = msk P (extP P H (elAt P x)) := by
 have hK : Sub P (ofMask P m) := by
  refine G.sub_closed (fun y h => h.1) ⟨G.oneV, ?_⟩ (fun y z hy hz => ⟨G.mulV hy.1 hz.1, ?_⟩)
  ·obtain ⟨h1, h2⟩ := G.num_lt G.oneV
   exact B.above _ h1 (.inl (by rw [h2]; exact S.one))
  ·obtain ⟨y1, y2⟩ := G.num_lt hy.1
   obtain ⟨z1, z2⟩ := G.num_lt hz.1
   have : (outA P (ordP P).toNat m (ordP P).toNat).testBit (tb P (num P y).toNat (num P z).toNat) = true := (outA_bit _ _ _ _ _).2 (.inr ⟨_, _, y1, z1, hy.2, hz.2, rfl⟩)
   rw [he] at this
   unfold tb at this
   rw [y2, z2] at this
   exact this
 have hsub : ∀ y, extP P H (elAt P x) y → ofMask P m y := fun y hy => hy _ hK (fun z hz => by
  rcases hz with hz | hz
  ·have hzV := S.vec z hz
   obtain ⟨h1, h2⟩ := G.num_lt hzV
   exact ⟨hzV, B.above _ h1 (.inl (by rw [h2]; exact hz))⟩
  ·subst hz
   exact ⟨G.elAtV hx, by rw [G.num_el hx]; exact B.above x hx (.inr rfl)⟩)
 refine msk_eq (fun t ht => ⟨B.below t ht, fun h => ?_⟩) B.high
 have := (hsub _ h).2
 rwa [G.num_el ht] at this
omit G in
theorem btw_lt {H : List Int → Prop} {x m : Nat} (B : Btw P H x m) : m < 2 ^ (ordP P).toNat := Nat.lt_pow_two_of_testBit _ (fun t ht => B.high t ht)
end
end Go.Proofs.YtdklekdpdbjfiaaGreat

/- Plain: what spec.l19Span computes: the bits of the subgroup that some elements generate. -/
namespace Go.Proofs.YtdklekdpdbjfiaaGreat
theorem add_bit {m y : Nat} (h : m.testBit y = false) : m + 2 ^ y = m ||| 2 ^ y := by
 have hlo : m % 2 ^ (y + 1) < 2 ^ y := by
  rcases Nat.lt_or_ge (m % 2 ^ (y + 1)) (2 ^ y) with h1 | h1
  ·exact h1
  ·have h2 : m % 2 ^ (y + 1) < 2 ^ (y + 1) := Nat.mod_lt _ (Nat.two_pow_pos _)
   have h3 := Nat.testBit_of_two_pow_le_and_two_pow_add_one_gt h1 h2
   rw [Nat.testBit_mod_two_pow] at h3
   simp [h] at h3
 have e1 := Nat.two_pow_add_eq_or_of_lt hlo 1
 rw [Nat.mul_one] at e1
 have hlt : 2 ^ y + m % 2 ^ (y + 1) < 2 ^ (y + 1) := by
  have e := Nat.pow_succ (n := 2) (m := y)
  omega
 have e2 := Nat.two_pow_add_eq_or_of_lt hlt (m / 2 ^ (y + 1))
 have e3 := Nat.two_pow_add_eq_or_of_lt (Nat.lt_trans hlo (Nat.pow_lt_pow_right (by omega) (Nat.lt_succ_self y))) (m / 2 ^ (y + 1))
 have e4 := Nat.div_add_mod m (2 ^ (y + 1))
 have e5 : m + 2 ^ y = 2 ^ (y + 1) * (m / 2 ^ (y + 1)) + (2 ^ y + m % 2 ^ (y + 1)) := by omega
 rw [e5, e2, e1]
 rw [e4] at e3
 rw [← Nat.or_assoc, Nat.or_comm _ (2 ^ y), Nat.or_assoc, ← e3, Nat.or_comm]
def Bits (m : Nat) (q : List Nat) : Prop := ∀ t, m.testBit t = true ↔ t ∈ q
theorem Bits.app {m y : Nat} {q : List Nat} (h : Bits m q) (hy : ¬ y ∈ q) : Bits (m + 2 ^ y) (q ++ [y]) := fun t => by
 have : m.testBit y = false := by
  rw [Bool.eq_false_iff]; exact fun e => hy ((h y).1 e)
 rw [add_bit this, Nat.testBit_or, Bool.or_eq_true, h t, bit_pow, decide_eq_true_iff, List.mem_append, List.mem_singleton]
 exact or_congr Iff.rfl eq_comm
theorem num_zeros {P : Pr} (_hP : Valid P) : num P (zeros P.orders.length) = 0 := by
 have key : ∀ k, numTo P.orders (zeros P.orders.length) k = 0 := by
  intro k
  induction k with
  | zero => rfl
  | succ k ih =>
   have h0 : gt (zeros P.orders.length) k = 0 := gt_replicate _ _
   simp only [numTo, ih, h0]; simp
 exact key _
def genN (P : Pr) (gs : List Nat) : List Int → Prop := genP P (fun y => ∃ g ∈ gs, y = elAt P g)
structure Spn (P : Pr) (gs q : List Nat) (k i : Nat) : Prop where
 nd : q.Nodup
 rng : ∀ t ∈ q, t < (ordP P).toNat ∧ genN P gs (elAt P t)
 zero : 0 ∈ q
 done : ∀ j, j < k → ∀ g ∈ gs, tb P (gt q j) g ∈ q
 part : ∀ j, j < i → tb P (gt q k) (gt gs j) ∈ q
section
variable {P : Pr} (G : Grp P)
include G
theorem Grp.genN_sub {gs : List Nat} (h : ∀ g ∈ gs, g < (ordP P).toNat) : Sub P (genN P gs) := G.genP_sub (fun _ ⟨g, hg, e⟩ => e ▸ G.elAtV (h g hg))
theorem Grp.el_zero : elAt P ((0 : Nat) : Int) = zeros P.orders.length := by
 have h := G.num_lt G.oneV
 have h0 : num P (zeros P.orders.length) = 0 := num_zeros G.v
 rw [h0] at h
 exact h.2
theorem Grp.spn_start (gs : List Nat) : Spn P gs [0] 0 0 := by
 have hpos := G.v.ordP_pos
 refine ⟨by simp, fun t ht => ?_, by simp, fun j hj => by omega, fun j hj => by omega⟩
 have : t = 0 := by simpa using ht
 subst this
 exact ⟨by omega, by rw [G.el_zero]; intro H S _; exact S.one⟩
omit G in
theorem Spn.len {gs q : List Nat} {k i : Nat} (h : Spn P gs q k i) : q.length ≤ (ordP P).toNat := by
 have := nodup_sub_len q (List.range (ordP P).toNat) h.nd (fun t ht => List.mem_range.2 (h.rng t ht).1)
 simpa using this
omit G in
theorem Spn.next {gs q : List Nat} {k : Nat} (h : Spn P gs q k gs.length) : Spn P gs q (k + 1) 0 :=
 ⟨h.nd, h.rng, h.zero, fun j hj g hg => by
  rcases Nat.lt_succ_iff_lt_or_eq.1 hj with h1 | h1
  ·exact h.done j h1 g hg
  ·subst h1
   obtain ⟨i, hi, rfl⟩ := List.getElem_of_mem hg
   rw [← gt_eq gs i hi]; exact h.part i hi, fun j hj => by omega⟩
omit G in
theorem Spn.skip {gs q : List Nat} {k i : Nat} (h : Spn P gs q k i) (hy : tb P (gt q k) (gt gs i) ∈ q) : Spn P gs q k (i + 1) :=
 ⟨h.nd, h.rng, h.zero, h.done, fun j hj => by
  rcases Nat.lt_succ_iff_lt_or_eq.1 hj with h1 | h1
  ·exact h.part j h1
  ·subst h1; exact hy⟩
theorem Grp.spn_app {gs q : List Nat} {k i : Nat} (h : Spn P gs q k i) (hg : ∀ g ∈ gs, g < (ordP P).toNat) (hk : k < q.length) (hi : i < gs.length) (hy : ¬ tb P (gt q k) (gt gs i) ∈ q) : Spn P gs (q ++ [tb P (gt q k) (gt gs i)]) k (i + 1) := by
 have hqk := h.rng _ (gtMem hk)
 have hgi := hg _ (gtMem hi)
 have htb := G.tb_lt hqk.1 hgi
 have S := G.genN_sub hg
 have hm : ∀ t, t ∈ q → t ∈ q ++ [tb P (gt q k) (gt gs i)] := fun t ht => List.mem_append.2 (.inl ht)
 refine ⟨?_, fun t ht => ?_, hm _ h.zero, fun j hj g hgg => ?_, fun j hj => ?_⟩
 ·rw [List.nodup_append]
  exact ⟨h.nd, by simp, fun a ha b hb => by
   rw [List.mem_singleton.1 hb]; exact fun e => hy (e ▸ ha)⟩
 ·rcases List.mem_append.1 ht with h1 | h1
  ·exact h.rng t h1
  ·rw [List.mem_singleton.1 h1]
   exact ⟨htb.1, by rw [htb.2]; exact S.mul _ _ hqk.2 (genP_mem ⟨_, gtMem hi, rfl⟩)⟩
 ·rw [gt_append_left _ _ _ (by omega)]; exact hm _ (h.done j hj g hgg)
 ·rw [gt_append_left _ _ _ hk]
  rcases Nat.lt_succ_iff_lt_or_eq.1 hj with h1 | h1
  ·exact hm _ (h.part j h1)
  ·subst h1; exact List.mem_append.2 (.inr (List.mem_singleton_self _))
theorem Grp.right_closed {gs : List Nat} (hg : ∀ g ∈ gs, g < (ordP P).toNat) {K : List Int → Prop} (hK : ∀ y, K y → Vec P.orders y) (h1 : K (zeros P.orders.length)) (h2 : ∀ y, K y → ∀ g ∈ gs, K (rMul P y (elAt P g))) : ∀ z, genN P gs z → K z := by
 have S : Sub P (fun z => Vec P.orders z ∧ ∀ y, K y → K (rMul P y z)) := G.sub_closed (fun _ h => h.1) ⟨G.oneV, fun y hy => by rw [G.grp.er _ (hK y hy)]; exact hy⟩
  (fun a b ha hb => ⟨G.mulV ha.1 hb.1, fun y hy => by rw [← G.ass (hK y hy) ha.1 hb.1]; exact hb.2 _ (ha.2 y hy)⟩)
 intro z hz
 have := (hz _ S (fun y ⟨g, hgm, e⟩ => e ▸ ⟨G.elAtV (hg g hgm), fun y hy => h2 y hy g hgm⟩)).2 _ h1
 have hzV := (G.genN_sub hg).vec z hz
 rwa [G.grp.el _ hzV] at this
theorem Grp.spn_end {gs q : List Nat} (hg : ∀ g ∈ gs, g < (ordP P).toNat) (h : Spn P gs q q.length 0) {m : Nat} (hm : Bits m q) : m = msk P (genN P gs) := by
 refine msk_eq (fun t ht => ⟨fun hb => (h.rng t ((hm t).1 hb)).2, fun hz => ?_⟩) (fun t ht => ?_)
 ·have hc := G.right_closed hg (K := fun y => Vec P.orders y ∧ (num P y).toNat ∈ q) (fun _ h => h.1) ⟨G.oneV, by rw [num_zeros G.v]; exact h.zero⟩ (fun y hy g hgm => by
   refine ⟨G.mulV hy.1 (G.elAtV (hg g hgm)), ?_⟩
   obtain ⟨j, hj, hje⟩ := List.getElem_of_mem hy.2
   have := h.done j hj g hgm
   unfold tb at this
   rw [gt_eq q j hj, hje, (G.num_lt hy.1).2] at this
   exact this) _ hz
  rw [G.num_el ht] at hc
  exact (hm t).2 hc.2
 ·rw [Bool.eq_false_iff]
  intro e
  have := (h.rng t ((hm t).1 e)).1
  omega
omit G in
theorem genN_app (gs : List Nat) (t : Nat) : genN P (gs ++ [t]) = extP P (genN P gs) (elAt P t) := by
 unfold genN extP
 rw [genP_or]
 congr 1
 funext y
 exact propext ⟨fun ⟨g, hg, e⟩ => (List.mem_append.1 hg).elim (fun h => .inl ⟨g, h, e⟩) (fun h => .inr (by rw [← List.mem_singleton.1 h]; exact e)), fun h => h.elim (fun ⟨g, hg, e⟩ => ⟨g, List.mem_append.2 (.inl hg), e⟩) (fun e => ⟨t, by simp, e⟩)⟩
theorem Grp.genN_nil : genN P [] = fun x => x = zeros P.orders.length := by
 rw [← G.genP_none]; unfold genN; congr 1; funext y; simp
end
end Go.Proofs.YtdklekdpdbjfiaaGreat

/- Plain: what spec.l19Sequence and l19Insert compute. -/
namespace Go.Proofs.YtdklekdpdbjfiaaGreat
def memL (P : Pr) (m : Nat) : Nat → List (List Int)
 | 0 => []
 | k + 1 => if k ≠ 0 ∧ m.testBit k = true then memL P m k ++ [elAt P k] else memL P m k
theorem memL_mem {P : Pr} {m k : Nat} {x : List Int} : x ∈ memL P m k ↔ ∃ t, t < k ∧ t ≠ 0 ∧ m.testBit t = true ∧ x = elAt P t := by
 induction k with
 | zero => simp [memL]
 | succ k ih =>
  rw [memL]
  split
  ·rename_i h
   rw [List.mem_append, ih, List.mem_singleton]
   constructor
   ·rintro (⟨t, h1, h2⟩ | h1)
    ·exact ⟨t, by omega, h2⟩
    ·exact ⟨k, by omega, h.1, h.2, h1⟩
   ·rintro ⟨t, h1, h2, h3, h4⟩
    rcases Nat.lt_succ_iff_lt_or_eq.1 h1 with h5 | h5
    ·exact .inl ⟨t, h5, h2, h3, h4⟩
    ·subst h5; exact .inr h4
  ·rename_i h
   rw [ih]
   constructor
   ·rintro ⟨t, h1, h2⟩; exact ⟨t, by omega, h2⟩
   ·rintro ⟨t, h1, h2, h3, h4⟩
    rcases Nat.lt_succ_iff_lt_or_eq.1 h1 with h5 | h5
    ·exact ⟨t, h5, h2, h3, h4⟩
    ·subst h5; exact absurd ⟨h2, h3⟩ h
theorem memL_len (P : Pr) (m k : Nat) : (memL P m k).length ≤ k := by
 induction k with
 | zero => simp [memL]
 | succ k ih =>
  rw [memL]
  split
  ·rw [List.length_append, List.length_singleton]; omega
  ·omega
def Fits (P : Pr) (L : List (List Int)) (d : Nat) (x : List Int) : Prop := dep x = d ∧ gt x d = 1 ∧ ∀ e, d < e → e < P.orders.length → (∃ y ∈ L, dep y = e) → gt x e = 0
open Classical in
noncomputable def fitL (P : Pr) (L : List (List Int)) (d : Nat) : List (List Int) := L.filter (fun x => decide (Fits P L d x))
noncomputable def seqTo (P : Pr) (L : List (List Int)) : Nat → List (List Int)
 | 0 => []
 | d + 1 => seqTo P L d ++ fitL P L d
theorem filter_one {α : Type} {l : List α} {p : α → Bool} {a : α} (hn : l.Nodup) (ha : a ∈ l) (h : ∀ x ∈ l, p x = true ↔ x = a) : l.filter p = [a] := by
 induction l with
 | nil => cases ha
 | cons b l ih =>
  have hn' := List.nodup_cons.1 hn
  by_cases hb : b = a
  ·subst hb
   rw [List.filter_cons_of_pos ((h b (List.mem_cons_self ..)).2 rfl)]
   have : l.filter p = [] := List.filter_eq_nil_iff.2 (fun x hx hp => hn'.1 (((h x (List.mem_cons_of_mem _ hx)).1 hp) ▸ hx))
   rw [this]
  ·rw [List.filter_cons_of_neg (fun hp => hb ((h b (List.mem_cons_self ..)).1 hp))]
   exact ih hn'.2 ((List.mem_cons.1 ha).resolve_left (fun e => hb e.symm)) (fun x hx => h x (List.mem_cons_of_mem _ hx))
section
variable {P : Pr} (G : Grp P)
include G
theorem Grp.memL_iff {H : List Int → Prop} (S : Sub P H) {x : List Int} : x ∈ memL P (msk P H) (ordP P).toNat ↔ H x ∧ x ≠ zeros P.orders.length := by
 rw [memL_mem]
 constructor
 ·rintro ⟨t, h1, h2, h3, rfl⟩
  rw [msk_bit h1] at h3
  refine ⟨h3, fun e => h2 ?_⟩
  have h4 := G.num_el h1
  rw [e, num_zeros G.v] at h4
  exact h4.symm
 ·rintro ⟨h1, h2⟩
  have hV := S.vec x h1
  obtain ⟨n1, n2⟩ := G.num_lt hV
  refine ⟨_, n1, fun e => h2 ?_, (G.msk_mem S.vec hV).2 h1, n2.symm⟩
  rw [← n2, e]; exact G.el_zero
theorem Grp.memL_nodup (m : Nat) : ∀ k, k ≤ (ordP P).toNat → (memL P m k).Nodup := by
 intro k
 induction k with
 | zero => intro _; simp [memL]
 | succ k ih =>
  intro hk
  have h1 := ih (by omega)
  rw [memL]
  split
  ·rw [List.nodup_append]
   refine ⟨h1, by simp, fun a ha b hb e => ?_⟩
   rw [List.mem_singleton.1 hb] at e
   obtain ⟨t, t1, _, _, t4⟩ := memL_mem.1 ha
   have e1 := G.num_el (t := t) (by omega)
   have e2 := G.num_el (t := k) (by omega)
   rw [← t4, e] at e1
   omega
  ·exact h1
open Classical in
theorem Grp.fit_one {H : List Int → Prop} (S : Sub P H) {r : Nat → List Int} (A : Red P H r) {d : Nat} (hd : d < P.orders.length) :
  fitL P (memL P (msk P H) (ordP P).toNat) d = if r d = [] then [] else [r d] := by
 have hpiv : ∀ e, e < P.orders.length → ((∃ y ∈ memL P (msk P H) (ordP P).toNat, dep y = e) ↔ r e ≠ []) := fun e he => by
  constructor
  ·rintro ⟨y, hy, rfl⟩
   obtain ⟨y1, _⟩ := (G.memL_iff S).1 hy
   have hV := S.vec y y1
   exact A.piv y y1 _ he (dep_T hV) (dep_ne (by rw [hV.1]; exact he))
  ·intro h
   obtain ⟨m1, m2, m3⟩ := A.mem e he h
   refine ⟨r e, (G.memL_iff S).2 ⟨m1, fun z => ?_⟩, dep_lead he m2 (by rw [m3]; decide)⟩
   rw [z] at m3
   have : gt (zeros P.orders.length) e = 0 := gt_replicate _ _
   rw [this] at m3; cases m3
 unfold fitL
 by_cases hr : r d = []
 ·rw [if_pos hr]
  refine List.filter_eq_nil_iff.2 (fun x hx hp => ?_)
  have hf := of_decide_eq_true hp
  exact (hpiv d hd).1 ⟨x, hx, hf.1⟩ hr
 ·rw [if_neg hr]
  obtain ⟨m1, m2, m3⟩ := A.mem d hd hr
  have hin : r d ∈ memL P (msk P H) (ordP P).toNat := (G.memL_iff S).2 ⟨m1, fun z => by
   rw [z] at m3
   have : gt (zeros P.orders.length) d = 0 := gt_replicate _ _
   rw [this] at m3; cases m3⟩
  refine filter_one (G.memL_nodup _ _ (Nat.le_refl _)) hin (fun x hx => ?_)
  rw [decide_eq_true_iff]
  constructor
  ·rintro ⟨f1, f2, f3⟩
   obtain ⟨x1, _⟩ := (G.memL_iff S).1 hx
   have hV := S.vec x x1
   have hT : T P d x := by rw [← f1]; exact dep_T hV
   have hxn : x ≠ [] := fun e => by rw [e] at f2; cases f2
   have B : Red P H (fun e => if e = d then x else r e) := by
    refine ⟨⟨S, fun e he h => ?_, fun y hy e he hTe h0 => ?_⟩, fun a b hab hb ha hb' => ?_⟩
    ·by_cases hed : e = d
     ·subst hed; simp only [if_pos] at h ⊢; exact ⟨x1, hT, f2⟩
     ·simp only [if_neg hed] at h ⊢; exact A.mem e he h
    ·by_cases hed : e = d
     ·simp only [if_pos hed]; exact hxn
     ·simp only [if_neg hed]; exact A.piv y hy e he hTe h0
    ·by_cases had : a = d
     ·have hbd : b ≠ d := by omega
      simp only [if_pos had, if_neg hbd] at ha hb' ⊢
      exact f3 b (by omega) hb ((hpiv b hb).2 hb')
     ·by_cases hbd : b = d
      ·simp only [if_neg had] at ha ⊢
       rw [hbd]
       exact A.red a d (by omega) hd ha hr
      ·simp only [if_neg had, if_neg hbd] at ha hb' ⊢
       exact A.red a b hab hb ha hb'
   have := G.red_one B A d hd
   simpa using this
  ·rintro rfl
   have hdep := dep_lead hd m2 (by rw [m3]; decide)
   exact ⟨hdep, m3, fun e he hen hp => A.red d e he hen hr ((hpiv e hen).1 hp)⟩
omit G in
theorem seqOf_app (r : Nat → List Int) (d : Nat) : seqOf (d + 1) r = seqOf d r ++ (if r d = [] then [] else [r d]) := by
 unfold seqOf
 rw [List.range_succ, List.filterMap_append]
 congr 1
 by_cases h : r d = [] <;> simp [h]
theorem Grp.seqTo_eq {H : List Int → Prop} (S : Sub P H) : seqTo P (memL P (msk P H) (ordP P).toNat) P.orders.length = cseq P H := by
 obtain ⟨r, A, he⟩ := G.cseq_spec S
 rw [he]
 have key : ∀ d, d ≤ P.orders.length → seqTo P (memL P (msk P H) (ordP P).toNat) d = seqOf d r := by
  intro d
  induction d with
  | zero => intro _; rfl
  | succ d ih => intro hd; rw [seqTo, ih (by omega), G.fit_one S A (by omega), seqOf_app]
 exact key _ (Nat.le_refl _)
end
theorem flatten_inj {α : Type} {n : Nat} (hn : 0 < n) : ∀ {u v : List (List α)}, (∀ x ∈ u, x.length = n) → (∀ x ∈ v, x.length = n) → u.flatten = v.flatten → u = v
 | [], [], _, _, _ => rfl
 | [], b :: v, _, hv, h => by
  have hb := hv b (List.mem_cons_self ..)
  have := congrArg List.length h
  simp only [List.flatten_nil, List.length_nil, List.flatten_cons, List.length_append] at this
  omega
 | a :: u, [], hu, _, h => by
  have ha := hu a (List.mem_cons_self ..)
  have := congrArg List.length h
  simp only [List.flatten_nil, List.length_nil, List.flatten_cons, List.length_append] at this
  omega
 | a :: u, b :: v, hu, hv, h => by
  have ha := hu a (List.mem_cons_self ..)
  have hb := hv b (List.mem_cons_self ..)
  rw [List.flatten_cons, List.flatten_cons] at h
  obtain ⟨h1, h2⟩ := List.append_inj h (by omega)
  rw [h1, flatten_inj hn (fun x hx => hu x (List.mem_cons_of_mem _ hx)) (fun x hx => hv x (List.mem_cons_of_mem _ hx)) h2]
theorem subLt_total {P : Pr} (G : Grp P) {u v : List (List Int)} (hu : SubB P u) (hv : SubB P v) (hne : u ≠ v) (hn : ¬ subLt P u v) : subLt P v u := by
 unfold subLt at *
 by_cases h1 : prodU P u u.length = prodU P v v.length
 ·refine .inr ⟨h1.symm, ?_⟩
  have h2 : ¬ cmpL u.flatten v.flatten < 0 := fun h => hn (.inr ⟨h1, h⟩)
  have h3 : cmpL u.flatten v.flatten ≠ 0 := fun h => by
   rw [cmpL_zero] at h
   by_cases hz : P.orders.length = 0
   ·have e1 : u = [] := List.eq_nil_of_length_eq_zero (by have := G.sub_len hu; omega)
    have e2 : v = [] := List.eq_nil_of_length_eq_zero (by have := G.sub_len hv; omega)
    exact hne (e1.trans e2.symm)
   ·exact hne (flatten_inj (n := P.orders.length) (by omega) (fun x hx => (hu.1 x hx).1) (fun x hx => (hv.1 x hx).1) h)
  have := cmpL_swap u.flatten v.flatten
  omega
 ·refine .inl ?_
  have : ¬ prodU P u u.length < prodU P v v.length := fun h => hn (.inl h)
  omega
structure Ins (P : Pr) (L : List (List (List Int))) (u : List (List Int)) (k : Nat) (out : List (List (List Int))) (placed : Bool) : Prop where
 new : ∀ j, j < k → gt L j ≠ u
 no : placed = false → out = L.take k ∧ ∀ j, j < k → ¬ subLt P u (gt L j)
 yes : placed = true → ∃ p, p < k ∧ out = L.take p ++ u :: (L.take k).drop p ∧ subLt P u (gt L p) ∧ ∀ j, j < p → ¬ subLt P u (gt L j)
theorem ins_end {P : Pr} (G : Grp P) {L : List (List (List Int))} {u : List (List Int)} (hL : L.Pairwise (subLt P)) (hS : ∀ v ∈ L, SubB P v) (hu : SubB P u) {out : List (List (List Int))} {placed : Bool} (I : Ins P L u L.length out placed) :
  ∀ R, R = (if placed then out else out ++ [u]) → R.Pairwise (subLt P) ∧ ∀ v, v ∈ R ↔ v ∈ L ∨ v = u := by
 rintro R rfl
 have hnew : ∀ v ∈ L, v ≠ u := fun v hv => by
  obtain ⟨j, hj, rfl⟩ := List.getElem_of_mem hv
  rw [← gt_eq L j hj]; exact I.new j hj
 cases placed with
 | false =>
  obtain ⟨h1, h2⟩ := I.no rfl
  rw [List.take_length] at h1
  subst h1
  rw [if_neg (by decide)]
  refine ⟨List.pairwise_append.2 ⟨hL, by simp, fun v hv w hw => ?_⟩, fun v => by rw [List.mem_append, List.mem_singleton]⟩
  rw [List.mem_singleton.1 hw]
  obtain ⟨j, hj, hje⟩ := List.getElem_of_mem hv
  have hje2 : gt out j = v := by rw [gt_eq out j hj]; exact hje
  exact subLt_total G hu (hS v hv) (fun e => hnew v hv e.symm) (by rw [← hje2]; exact h2 j hj)
 | true =>
  obtain ⟨p, hp, h1, h2, h3⟩ := I.yes rfl
  rw [List.take_length] at h1
  rw [if_pos rfl, h1]
  have hpl : p < L.length := hp
  have hsplit : L.take p ++ L.drop p = L := List.take_append_drop p L
  have hdrop : L.drop p = gt L p :: L.drop (p + 1) := by rw [List.drop_eq_getElem_cons hpl, gt_eq L p hpl]
  have hL2 := hL
  rw [← hsplit] at hL2
  obtain ⟨q1, q2, q3⟩ := List.pairwise_append.1 hL2
  have hlt : ∀ w ∈ L.drop p, subLt P u w := fun w hw => by
   rw [hdrop] at hw q2
   rcases List.mem_cons.1 hw with rfl | hw'
   ·exact h2
   ·exact subLt_trans h2 ((List.pairwise_cons.1 q2).1 w hw')
  have hgt : ∀ v ∈ L.take p, subLt P v u := fun v hv => by
   have hvL : v ∈ L := List.mem_of_mem_take hv
   obtain ⟨j, hj, hje⟩ := List.getElem_of_mem hv
   have hjp : j < p := by rw [List.length_take] at hj; omega
   have hje2 : gt L j = v := by
    rw [gt_eq L j (by omega), ← hje, List.getElem_take]
   exact subLt_total G hu (hS v hvL) (fun e => hnew v hvL e.symm) (by rw [← hje2]; exact h3 j hjp)
  refine ⟨List.pairwise_append.2 ⟨q1, List.pairwise_cons.2 ⟨hlt, q2⟩, fun v hv w hw => ?_⟩, fun v => ?_⟩
  ·rcases List.mem_cons.1 hw with rfl | hw'
   ·exact hgt v hv
   ·exact q3 v hv w hw'
  ·rw [List.mem_append, List.mem_cons]
   constructor
   ·rintro (h | h | h)
    ·exact .inl (List.mem_of_mem_take h)
    ·exact .inr h
    ·exact .inl (List.mem_of_mem_drop h)
   ·rintro (h | h)
    ·rw [← hsplit] at h
     exact (List.mem_append.1 h).imp id .inr
    ·exact .inr (.inl h)
end Go.Proofs.YtdklekdpdbjfiaaGreat

/- The search for all subgroups: the list of masks that grows. -/
namespace Go.Proofs.YtdklekdpdbjfiaaGreat
open Go.RowKit
structure Fnd (P : Pr) (M : List Nat) (i x : Nat) : Prop where
 nd : M.Nodup
 sub : ∀ m ∈ M, ∃ H, Sub P H ∧ m = msk P H
 one : msk P (fun x => x = zeros P.orders.length) ∈ M
 done : ∀ j, j < i → j < M.length → ∀ t, t < (ordP P).toNat → ∀ H, Sub P H → gt M j = msk P H → ¬ H (elAt P t) → msk P (extP P H (elAt P t)) ∈ M
 part : i < M.length → ∀ t, t < x → t < (ordP P).toNat → ∀ H, Sub P H → gt M i = msk P H → ¬ H (elAt P t) → msk P (extP P H (elAt P t)) ∈ M
noncomputable def mskU (P : Pr) (u : List (List Int)) : Nat := msk P (genP P (fun x => x ∈ u))
section
variable {P : Pr} (G : Grp P)
include G
theorem Grp.fnd_start : Fnd P [msk P (fun x => x = zeros P.orders.length)] 0 0 :=
 ⟨by simp, fun m hm => ⟨_, G.sub_one, by simpa using hm⟩, by simp, fun j hj => by omega, fun _ t ht => by omega⟩
theorem Grp.msk_one : (msk P (fun x => x = zeros P.orders.length)) = 1 := by
 have hP := G.v
 have hpos := hP.ordP_pos
 refine (msk_eq (fun t ht => ?_) (fun t ht => ?_)).symm
 ·rw [show (1 : Nat) = 2 ^ 0 by rfl, bit_pow]
  simp only [decide_eq_true_iff]
  constructor
  ·rintro rfl
   have h1 := elAt_num hP G.oneV
   rw [num_zeros hP] at h1
   exact h1
  ·intro h
   have h1 := num_elAt hP (t : Int) (by omega) (by omega)
   rw [h, num_zeros hP] at h1
   omega
 ·rw [show (1 : Nat) = 2 ^ 0 by rfl, bit_pow]
  simp only [decide_eq_false_iff_not]
  omega
omit G in
theorem Fnd.skip {M : List Nat} {i x : Nat} (F : Fnd P M i x) (h : ∀ H, Sub P H → gt M i = msk P H → x < (ordP P).toNat → H (elAt P x)) : Fnd P M i (x + 1) :=
 ⟨F.nd, F.sub, F.one, F.done, fun hi t ht htN H S e hn => by
  by_cases hx : t < x
  ·exact F.part hi t hx htN H S e hn
  ·obtain rfl : t = x := by omega
   exact absurd (h H S e htN) hn⟩
omit G in
theorem fnd_bit {M : List Nat} {i x : Nat} (F : Fnd P M i x) (hx : x < (ordP P).toNat) (h : (gt M i).testBit x = true) : Fnd P M i (x + 1) :=
 F.skip fun H _ e _ => by rw [e, msk_bit hx] at h; exact h
theorem Grp.fnd_known {M : List Nat} {i x : Nat} (F : Fnd P M i x) {H : List Int → Prop} (S : Sub P H) (e : gt M i = msk P H) (hk : msk P (extP P H (elAt P x)) ∈ M) : Fnd P M i (x + 1) :=
 ⟨F.nd, F.sub, F.one, F.done, fun hi t ht htN K R e' hn => by
  by_cases hx : t < x
  ·exact F.part hi t hx htN K R e' hn
  ·obtain rfl : t = x := by omega
   rw [← G.msk_inj S R (e.symm.trans e')]; exact hk⟩
theorem Grp.fnd_new {M : List Nat} {i x : Nat} (F : Fnd P M i x) (hi : i < M.length) {H : List Int → Prop} (S : Sub P H) (e : gt M i = msk P H) (hx : x < (ordP P).toNat) (hk : ¬ msk P (extP P H (elAt P x)) ∈ M) :
  Fnd P (M ++ [msk P (extP P H (elAt P x))]) i (x + 1) := by
 have SE := G.ext_sub S (G.elAtV hx)
 refine ⟨?_, ?_, List.mem_append_left _ F.one, ?_, ?_⟩
 ·rw [List.nodup_append]
  refine ⟨F.nd, by simp, fun a ha b hb => ?_⟩
  simp only [List.mem_singleton] at hb
  rintro rfl
  rw [hb] at ha; exact hk ha
 ·intro m hm
  rcases List.mem_append.1 hm with h | h
  ·exact F.sub m h
  ·exact ⟨_, SE, by simpa using h⟩
 ·intro j hj hjl t ht K R e' hn
  rw [gt_append_left _ _ _ (by omega)] at e'
  exact List.mem_append_left _ (F.done j hj (by omega) t ht K R e' hn)
 ·intro _ t ht htN K R e' hn
  rw [gt_append_left _ _ _ hi] at e'
  by_cases hx : t < x
  ·exact List.mem_append_left _ (F.part hi t hx htN K R e' hn)
  ·obtain rfl : t = x := by omega
   rw [← G.msk_inj S R (e.symm.trans e')]; exact List.mem_append_right _ (by simp)
omit G in
theorem Fnd.next {M : List Nat} {i x : Nat} (F : Fnd P M i x) (hx : (ordP P).toNat ≤ x) : Fnd P M (i + 1) 0 :=
 ⟨F.nd, F.sub, F.one, fun j hj hjl t ht K R e hn => by
  by_cases hji : j < i
  ·exact F.done j hji hjl t ht K R e hn
  ·obtain rfl : j = i := by omega
   exact F.part hjl t (by omega) ht K R e hn, fun _ t ht => by omega⟩
theorem Grp.fnd_end {M : List Nat} {i : Nat} (F : Fnd P M i 0) (hi : M.length ≤ i) {H : List Int → Prop} (S : Sub P H) : msk P H ∈ M := by
 refine G.all_masks F.one (fun K R hK t ht hn => ?_) S
 obtain ⟨j, hj, e⟩ := mem_gt hK
 exact F.done j (by omega) hj t ht K R e hn
theorem Grp.fnd_len (h32 : ordP P ≤ 32) {M : List Nat} {i x : Nat} (F : Fnd P M i x) : M.length ≤ 17408 := G.few_subs h32 F.nd F.sub
theorem Grp.fnd_list {M : List Nat} {i : Nat} (F : Fnd P M i 0) (hi : M.length ≤ i) :
  (M.map (fun m => cseq P (ofMask P m))).Nodup ∧ ∀ u, u ∈ M.map (fun m => cseq P (ofMask P m)) ↔ SubB P u := by
 constructor
 ·refine List.nodup_iff_pairwise_ne.2 ?_
  rw [List.pairwise_map]
  refine (List.nodup_iff_pairwise_ne.1 F.nd).imp_of_mem (fun {a b} ha hb hne he => hne ?_)
  obtain ⟨H, S, rfl⟩ := F.sub a ha
  obtain ⟨K, R, rfl⟩ := F.sub b hb
  rw [G.ofMask_msk S, G.ofMask_msk R] at he
  have : H = K := by rw [← G.genP_cseq S, ← G.genP_cseq R, he]
  rw [this]
 ·intro u
  constructor
  ·intro hu
   obtain ⟨m, hm, rfl⟩ := List.mem_map.1 hu
   obtain ⟨H, S, rfl⟩ := F.sub m hm
   rw [G.ofMask_msk S]
   exact G.subB_cseq S
  ·intro hu
   have S := G.subB hu
   exact List.mem_map.2 ⟨_, G.fnd_end F hi S, by rw [G.ofMask_msk S]; exact hu.2.symm⟩
theorem Grp.mskU_cseq {H : List Int → Prop} (S : Sub P H) : mskU P (cseq P H) = msk P H := by unfold mskU; rw [G.genP_cseq S]
end
end Go.Proofs.YtdklekdpdbjfiaaGreat

/- Moebius values of a list of masks in ascending order. -/
namespace Go.Proofs.YtdklekdpdbjfiaaGreat
open Go.RowKit
def inM (a b : Nat) : Bool := decide (a &&& b = a)
end Go.Proofs.YtdklekdpdbjfiaaGreat

/- Plain: the list of products, element by element (for impl.elementsOf). -/
namespace Go.Proofs.YtdklekdpdbjfiaaGreat
theorem stepE_len (P : Pr) (u : List Int) (o : Nat) (x : List Int) : (stepE P u o x).length = o := by unfold stepE; simp
theorem flatMap_len (P : Pr) (u : List Int) (o : Nat) (l : List (List Int)) : (l.flatMap (stepE P u o)).length = l.length * o := by
 induction l with
 | nil => simp
 | cons x l ih => rw [List.flatMap_cons, List.length_append, ih, stepE_len, List.length_cons, Nat.add_mul]; omega
theorem elsP_len {P : Pr} (hP : Valid P) {U : List (List Int)} (hU : SeqOk P U) (k : Nat) (hk : k ≤ U.length) : ((elsP P U k).length : Int) = prodU P U k := by
 induction k with
 | zero => simp [elsP, prodU]
 | succ k ih =>
  have ih := ih (by omega)
  have ho := hP.ord7 (dep (gt U k)) (hU.1 _ (gtMem (by omega))).2.1
  simp only [elsP, prodU]
  rw [flatMap_len, Int.natCast_mul, ih, show (((gt P.orders (dep (gt U k))).toNat : Nat) : Int) = gt P.orders (dep (gt U k)) by omega]
end Go.Proofs.YtdklekdpdbjfiaaGreat

/- Moebius values of the lattice: the sum over all subgroups above one; the number of generating lists. -/
namespace Go.Proofs.YtdklekdpdbjfiaaGreat
open Go.RowKit
section
variable {P : Pr} (G : Grp P)
include G
theorem Grp.order_elems {H : List Int → Prop} (S : Sub P H) : prodU P (cseq P H) (cseq P H).length = (elemsIn P H).length := by
 rw [← G.els_sorted S, (sortL_perm _).length_eq]
 exact (elsP_len G.v (G.seq_facts S).1 _ (Nat.le_refl _)).symm
omit G in
theorem elemsIn_nodup {P : Pr} (hP : Valid P) (H : List Int → Prop) : (elemsIn P H).Nodup :=
 List.nodup_iff_pairwise_ne.2 ((elemsIn_asc hP H).imp (fun {a b} h e => by subst e; omega))
theorem Grp.order_le {H K : List Int → Prop} (S : Sub P H) (R : Sub P K) (h : ∀ x, H x → K x) : prodU P (cseq P H) (cseq P H).length ≤ prodU P (cseq P K) (cseq P K).length ∧
  (prodU P (cseq P H) (cseq P H).length = prodU P (cseq P K) (cseq P K).length → ∀ x, K x → H x) := by
 rw [G.order_elems S, G.order_elems R]
 have hP := G.v
 have hH := elemsIn_mem hP S.vec
 have hK := elemsIn_mem hP R.vec
 have hs : ∀ x ∈ elemsIn P H, x ∈ elemsIn P K := fun x hx => (hK x).2 (h x ((hH x).1 hx))
 have h1 := nodup_sub_len _ _ (elemsIn_nodup hP H) hs
 refine ⟨by omega, fun he x hx => Classical.byContradiction fun hn => ?_⟩
 have hn' : (x :: elemsIn P H).Nodup := List.nodup_cons.2 ⟨fun hm => hn ((hH x).1 hm), elemsIn_nodup hP H⟩
 have h2 := nodup_sub_len _ (elemsIn P K) hn' (fun y hy => by
  rcases List.mem_cons.1 hy with rfl | hy
  ·exact (hK _).2 hx
  ·exact hs y hy)
 simp only [List.length_cons] at h2
 omega
theorem Grp.inM_iff {H K : List Int → Prop} (S : Sub P H) (_R : Sub P K) : inM (msk P H) (msk P K) = true ↔ ∀ x, H x → K x := by
 unfold inM
 rw [decide_eq_true_iff]
 constructor
 ·intro h x hx
  obtain ⟨h1, h2⟩ := G.num_lt (S.vec x hx)
  have hb : (msk P H).testBit (num P x).toNat = true := (msk_bit h1).2 (by rw [h2]; exact hx)
  rw [← h, Nat.testBit_and, Bool.and_eq_true] at hb
  have := (msk_bit h1).1 hb.2
  rwa [h2] at this
 ·intro h
  apply Nat.eq_of_testBit_eq
  intro t
  rw [Nat.testBit_and]
  by_cases ht : t < (ordP P).toNat
  ·cases hb : (msk P H).testBit t
   ·rfl
   ·have := (msk_bit (P := P) (H := K) ht).2 (h _ ((msk_bit ht).1 hb))
    rw [this]; rfl
  ·rw [msk_high (by omega)]; rfl
theorem Grp.lat_up {L : List (List (List Int))} (h : LatL P L) {i j : Nat} (hij : i < j) (hj : j < L.length) : inM (mskU P (gt L j)) (mskU P (gt L i)) = false := by
 have hbi := (h.2 _).1 (gt_mem (l := L) (i := i) (by omega))
 have hbj := (h.2 _).1 (gt_mem hj)
 have hlt := List.pairwise_iff_getElem.1 h.1 i j (by omega) hj hij
 rw [← gt_eq L i (by omega), ← gt_eq L j hj] at hlt
 cases hb : inM (mskU P (gt L j)) (mskU P (gt L i)) with
 | false => rfl
 | true =>
  exfalso
  have hin := (G.inM_iff (G.subB hbj) (G.subB hbi)).1 hb
  obtain ⟨h1, h2⟩ := G.order_le (G.subB hbj) (G.subB hbi) hin
  rw [← hbi.2, ← hbj.2] at h1 h2
  rcases hlt with hl | ⟨he, hl⟩
  ·omega
  ·have h3 := h2 he.symm
   have : genP P (fun x => x ∈ gt L j) = genP P (fun x => x ∈ gt L i) := funext fun x => propext ⟨hin x, h3 x⟩
   have e : gt L i = gt L j := by rw [hbi.2, hbj.2, this]
   rw [e, (cmpL_zero _ _).2 rfl] at hl
   omega
theorem Grp.lat_top {L : List (List (List Int))} (h : LatL P L) : 0 < L.length ∧ gt L (L.length - 1) = cseq P (Vec P.orders) := by
 have hw := (h.2 (cseq P (Vec P.orders))).2 (G.subB_cseq G.sub_all)
 obtain ⟨i, hi, he⟩ := mem_gt hw
 refine ⟨by omega, ?_⟩
 by_cases hl : i = L.length - 1
 ·rw [← hl]; exact he
 ·exfalso
  have hbj := (h.2 _).1 (gt_mem (l := L) (i := L.length - 1) (by omega))
  have := G.lat_up h (i := i) (j := L.length - 1) (by omega) (by omega)
  rw [he, G.mskU_cseq G.sub_all] at this
  have h2 := (G.inM_iff (G.subB hbj) G.sub_all).2 (fun x hx => (G.subB hbj).vec x hx)
  unfold mskU at this
  rw [h2] at this; cases this
end
section
variable {P : Pr} (G : Grp P)
include G
end
end Go.Proofs.YtdklekdpdbjfiaaGreat

/- Maps that a call makes, by a general reading: what stands under each key. -/
namespace Go.Proofs.YtdklekdpdbjfiaaGreat
open Go.RowKit
open Go.Maps (Keyed)
structure MapK (κ ν : Type) where
 t : TypeId
 k : TypeId
 e : TypeId
 kv : κ → Value
 kl : κ → Lit
 okK : κ → Prop
 ev : ν → Value
 el : ν → Lit
 okV : ν → Prop
 z : ν
 keyed : Keyed Tryz.prog k
 und : Tryz.prog.underlying t = some (.map k e)
 key : ∀ a, okK a → keyOf Tryz.prog k (kv a) = some (kl a)
 inj : ∀ a c, kl a = kl c → a = c
 isKey : ∀ a, WideAt.IsKeyLit (kl a)
 elem : ∀ x, okV x → plainElem (H := Unit) Tryz.prog e (ev x) = some (.lit (el x), [])
 inv : ∀ v x ps, plainElem (H := Unit) Tryz.prog e v = some (.lit (el x), ps) → v = ev x
 zero : ∀ w, (zeroValue e).run Tryz.prog w = .ok (ev z) w
 okz : okV z
variable {κ ν : Type}
def MapAt (M : MapK κ ν) (w : World) (b : Nat) (f : κ → ν) (m : Nat) : Prop :=
 ∃ (n : Nat) (D : DataW Unit), w.ownsMap Tryz.prog M.k (plainElem Tryz.prog M.e) b n D ∧ n ≤ m ∧ Maps.IsMap D ∧ ∀ a, M.okK a → D.atKey (M.kl a) (.lit (M.el M.z)) = .lit (M.el (f a))
theorem MapAt.made (M : MapK κ ν) (w : World) : MapAt M (w.alloc (.map #[] 0)) w.heap.size (fun _ => M.z) 0 :=
 ⟨0, .map [], World.ownsMap_made _ _ _ _, Nat.le_refl _, Maps.isMap_empty, fun a _ => by simp [WideAt.atKey_none]⟩
theorem MapAt.lt {M : MapK κ ν} {w : World} {b : Nat} {f : κ → ν} {m : Nat} (h : MapAt M w b f m) : b < w.heap.size := by
 obtain ⟨n, D, h, _⟩ := h
 exact h.lt
theorem MapAt.kept {M : MapK κ ν} {w w' : World} {b : Nat} {f : κ → ν} {m : Nat} {r : Option Nat} (h : MapAt M w b f m) (hg : w.grownBy w' r) (hne : some b ≠ r) : MapAt M w' b f m := by
 obtain ⟨n, D, h, h2⟩ := h
 exact ⟨n, D, h.kept hg hne, h2⟩
theorem MapAt.ext {M : MapK κ ν} {w w' : World} {b : Nat} {f : κ → ν} {m : Nat} (h : MapAt M w b f m) (hg : Ext w w') : MapAt M w' b f m := h.kept hg (by simp)
theorem MapAt.le {M : MapK κ ν} {w : World} {b : Nat} {f : κ → ν} {m m' : Nat} (h : MapAt M w b f m) (hm : m ≤ m') : MapAt M w b f m' := by
 obtain ⟨n, D, h, h2, h3⟩ := h
 exact ⟨n, D, h, Nat.le_trans h2 hm, h3⟩
theorem MapAt.look {M : MapK κ ν} {w : World} {b : Nat} {f : κ → ν} {m : Nat} (h : MapAt M w b f m) (a : κ) (ha : M.okK a) :
  (Instr.lookup M.t (.map (some b)) (M.kv a) false).run Tryz.prog w = .ok (M.ev (f a)) w := by
 obtain ⟨n, D, h, _, _, hat⟩ := h
 obtain ⟨v, ps, hrun, hv⟩ := h.lookup M.keyed M.und (M.zero w) (M.elem M.z M.okz) (M.key a ha)
 rw [hat a ha] at hv
 rw [hrun, M.inv _ _ _ hv]
theorem MapAt.update [DecidableEq κ] {M : MapK κ ν} {w : World} {b : Nat} {f : κ → ν} {m : Nat} (h : MapAt M w b f m) (a : κ) (ha : M.okK a) (x : ν) (hx : M.okV x) (hl : m ≤ 1048576) :
  ∃ w', (Instr.mapUpdate M.t (.map (some b)) (M.kv a) (M.ev x)).run Tryz.prog w = .ok () w' ∧ MapAt M w' b (fun c => if c = a then x else f c) (m + 1) ∧ w.grownBy w' (some b) := by
 obtain ⟨n, D, h, hn, hM, hat⟩ := h
 obtain ⟨w', hrun, hown, hg⟩ := h.update M.keyed M.und (by unfold maxLen; omega) (M.key a ha) (M.elem x hx)
 refine ⟨w', hrun, ⟨n + 1, _, hown, by omega, hM.put _ _, ?_⟩, hg⟩
 intro c hc
 by_cases he : c = a
 ·subst he
  rw [Maps.atKey_put_same hM (M.isKey c)]; simp
 ·rw [Maps.atKey_put_other (fun e => he (M.inj _ _ e)), hat c hc]; simp [he]
end Go.Proofs.YtdklekdpdbjfiaaGreat
