/-
  Plain: the list of products, element by element (for impl.elementsOf).
  append of a row that lay there before: the list takes it out of the set of blocks that it avoids.
  [][]int64{row} as a list of the call's own.
  impl.elementsOf.
  Small things of the subgroup statements.
  spec.l19Bits: the mask of a subgroup's sequence.
  Moebius values of the lattice: the sum over all subgroups above one; the number of generating lists.
  spec.l19Full: the lattice by the reference.
  The list of all subgroups as one value; its bounds.
  spec.l19Code, l19All, l19Own.
  The library's sort on a slice that the call has built: any elements of one cell in blocks of their own, any comparison that lays blocks and draws but turns nothing.
  The library's sort at [][][]int64 with the lattice's comparison.
  The members that a mask tells, one after the other.
  The key tells the subgroup.
-/
import Derived.Test.YtdklekdpdbjfiaaGreatK5
import Derived.Test.YtdklekdpdbjfiaaGreatK2
import Derived.Test.YtdklekdpdbjfiaaGreatK4
import Derived.Test.YtdklekdpdbjfiaaGreatK7
import Derived.Test.YtdklekdpdbjfiaaGreatK6
/- Plain: the list of products, element by element (for impl.elementsOf). -/
namespace Go.Proofs.YtdklekdpdbjfiaaGreat

theorem stepE_succ (P : Pr) (u : List Int) (o : Nat) (x : List Int) : stepE P u (o + 1) x = stepE P u o x ++ [rMul P x (pw P u o)] := by
  unfold stepE
  rw [List.range_succ, List.map_append]; rfl

theorem flatMap_take_succ {α β : Type} [Inhabited α] (l : List α) (f : α → List β) (i : Nat) (hi : i < l.length) : (l.take (i + 1)).flatMap f = (l.take i).flatMap f ++ f (gt l i) := by
  rw [take_succ_gt l i hi, List.flatMap_append]; simp

theorem stepE_len (P : Pr) (u : List Int) (o : Nat) (x : List Int) : (stepE P u o x).length = o := by unfold stepE; simp

theorem flatMap_len (P : Pr) (u : List Int) (o : Nat) (l : List (List Int)) : (l.flatMap (stepE P u o)).length = l.length * o := by
  induction l with
  | nil => simp
  | cons x l ih => rw [List.flatMap_cons, List.length_append, ih, stepE_len, List.length_cons, Nat.add_mul]; omega

/-- as many products as the order says -/
theorem elsP_len {P : Pr} (hP : Valid P) {U : List (List Int)} (hU : SeqOk P U) (k : Nat) (hk : k ≤ U.length) : ((elsP P U k).length : Int) = prodU P U k := by
  induction k with
  | zero => simp [elsP, prodU]
  | succ k ih =>
    have ih := ih (by omega)
    have ho := hP.ord7 (dep (gt U k)) (hU.1 _ (gtMem (by omega))).2.1
    simp only [elsP, prodU]
    rw [flatMap_len, Int.natCast_mul, ih, show (((gt P.orders (dep (gt U k))).toNat : Nat) : Int) = gt P.orders (dep (gt U k)) by omega]

theorem Grp.step_mul {P : Pr} (G : Grp P) {x u : List Int} (hx : Vec P.orders x) (hu : Vec P.orders u) (t : Nat) : rMul P (rMul P x (pw P u t)) u = rMul P x (pw P u (t + 1)) := by
  rw [pw_succ, G.ass hx (G.pw_vec hu t) hu]

end Go.Proofs.YtdklekdpdbjfiaaGreat

/- append of a row that lay there before: the list takes it out of the set of blocks that it avoids. -/
namespace Go.Proofs.YtdklekdpdbjfiaaGreat
open Go.RowKit

theorem wp_app_take {ops : Array Oper} {rest : List Oper} {o : Oper} {a : Act} {Q : Exit → Act → World → Prop} {w : World} (hgd : o.guard = none) (s x : Operand)
    (ho : o.op = Op.call { callee := Callee.builtin Builtin.append, args := #[s, x], argTypes := #[23, 23] }) (B : Nat) (A A' F : Nat → Prop) (w0 : World) (v u : Value) (xs : List (List Int)) (y : List Int) (hs : a.eval s = v)
    (hown : SlOA OwnIn 22 B A w0 v xs) (hu : OwnIn F w0 u y) (hF : ∀ k, F k → k < w0.heap.size → A k ∧ B ≤ k) (hA' : ∀ k, A' k → A k ∧ ¬ F k) (hAl : ∀ k, A k → k < w0.heap.size) (hw : w = w0.alloc (.cells #[u] 22))
    (hx : a.eval x = .slice (some ⟨w0.heap.size, 0, none⟩) 1 1) (hlen : xs.length ≤ 1000000) (hbase : B ≤ w0.heap.size)
    (h : ∀ v' w', SlOA OwnIn 22 B A' w' v' (xs ++ [y]) → w0.grownBy w' v.ownBlock → (v'.ownBlock = v.ownBlock ∨ ∀ k, v'.ownBlock = some k → w0.heap.size ≤ k) → wpList Tryz.prog ops Q rest (a.put o.dst v') w') :
    wpList Tryz.prog ops Q (o :: rest) a w := by
  subst hw
  obtain ⟨vs, G, hvl, hO, hG, hd, hE, hr, hr2⟩ := hown
  have hga : Ext w0 (w0.alloc (.cells #[u] 22)) := World.grownBy_alloc _ _ _
  refine wp_app 23 22 (.slice none 0 0) 24 und_rows Tryz.infoRow rfl (by decide) hgd s x ho B v vs hs (hO.kept hga (by cases hv : v.ownBlock <;> simp)) (some ⟨w0.heap.size, 0, none⟩) 1 1 [u] hx rfl (by simp) ?_ ?_ (by simp; omega) (by have := hga.size; omega) ?_
  · intro j hj
    have : j = 0 := by omega
    subst this
    exact ⟨_, _, rfl, by rw [World.cell?_alloc_at _ _ _ _ rfl]; rfl⟩
  · intro u' hu'
    simp at hu'; subst hu'; exact rdOwn.one hu
  · intro v' w' k1 k2 _ k4
    have hg : w0.grownBy w' v.ownBlock := grown_trans (grown_of_ext _ hga) k2
    have hown2 : v'.ownBlock = v.ownBlock ∨ ∀ k, v'.ownBlock = some k → w0.heap.size ≤ k := by
      rcases k4 with h | h
      · exact .inl h
      · refine .inr (fun k hk => ?_)
        rw [h] at hk
        have : (w0.alloc (.cells #[u] 22)).heap.size = k := by simpa using hk
        simp at this
        omega
    have hown : ∀ k, v'.ownBlock = some k → v.ownBlock = some k ∨ w0.heap.size ≤ k := fun k hk => by
      rcases k4 with h | h
      · exact .inl (by rw [← h]; exact hk)
      · rw [h] at hk
        have : (w0.alloc (.cells #[u] 22)).heap.size = k := by simpa using hk
        simp at this
        exact .inr (by omega)
    refine h v' w' ⟨vs ++ [u], fun i k => if i < xs.length then G i k else F k ∧ k < w0.heap.size, by simp [hvl], k1, ?_, ?_, ?_, ?_, ?_⟩ hg hown2
    · intro i k hi hk
      split at hk
      · rename_i hlt
        obtain ⟨a1, a2, a3⟩ := hG i k hlt hk
        exact ⟨a1, fun e => (hown k e).elim a2 (fun h => by omega), Nat.lt_of_lt_of_le a3 hg.size⟩
      · obtain ⟨b1, b2⟩ := hF k hk.1 hk.2
        exact ⟨b2, fun e => (hown k e).elim (fun h => hr2 k h b1) (fun h => by have := hk.2; omega), Nat.lt_of_lt_of_le hk.2 hg.size⟩
    · intro i j k hi hj hk hk'
      simp only [List.length_append, List.length_singleton] at hi hj
      split at hk <;> split at hk'
      · exact hd i j k (by assumption) (by assumption) hk hk'
      · exact absurd (hF k hk'.1 hk'.2).1 (hr i k (by assumption) hk)
      · exact absurd (hF k hk.1 hk.2).1 (hr j k (by assumption) hk')
      · omega
    · intro i hi
      simp only [List.length_append, List.length_singleton] at hi
      by_cases hlt : i < xs.length
      · rw [gt_append_left _ _ _ (by omega), gt_append_left _ _ _ hlt]
        simp only [if_pos hlt]
        exact rdOwn.mono (hE i hlt) (fun k hk hkl => ⟨hk, Nat.lt_of_lt_of_le hkl hg.size, hg.block k hkl (fun e => (hG i k hlt hk).2.1 e.symm)⟩)
      · have hi2 : i = xs.length := by omega
        subst hi2
        rw [gt_concat, ← hvl, gt_concat]
        simp only [hvl, Nat.lt_irrefl, if_false]
        exact rdOwn.mono hu (fun k hk hkl => ⟨⟨hk, hkl⟩, Nat.lt_of_lt_of_le hkl hg.size, hg.block k hkl (fun e => hr2 k e.symm (hF k hk hkl).1)⟩)
    · intro i k hi hk ha
      obtain ⟨c1, c2⟩ := hA' k ha
      split at hk
      · rename_i hlt; exact hr i k hlt hk c1
      · exact c2 hk.1
    · intro k hk ha
      obtain ⟨c1, _⟩ := hA' k ha
      rcases hown k hk with h | h
      · exact hr2 k h c1
      · have := hAl k c1; omega

end Go.Proofs.YtdklekdpdbjfiaaGreat

/- [][]int64{row} as a list of the call's own. -/
namespace Go.Proofs.YtdklekdpdbjfiaaGreat
open Go.RowKit

theorem rowsOne {B : Nat} {w2 : World} {u : Value} {y : List Int} (hu : OwnIn (From B) w2 u y) (hB : B ≤ w2.heap.size) : RowsO B (w2.alloc (.cells #[u] 22)) (.slice (some ⟨w2.heap.size, 0, none⟩) 1 1) [y] := by
  have hga : Ext w2 (w2.alloc (.cells #[u] 22)) := World.grownBy_alloc _ _ _
  refine ⟨[u], fun _ k => B ≤ k ∧ k < w2.heap.size, rfl, World.ownsRow_lit w2 #[u] 1 hB (by decide) rfl, fun i k hi hk => ?_, fun i j k hi hj _ _ => ?_, fun i hi => ?_⟩
  · exact ⟨hk.1, fun e => by have := own_blk e; omega, Nat.lt_of_lt_of_le hk.2 hga.size⟩
  · simp at hi hj; omega
  · have : i = 0 := by simpa using hi
    subst this
    exact rdOwn.mono hu (fun k hk hkl => ⟨⟨hk, hkl⟩, Nat.lt_of_lt_of_le hkl hga.size, hga.block k hkl (by simp)⟩)

end Go.Proofs.YtdklekdpdbjfiaaGreat

/- impl.elementsOf. -/
namespace Go.Proofs.YtdklekdpdbjfiaaGreat
open Go.RowKit

/-- the blocks below m that lie in a set of an index from i on -/
def Rest (m : Nat) (F : Nat → Nat → Prop) (i n : Nat) : Nat → Prop := fun k => k < m ∧ ∃ j, i ≤ j ∧ j < n ∧ F j k

theorem SlOA.nil {α : Type} [Inhabited α] (El : (Nat → Prop) → World → Value → α → Prop) (E B : Nat) (A : Nat → Prop) (w : World) : SlOA El E B A w (.slice none 0 0) ([] : List α) :=
  ⟨[], fun _ _ => False, rfl, World.ownsRow_nil _ _ _ _, by simp, by simp, by simp, by simp, by simp [Value.ownBlock]⟩

set_option maxRecDepth 100000 in
set_option maxHeartbeats 4000000 in
theorem elementsOf_ok (P : Pr) (G : Grp P) (w : World) (p uv : Value) (U : List (List Int)) (Sp Su : Nat → Prop) (hp : PresP Sp w p P) (hu : Rows2 Su w uv U) (hU : SeqOk P U) (hl : U.length ≤ 6) :
    Calls Tryz.prog 157 #[p, uv] w (Ret w fun w' v => RowsO w.heap.size w' v (sortL (elsP P U U.length))) := by
  have hP := G.v
  have hn6 := hP.n6
  obtain ⟨pb, po, rfl⟩ := hp.shape
  obtain ⟨ao, capo, hco0, hoi⟩ := hp.ordAt
  obtain ⟨au, capu, rfl, _, _⟩ := Sl.shape hu
  have hUz : ∀ z ∈ U, dep z < z.length := fun z hz => by have := hU.1 z hz; rw [this.1.1]; exact this.2.1
  have HU := Lib.hid hU; clear hU
  go_enter Tryz.func157, Tryz.ntmps157
  go_wp2_with (first | (at_make; refine wp_make_ints rfl _ _ rfl w.heap.size P.orders.length w.heap.size rfl _ rfl rfl rfl (by omega) (Nat.le_refl _) ?_; intro w1 ho1 hg1 hlt1) | fail)
  have hz1 : OwnIn (From w.heap.size) w1 (.slice (some ⟨w.heap.size, 0, none⟩) P.orders.length P.orders.length) (zeros P.orders.length) := OwnIn.of ho1 (by simp [zeros]; omega) (fun j h1 _ => h1)
  have hO1 := rowsOne hz1 hg1.size
  have hga : Ext w1 (w1.alloc (.cells #[.slice (some ⟨w.heap.size, 0, none⟩) P.orders.length P.orders.length] 22)) := World.grownBy_alloc _ _ _
  have hg2 := grown_trans hg1 hga
  clear ho1 hz1 hga hg1 hlt1
  generalize hw2 : w1.alloc (.cells #[.slice (some ⟨w.heap.size, 0, none⟩) P.orders.length P.orders.length] 22) = w2 at *
  clear hw2
  refine Calls.mono (pivots_ok _ U w2 Su (Rows2.ext hu hg2) hUz (by omega)) ?_
  rintro e3 w3 ⟨pv, rfl, hg3, hV3⟩
  have hg03 := grown_trans hg2 hg3
  have hO3 := SlO.ext rdOwn hO1 hg3
  clear hO1 hg2 hg3 hUz
  have hpvs : ∃ az capz, pv = .slice az U.length capz := by
    rcases hV3.form with ⟨h1, h2⟩ | ⟨g, cp, h1, _⟩
    · have h3 : U.length = 0 := by unfold depV at h2; rw [List.map_eq_nil_iff] at h2; rw [h2]; rfl
      exact ⟨none, 0, by rw [h1, h3]⟩
    · exact ⟨_, _, by rw [h1]; unfold depV; rw [List.length_map]⟩
  obtain ⟨ap, capp, rfl⟩ := hpvs
  go_wp2
  go_loopw [5, 21] (fun ov iv wr => ∃ (k : Nat) (v4 : Value), v4 = ov ∧ iv = .int .i64 k ∧ k ≤ U.length ∧ Ext w3 wr ∧ RowsO w.heap.size wr v4 (elsP P U k)) (fun _ iv _ => U.length - (intOf iv).toNat)
  case atStart => exact ⟨0, _, rfl, rfl, by omega, Ext.refl _, hO3⟩
  case round =>
    clear hO3
    obtain ⟨k, v4, rfl, rfl, hk, hg, hO⟩ := hrel
    have hXl0 := elsP_len hP HU.out k hk
    have hX729 := prodU_729 hP HU.out k hk
    by_cases hlt : k < U.length
    · have hlt' : (k : Int) < U.length := by omega
      have hdi : gt (depV U) k = .int .i64 (dep (gt U k)) := by unfold depV; rw [gt_map _ _ _ hlt]
      have hpf : ∃ g, ap = some ⟨g, 0, none⟩ := by
        rcases hV3.form with ⟨h1, h2⟩ | ⟨g, cp, h1, _⟩
        · unfold depV at h2; rw [List.map_eq_nil_iff] at h2; rw [h2] at hlt; simp at hlt
        · simp only [Value.slice.injEq] at h1; exact ⟨g, h1.1⟩
      obtain ⟨gp, rfl⟩ := hpf
      have hcp3 := hV3.cell k (by unfold depV; rw [List.length_map]; exact hlt)
      rw [hdi] at hcp3
      clear hdi
      have hcp := hg.cell hcp3 (by simp)
      clear hcp3
      obtain ⟨d, hd⟩ : ∃ d, d = dep (gt U k) := ⟨_, rfl⟩
      obtain ⟨z, hz⟩ : ∃ z, z = gt U k := ⟨_, rfl⟩
      have hdn : d < P.orders.length := by rw [hd]; exact (HU.out.1 _ (gtMem hlt)).2.1
      have hzV : Vec P.orders z := by rw [hz]; exact (HU.out.1 _ (gtMem hlt)).1
      obtain ⟨o, ho⟩ : ∃ o, o = (gt P.orders d).toNat := ⟨_, rfl⟩
      have ho7 := hP.ord7 d hdn
      have hoo : gt P.orders d = (o : Int) := by omega
      obtain ⟨X, hX⟩ : ∃ X, X = elsP P U k := ⟨_, rfl⟩
      have hXn : elsP P U (k + 1) = X.flatMap (stepE P z o) := by rw [hX, ho, hd, hz]; rfl
      have hXV : ∀ x ∈ X, Vec P.orders x := by rw [hX]; exact elsP_sub G.sub_all (fun z hz => (HU.out.1 z hz).1) k hk
      rw [← hd] at hcp
      rw [← hX] at hO hXl0
      have hXl : X.length ≤ 729 := by omega
      have hX1 : 1 ≤ X.length := by omega
      clear hXl0 hX729
      obtain ⟨vs, F, hvl, hOv, hF, hFd, hFE⟩ := hO
      obtain ⟨gx, capx, hv4⟩ : ∃ gx capx, v4 = .slice (some ⟨gx, 0, none⟩) X.length capx := by
        rcases hOv.form with ⟨h1, h2⟩ | ⟨g, cp, h1, _⟩
        · rw [h2] at hvl; simp at hvl; omega
        · exact ⟨g, cp, by rw [h1, hvl]⟩
      subst hv4
      have HX := Lib.hid (And.intro hXn (And.intro hXV (And.intro hX (And.intro hd (And.intro hz ho))))); clear hXn hXV hX hd ho
      obtain ⟨wo, rfl⟩ : ∃ wo : World, wo = wr := ⟨_, rfl⟩
      have hgw := grown_trans hg03 hg
      obtain ⟨bo, oo, rfl, _, _, hcod⟩ := Ints.at (hoi.ext hgw) d hdn
      have hc0 := hgw.cell hco0 (by simp)
      obtain ⟨bu, ou, a2, cap2, hau, _, _, hcu, hui⟩ := Rows2.at hu k hlt
      subst hau
      rw [← hz] at hcu hui
      have hcu := hgw.cell hcu (by simp)
      clear hz
      have hdn' : (d : Int) < P.orders.length := by omega
      have HC := Lib.hid (And.intro hc0 (And.intro hcod hcu)); clear hc0 hcod hcu
      go_wp2
      clear hcp
      go_loopw [8, 28] (fun nv jv wr => ∃ (j : Nat) (v5 : Value), v5 = nv ∧ jv = .int .i64 j ∧ j ≤ X.length ∧ Ext wo wr ∧ SlOA OwnIn 22 w.heap.size (Rest wo.heap.size F j X.length) wr v5 ((X.take j).flatMap (stepE P z o)) ∧ Hid (∀ b, v5.ownBlock = some b → wo.heap.size ≤ b)) (fun _ jv _ => X.length - (intOf jv).toNat)
      case atStart => exact ⟨0, _, rfl, rfl, by omega, Ext.refl _, SlOA.nil _ _ _ _ _, Lib.hid (fun b hb => by simp [Value.ownBlock] at hb)⟩
      case round =>
        obtain ⟨j, v5, rfl, rfl, hj, hgm, hA, hob⟩ := hrel
        by_cases hjl : j < X.length
        · have hjl' : (j : Int) < X.length := by omega
          have hxE := hFE j hjl
          obtain ⟨ax, cx, hvx, _, _⟩ := hxE.ints.shape
          have hcx := hgm.cell (hOv.cell j (by omega)) (by simp)
          rw [hvx] at hcx hxE
          have hc0 := hgm.cell HC.out.1 (by simp)
          have hcod := hgm.cell HC.out.2.1 (by simp)
          rw [hoo] at hcod
          have hxV := HX.out.2.1 _ (gtMem hjl)
          have hxe : rMul P (gt X j) (pw P z 0) = gt X j := G.grp.er _ hxV
          have hpl : ((X.take j).flatMap (stepE P z o)).length ≤ 729 * 7 := by
            rw [flatMap_len, List.length_take]
            exact Nat.mul_le_mul (by omega) (by omega)
          have HPL := Lib.hid (And.intro hxV (And.intro hxe hpl)); clear hxV hxe hpl hvx
          obtain ⟨x, hx⟩ : ∃ x, x = gt X j := ⟨_, rfl⟩
          rw [← hx] at hcx hxE HPL
          have HXJ := Lib.hid hx; clear hx
          have hxE2 := rdOwn.mono (F' := F j) hxE (fun b hb hlt => ⟨hb, Nat.lt_of_lt_of_le hlt hgm.size, hgm.block b hlt (by simp)⟩)
          go_wp2
          clear hc0 hcod hcx
          go_loopw [8, 10, 39] (fun nv xv tv wr => ∃ (t : Nat) (v6 : Value) (Y : List Int) (A Fx : Nat → Prop), v6 = nv ∧ tv = .int .i64 t ∧ t ≤ o ∧ Ext wo wr ∧ OwnIn Fx wr xv Y ∧ SlOA OwnIn 22 w.heap.size A wr v6 ((X.take j).flatMap (stepE P z o) ++ stepE P z t x) ∧
              Hid (Y = rMul P x (pw P z t) ∧ (∀ b, Fx b → b < wr.heap.size → A b ∧ w.heap.size ≤ b) ∧ (∀ b, Rest wo.heap.size F (j + 1) X.length b → A b ∧ ¬ Fx b) ∧ (∀ b, A b → b < wr.heap.size) ∧ ∀ b, v6.ownBlock = some b → wo.heap.size ≤ b)) (fun _ _ tv _ => o - (intOf tv).toNat)
          case atStart =>
            refine ⟨0, v5, x, Rest wo.heap.size F j X.length, F j, rfl, rfl, by omega, hgm, hxE2, ?_, Lib.hid ⟨HPL.out.2.1.symm, fun b hb _ => ?_, fun b hb => ?_, fun b hb => Nat.lt_of_lt_of_le hb.1 hgm.size, hob.out⟩⟩
            · unfold stepE; rw [List.range_zero, List.map_nil, List.append_nil]; exact hA
            · obtain ⟨f1, _, f3⟩ := hF j b hjl hb
              exact ⟨⟨f3, j, Nat.le_refl _, hjl, hb⟩, f1⟩
            · obtain ⟨h1, i, h2, h3, h4⟩ := hb
              exact ⟨⟨h1, i, by omega, h3, h4⟩, fun h => by have := hFd i j b h3 hjl h4 h; omega⟩
          case round =>
            clear hxE2 hA hob hxE
            obtain ⟨t, v6, Y, A, Fx, rfl, rfl, ht, hgi, hxv, hA, hH⟩ := hrel
            by_cases htl : t < o
            · have htl' : (t : Int) < o := by omega
              obtain ⟨ay, cy, hvy, _, _⟩ := hxv.ints.shape
              subst hvy
              have hgwr := grown_trans hgw hgi
              have hYV : Vec P.orders Y := by rw [hH.out.1]; exact G.mulV HPL.out.1 (G.pw_vec hzV t)
              have hYn : tv P Y z = rMul P x (pw P z (t + 1)) := by rw [G.tv_eq hYV hzV, hH.out.1, G.step_mul HPL.out.1 hzV]
              have hsl : ((X.take j).flatMap (stepE P z o) ++ stepE P z t x).length ≤ 1000000 := by
                rw [List.length_append, stepE_len]; have := HPL.out.2.2; omega
              have hYV2 := G.mulV HPL.out.1 (G.pw_vec hzV (t + 1))
              have HY := Lib.hid (And.intro hYV (And.intro hYn (And.intro hsl hYV2))); clear hYV hYn hsl hYV2
              have hcur := hgi.cell HC.out.2.2 (by simp)
              go_wp2_with (first | (at_builtin; refine wp_app_take rfl _ _ rfl w.heap.size A (Rest wo.heap.size F (j + 1) X.length) Fx wr v6 _ _ Y rfl hA hxv hH.out.2.1 hH.out.2.2.1 hH.out.2.2.2.1 rfl rfl HY.out.2.2.1 hgwr.size ?_; intro v7 w7 hA7 hg7 hob7; have hcur7 := grown_own hgi hg7 (fun b hb hlt => by have := hH.out.2.2.2.2 b hb; omega); have hcu7 := hcur7.cell HC.out.2.2 (by simp)) | fail)
              have hxv7 : Ints Any w7 (.slice ay Y.length cy) Y := Ints.mono hxv.ints (fun b hb hlt => ⟨trivial, Nat.lt_of_lt_of_le hlt hg7.size, hg7.block b hlt (fun e => by
                obtain ⟨a1, _⟩ := hH.out.2.1 b hb hlt
                exact (hA.avoids b e.symm).1 a1)⟩)
              have hgw7 := grown_trans hgw hcur7
              refine Calls.mono (multiply_ok P hP w7 _ _ _ Y z Sp Any Su (hp.ext hgw7) hxv7 (Ints.ext hui hgw7) HY.out.1 hzV) ?_
              rintro eC wC ⟨vC, rfl, hgC, hOC⟩
              rw [HY.out.2.1] at hOC
              have hOC2 : OwnIn (fun b => w7.heap.size ≤ b ∧ b < wC.heap.size) wC vC (rMul P x (pw P z (t + 1))) := OwnIn.of hOC (by rw [HY.out.2.2.2.1]; omega) (fun j h1 h2 => ⟨h1, h2⟩)
              have hA8 : SlOA OwnIn 22 w.heap.size (fun b => Rest wo.heap.size F (j + 1) X.length b ∨ (w7.heap.size ≤ b ∧ b < wC.heap.size)) wC v7 ((X.take j).flatMap (stepE P z o) ++ stepE P z (t + 1) x) := by
                rw [stepE_succ, ← List.append_assoc, ← hH.out.1]
                exact (hA7.more (fun b hb => hb.elim .inl (fun h => .inr h.1))).ext rdOwn hgC
              have hH2 : Hid ((∀ b, (w7.heap.size ≤ b ∧ b < wC.heap.size) → b < wC.heap.size → (Rest wo.heap.size F (j + 1) X.length b ∨ (w7.heap.size ≤ b ∧ b < wC.heap.size)) ∧ w.heap.size ≤ b) ∧ (∀ b, Rest wo.heap.size F (j + 1) X.length b → (Rest wo.heap.size F (j + 1) X.length b ∨ (w7.heap.size ≤ b ∧ b < wC.heap.size)) ∧ ¬ (w7.heap.size ≤ b ∧ b < wC.heap.size)) ∧
                  (∀ b, Rest wo.heap.size F (j + 1) X.length b ∨ (w7.heap.size ≤ b ∧ b < wC.heap.size) → b < wC.heap.size) ∧ ∀ b, v7.ownBlock = some b → wo.heap.size ≤ b) := by
                refine Lib.hid ⟨fun b hb _ => ⟨.inr hb, by have := hgw7.size; omega⟩, fun b hb => ⟨.inl hb, fun h => by have := hb.1; have := hcur7.size; omega⟩, fun b hb => ?_, fun b hb => ?_⟩
                · rcases hb with h | h
                  · have := h.1; have := hcur7.size; have := hgC.size; omega
                  · exact h.2
                · rcases hob7 with h | h
                  · exact hH.out.2.2.2.2 b (by rw [← h]; exact hb)
                  · have := h b hb; have := hgi.size; omega
              clear hA hH hxv hA7 hob7 hOC hxv7 hcu7 hcur
              go_wp2
              go_roundw
              case rel => exact ⟨t + 1, v7, _, _, _, rfl, by go_num, by omega, grown_trans hcur7 hgC, hOC2, hA8, Lib.hid ⟨rfl, hH2.out⟩⟩
              case measure => simp [intOf]; omega
            · have hte : t = o := by omega
              subst hte
              have hst := flatMap_take_succ X (stepE P z t) j hjl
              rw [← HXJ.out] at hst
              have hA9 : SlOA OwnIn 22 w.heap.size (Rest wo.heap.size F (j + 1) X.length) wr v6 ((X.take (j + 1)).flatMap (stepE P z t)) := by
                rw [hst]; exact hA.less (fun b hb => (hH.out.2.2.1 b hb).1)
              have hob9 := Lib.hid hH.out.2.2.2.2
              clear hst hA hH hxv
              go_wp2
              go_roundw
              case rel => exact ⟨j + 1, v6, rfl, by go_num, by omega, hgi, hA9, hob9⟩
              case measure => simp [intOf]; omega
        · have hje : j = X.length := by omega
          subst hje
          have hO9 : RowsO w.heap.size wr v5 (elsP P U (k + 1)) := by
            rw [HX.out.1]
            have := hA.o
            rw [List.take_length] at this
            exact this
          clear hA hob
          go_wp2
          go_roundw
          case rel => exact ⟨k + 1, v5, rfl, by go_num, by omega, grown_trans hg hgm, hO9⟩
          case measure => simp [intOf]; omega
    · have hke : k = U.length := by omega
      subst hke
      have hne : 0 < (elsP P U U.length).length := by omega
      have hl9 : (elsP P U U.length).length ≤ 1000000 := by omega
      obtain ⟨az, capz, hvz, _, _⟩ := SlD.shape (hO.toD (by omega))
      have HN := Lib.hid (And.intro hne hl9); clear hXl0 hX729 hne hl9
      subst hvz
      go_wp2_with fail
      refine Calls.mono (sortRows_ok wr _ (elsP P U U.length) w.heap.size hO HN.out.1 HN.out.2) ?_
      rintro eS wS ⟨rfl, hOS, hgS⟩
      have hgwS : Ext w wS := grown_own (grown_trans hg03 hg) hgS (fun b hb hlt => by have := (hO.lt b hb).1; omega)
      clear hO
      go_wp2
      go_ret
      exact ⟨_, rfl, hgwS, hOS⟩

end Go.Proofs.YtdklekdpdbjfiaaGreat

/- Small things of the subgroup statements. -/
namespace Go.Proofs.YtdklekdpdbjfiaaGreat
open Go.RowKit

theorem rows3One {S : Nat → Prop} {w : World} {u : Value} {U : List (List Int)} (h : Rows2 S w u U) : Rows3 Any (w.alloc (.cells #[u] 23)) (.slice (some ⟨w.heap.size, 0, none⟩) 1 1) [U] := by
  refine ⟨_, 1, rfl, ⟨by simp, by simp, fun h => by cases h⟩, fun i hi => ?_⟩
  have : i = 0 := by simpa using hi
  subst this
  refine ⟨w.heap.size, 0, u, rfl, trivial, by simp, by rw [World.cell?_alloc_at _ _ _ _ rfl]; rfl, ?_⟩
  exact Rows2.sub (Rows2.ext h (World.grownBy_alloc _ _ _)) (fun _ _ _ => trivial)

theorem elemsIn_len {P : Pr} (hP : Valid P) (H : List Int → Prop) : (elemsIn P H).length ≤ 729 := by
  have h1 := elemsTo_len P H (ordP P).toNat
  rw [elemsTo_all] at h1
  have h2 : ordP P ≤ 729 := hP.le729
  omega

end Go.Proofs.YtdklekdpdbjfiaaGreat

/- spec.l19Bits: the mask of a subgroup's sequence. -/
namespace Go.Proofs.YtdklekdpdbjfiaaGreat
open Go.RowKit

def nums (P : Pr) (E : List (List Int)) : List Nat := E.map (fun x => (num P x).toNat)
theorem nums_take (P : Pr) (E : List (List Int)) (k : Nat) (h : k < E.length) : nums P (E.take (k + 1)) = nums P (E.take k) ++ [(num P (gt E k)).toNat] := by
  unfold nums; rw [take_succ_gt E k h, List.map_append]; rfl

section
variable {P : Pr} (G : Grp P)
include G

theorem Grp.nums_new {H : List Int → Prop} (S : Sub P H) {k : Nat} (hk : k < (elemsIn P H).length) : ¬ (num P (gt (elemsIn P H) k)).toNat ∈ nums P ((elemsIn P H).take k) := by
  intro h
  unfold nums at h
  obtain ⟨x, hx, he⟩ := List.mem_map.1 h
  have hmem := elemsIn_mem G.v S.vec
  obtain ⟨j, hj, rfl⟩ := mem_gt hx
  have hjk : j < k := by rw [List.length_take] at hj; omega
  have hgj : gt ((elemsIn P H).take k) j = gt (elemsIn P H) j := by
    rw [gt_eq _ _ hj, gt_eq _ _ (by omega), List.getElem_take]
  rw [hgj] at he
  have h1 := List.pairwise_iff_getElem.1 (elemsIn_asc G.v H) j k (by omega) hk hjk
  rw [← gt_eq _ _ (by omega), ← gt_eq _ _ hk] at h1
  have b1 := num_bd G.v (S.vec _ ((hmem _).1 (gtMem (l := elemsIn P H) (i := j) (by omega))))
  have b2 := num_bd G.v (S.vec _ ((hmem _).1 (gtMem hk)))
  omega

theorem Grp.nums_all {H : List Int → Prop} (S : Sub P H) {m : Nat} (hm : Bits m (nums P (elemsIn P H))) : m = msk P H := by
  have hmem := elemsIn_mem G.v S.vec
  refine msk_eq (fun t ht => ?_) (fun t ht => ?_)
  · rw [hm t]
    unfold nums
    constructor
    · intro h
      obtain ⟨x, hx, rfl⟩ := List.mem_map.1 h
      have hx2 := (hmem x).1 hx
      rw [(G.num_lt (S.vec x hx2)).2]; exact hx2
    · intro h
      exact List.mem_map.2 ⟨_, (hmem _).2 h, G.num_el ht⟩
  · rw [Bool.eq_false_iff]
    intro e
    have := (hm t).1 e
    unfold nums at this
    obtain ⟨x, hx, rfl⟩ := List.mem_map.1 this
    have := (G.num_lt (S.vec x ((hmem x).1 hx))).1
    omega
end

set_option maxRecDepth 100000 in
set_option maxHeartbeats 4000000 in
theorem l19Bits_ok (P : Pr) (G : Grp P) (w : World) (pv uv : Value) (H : List Int → Prop) (Sp Su : Nat → Prop) (S : Sub P H) (h32 : ordP P ≤ 32) (hpv : PresV Sp w pv P) (hu : Rows2 Su w uv (cseq P H)) :
    Calls Tryz.prog 206 #[pv, uv] w (Ret w fun _ v => v = .int .i64 ((msk P H : Nat) : Int)) := by
  have hP := G.v
  have hn6 := hP.n6
  have hpos := hP.ordP_pos
  obtain ⟨vo, vp, vc, rfl, h3⟩ := hpv
  have hp0 := PresP.box h3 31
  have hg0 : Ext w (w.alloc (.cells #[vo, vp, vc] 31)) := World.grownBy_alloc _ _ _
  have hu0 := Rows2.ext hu hg0
  obtain ⟨au, capu, rfl, _, _⟩ := Sl.shape hu
  obtain ⟨vo6, vp6, vc6, _, _, hc0, hc1, hc2, h36⟩ := hp0.at
  simp only [Nat.zero_add] at hc1 hc2
  have hbx : ∀ w', Ext (w.alloc (.cells #[vo, vp, vc] 31)) w' → w'.cell? ⟨w.heap.size, 0, none⟩ = some vo6 ∧ w'.cell? ⟨w.heap.size, 1, none⟩ = some vp6 ∧ w'.cell? ⟨w.heap.size, 2, none⟩ = some vc6 := fun w' h => ⟨h.cell hc0 (by simp), h.cell hc1 (by simp), h.cell hc2 (by simp)⟩
  have HB := Lib.hid hbx; clear hbx hp0 hu
  have hE := l12Elements_ok P G (w.alloc (.cells #[vo, vp, vc] 31)) _ _ H Any Su S ⟨_, _, _, rfl, h36⟩ hu0
  obtain ⟨E, hEe⟩ : ∃ E, E = elemsIn P H := ⟨_, rfl⟩
  have hEl : E.length ≤ 729 := by rw [hEe]; exact elemsIn_len hP H
  rw [← hEe] at hE
  have HE := Lib.hid hEe; clear hEe
  go_enter Tryz.func206, Tryz.ntmps206
  go_wp2_with fail
  clear hc0 hc1 hc2
  generalize hw0 : w.alloc (.cells #[vo, vp, vc] 31) = w0 at *
  clear hw0
  refine Calls.mono hE ?_
  rintro e1 w1 ⟨v1, rfl, hg1, hO⟩
  clear hE
  have hER := RowsD.rows (hO.toD (by omega))
  obtain ⟨ae, cape, hve, _, _⟩ := Sl.shape hER
  subst hve
  have hER1 : Rows2 Any w1 (.slice ae E.length cape) E := Rows2.sub hER (fun _ _ _ => trivial)
  clear hO hER
  go_wp2
  go_loopw [6, 7] (fun mv iv wr => ∃ (i m : Nat), mv = .int .i64 (m : Int) ∧ iv = .int .i64 i ∧ i ≤ E.length ∧ Ext w1 wr ∧ Hid (Bits m (nums P (E.take i)))) (fun _ iv _ => E.length - (intOf iv).toNat)
  case atStart => exact ⟨0, 0, rfl, rfl, by omega, Ext.refl _, Lib.hid (fun t => by simp [nums])⟩
  case round =>
    obtain ⟨i, m, rfl, rfl, hi, hg, hM⟩ := hrel
    have hg0r := grown_trans hg1 hg
    by_cases hlt : i < E.length
    · have hlt' : (i : Int) < E.length := by omega
      obtain ⟨bb, off, a2, cap2, rfl, _, _, hc, hr⟩ := Rows2.at hER1 i hlt
      have hcr := hg.cell hc (by simp)
      have hXV : Vec P.orders (gt E i) := S.vec _ ((elemsIn_mem hP S.vec _).1 (by rw [← HE.out]; exact gtMem hlt))
      have hnew : ¬ (num P (gt E i)).toNat ∈ nums P (E.take i) := by rw [HE.out]; exact G.nums_new S (by rw [← HE.out]; exact hlt)
      have hstep := nums_take P E i hlt
      have hm32 : m < 4294967296 := by
        have h1 : m < 2 ^ (ordP P).toNat := Nat.lt_pow_two_of_testBit _ (fun t ht => by
          rw [Bool.eq_false_iff]
          intro e
          have := (hM.out t).1 e
          unfold nums at this
          obtain ⟨x, hx, rfl⟩ := List.mem_map.1 this
          have := (G.num_lt (S.vec x ((elemsIn_mem hP S.vec x).1 (by rw [← HE.out]; exact List.mem_of_mem_take hx)))).1
          omega)
        have h2 : (2 : Nat) ^ (ordP P).toNat ≤ 2 ^ 32 := Nat.pow_le_pow_right (by decide) (by omega)
        omega
      have hb := num_bd hP hXV
      obtain ⟨x, hx⟩ : ∃ x, x = gt E i := ⟨_, rfl⟩
      rw [← hx] at hc hcr hr hXV hnew hstep hb
      obtain ⟨y, hy⟩ : ∃ y, y = (num P x).toNat := ⟨_, rfl⟩
      rw [← hy] at hnew hstep
      have hyn : num P x = (y : Int) := by omega
      have hy32 : y < 32 := by omega
      have hM2 := hM.out.app hnew
      rw [← hstep] at hM2
      have hshl := shl_oneI y hy32
      have hp32 : (2 : Nat) ^ y < 2 ^ 32 := Nat.pow_lt_pow_right (by decide) hy32
      obtain ⟨p, hp⟩ : ∃ p, p = 2 ^ y := ⟨_, rfl⟩
      rw [← hp] at hshl hM2 hp32
      have hadd : IntKind.i64.wrap ((m : Int) + (p : Int)) = ((m + p : Nat) : Int) := by
        rw [IntWalk.i64_in _ ⟨by omega, by omega⟩]; omega
      have hshl2 : IntKind.i64.wrap (2 ^ min (IntKind.u64.wrap (y : Int)).toNat 64) = (p : Int) := by
        rw [IntWalk.u64_in _ ⟨by omega, by omega⟩, Int.toNat_natCast, Nat.min_eq_left (by omega)]; exact hshl
      have HX := Lib.hid (And.intro hXV (And.intro hyn hM2)); clear hXV hyn hM2 hnew hstep hb hx hy hp hM hm32 hp32
      have e1 : ∀ w', Ext wr w' → w'.cell? ⟨w.heap.size, 0, none⟩ = some vo6 := fun w' h => (HB.out w' (grown_trans hg0r h)).1
      have e2 : ∀ w', Ext wr w' → w'.cell? ⟨w.heap.size, 1, none⟩ = some vp6 := fun w' h => (HB.out w' (grown_trans hg0r h)).2.1
      have e3 : ∀ w', Ext wr w' → w'.cell? ⟨w.heap.size, 2, none⟩ = some vc6 := fun w' h => (HB.out w' (grown_trans hg0r h)).2.2
      have e4 : ∀ w', Ext wr w' → w'.cell? ⟨bb, off + i, none⟩ = some (.slice a2 x.length cap2) := fun w' h => h.cell hcr (by simp)
      clear hcr hc
      go_wp2
      go_region_held3 (fun w' => Ext wr w') (first | exact grown_drew _ _ | assumption)
        (first
          | (go_at_call 207; refine Calls.mono (Calls.rel (w0 := wr) (by assumption) (l10Number_ok P hP _ _ _ x Any Any ⟨_, _, _, rfl, Pres3.ext h36 (grown_trans hg0r (by assumption))⟩ (Ints.sub (Ints.ext hr (grown_trans hg (by assumption))) (fun _ _ _ => trivial)) HX.out.1)) ?_; rintro eA wA ⟨vA, rfl, hgA, hsA, hvA⟩; rw [HX.out.2.1] at hvA; subst hvA))
      clear e1 e2 e3 e4
      have hgA1 := grown_trans hg hgA
      go_wp2
      clear hshl hshl2 hadd
      go_roundw
      case rel => exact ⟨i + 1, m + p, rfl, by go_num, by omega, hgA1, Lib.hid HX.out.2.2⟩
      case measure => simp [intOf]; omega
    · have hie : i = E.length := by omega
      have hend := hM.out
      rw [hie, List.take_length, HE.out] at hend
      have HN := Lib.hid (G.nums_all S hend)
      have hnl : ¬ (i : Int) < E.length := by omega
      clear hend hie hlt hM
      go_wp2
      go_ret
      exact ⟨_, rfl, grown_trans hg0 hg0r, congrArg (fun z : Nat => Value.int .i64 (z : Int)) HN.out⟩

end Go.Proofs.YtdklekdpdbjfiaaGreat

/- Moebius values of the lattice: the sum over all subgroups above one; the number of generating lists. -/
namespace Go.Proofs.YtdklekdpdbjfiaaGreat
open Go.RowKit

section
variable {P : Pr} (G : Grp P)
include G

theorem Grp.order_elems {H : List Int → Prop} (S : Sub P H) : prodU P (cseq P H) (cseq P H).length = (elemsIn P H).length := by
  rw [← G.els_sorted S, (sortL_perm _).length_eq]
  exact (elsP_len G.v (G.seq_facts S).1 _ (Nat.le_refl _)).symm

omit G in
theorem elemsIn_nodup {P : Pr} (hP : Valid P) (H : List Int → Prop) : (elemsIn P H).Nodup :=
  List.nodup_iff_pairwise_ne.2 ((elemsIn_asc hP H).imp (fun {a b} h e => by subst e; omega))

theorem Grp.order_le {H K : List Int → Prop} (S : Sub P H) (R : Sub P K) (h : ∀ x, H x → K x) : prodU P (cseq P H) (cseq P H).length ≤ prodU P (cseq P K) (cseq P K).length ∧
    (prodU P (cseq P H) (cseq P H).length = prodU P (cseq P K) (cseq P K).length → ∀ x, K x → H x) := by
  rw [G.order_elems S, G.order_elems R]
  have hP := G.v
  have hH := elemsIn_mem hP S.vec
  have hK := elemsIn_mem hP R.vec
  have hs : ∀ x ∈ elemsIn P H, x ∈ elemsIn P K := fun x hx => (hK x).2 (h x ((hH x).1 hx))
  have h1 := nodup_sub_len _ _ (elemsIn_nodup hP H) hs
  refine ⟨by omega, fun he x hx => Classical.byContradiction fun hn => ?_⟩
  have hn' : (x :: elemsIn P H).Nodup := List.nodup_cons.2 ⟨fun hm => hn ((hH x).1 hm), elemsIn_nodup hP H⟩
  have h2 := nodup_sub_len _ (elemsIn P K) hn' (fun y hy => by
    rcases List.mem_cons.1 hy with rfl | hy
    · exact (hK _).2 hx
    · exact hs y hy)
  simp only [List.length_cons] at h2
  omega

theorem Grp.inM_iff {H K : List Int → Prop} (S : Sub P H) (_R : Sub P K) : inM (msk P H) (msk P K) = true ↔ ∀ x, H x → K x := by
  unfold inM
  rw [decide_eq_true_iff]
  constructor
  · intro h x hx
    obtain ⟨h1, h2⟩ := G.num_lt (S.vec x hx)
    have hb : (msk P H).testBit (num P x).toNat = true := (msk_bit h1).2 (by rw [h2]; exact hx)
    rw [← h, Nat.testBit_and, Bool.and_eq_true] at hb
    have := (msk_bit h1).1 hb.2
    rwa [h2] at this
  · intro h
    apply Nat.eq_of_testBit_eq
    intro t
    rw [Nat.testBit_and]
    by_cases ht : t < (ordP P).toNat
    · cases hb : (msk P H).testBit t
      · rfl
      · have := (msk_bit (P := P) (H := K) ht).2 (h _ ((msk_bit ht).1 hb))
        rw [this]; rfl
    · rw [msk_high (by omega)]; rfl

/-- in ascending order no later subgroup lies in an earlier one -/
theorem Grp.lat_up {L : List (List (List Int))} (h : LatL P L) {i j : Nat} (hij : i < j) (hj : j < L.length) : inM (mskU P (gt L j)) (mskU P (gt L i)) = false := by
  have hbi := (h.2 _).1 (gt_mem (l := L) (i := i) (by omega))
  have hbj := (h.2 _).1 (gt_mem hj)
  have hlt := List.pairwise_iff_getElem.1 h.1 i j (by omega) hj hij
  rw [← gt_eq L i (by omega), ← gt_eq L j hj] at hlt
  cases hb : inM (mskU P (gt L j)) (mskU P (gt L i)) with
  | false => rfl
  | true =>
    exfalso
    have hin := (G.inM_iff (G.subB hbj) (G.subB hbi)).1 hb
    obtain ⟨h1, h2⟩ := G.order_le (G.subB hbj) (G.subB hbi) hin
    rw [← hbi.2, ← hbj.2] at h1 h2
    rcases hlt with hl | ⟨he, hl⟩
    · omega
    · have h3 := h2 he.symm
      have : genP P (fun x => x ∈ gt L j) = genP P (fun x => x ∈ gt L i) := funext fun x => propext ⟨hin x, h3 x⟩
      have e : gt L i = gt L j := by rw [hbi.2, hbj.2, this]
      rw [e, (cmpL_zero _ _).2 rfl] at hl
      omega

/-- the last one is the whole group -/
theorem Grp.lat_top {L : List (List (List Int))} (h : LatL P L) : 0 < L.length ∧ gt L (L.length - 1) = cseq P (Vec P.orders) := by
  have hw := (h.2 (cseq P (Vec P.orders))).2 (G.subB_cseq G.sub_all)
  obtain ⟨i, hi, he⟩ := mem_gt hw
  refine ⟨by omega, ?_⟩
  by_cases hl : i = L.length - 1
  · rw [← hl]; exact he
  · exfalso
    have hbj := (h.2 _).1 (gt_mem (l := L) (i := L.length - 1) (by omega))
    have := G.lat_up h (i := i) (j := L.length - 1) (by omega) (by omega)
    rw [he, G.mskU_cseq G.sub_all] at this
    have h2 := (G.inM_iff (G.subB hbj) G.sub_all).2 (fun x hx => (G.subB hbj).vec x hx)
    unfold mskU at this
    rw [h2] at this; cases this

end

section
variable {P : Pr} (G : Grp P)
include G

end
end Go.Proofs.YtdklekdpdbjfiaaGreat

/- spec.l19Full: the lattice by the reference. -/
namespace Go.Proofs.YtdklekdpdbjfiaaGreat
open Go.RowKit

/-- the generators that are kept beside the masks -/
structure GensOk (P : Pr) (M : List Nat) (GS : List (List Nat)) : Prop where
  len : GS.length = M.length
  at' : ∀ j, j < M.length → gt M j = msk P (genN P (gt GS j)) ∧ (∀ g ∈ gt GS j, g < (ordP P).toNat) ∧ (gt GS j).length ≤ j

theorem GensOk.app {P : Pr} {M : List Nat} {GS : List (List Nat)} (h : GensOk P M GS) {k t : Nat} (hk : k < M.length) (ht : t < (ordP P).toNat) : GensOk P (M ++ [msk P (genN P (gt GS k ++ [t]))]) (GS ++ [gt GS k ++ [t]]) := by
  refine ⟨by simp [h.len], fun j hj => ?_⟩
  simp only [List.length_append, List.length_singleton] at hj
  by_cases hjl : j < M.length
  · rw [gt_append_left _ _ _ hjl, gt_append_left _ _ _ (by rw [h.len]; exact hjl)]
    exact h.at' j hjl
  · have : j = M.length := by omega
    subst this
    rw [gt_concat, ← h.len, gt_concat]
    obtain ⟨h1, h2, h3⟩ := h.at' k hk
    have hln := h.len
    refine ⟨rfl, fun g hg => ?_, by simp; omega⟩
    rcases List.mem_append.1 hg with h4 | h4
    · exact h2 g h4
    · rw [List.mem_singleton.1 h4]; exact ht

theorem gensOk_start {P : Pr} (G : Grp P) : GensOk P [1] [[]] := by
  refine ⟨rfl, fun j hj => ?_⟩
  have : j = 0 := by simp at hj; omega
  subst this
  refine ⟨?_, fun g hg => (by cases hg), by simp [gt]⟩
  show (1 : Nat) = msk P (genN P [])
  rw [G.genN_nil, G.msk_one]

theorem natI_eqB {a b : Nat} : ((a : Int) == (b : Int)) = decide (a = b) := by
  by_cases h : a = b
  · subst h; simp
  · have : ¬ (a : Int) = b := by omega
    simp [h, this]

theorem SlO.low {α : Type} [Inhabited α] {El : (Nat → Prop) → World → Value → α → Prop} {E B : Nat} {A : Nat → Prop} {w : World} {v : Value} {xs : List α} (h : SlO El E B w v xs) (hA : ∀ k, A k → k < B) : SlOA El E B A w v xs := by
  obtain ⟨vs, G, h1, h2, h3, h4, h5⟩ := h
  exact ⟨vs, G, h1, h2, h3, h4, h5, fun i k hi hk ha => by have := (h3 i k hi hk).1; have := hA k ha; omega, fun k hk ha => by have := (h2.lt k hk).1; have := hA k ha; omega⟩

theorem wp_app_intA {ops : Array Oper} {rest : List Oper} {o : Oper} {a : Act} {Q : Exit → Act → World → Prop} {w : World} (hgd : o.guard = none) (s x : Operand)
    (ho : o.op = Op.call { callee := Callee.builtin Builtin.append, args := #[s, x], argTypes := #[22, 22] }) (B : Nat) (v : Value) (l : List Int) (y : Int) (hs : a.eval s = v) (w2 : World) (hown : Own B w2 v l)
    (hw : w = w2.alloc (.cells #[.int .i64 y] 2)) (hx : a.eval x = .slice (some ⟨w2.heap.size, 0, none⟩) 1 1) (hlen : l.length ≤ 1000000) (hbase : B ≤ w2.heap.size)
    (h : ∀ v' w', Own B w' v' (l ++ [y]) → w2.grownBy w' v.ownBlock → (∀ k, v'.ownBlock = some k → v.ownBlock = some k ∨ w2.heap.size ≤ k) → wpList Tryz.prog ops Q rest (a.put o.dst v') w') :
    wpList Tryz.prog ops Q (o :: rest) a w := by
  subst hw
  have hga : Ext w2 (w2.alloc (.cells #[.int .i64 y] 2)) := World.grownBy_alloc _ _ _
  refine wp_app 22 2 (.int .i64 0) 8 und_ints Tryz.infoInt rfl (by decide) hgd s x ho B v (l.map (Value.int .i64)) hs (hown.ext0 hga).v (some ⟨w2.heap.size, 0, none⟩) 1 1 [.int .i64 y] hx rfl (by simp) ?_ ?_ (by simp; omega) (by have := hga.size; omega) ?_
  · intro j hj
    have : j = 0 := by omega
    subst this
    exact ⟨_, _, rfl, by rw [World.cell?_alloc_at _ _ _ _ rfl]; rfl⟩
  · intro u' hu'
    simp at hu'; subst hu'; rfl
  · intro v' w' h1 h2 _ hat
    refine h v' w' (Own.of (by rw [List.map_append]; exact h1)) (grown_trans (grown_of_ext _ hga) h2) (fun k hk => ?_)
    rcases hat with e | e
    · exact .inl (by rw [← e]; exact hk)
    · rw [e] at hk
      have : (w2.alloc (.cells #[.int .i64 y] 2)).heap.size = k := by simpa using hk
      exact .inr (by simp at this; omega)

set_option linter.unusedSimpArgs false in
set_option maxRecDepth 100000 in
set_option maxHeartbeats 16000000 in
theorem l19Full_ok (P : Pr) (G : Grp P) (w : World) (pv : Value) (Sp : Nat → Prop) (h32 : ordP P ≤ 32) (hpv : PresV Sp w pv P) :
    Calls Tryz.prog 141 #[pv] w (Ret w fun w' v => ∃ sv mv, v = .agg #[sv, mv] ∧ ∃ L, LatL P L ∧ Rows3 (From w.heap.size) w' sv L ∧ Ints (From w.heap.size) w' mv (natI (L.map (mskU P)))) := by
  have hP := G.v
  have hn6 := hP.n6
  have hpos := hP.ordP_pos
  obtain ⟨vo, vp, vc, rfl, h3⟩ := hpv
  have hp0 := PresP.box h3 31
  have hg0 : Ext w (w.alloc (.cells #[vo, vp, vc] 31)) := World.grownBy_alloc _ _ _
  obtain ⟨vo6, vp6, vc6, _, _, hc0, hc1, hc2, h36⟩ := hp0.at
  simp only [Nat.zero_add] at hc1 hc2
  have hs0 : (w.alloc (.cells #[vo, vp, vc] 31)).heap.size = w.heap.size + 1 := by simp
  have hg0b : Ext (w.alloc (.cells #[vo, vp, vc] 31)) ((w.alloc (.cells #[vo, vp, vc] 31)).alloc (.cells #[.slice none 0 0, .slice none 0 0] 130)) := World.grownBy_alloc _ _ _
  have hs1 : ((w.alloc (.cells #[vo, vp, vc] 31)).alloc (.cells #[.slice none 0 0, .slice none 0 0] 130)).heap.size = w.heap.size + 1 + 1 := by simp
  have hrc : ∀ k, k < 2 → ((w.alloc (.cells #[vo, vp, vc] 31)).alloc (.cells #[.slice none 0 0, .slice none 0 0] 130)).cell? ⟨w.heap.size + 1, k, none⟩ = some (.slice none 0 0) ∧ ((w.alloc (.cells #[vo, vp, vc] 31)).alloc (.cells #[.slice none 0 0, .slice none 0 0] 130)).frozen? ⟨w.heap.size + 1, k, none⟩ = false := fun k hk => by
    rw [← hs0]
    constructor
    · rw [World.cell?_alloc_at _ _ _ _ rfl]
      rcases (show k = 0 ∨ k = 1 by omega) with rfl | rfl <;> rfl
    · simp
  have hbx : ∀ w', Ext ((w.alloc (.cells #[vo, vp, vc] 31)).alloc (.cells #[.slice none 0 0, .slice none 0 0] 130)) w' → w'.cell? ⟨w.heap.size, 0, none⟩ = some vo6 ∧ w'.cell? ⟨w.heap.size, 1, none⟩ = some vp6 ∧ w'.cell? ⟨w.heap.size, 2, none⟩ = some vc6 := fun w' h => ⟨(grown_trans hg0b h).cell hc0 (by simp), (grown_trans hg0b h).cell hc1 (by simp), (grown_trans hg0b h).cell hc2 (by simp)⟩
  obtain ⟨N, hN⟩ : ∃ N, N = (ordP P).toNat := ⟨_, rfl⟩
  have hNo : ordP P = (N : Int) := by omega
  have hN32 : N ≤ 32 := by omega
  have hNpos : 1 ≤ N := by omega
  have hgw := grown_trans hg0 hg0b
  have h37 := Pres3.ext h36 hg0b
  have HB := Lib.hid (And.intro hbx (And.intro hs1 (And.intro hrc (And.intro hN hNo)))); clear hbx hs0 hs1 hp0 hN hNo hpos hrc h36 hg0b
  go_enter Tryz.func141, Tryz.ntmps141
  go_wp2_with fail
  clear hc0 hc1 hc2
  generalize hw0 : (w.alloc (.cells #[vo, vp, vc] 31)).alloc (.cells #[.slice none 0 0, .slice none 0 0] 130) = w0 at *
  clear hw0 hg0
  refine Calls.mono (l19Table_ok P G w0 _ Sp ⟨_, _, _, rfl, h3.ext hgw⟩) ?_
  rintro e1 w2 ⟨tv, rfl, hg2, hT⟩
  obtain ⟨at', capt, rfl, _, _⟩ := Sl.shape hT
  have hlen : (tabL P).length = N := by rw [tabL_len, HB.out.2.2.2.1]
  have htN : Rows2 Any w2 (.slice at' (tabL P).length capt) (tabL P) := Rows2.sub hT (fun _ _ _ => trivial)
  rw [hlen] at htN ⊢
  have HT := Lib.hid hlen; clear hT hlen
  have hgw2 := grown_trans hgw hg2
  -- the first mask and its generators
  have hOA : Own w2.heap.size (w2.alloc (.cells #[.int .i64 1] 2)) (.slice (some ⟨w2.heap.size, 0, none⟩) 1 1) (natI [1]) := World.ownsRow_lit w2 #[.int .i64 1] 1 (Nat.le_refl _) (by decide) rfl
  have hgA : Ext w2 (w2.alloc (.cells #[.int .i64 1] 2)) := World.grownBy_alloc _ _ _
  have hsA : (w2.alloc (.cells #[.int .i64 1] 2)).heap.size = w2.heap.size + 1 := by simp
  have hOB : Own (w2.heap.size + 1) ((w2.alloc (.cells #[.int .i64 1] 2)).alloc (.cells #[] 2)) (.slice (some ⟨w2.heap.size + 1, 0, none⟩) 0 0) (natI []) := by
    have : Own (w2.alloc (.cells #[.int .i64 1] 2)).heap.size ((w2.alloc (.cells #[.int .i64 1] 2)).alloc (.cells #[] 2)) (.slice (some ⟨(w2.alloc (.cells #[.int .i64 1] 2)).heap.size, 0, none⟩) 0 0) (natI []) := World.ownsRow_lit (w2.alloc (.cells #[.int .i64 1] 2)) #[] 0 (Nat.le_refl _) (by decide) rfl
    rw [hsA] at this; exact this
  have hgB : Ext (w2.alloc (.cells #[.int .i64 1] 2)) ((w2.alloc (.cells #[.int .i64 1] 2)).alloc (.cells #[] 2)) := World.grownBy_alloc _ _ _
  have hsB : ((w2.alloc (.cells #[.int .i64 1] 2)).alloc (.cells #[] 2)).heap.size = w2.heap.size + 1 + 1 := by simp
  have hOA2 := hOA.ext0 hgB
  have hgw2B := grown_trans hgA hgB
  obtain ⟨wB, hwB⟩ : ∃ wB, wB = (w2.alloc (.cells #[.int .i64 1] 2)).alloc (.cells #[] 2) := ⟨_, rfl⟩
  rw [← hwB] at hOB hsB hOA2 hgw2B
  have hlit : SlO OwnIn 22 (w2.heap.size + 1) (wB.alloc (.cells #[.slice (some ⟨w2.heap.size + 1, 0, none⟩) 0 0] 22)) (.slice (some ⟨wB.heap.size, 0, none⟩) 1 1) [natI []] := SlO.lit1 rdOwn (OwnIn.of hOB (by simp [natI]) (fun k h1 _ => h1)) (by omega)
  rw [hsB] at hlit
  have hgC : Ext wB (wB.alloc (.cells #[.slice (some ⟨w2.heap.size + 1, 0, none⟩) 0 0] 22)) := World.grownBy_alloc _ _ _
  have hOC := hOA2.ext0 hgC
  have hgw2C := grown_trans hgw2B hgC
  have hlitA : SlOA OwnIn 22 w2.heap.size (fun k => (Value.slice (some ⟨w2.heap.size, 0, none⟩) 1 1).ownBlock = some k) (wB.alloc (.cells #[.slice (some ⟨w2.heap.size + 1, 0, none⟩) 0 0] 22)) (.slice (some ⟨w2.heap.size + 1 + 1, 0, none⟩) 1 1) ([[]].map natI) := by
    have h1 := hlit.low (A := fun k => (Value.slice (some ⟨w2.heap.size, 0, none⟩) 1 1).ownBlock = some k) (fun k hk => by have := own_blk hk; omega)
    obtain ⟨vs, Gg, a1, a2, a3, a4, a5, a6, a7⟩ := h1
    exact ⟨vs, Gg, a1, OwnV.weak a2 (by omega), fun i k hi hk => by have := a3 i k hi hk; exact ⟨by omega, this.2⟩, a4, a5, a6, a7⟩
  obtain ⟨wC, hwC⟩ : ∃ wC, wC = wB.alloc (.cells #[.slice (some ⟨w2.heap.size + 1, 0, none⟩) 0 0] 22) := ⟨_, rfl⟩
  rw [← hwC] at hOC hgw2C hlitA
  have HC := Lib.hid (And.intro hOC (And.intro hgw2C (And.intro hlitA hsB))); clear hOA hOB hOA2 hlit hOC hlitA hgw2C hgC hgB hgA hgw2B hsA hsB
  go_wp2
  rw [← hwB, ← hwC]
  clear hwB hwC
  go_loopw [4, 5, 6] (fun fv gv kv wr => ∃ (M : List Nat) (GS : List (List Nat)) (k : Nat) (v4 v5 : Value), v4 = fv ∧ v5 = gv ∧ kv = .int .i64 k ∧ k ≤ M.length ∧ Ext w2 wr ∧ Own w2.heap.size wr v4 (natI M) ∧
    SlOA OwnIn 22 w2.heap.size (fun j => v4.ownBlock = some j) wr v5 (GS.map natI) ∧ Hid (Fnd P M k 0 ∧ GensOk P M GS)) (fun _ _ kv _ => 17409 - (intOf kv).toNat)
  case atStart => exact ⟨[1], [[]], 0, _, _, rfl, rfl, rfl, by simp, HC.out.2.1, HC.out.1, HC.out.2.2.1, Lib.hid ⟨by have := G.fnd_start; rw [G.msk_one] at this; exact this, gensOk_start G⟩⟩
  case round =>
    clear HC
    obtain ⟨M, GS, k, v4, v5, rfl, rfl, rfl, hk, hg, hO, hL, hF⟩ := hrel
    have hlM := G.fnd_len h32 hF.out.1
    have hOi := hO.ints (by rw [natI_len]; omega)
    obtain ⟨a4, c4, hv4, _, _⟩ := hOi.shape
    rw [natI_len] at hv4
    subst hv4
    by_cases hlt : k < M.length
    · have hlt' : (k : Int) < M.length := by omega
      obtain ⟨m, hm⟩ : ∃ m, m = gt M k := ⟨_, rfl⟩
      obtain ⟨gk, hgk⟩ : ∃ gk, gk = gt GS k := ⟨_, rfl⟩
      have HMG := Lib.hid (And.intro hm hgk); clear hOi
      go_wp2
      go_loopw [4, 5, 7] (fun fv gv tv wr => ∃ (M : List Nat) (GS : List (List Nat)) (t : Nat) (v4 v5 : Value), v4 = fv ∧ v5 = gv ∧ tv = .int .i64 t ∧ 1 ≤ t ∧ t ≤ N ∧ k < M.length ∧ Ext w2 wr ∧ Own w2.heap.size wr v4 (natI M) ∧
        SlOA OwnIn 22 w2.heap.size (fun j => v4.ownBlock = some j) wr v5 (GS.map natI) ∧ Hid (Fnd P M k t ∧ GensOk P M GS) ∧ Hid (m = gt M k ∧ gk = gt GS k)) (fun _ _ tv _ => N - (intOf tv).toNat)
      case atStart => exact ⟨M, GS, 1, _, _, rfl, rfl, rfl, by omega, hNpos, hlt, hg, hO, hL, Lib.hid ⟨hF.out.1.skip (fun H S _ _ => by rw [G.el_zero]; exact S.one), hF.out.2⟩, HMG⟩
      case round =>
        clear hO hL hF hlM hlt hlt' hk hm hgk HMG hg
        obtain ⟨M, GS, t, v4, v5, rfl, rfl, rfl, ht1, ht, hlt, hg, hO, hL, hF, HMG⟩ := hrel
        have hg0r := grown_trans hg2 hg
        obtain ⟨hc0, hc1, hc2⟩ := HB.out.1 wr hg0r
        have hor := l10Order_ok wr _ P Any hP ⟨_, _, _, rfl, Pres3.ext h37 hg0r⟩
        rw [HB.out.2.2.2.2] at hor
        have hlM := G.fnd_len h32 hF.out.1
        have hOi := hO.ints (by rw [natI_len]; omega)
        obtain ⟨a4, c4, hv4, _, _⟩ := hOi.shape
        rw [natI_len] at hv4
        subst hv4
        clear hOi
        go_wp2_with fail
        clear hc0 hc1 hc2
        refine Calls.mono hor ?_
        rintro eo wo ⟨vo', rfl, hgo, rfl⟩
        clear hor
        have hgo2 := grown_trans hg hgo
        have hOo := hO.ext0 hgo
        have hLo := hL.ext rdOwn hgo
        clear hO hL
        by_cases hltt : t < N
        · have hltt' : (t : Int) < N := by omega
          have hltk' : (k : Int) < M.length := by omega
          have hOi := hOo.ints (by rw [natI_len]; omega)
          obtain ⟨b4, o4, hb4, _, _, hcm⟩ := Ints.at (show Sl IntEl _ wo (.slice a4 M.length c4) (natI M) by rw [← natI_len] at hOi ⊢; exact hOi) k (by rw [natI_len]; exact hlt)
          subst hb4
          rw [natI_gt hlt, ← HMG.out.1] at hcm
          have hrem := bit_rem m t
          have htlt : t < (ordP P).toNat := by have := HB.out.2.2.2.1; omega
          cases hb : m.testBit t with
          | true =>
            rw [hb] at hrem
            have hrem : ((m : Int) / 2 ^ t).tmod 2 = 1 := hrem
            have hF2 := Lib.hid (And.intro (fnd_bit hF.out.1 htlt (by rw [← HMG.out.1]; exact hb)) hF.out.2)
            clear hF hb hOi
            go_wp2
            clear hrem hcm
            go_roundw
            case rel => exact ⟨M, GS, t + 1, _, v5, rfl, rfl, by go_num, by omega, by omega, hlt, hgo2, hOo, hLo, hF2, HMG⟩
            case measure => simp [intOf]; omega
          | false =>
            rw [hb] at hrem
            have hrem : ((m : Int) / 2 ^ t).tmod 2 = 0 := hrem
            obtain ⟨hgs1, hgs2, hgs3⟩ := hF.out.2.at' k hlt
            rw [← HMG.out.1, ← HMG.out.2] at hgs1
            rw [← HMG.out.2] at hgs2 hgs3
            have hLn : (GS.map natI).length = M.length := by rw [List.length_map, hF.out.2.len]
            have hLR := RowsD.rows (hLo.o.toD (by omega))
            obtain ⟨a5, c5, hv5, _, _⟩ := Sl.shape hLR
            rw [hLn] at hv5
            subst hv5
            have hLR2 : Rows2 (From w2.heap.size) wo (.slice a5 (GS.map natI).length c5) (GS.map natI) := by rw [hLn]; exact hLR
            obtain ⟨b5, o5, ar, cr, hb5, _, _, hcr, hrr⟩ := Rows2.at hLR2 k (by omega)
            subst hb5
            rw [gt_map _ _ _ (by rw [hF.out.2.len]; exact hlt), ← HMG.out.2] at hcr hrr
            have hgl := natI_len gk
            rw [hgl] at hcr
            have hrr2 : Ints (From w2.heap.size) wo (.slice ar gk.length cr) (natI gk) := by rw [← hgl]; exact hrr
            have hLA : SlOA OwnIn 22 w2.heap.size (fun j => (Value.slice (some ⟨b4, o4, none⟩) M.length c4).ownBlock = some j ∨ wo.heap.size ≤ j) wo (.slice (some ⟨b5, o5, none⟩) M.length c5) (GS.map natI) := hLo.more (fun j hj => hj)
            have happ := natI_app gk t
            have hgm2 : ∀ g ∈ gk ++ [t], g < (ordP P).toNat := fun g hg => by
              rcases List.mem_append.1 hg with h | h
              · exact hgs2 g h
              · rw [List.mem_singleton.1 h]; exact htlt
            have hgapp := hF.out.2.app hlt htlt
            rw [← HMG.out.2] at hgapp
            have hSk : Sub P (genN P gk) := G.genN_sub hgs2
            have HS := Lib.hid (And.intro hgs1 (And.intro hgm2 (And.intro happ (And.intro hgapp hSk)))); clear hgs1 hgs2 hgm2 happ hgapp hSk hrr hLR hLR2 hb hOi hLo
            go_wp2_with fail
            clear hrem hcm hcr
            refine Calls.mono (l01Own_ok wo _ (natI gk) _ hrr2 (by omega)) ?_
            rintro eP wP ⟨pv, rfl, hgP, hOP⟩
            clear hrr2
            go_wp2_with (first | (at_builtin; refine wp_app_int rfl _ _ rfl wo.heap.size _ (natI gk) (t : Int) rfl wP hOP rfl rfl (by omega) hgP.size ?_; intro v8 w8 hO8 hg8; have hgo8 : Ext wo w8 := grown_own hgP hg8 (fun b hb hlt => by have := (hOP.lt b hb).1; omega)) | fail)
            rw [← HS.out.2.2.1] at hO8
            have hI8 := hO8.ints (by rw [natI_len]; simp; omega)
            obtain ⟨a8, c8, hv8, _, _⟩ := hI8.shape
            subst hv8
            refine Calls.mono (l19Span_ok P G w8 _ _ (gk ++ [t]) Any _ h32 (Rows2.ext htN (grown_trans hgo2 hgo8)) hI8 HS.out.2.1 (by simp; omega)) ?_
            rintro eQ w9 ⟨qv, rfl, hg9, rfl⟩
            obtain ⟨m2, hm2⟩ : ∃ m2, m2 = msk P (genN P (gk ++ [t])) := ⟨_, rfl⟩
            rw [← hm2]
            have HM2 := Lib.hid hm2; clear hm2
            have hgo9 := grown_trans hgo8 hg9
            have hO89 := hO8.ext0 hg9
            clear hI8 hO8 hg8 hgP hOP
            generalize (natI (gk ++ [t])).length = ml at *
            go_wp2
            go_loopw [10, 11] (fun kv iv wr => ∃ (i : Nat) (kn : Bool), kv = .bool kn ∧ iv = .int .i64 i ∧ i ≤ M.length ∧ Ext w9 wr ∧ Hid (kn = true ↔ m2 ∈ M.take i)) (fun _ iv _ => M.length - (intOf iv).toNat)
            case atStart => exact ⟨0, false, rfl, rfl, by omega, Ext.refl _, Lib.hid (by simp)⟩
            case round =>
              obtain ⟨i, kn, rfl, rfl, hi, hk9, hKN⟩ := hrel
              have hgo9r := grown_trans hgo9 hk9
              have hOr := hOo.ext0 hgo9r
              by_cases hlti : i < M.length
              · have hlti' : (i : Int) < M.length := by omega
                have hmt : m2 ∈ M.take (i + 1) ↔ m2 ∈ M.take i ∨ gt M i = m2 := by
                  rw [take_succ_gt M i hlti, List.mem_append, List.mem_singleton]; exact or_congr Iff.rfl eq_comm
                have hOi := hOr.ints (by rw [natI_len]; omega)
                obtain ⟨b6, o6, hb6, _, _, hci⟩ := Ints.at (show Sl IntEl _ wr (.slice (some ⟨b4, o4, none⟩) M.length c4) (natI M) by rw [← natI_len] at hOi ⊢; exact hOi) i (by rw [natI_len]; exact hlti)
                cases hb6
                rw [natI_gt hlti] at hci
                clear hOi
                cases kn with
                | true =>
                  have HK := Lib.hid (show (true = true) ↔ m2 ∈ M.take (i + 1) from ⟨fun _ => hmt.2 (.inl (hKN.out.1 rfl)), fun _ => rfl⟩)
                  clear hmt hKN hci
                  go_wp2
                  go_roundw
                  case rel => exact ⟨i + 1, true, rfl, by go_num, by omega, hk9, HK⟩
                  case measure => simp [intOf]; omega
                | false =>
                  obtain ⟨mi, hmi⟩ : ∃ mi, mi = gt M i := ⟨_, rfl⟩
                  rw [← hmi] at hci hmt
                  by_cases he : mi = m2
                  · have HK := Lib.hid (show (true = true) ↔ m2 ∈ M.take (i + 1) from ⟨fun _ => hmt.2 (.inr he), fun _ => rfl⟩)
                    clear hmt hKN hmi
                    subst he
                    go_wp2
                    go_roundw
                    case rel => exact ⟨i + 1, true, by first | rfl | simp, by go_num, by omega, hk9, HK⟩
                    case measure => simp [intOf]; omega
                  · have HK := Lib.hid (show (false = true) ↔ m2 ∈ M.take (i + 1) from ⟨fun h => (by cases h), fun h => (hmt.1 h).elim (fun h2 => (by have := hKN.out.2 h2; cases this)) (fun h2 => absurd h2 he)⟩)
                    have hne : ((mi : Int) == (m2 : Int)) = false := by rw [natI_eqB]; simpa using he
                    clear hmt hKN hmi he
                    go_wp2
                    go_roundw
                    case rel => exact ⟨i + 1, false, by first | rfl | simp [hne], by go_num, by omega, hk9, HK⟩
                    case measure => simp [intOf]; omega
              · have hie : i = M.length := by omega
                have hkn := hKN.out
                rw [hie, List.take_length] at hkn
                have hni : ¬ (i : Int) < M.length := by omega
                have he2 : msk P (extP P (genN P gk) (elAt P (t : Int))) = m2 := by rw [HM2.out, genN_app]
                have hgqr := grown_trans hgo2 hgo9r
                cases kn with
                | true =>
                  have hF2 := Lib.hid (And.intro (G.fnd_known (x := t) hF.out.1 HS.out.2.2.2.2 (by rw [← HMG.out.1]; exact HS.out.1) (by rw [he2]; exact hkn.1 rfl)) hF.out.2)
                  have hLr := (hLA.less (A' := fun j => (Value.slice (some ⟨b4, o4, none⟩) M.length c4).ownBlock = some j) (fun j hj => .inl hj)).ext rdOwn hgo9r
                  clear hkn hKN hie he2 hF
                  go_wp2
                  go_roundw
                  case rel => exact ⟨M, GS, t + 1, _, _, rfl, rfl, by go_num, by omega, by omega, hlt, hgqr, hOr, hLr, hF2, HMG⟩
                  case measure => simp [intOf]; omega
                | false =>
                  have hn2 : ¬ m2 ∈ M := fun h => by have := hkn.2 h; cases this
                  have hF1 := G.fnd_new hF.out.1 hlt HS.out.2.2.2.2 (by rw [← HMG.out.1]; exact HS.out.1) htlt (by rw [he2]; exact hn2)
                  rw [he2] at hF1
                  have hG1 := HS.out.2.2.2.1
                  rw [← HM2.out] at hG1
                  have hmg2 : m = gt (M ++ [m2]) k ∧ gk = gt (GS ++ [gk ++ [t]]) k := ⟨by rw [gt_append_left _ _ _ hlt]; exact HMG.out.1, by rw [gt_append_left _ _ _ (by rw [hF.out.2.len]; exact hlt)]; exact HMG.out.2⟩
                  have hmap : (GS ++ [gk ++ [t]]).map natI = GS.map natI ++ [natI (gk ++ [t])] := by rw [List.map_append]; rfl
                  have hmapM := natI_app M m2
                  have hMl2 : (M ++ [m2]).length = M.length + 1 := by simp
                  have hGl : (GS.map natI).length ≤ 1000000 := by omega
                  have hnMl : (natI M).length ≤ 1000000 := by rw [natI_len]; omega
                  have HF2 := Lib.hid (And.intro hF1 (And.intro hG1 (And.intro hmg2 (And.intro hmap (And.intro hmapM (And.intro hMl2 (And.intro hGl hnMl)))))))
                  have hLr := hLA.ext rdOwn hgo9r
                  have hO8r := hO89.ext0 hk9
                  have h4o : ∀ j, (Value.slice (some ⟨b4, o4, none⟩) M.length c4).ownBlock = some j → j < wo.heap.size := fun j hj => (hOo.lt j hj).2
                  have h8o : ∀ j, (Value.slice a8 ml c8).ownBlock = some j → wo.heap.size ≤ j ∧ j < wr.heap.size := fun j hj => hO8r.lt j hj
                  have hsz9 := hgo9r.size
                  have hszo := hgo2.size
                  clear hkn hKN hie he2 hF hF1 hG1 hmg2 hmap hmapM hMl2 hGl hnMl hn2
                  have kA : ∀ wA, wr.grownBy wA (Value.slice (some ⟨b4, o4, none⟩) M.length c4).ownBlock → Ext w2 wA ∧
                      SlOA OwnIn 22 w2.heap.size (fun j => ((Value.slice (some ⟨b4, o4, none⟩) M.length c4).ownBlock = some j ∨ wo.heap.size ≤ j) ∧ j < wA.heap.size) wA (.slice (some ⟨b5, o5, none⟩) M.length c5) (GS.map natI) ∧
                      OwnIn (fun j => (Value.slice a8 ml c8).ownBlock = some j) wA (.slice a8 ml c8) (natI (gk ++ [t])) := by
                    intro wA hgA
                    refine ⟨grown_own hgqr hgA (fun b hb hlt => by have := (hOr.lt b hb).1; omega), ?_, ?_⟩
                    · refine SlOA.less (A := fun j => (Value.slice (some ⟨b4, o4, none⟩) M.length c4).ownBlock = some j ∨ wo.heap.size ≤ j) ?_ (fun j hj => hj.1)
                      cases hv : (Value.slice (some ⟨b4, o4, none⟩) M.length c4).ownBlock with
                      | none => rw [hv] at hgA hLr; exact hLr.ext rdOwn hgA
                      | some r => rw [hv] at hgA hLr; exact hLr.kept rdOwn hgA (.inl rfl)
                    · refine ⟨?_, fun j hj => hj, by rw [natI_len]; simp; omega⟩
                      have h1 := (hO8r.v.kept hgA (by
                        cases hv : (Value.slice a8 ml c8).ownBlock with
                        | none => exact .inl rfl
                        | some r => exact .inr (fun e => by have h2 := h8o r hv; have h3 := h4o r e.symm; omega)))
                      exact Own.weak (Own.of h1) (Nat.zero_le _)
                  have kB : ∀ (vA : Value) (wA : World), (∀ j, vA.ownBlock = some j → (Value.slice (some ⟨b4, o4, none⟩) M.length c4).ownBlock = some j ∨ wr.heap.size ≤ j) → Own w2.heap.size wA vA (natI M ++ [(m2 : Int)]) →
                      ∀ j, vA.ownBlock = some j → (((Value.slice (some ⟨b4, o4, none⟩) M.length c4).ownBlock = some j ∨ wo.heap.size ≤ j) ∧ j < wA.heap.size) ∧ ¬ (Value.slice a8 ml c8).ownBlock = some j := by
                    intro vA wA hbA hOA j hj
                    refine ⟨⟨(hbA j hj).imp id (fun h => by omega), (hOA.lt j hj).2⟩, fun h => ?_⟩
                    have h1 := h8o j h
                    rcases hbA j hj with h2 | h2
                    · have := h4o j h2; omega
                    · omega
                  go_wp2_with (first
                    | (revert hOA; intro hOA; at_builtin; refine wp_app_take rfl _ _ rfl w2.heap.size (fun j => ((Value.slice (some ⟨b4, o4, none⟩) M.length c4).ownBlock = some j ∨ wo.heap.size ≤ j) ∧ j < wA.heap.size) (fun j => vA.ownBlock = some j) (fun j => (Value.slice a8 ml c8).ownBlock = some j) wA _ _ (GS.map natI) (natI (gk ++ [t])) rfl hLA2 h8A (fun j hj hlt => ⟨⟨.inr (h8o j hj).1, hlt⟩, by have := (h8o j hj).1; omega⟩) (kB vA wA hbA hOA) (fun j hj => hj.2) rfl rfl HF2.out.2.2.2.2.2.2.1 hgA2.size ?_; intro vB wB hLB hgB hbB)
                    | (at_builtin; refine wp_app_intA rfl _ _ rfl w2.heap.size _ (natI M) (m2 : Int) rfl wr hOr rfl rfl HF2.out.2.2.2.2.2.2.2 hgqr.size ?_; intro vA wA hOA hgA hbA; obtain ⟨hgA2, hLA2, h8A⟩ := kA wA hgA)
                    | fail)
                  have hgB2 : Ext w2 wB := grown_own hgA2 hgB (fun b hb hlt => by have := (hLA2.avoids b hb).2.1; omega)
                  have hOB : Own w2.heap.size wB vA (natI M ++ [(m2 : Int)]) := Own.of (hOA.v.kept hgB (by
                    cases hv : vA.ownBlock with
                    | none => exact .inl rfl
                    | some r => exact .inr (fun e => (hLA2.avoids r e.symm).1 (kB vA wA hbA hOA r hv).1)))
                  rw [← HF2.out.2.2.2.2.1] at hOB
                  rw [← HF2.out.2.2.2.1] at hLB
                  go_roundw
                  case rel => exact ⟨M ++ [m2], GS ++ [gk ++ [t]], t + 1, vA, vB, rfl, rfl, by go_num, by omega, by omega, by rw [HF2.out.2.2.2.2.2.1]; omega, hgB2, hOB, hLB, Lib.hid ⟨HF2.out.1, HF2.out.2.1⟩, Lib.hid HF2.out.2.2.1⟩
                  case measure => simp [intOf]; omega
        · have hte : t = N := by omega
          have hF2 := Lib.hid (And.intro (hF.out.1.next (by have := HB.out.2.2.2.1; omega)) hF.out.2)
          clear hF
          have hnt : ¬ (t : Int) < N := by omega
          go_wp2
          go_roundw
          case rel => exact ⟨M, GS, k + 1, _, v5, rfl, rfl, by go_num, by omega, hgo2, hOo, hLo, hF2⟩
          case measure => simp [intOf]; omega
    · have hie : k = M.length := by omega
      have hend : ∀ H, Sub P H → msk P H ∈ M := fun H S => by
        have h1 := hF.out.1
        exact G.fnd_end h1 (by omega) S
      have hfs := hF.out.1.sub
      have hmem : ∀ u, SubB P u ↔ ∃ j, j < M.length ∧ u = cseq P (ofMask P (gt M j)) := fun u => by
        constructor
        · intro hu
          obtain ⟨j, hj, he⟩ := mem_gt (hend _ (G.subB hu))
          exact ⟨j, hj, by rw [he, G.ofMask_msk (G.subB hu)]; exact hu.2⟩
        · rintro ⟨j, hj, rfl⟩
          obtain ⟨H, S, e⟩ := hfs _ (gt_mem hj)
          rw [e, G.ofMask_msk S]; exact G.subB_cseq S
      have HM := Lib.hid (And.intro hmem hfs); clear hmem hfs hend hF
      have hsX : ∀ k, (wr.alloc (.cells #[.slice none 0 0, .slice none 0 0] 130)).frozen? ⟨wr.heap.size, k, none⟩ = false := fun k => by simp
      have hcX : ∀ k, k < 2 → (wr.alloc (.cells #[.slice none 0 0, .slice none 0 0] 130)).cell? ⟨wr.heap.size, k, none⟩ = some (.slice none 0 0) := fun k hk => by
        rw [World.cell?_alloc_at _ _ _ _ rfl]
        rcases (show k = 0 ∨ k = 1 by omega) with rfl | rfl <;> rfl
      have hgX : Ext wr (wr.alloc (.cells #[.slice none 0 0, .slice none 0 0] 130)) := World.grownBy_alloc _ _ _
      have hzX : wr.heap.size < (wr.alloc (.cells #[.slice none 0 0, .slice none 0 0] 130)).heap.size := by simp
      have HX0 := Lib.hid (And.intro hsX (And.intro hcX (And.intro hgX hzX))); clear hsX hcX hgX hzX hL
      have hnk : ¬ (k : Int) < M.length := by omega
      clear hOi
      go_wp2
      clear hnk hie hlt hk
      obtain ⟨wF, rfl⟩ : ∃ wF : World, wF = wr := ⟨_, rfl⟩
      obtain ⟨ob, hob0⟩ : ∃ ob, ob = wF.heap.size := ⟨_, rfl⟩
      have HX1 := HX0.out
      rw [← hob0] at HX1 ⊢
      have hobF : wF.heap.size ≤ ob := by omega
      have hg2F := hg
      clear hg
      have HX2 := Lib.hid HX1; clear HX1 HX0 hob0
      go_loopw [13] (fun iv wr => ∃ (i : Nat) (sv : Value) (L : List (List (List Int))), iv = .int .i64 i ∧ i ≤ M.length ∧ Ext wF wr ∧ wr.cell? ⟨ob, 0, none⟩ = some sv ∧ wr.cell? ⟨ob, 1, none⟩ = some (.slice none 0 0) ∧ (∀ k, wr.frozen? ⟨ob, k, none⟩ = false) ∧ ob < wr.heap.size ∧
        Rows3 (fun k => k ≠ ob ∧ wF.heap.size ≤ k) wr sv L ∧ Hid (L.Pairwise (subLt P) ∧ (∀ u, u ∈ L ↔ ∃ j, j < i ∧ u = cseq P (ofMask P (gt M j))) ∧ L.length ≤ i)) (fun iv _ => M.length - (intOf iv).toNat)
      case atStart => exact ⟨0, _, [], rfl, by omega, HX2.out.2.2.1, HX2.out.2.1 0 (by omega), HX2.out.2.1 1 (by omega), HX2.out.1, HX2.out.2.2.2, ⟨none, 0, rfl, ⟨by simp, by simp, fun _ => rfl⟩, fun i hi => by simp at hi⟩, Lib.hid ⟨List.Pairwise.nil, fun u => by simp, by simp⟩⟩
      case round =>
        obtain ⟨i, sv, L, rfl, hi, hg, ho0, ho1, hof, hob, hL, hI⟩ := hrel
        have hg0r := grown_trans (grown_trans hg2 hg2F) hg
        by_cases hlt : i < M.length
        · have hlt' : (i : Int) < M.length := by omega
          have h3r := Pres3.ext h37 hg0r
          have hOi := hO.ints (by rw [natI_len]; omega)
          obtain ⟨b4, o4, hb4, _, hb4l, hcm0⟩ := Ints.at (show Sl IntEl _ wF (.slice a4 M.length c4) (natI M) by rw [← natI_len] at hOi ⊢; exact hOi) i (by rw [natI_len]; exact hlt)
          rw [natI_gt hlt] at hcm0
          have hcm := hg.cell hcm0 (by simp)
          subst hb4
          obtain ⟨H, SH, hmH⟩ := HM.out.2 _ (gt_mem hlt)
          have hseq := l19Sequence_ok P G wr.drew (.agg #[vo6, vp6, vc6]) H Any SH h32 ⟨_, _, _, rfl, Pres3.ext h3r (grown_drew _ _)⟩
          rw [← hmH] at hseq
          have hcs : cseq P H = cseq P (ofMask P (gt M i)) := by rw [hmH, G.ofMask_msk SH]
          have hLS : ∀ v ∈ L, SubB P v := fun v hv => by
            obtain ⟨j, h1, h2⟩ := (hI.out.2.1 v).1 hv
            exact (HM.out.1 v).2 ⟨j, by omega, h2⟩
          have hlL : L.length ≤ i := hI.out.2.2
          have HX := Lib.hid (And.intro hlL (And.intro hcs (And.intro hLS (And.intro (G.subB_cseq SH) (And.intro hI.out.1 hI.out.2.1)))))
          obtain ⟨mi, hmi⟩ : ∃ mi, mi = gt M i := ⟨_, rfl⟩
          rw [← hmi] at hcm hseq
          obtain ⟨sa, sc, hsv, _, _⟩ := Sl.shape hL
          subst hsv
          obtain ⟨hc0, hc1, hc2⟩ := HB.out.1 wr hg0r
          have hsw0 := hg2F.size
          have hsw2 := hg2.size
          have hsw := HB.out.2.1
          have e1 : ∀ w', wr.grownBy w' (some ob) → w'.cell? ⟨w.heap.size, 0, none⟩ = some vo6 := fun w' h => h.cell hc0 (by simp; omega)
          have e2 : ∀ w', wr.grownBy w' (some ob) → w'.cell? ⟨w.heap.size, 1, none⟩ = some vp6 := fun w' h => h.cell hc1 (by simp; omega)
          have e3 : ∀ w', wr.grownBy w' (some ob) → w'.cell? ⟨w.heap.size, 2, none⟩ = some vc6 := fun w' h => h.cell hc2 (by simp; omega)
          have e4 : ∀ w', wr.grownBy w' (some ob) → w'.cell? ⟨b4, o4 + i, none⟩ = some (.int .i64 (mi : Int)) := fun w' h => h.cell hcm (by simp; omega)
          clear hc0 hc1 hc2 hcm hcm0 hI hcs hLS hmi hOi hmH SH hsw hsw0 hsw2
          go_wp2
          refine wp_region_held_drew (S := fun w' => wr.grownBy w' (some ob)) (by kernel_rfl) (grown_drew _ _) (fun hHeld => ?_)
          refine wpAnyH_take (i := 0) (v := ?va0_1) rfl (by kernel_rfl) (by kernel_rfl) (by kernel_rfl) (fun _ _ _ h => h) (Or.inl ⟨by rfl, ?hya0_1⟩) (by assumption) ?resta0_1
          case hya0_1 => (intro w hSw; (try dsimp only at hSw); go_simp; try with_reducible rfl)
          try simp only [Act.put, List.getElem_toArray, List.getElem_cons_succ, List.getElem_cons_zero, List.setIfInBounds_toArray, List.set_cons_zero, List.set_cons_succ]
          refine wpAnyH_take (i := 1) (v := ?va1_2) rfl (by kernel_rfl) (by kernel_rfl) (by kernel_rfl) (fun _ _ _ h => h) (Or.inl ⟨by rfl, ?hya1_2⟩) (by assumption) ?resta1_2
          case hya1_2 => (intro w hSw; (try dsimp only at hSw); go_simp; try with_reducible rfl)
          try simp only [Act.put, List.getElem_toArray, List.getElem_cons_succ, List.getElem_cons_zero, List.setIfInBounds_toArray, List.set_cons_zero, List.set_cons_succ]
          refine wpAnyH_take (i := 3) (v := ?va3_3) rfl (by kernel_rfl) (by kernel_rfl) (by kernel_rfl) (fun _ _ _ h => h) (Or.inl ⟨by rfl, ?hya3_3⟩) (by assumption) ?resta3_3
          case hya3_3 => (intro w hSw; (try dsimp only at hSw); go_simp; try with_reducible rfl)
          try simp only [Act.put, List.getElem_toArray, List.getElem_cons_succ, List.getElem_cons_zero, List.setIfInBounds_toArray, List.set_cons_zero, List.set_cons_succ]
          refine wpAnyH_take (i := 4) (v := ?va4_4) rfl (by kernel_rfl) (by kernel_rfl) (by kernel_rfl) (fun _ _ _ h => h) (Or.inl ⟨by rfl, ?hya4_4⟩) (by assumption) ?resta4_4
          case hya4_4 => (intro w hSw; (try dsimp only at hSw); go_simp; try with_reducible rfl)
          try simp only [Act.put, List.getElem_toArray, List.getElem_cons_succ, List.getElem_cons_zero, List.setIfInBounds_toArray, List.set_cons_zero, List.set_cons_succ]
          refine wpAnyH_take (i := 5) (v := ?va5_5) rfl (by kernel_rfl) (by kernel_rfl) (by kernel_rfl) (fun _ _ _ h => h) (Or.inl ⟨by rfl, ?hya5_5⟩) (by assumption) ?resta5_5
          case hya5_5 => (intro w hSw; (try dsimp only at hSw); go_simp; try with_reducible rfl)
          try simp only [Act.put, List.getElem_toArray, List.getElem_cons_succ, List.getElem_cons_zero, List.setIfInBounds_toArray, List.set_cons_zero, List.set_cons_succ]
          refine wpAnyH_take (i := 6) (v := ?va6_6) rfl (by kernel_rfl) (by kernel_rfl) (by kernel_rfl) (fun _ _ _ h => h) (Or.inl ⟨by rfl, ?hya6_6⟩) (by assumption) ?resta6_6
          case hya6_6 => (intro w hSw; (try dsimp only at hSw); go_simp; try with_reducible rfl)
          try simp only [Act.put, List.getElem_toArray, List.getElem_cons_succ, List.getElem_cons_zero, List.setIfInBounds_toArray, List.set_cons_zero, List.set_cons_succ]
          refine wpAnyH_take (i := 7) (v := ?va7_7) rfl (by kernel_rfl) (by kernel_rfl) (by kernel_rfl) (fun _ _ _ h => h) (Or.inl ⟨by rfl, ?hya7_7⟩) (by assumption) ?resta7_7
          case hya7_7 => (intro w hSw; (try dsimp only at hSw); go_simp; try with_reducible rfl)
          try simp only [Act.put, List.getElem_toArray, List.getElem_cons_succ, List.getElem_cons_zero, List.setIfInBounds_toArray, List.set_cons_zero, List.set_cons_succ]
          refine wpAnyH_ready (rs := [2, 8]) (by kernel_rfl) (by simp) ?_
          refine AllReadyH.cons rfl (fun Kc hKc => ?_) (AllReadyH.cons rfl (fun Kc hKc => ?_) AllReadyH.nil)
          · go_simp
            refine hKc.out _ _ ?_ (fun hHeld => ?_)
            · assumption
            clear hKc Kc
            try simp only [Act.put, List.getElem_toArray, List.getElem_cons_succ, List.getElem_cons_zero, List.setIfInBounds_toArray, List.set_cons_zero, List.set_cons_succ]
            refine wpAnyH_ready (rs := [8]) (by kernel_rfl) (by simp) ?_
            refine AllReadyH.cons rfl (fun Kc hKc => ?_) AllReadyH.nil
            go_simp
            go_at_call 205
            refine Calls.mono hseq ?_
            rintro eA wA ⟨uv, rfl, hgA, hUA⟩
            have hgA0 : Ext wr wA := grown_trans (grown_drew _ _) hgA
            have hgA2 : wr.grownBy wA (some ob) := grown_of_ext _ hgA0
            have hcA := hgA0.cell ho0 (by simp)
            obtain ⟨ua, uc, hvu, _, _⟩ := Sl.shape hUA
            subst hvu
            go_wp2_with fail
            refine hKc.out _ _ ?_ (fun hHeld => ?_)
            · exact hgA2
            clear hKc Kc
            try simp only [Act.put, List.getElem_toArray, List.getElem_cons_succ, List.getElem_cons_zero, List.setIfInBounds_toArray, List.set_cons_zero, List.set_cons_succ]
            refine wpAnyH_ready (rs := [9]) (by kernel_rfl) (by simp) ?_
            refine AllReadyH.cons rfl (fun Kc hKc => ?_) AllReadyH.nil
            go_simp
            go_at_call 128
            refine Calls.mono (l19Insert_ok P G wA _ _ _ L (cseq P H) Any (fun k => k ≠ ob ∧ wF.heap.size ≤ k) ⟨_, _, _, rfl, Pres3.ext h3r hgA0⟩ (Rows3.ext hL hgA0) (Rows2.sub hUA (fun k hk _ => by have h1 : wr.drew.heap.size ≤ k := hk; have h2 := (grown_drew wr none).size; exact ⟨by omega, by omega⟩)) HX.out.2.2.1 HX.out.2.2.2.1 HX.out.2.2.2.2.1 (by omega)) ?_
            rintro eB wB ⟨rv, rfl, hgB, R, hR1, hR2, hR3, hRB⟩
            obtain ⟨ra, rc, hvr, _, _⟩ := Sl.shape hRB
            subst hvr
            have hgB0 := grown_trans hgA0 hgB
            have hgB2 : wr.grownBy wB (some ob) := grown_of_ext _ hgB0
            have hcB := hgB0.cell ho0 (by simp)
            have hcB1 := hgB0.cell ho1 (by simp)
            have hfB : ∀ k, wB.frozen? ⟨ob, k, none⟩ = false := fun k => (World.frozen?_of_block (w := wr) (hgB0.block ob hob (by simp))).trans (hof k)
            have hgp := grown_put wB ⟨ob, 0, none⟩ (.slice ra R.length rc)
            have hgw9 := grown_trans hgB2 hgp
            have HR := Lib.hid (And.intro hR1 (And.intro hR2 (And.intro hR3 hRB))); clear hR1 hR2 hR3 hRB hUA
            go_wp2_with fail
            refine hKc.out _ _ ?_ (fun hHeld => ?_)
            · exact hgB2
            clear hKc Kc
            try simp only [Act.put, List.getElem_toArray, List.getElem_cons_succ, List.getElem_cons_zero, List.setIfInBounds_toArray, List.set_cons_zero, List.set_cons_succ]
            refine wpAnyH_take (i := 10) (v := ?va10_8) rfl (by kernel_rfl) (by kernel_rfl) (by kernel_rfl) (fun _ _ _ h => h) (Or.inl ⟨by rfl, ?hya10_8⟩) (by assumption) ?resta10_8
            case hya10_8 => (intro w hSw; (try dsimp only at hSw); go_simp; try with_reducible rfl)
            try simp only [Act.put, List.getElem_toArray, List.getElem_cons_succ, List.getElem_cons_zero, List.setIfInBounds_toArray, List.set_cons_zero, List.set_cons_succ]
            refine wpAnyH_ready (rs := [11]) (by kernel_rfl) (by simp) ?_
            refine AllReadyH.cons rfl (fun Kc hKc => ?_) AllReadyH.nil
            go_simp
            refine hKc.out _ _ ?_ (fun hHeld => ?_)
            · exact hgw9
            clear hKc Kc
            try simp only [Act.put, List.getElem_toArray, List.getElem_cons_succ, List.getElem_cons_zero, List.setIfInBounds_toArray, List.set_cons_zero, List.set_cons_succ]
            refine wpAnyH_done (by kernel_rfl) ?_ _
            have hn0 : (wB.setCell ⟨ob, 0, none⟩ (.slice ra R.length rc)).cell? ⟨ob, 0, none⟩ = some (.slice ra R.length rc) := World.cell?_setCell_same _ _ _ hcB
            have hn1 : (wB.setCell ⟨ob, 0, none⟩ (.slice ra R.length rc)).cell? ⟨ob, 1, none⟩ = some (.slice none 0 0) := (World.cell?_setCell_other _ _ _ _ (by simp)).trans hcB1
            have hnf : ∀ k, (wB.setCell ⟨ob, 0, none⟩ (.slice ra R.length rc)).frozen? ⟨ob, k, none⟩ = false := fun k => by rw [World.frozen?_setCell]; exact hfB k
            have hns : ob < (wB.setCell ⟨ob, 0, none⟩ (.slice ra R.length rc)).heap.size := by have := hgp.size; have := hgB0.size; omega
            have hnF : Ext wF (wB.setCell ⟨ob, 0, none⟩ (.slice ra R.length rc)) := grown_own (grown_trans hg hgB0) hgp (fun b hb hlt => by have : ob = b := (by simpa using hb); omega)
            have hnR : Rows3 (fun k => k ≠ ob ∧ wF.heap.size ≤ k) (wB.setCell ⟨ob, 0, none⟩ (.slice ra R.length rc)) (.slice ra R.length rc) R := Rows3.mono HR.out.2.2.2 (frame_of hgp (fun k hk hlt => by have h1 : k ≠ ob ∧ wF.heap.size ≤ k := (by have h2 := hgA0.size; rcases hk with hk | hk; exact hk; exact ⟨by omega, by omega⟩); exact ⟨h1, fun e => h1.1 (by simpa using e.symm)⟩))
            have hInv : Hid (R.Pairwise (subLt P) ∧ (∀ u, u ∈ R ↔ ∃ j, j < i + 1 ∧ u = cseq P (ofMask P (gt M j))) ∧ R.length ≤ i + 1) := Lib.hid ⟨HR.out.1, fun u => by
              rw [HR.out.2.1 u, HX.out.2.2.2.2.2 u]
              constructor
              · rintro (⟨j, h1, h2⟩ | h1)
                · exact ⟨j, by omega, h2⟩
                · exact ⟨i, by omega, by rw [← HX.out.2.1]; exact h1⟩
              · rintro ⟨j, h1, h2⟩
                rcases Nat.lt_succ_iff_lt_or_eq.1 h1 with h3 | h3
                · exact .inl ⟨j, h3, h2⟩
                · subst h3; exact .inr (by rw [h2, ← HX.out.2.1]), by have := HR.out.2.2.1; omega⟩
            clear hcA hcB hcB1 ho0 ho1 hof hfB
            go_wp2
            go_roundw
            case rel => exact ⟨i + 1, _, R, by go_num, by omega, hnF, hn0, hn1, hnf, hns, hnR, hInv⟩
            case measure => simp [intOf]; omega
          · go_simp
            go_at_call 205
            refine Calls.mono hseq ?_
            rintro eA wA ⟨uv, rfl, hgA, hUA⟩
            have hgA0 : Ext wr wA := grown_trans (grown_drew _ _) hgA
            have hgA2 : wr.grownBy wA (some ob) := grown_of_ext _ hgA0
            have hcA := hgA0.cell ho0 (by simp)
            obtain ⟨ua, uc, hvu, _, _⟩ := Sl.shape hUA
            subst hvu
            go_wp2_with fail
            refine hKc.out _ _ ?_ (fun hHeld => ?_)
            · exact hgA2
            clear hKc Kc
            try simp only [Act.put, List.getElem_toArray, List.getElem_cons_succ, List.getElem_cons_zero, List.setIfInBounds_toArray, List.set_cons_zero, List.set_cons_succ]
            refine wpAnyH_ready (rs := [2]) (by kernel_rfl) (by simp) ?_
            refine AllReadyH.cons rfl (fun Kc hKc => ?_) AllReadyH.nil
            go_simp
            refine hKc.out _ _ ?_ (fun hHeld => ?_)
            · assumption
            clear hKc Kc
            try simp only [Act.put, List.getElem_toArray, List.getElem_cons_succ, List.getElem_cons_zero, List.setIfInBounds_toArray, List.set_cons_zero, List.set_cons_succ]
            refine wpAnyH_ready (rs := [9]) (by kernel_rfl) (by simp) ?_
            refine AllReadyH.cons rfl (fun Kc hKc => ?_) AllReadyH.nil
            go_simp
            go_at_call 128
            refine Calls.mono (l19Insert_ok P G wA _ _ _ L (cseq P H) Any (fun k => k ≠ ob ∧ wF.heap.size ≤ k) ⟨_, _, _, rfl, Pres3.ext h3r hgA0⟩ (Rows3.ext hL hgA0) (Rows2.sub hUA (fun k hk _ => by have h1 : wr.drew.heap.size ≤ k := hk; have h2 := (grown_drew wr none).size; exact ⟨by omega, by omega⟩)) HX.out.2.2.1 HX.out.2.2.2.1 HX.out.2.2.2.2.1 (by omega)) ?_
            rintro eB wB ⟨rv, rfl, hgB, R, hR1, hR2, hR3, hRB⟩
            obtain ⟨ra, rc, hvr, _, _⟩ := Sl.shape hRB
            subst hvr
            have hgB0 := grown_trans hgA0 hgB
            have hgB2 : wr.grownBy wB (some ob) := grown_of_ext _ hgB0
            have hcB := hgB0.cell ho0 (by simp)
            have hcB1 := hgB0.cell ho1 (by simp)
            have hfB : ∀ k, wB.frozen? ⟨ob, k, none⟩ = false := fun k => (World.frozen?_of_block (w := wr) (hgB0.block ob hob (by simp))).trans (hof k)
            have hgp := grown_put wB ⟨ob, 0, none⟩ (.slice ra R.length rc)
            have hgw9 := grown_trans hgB2 hgp
            have HR := Lib.hid (And.intro hR1 (And.intro hR2 (And.intro hR3 hRB))); clear hR1 hR2 hR3 hRB hUA
            go_wp2_with fail
            refine hKc.out _ _ ?_ (fun hHeld => ?_)
            · exact hgB2
            clear hKc Kc
            try simp only [Act.put, List.getElem_toArray, List.getElem_cons_succ, List.getElem_cons_zero, List.setIfInBounds_toArray, List.set_cons_zero, List.set_cons_succ]
            refine wpAnyH_take (i := 10) (v := ?va10_9) rfl (by kernel_rfl) (by kernel_rfl) (by kernel_rfl) (fun _ _ _ h => h) (Or.inl ⟨by rfl, ?hya10_9⟩) (by assumption) ?resta10_9
            case hya10_9 => (intro w hSw; (try dsimp only at hSw); go_simp; try with_reducible rfl)
            try simp only [Act.put, List.getElem_toArray, List.getElem_cons_succ, List.getElem_cons_zero, List.setIfInBounds_toArray, List.set_cons_zero, List.set_cons_succ]
            refine wpAnyH_ready (rs := [11]) (by kernel_rfl) (by simp) ?_
            refine AllReadyH.cons rfl (fun Kc hKc => ?_) AllReadyH.nil
            go_simp
            refine hKc.out _ _ ?_ (fun hHeld => ?_)
            · exact hgw9
            clear hKc Kc
            try simp only [Act.put, List.getElem_toArray, List.getElem_cons_succ, List.getElem_cons_zero, List.setIfInBounds_toArray, List.set_cons_zero, List.set_cons_succ]
            refine wpAnyH_done (by kernel_rfl) ?_ _
            have hn0 : (wB.setCell ⟨ob, 0, none⟩ (.slice ra R.length rc)).cell? ⟨ob, 0, none⟩ = some (.slice ra R.length rc) := World.cell?_setCell_same _ _ _ hcB
            have hn1 : (wB.setCell ⟨ob, 0, none⟩ (.slice ra R.length rc)).cell? ⟨ob, 1, none⟩ = some (.slice none 0 0) := (World.cell?_setCell_other _ _ _ _ (by simp)).trans hcB1
            have hnf : ∀ k, (wB.setCell ⟨ob, 0, none⟩ (.slice ra R.length rc)).frozen? ⟨ob, k, none⟩ = false := fun k => by rw [World.frozen?_setCell]; exact hfB k
            have hns : ob < (wB.setCell ⟨ob, 0, none⟩ (.slice ra R.length rc)).heap.size := by have := hgp.size; have := hgB0.size; omega
            have hnF : Ext wF (wB.setCell ⟨ob, 0, none⟩ (.slice ra R.length rc)) := grown_own (grown_trans hg hgB0) hgp (fun b hb hlt => by have : ob = b := (by simpa using hb); omega)
            have hnR : Rows3 (fun k => k ≠ ob ∧ wF.heap.size ≤ k) (wB.setCell ⟨ob, 0, none⟩ (.slice ra R.length rc)) (.slice ra R.length rc) R := Rows3.mono HR.out.2.2.2 (frame_of hgp (fun k hk hlt => by have h1 : k ≠ ob ∧ wF.heap.size ≤ k := (by have h2 := hgA0.size; rcases hk with hk | hk; exact hk; exact ⟨by omega, by omega⟩); exact ⟨h1, fun e => h1.1 (by simpa using e.symm)⟩))
            have hInv : Hid (R.Pairwise (subLt P) ∧ (∀ u, u ∈ R ↔ ∃ j, j < i + 1 ∧ u = cseq P (ofMask P (gt M j))) ∧ R.length ≤ i + 1) := Lib.hid ⟨HR.out.1, fun u => by
              rw [HR.out.2.1 u, HX.out.2.2.2.2.2 u]
              constructor
              · rintro (⟨j, h1, h2⟩ | h1)
                · exact ⟨j, by omega, h2⟩
                · exact ⟨i, by omega, by rw [← HX.out.2.1]; exact h1⟩
              · rintro ⟨j, h1, h2⟩
                rcases Nat.lt_succ_iff_lt_or_eq.1 h1 with h3 | h3
                · exact .inl ⟨j, h3, h2⟩
                · subst h3; exact .inr (by rw [h2, ← HX.out.2.1]), by have := HR.out.2.2.1; omega⟩
            clear hcA hcB hcB1 ho0 ho1 hof hfB
            go_wp2
            go_roundw
            case rel => exact ⟨i + 1, _, R, by go_num, by omega, hnF, hn0, hn1, hnf, hns, hnR, hInv⟩
            case measure => simp [intOf]; omega
        · have hie : i = M.length := by omega
          have hlat : LatL P L := ⟨hI.out.1, fun u => by rw [hI.out.2.1 u, hie]; exact (HM.out.1 u).symm⟩
          have hLl : L.length ≤ 100000 := by have := hI.out.2.2; omega
          obtain ⟨sa, sc, hsv, _, _⟩ := Sl.shape hL
          subst hsv
          have hLne : 0 < L.length := (G.lat_top hlat).1
          obtain ⟨bL, oL, _, _, hbL, hbn, _, _, _⟩ := Rows3.at hL 0 hLne
          have HL := Lib.hid hlat; clear hlat hI hLne
          subst hbL
          have hbn : bL ≠ ob := hbn.1
          have hni : ¬ (i : Int) < M.length := by omega
          go_wp2
          clear hni hie hlt hi
          obtain ⟨wZ, rfl⟩ : ∃ wZ : World, wZ = wr := ⟨_, rfl⟩
          have hgZ := grown_trans hg2F hg
          have hg0Z := grown_trans hg2 hgZ
          clear hg
          go_loopw [14] (fun kv wr => ∃ (k : Nat) (mv : Value), kv = .int .i64 k ∧ k ≤ L.length ∧ wZ.grownBy wr (some ob) ∧ wr.cell? ⟨ob, 0, none⟩ = some (.slice (some ⟨bL, oL, none⟩) L.length sc) ∧ wr.cell? ⟨ob, 1, none⟩ = some mv ∧ (∀ k, wr.frozen? ⟨ob, k, none⟩ = false) ∧ ob < wr.heap.size ∧
            Own wZ.heap.size wr mv (natI ((L.take k).map (mskU P)))) (fun kv _ => L.length - (intOf kv).toNat)
          case atStart => exact ⟨0, _, rfl, by omega, grown_refl _ _, ho0, ho1, hof, hob, World.ownsRow_nil _ _ _ _⟩
          case round =>
            have hobZ := hob
            clear ho0 ho1 hof hob
            obtain ⟨k, mv, rfl, hk, hg, ho0, ho1, hof, hob, hO⟩ := hrel
            by_cases hlt : k < L.length
            · have hlt' : (k : Int) < L.length := by omega
              obtain ⟨b7, o7, a7, c7, hb7, hbs, hbl, hcl, hru⟩ := Rows3.at hL k hlt
              cases hb7
              have hub := (HL.out.2 _).1 (gt_mem hlt)
              obtain ⟨u, hu⟩ : ∃ u, u = gt L k := ⟨_, rfl⟩
              rw [← hu] at hcl hru hub
              have hruD : Rows2 Any wr.drew (.slice a7 u.length c7) (cseq P (genP P (fun x => x ∈ u))) := by
                rw [← hub.2]
                exact Rows2.mono hru (frame_of (grown_trans hg (grown_drew wr (some ob))) (fun j hj _ => ⟨trivial, fun e => hj.1 (by simpa using e.symm)⟩))
              have hsw0 := hgZ.size
              have hsw2 := hg2.size
              have hswF := hg2F.size
              have h3D : Pres3 Any wr.drew vo6 vp6 vc6 P := Pres3.mono h37 (fun j _ hlt => ⟨trivial, Nat.lt_of_lt_of_le hlt (Nat.le_trans hg0Z.size (grown_trans hg (grown_drew wr (some ob))).size), ((grown_trans hg (grown_drew wr (some ob))).block j (Nat.lt_of_lt_of_le hlt hg0Z.size) (fun e => by have : ob = j := (by first | simpa using e | simpa using e.symm); omega)).trans (hg0Z.block j hlt (by simp))⟩)
              have hbits := l19Bits_ok P G wr.drew (.agg #[vo6, vp6, vc6]) (.slice a7 u.length c7) _ Any Any (G.subB hub) h32 ⟨_, _, _, rfl, h3D⟩ hruD
              obtain ⟨q, hq⟩ : ∃ q, q = msk P (genP P (fun x => x ∈ u)) := ⟨_, rfl⟩
              rw [← hq] at hbits
              have happ : natI ((L.take (k + 1)).map (mskU P)) = natI ((L.take k).map (mskU P)) ++ [(q : Int)] := by
                rw [take_succ_gt L k hlt, List.map_append, List.map_singleton, natI_app, hq, hu]; rfl
              have hml : (natI ((L.take k).map (mskU P))).length ≤ 1000000 := by rw [natI_len, List.length_map, List.length_take]; omega
              have HU := Lib.hid (And.intro happ hml); clear happ hml hq hub hruD h3D hu hru
              obtain ⟨mva, mvn, mvc, hmv⟩ : ∃ a n c, mv = .slice a n c := by
                rcases hO.2 with ⟨h1, _⟩ | ⟨g, cp, _, h1, _⟩ <;> exact ⟨_, _, _, h1⟩
              subst hmv
              obtain ⟨hc0, hc1, hc2⟩ := HB.out.1 wZ hg0Z
              have hsw := HB.out.2.1
              have hszZ := hg.size
              have e1 : ∀ w', wZ.grownBy w' (some ob) → w'.cell? ⟨w.heap.size, 0, none⟩ = some vo6 := fun w' h => h.cell hc0 (by simp; omega)
              have e2 : ∀ w', wZ.grownBy w' (some ob) → w'.cell? ⟨w.heap.size, 1, none⟩ = some vp6 := fun w' h => h.cell hc1 (by simp; omega)
              have e3 : ∀ w', wZ.grownBy w' (some ob) → w'.cell? ⟨w.heap.size, 2, none⟩ = some vc6 := fun w' h => h.cell hc2 (by simp; omega)
              have e4 : ∀ w', wZ.grownBy w' (some ob) → w'.cell? ⟨bL, oL + k, none⟩ = some (.slice a7 u.length c7) := fun w' h => h.cell hcl (by simp; omega)
              clear hc0 hc1 hc2 hcl hsw hsw0 hsw2 hswF
              go_wp2
              refine wp_region_held_drew (S := fun w' => wZ.grownBy w' (some ob) ∧ w'.cell? ⟨ob, 0, none⟩ = some (.slice (some ⟨bL, oL, none⟩) L.length sc)) (by kernel_rfl) ⟨grown_trans hg (grown_drew _ _), ho0⟩ (fun hHeld => ?_)
              refine wpAnyH_take (i := 0) (v := ?vb0_1) rfl (by kernel_rfl) (by kernel_rfl) (by kernel_rfl) (fun _ _ _ h => h) (Or.inl ⟨by rfl, ?hyb0_1⟩) (by assumption) ?restb0_1
              case hyb0_1 => (intro w hSw; (try dsimp only at hSw); obtain ⟨hSw, hSc⟩ := hSw; go_simp; try with_reducible rfl)
              try simp only [Act.put, List.getElem_toArray, List.getElem_cons_succ, List.getElem_cons_zero, List.setIfInBounds_toArray, List.set_cons_zero, List.set_cons_succ]
              refine wpAnyH_take (i := 2) (v := ?vb2_2) rfl (by kernel_rfl) (by kernel_rfl) (by kernel_rfl) (fun _ _ _ h => h) (Or.inl ⟨by rfl, ?hyb2_2⟩) (by assumption) ?restb2_2
              case hyb2_2 => (intro w hSw; (try dsimp only at hSw); obtain ⟨hSw, hSc⟩ := hSw; go_simp; try with_reducible rfl)
              try simp only [Act.put, List.getElem_toArray, List.getElem_cons_succ, List.getElem_cons_zero, List.setIfInBounds_toArray, List.set_cons_zero, List.set_cons_succ]
              refine wpAnyH_take (i := 3) (v := ?vb3_3) rfl (by kernel_rfl) (by kernel_rfl) (by kernel_rfl) (fun _ _ _ h => h) (Or.inl ⟨by rfl, ?hyb3_3⟩) (by assumption) ?restb3_3
              case hyb3_3 => (intro w hSw; (try dsimp only at hSw); obtain ⟨hSw, hSc⟩ := hSw; go_simp; try with_reducible rfl)
              try simp only [Act.put, List.getElem_toArray, List.getElem_cons_succ, List.getElem_cons_zero, List.setIfInBounds_toArray, List.set_cons_zero, List.set_cons_succ]
              refine wpAnyH_take (i := 4) (v := ?vb4_4) rfl (by kernel_rfl) (by kernel_rfl) (by kernel_rfl) (fun _ _ _ h => h) (Or.inl ⟨by rfl, ?hyb4_4⟩) (by assumption) ?restb4_4
              case hyb4_4 => (intro w hSw; (try dsimp only at hSw); obtain ⟨hSw, hSc⟩ := hSw; go_simp; try with_reducible rfl)
              try simp only [Act.put, List.getElem_toArray, List.getElem_cons_succ, List.getElem_cons_zero, List.setIfInBounds_toArray, List.set_cons_zero, List.set_cons_succ]
              refine wpAnyH_take (i := 5) (v := ?vb5_5) rfl (by kernel_rfl) (by kernel_rfl) (by kernel_rfl) (fun _ _ _ h => h) (Or.inl ⟨by rfl, ?hyb5_5⟩) (by assumption) ?restb5_5
              case hyb5_5 => (intro w hSw; (try dsimp only at hSw); obtain ⟨hSw, hSc⟩ := hSw; go_simp; try with_reducible rfl)
              try simp only [Act.put, List.getElem_toArray, List.getElem_cons_succ, List.getElem_cons_zero, List.setIfInBounds_toArray, List.set_cons_zero, List.set_cons_succ]
              refine wpAnyH_take (i := 6) (v := ?vb6_6) rfl (by kernel_rfl) (by kernel_rfl) (by kernel_rfl) (fun _ _ _ h => h) (Or.inl ⟨by rfl, ?hyb6_6⟩) (by assumption) ?restb6_6
              case hyb6_6 => (intro w hSw; (try dsimp only at hSw); obtain ⟨hSw, hSc⟩ := hSw; go_simp; try with_reducible rfl)
              try simp only [Act.put, List.getElem_toArray, List.getElem_cons_succ, List.getElem_cons_zero, List.setIfInBounds_toArray, List.set_cons_zero, List.set_cons_succ]
              refine wpAnyH_take (i := 7) (v := ?vb7_7) rfl (by kernel_rfl) (by kernel_rfl) (by kernel_rfl) (fun _ _ _ h => h) (Or.inl ⟨by rfl, ?hyb7_7⟩) (by assumption) ?restb7_7
              case hyb7_7 => (intro w hSw; (try dsimp only at hSw); obtain ⟨hSw, hSc⟩ := hSw; go_simp; try with_reducible rfl)
              try simp only [Act.put, List.getElem_toArray, List.getElem_cons_succ, List.getElem_cons_zero, List.setIfInBounds_toArray, List.set_cons_zero, List.set_cons_succ]
              refine wpAnyH_ready (rs := [1, 8]) (by kernel_rfl) (by simp) ?_
              refine AllReadyH.cons rfl (fun Kc hKc => ?_) (AllReadyH.cons rfl (fun Kc hKc => ?_) AllReadyH.nil)
              · go_simp
                refine hKc.out _ _ ?_ (fun hHeld => ?_)
                · assumption
                clear hKc Kc
                try simp only [Act.put, List.getElem_toArray, List.getElem_cons_succ, List.getElem_cons_zero, List.setIfInBounds_toArray, List.set_cons_zero, List.set_cons_succ]
                refine wpAnyH_ready (rs := [8]) (by kernel_rfl) (by simp) ?_
                refine AllReadyH.cons rfl (fun Kc hKc => ?_) AllReadyH.nil
                go_simp
                go_at_call 206
                refine Calls.mono hbits ?_
                rintro eK wK ⟨kv, rfl, hgK, rfl⟩
                have hgK0 : Ext wr wK := grown_trans (grown_drew _ _) hgK
                have hgK2 : wZ.grownBy wK (some ob) := grown_trans hg (grown_of_ext _ hgK0)
                have hk0 := hgK0.cell ho0 (by simp)
                have hk1 := hgK0.cell ho1 (by simp)
                have hkf : ∀ k, wK.frozen? ⟨ob, k, none⟩ = false := fun k => (World.frozen?_of_block (w := wr) (hgK0.block ob hob (by simp))).trans (hof k)
                have hOK := hO.ext0 hgK0
                have hzK := hgK0.size
                have hobK : ob < wK.heap.size := by omega
                go_wp2_with fail
                refine hKc.out _ _ ?_ (fun hHeld => ?_)
                · exact ⟨hgK2, hk0⟩
                clear hKc Kc
                try simp only [Act.put, List.getElem_toArray, List.getElem_cons_succ, List.getElem_cons_zero, List.setIfInBounds_toArray, List.set_cons_zero, List.set_cons_succ]
                refine wpAnyH_ready (rs := [9]) (by kernel_rfl) (by simp) ?_
                refine AllReadyH.cons rfl (fun Kc hKc => ?_) AllReadyH.nil
                go_simp
                refine hKc.out _ _ ?_ (fun hHeld => ?_)
                · exact ⟨grown_trans hgK2 (grown_of_ext _ (World.grownBy_alloc _ _ _)), (World.grownBy_alloc wK _ none).cell hk0 (by simp)⟩
                clear hKc Kc
                try simp only [Act.put, List.getElem_toArray, List.getElem_cons_succ, List.getElem_cons_zero, List.setIfInBounds_toArray, List.set_cons_zero, List.set_cons_succ]
                refine wpAnyH_ready (rs := [10]) (by kernel_rfl) (by simp) ?_
                refine AllReadyH.cons rfl (fun Kc hKc => ?_) AllReadyH.nil
                refine step_app_int rfl _ _ rfl wZ.heap.size (.slice mva mvn mvc) (natI ((L.take k).map (mskU P))) (q : Int) rfl wK hOK rfl rfl HU.out.2 (by omega) ?_
                intro v8 w8 hO8 hg8
                have hbk : ∀ b, (Value.slice mva mvn mvc).ownBlock = some b → wZ.heap.size ≤ b := fun b hb => (hOK.lt b hb).1
                have hj0 := hg8.cell hk0 (fun e => by have h0 : wZ.heap.size ≤ ob := hbk _ e.symm; omega)
                have hj1 := hg8.cell hk1 (fun e => by have h0 : wZ.heap.size ≤ ob := hbk _ e.symm; omega)
                have hjf : ∀ k, w8.frozen? ⟨ob, k, none⟩ = false := fun k => (World.frozen?_of_block (w := wK) (hg8.block ob (by omega) (fun e => by have := hbk _ e.symm; omega))).trans (hkf k)
                have hgw8 : wZ.grownBy w8 (some ob) := grown_own hgK2 hg8 (fun b hb hlt => by have := hbk b hb; omega)
                obtain ⟨ja, jn, jc, hj8⟩ : ∃ a n c, v8 = .slice a n c := (by rcases hO8.2 with ⟨h1, _⟩ | ⟨g, cp, _, h1, _⟩ <;> exact ⟨_, _, _, h1⟩)
                subst hj8
                have hgp := grown_put w8 ⟨ob, 1, none⟩ (.slice ja jn jc)
                have hn0 : (w8.setCell ⟨ob, 1, none⟩ (.slice ja jn jc)).cell? ⟨ob, 0, none⟩ = some (.slice (some ⟨bL, oL, none⟩) L.length sc) := (World.cell?_setCell_other _ _ _ _ (by simp)).trans hj0
                have hn1 : (w8.setCell ⟨ob, 1, none⟩ (.slice ja jn jc)).cell? ⟨ob, 1, none⟩ = some (.slice ja jn jc) := World.cell?_setCell_same _ _ _ hj1
                have hnf : ∀ k, (w8.setCell ⟨ob, 1, none⟩ (.slice ja jn jc)).frozen? ⟨ob, k, none⟩ = false := fun k => by rw [World.frozen?_setCell]; exact hjf k
                have hns : ob < (w8.setCell ⟨ob, 1, none⟩ (.slice ja jn jc)).heap.size := by have := hgp.size; have := hg8.size; omega
                have hne8 : (Value.slice ja jn jc).ownBlock = none ∨ (Value.slice ja jn jc).ownBlock ≠ some ob := .inr (fun e => by have := (hO8.lt _ e).1; omega)
                have hO9 : Own wZ.heap.size (w8.setCell ⟨ob, 1, none⟩ (.slice ja jn jc)) (.slice ja jn jc) (natI ((L.take (k + 1)).map (mskU P))) := by rw [HU.out.1]; exact Own.of (hO8.v.kept hgp hne8)
                have hgw9 := grown_trans hgw8 hgp
                refine hKc.out _ _ ?_ (fun hHeld => ?_)
                · exact ⟨hgw8, hj0⟩
                clear hKc Kc
                try simp only [Act.put, List.getElem_toArray, List.getElem_cons_succ, List.getElem_cons_zero, List.setIfInBounds_toArray, List.set_cons_zero, List.set_cons_succ]
                refine wpAnyH_take (i := 11) (v := ?vb11_8) rfl (by kernel_rfl) (by kernel_rfl) (by kernel_rfl) (fun _ _ _ h => h) (Or.inl ⟨by rfl, ?hyb11_8⟩) (by assumption) ?restb11_8
                case hyb11_8 => (intro w hSw; (try dsimp only at hSw); obtain ⟨hSw, hSc⟩ := hSw; go_simp; try with_reducible rfl)
                try simp only [Act.put, List.getElem_toArray, List.getElem_cons_succ, List.getElem_cons_zero, List.setIfInBounds_toArray, List.set_cons_zero, List.set_cons_succ]
                refine wpAnyH_ready (rs := [12]) (by kernel_rfl) (by simp) ?_
                refine AllReadyH.cons rfl (fun Kc hKc => ?_) AllReadyH.nil
                go_simp
                refine hKc.out _ _ ?_ (fun hHeld => ?_)
                · exact ⟨hgw9, hn0⟩
                clear hKc Kc
                try simp only [Act.put, List.getElem_toArray, List.getElem_cons_succ, List.getElem_cons_zero, List.setIfInBounds_toArray, List.set_cons_zero, List.set_cons_succ]
                refine wpAnyH_done (by kernel_rfl) ?_ _
                clear hk0 hk1 hkf hj0 hj1 hjf ho0 ho1 hof
                go_wp2
                go_roundw
                case rel => exact ⟨k + 1, _, by go_num, by omega, hgw9, hn0, hn1, hnf, hns, hO9⟩
                case measure => simp [intOf]; omega
              · go_simp
                go_at_call 206
                refine Calls.mono hbits ?_
                rintro eK wK ⟨kv, rfl, hgK, rfl⟩
                have hgK0 : Ext wr wK := grown_trans (grown_drew _ _) hgK
                have hgK2 : wZ.grownBy wK (some ob) := grown_trans hg (grown_of_ext _ hgK0)
                have hk0 := hgK0.cell ho0 (by simp)
                have hk1 := hgK0.cell ho1 (by simp)
                have hkf : ∀ k, wK.frozen? ⟨ob, k, none⟩ = false := fun k => (World.frozen?_of_block (w := wr) (hgK0.block ob hob (by simp))).trans (hof k)
                have hOK := hO.ext0 hgK0
                have hzK := hgK0.size
                have hobK : ob < wK.heap.size := by omega
                go_wp2_with fail
                refine hKc.out _ _ ?_ (fun hHeld => ?_)
                · exact ⟨hgK2, hk0⟩
                clear hKc Kc
                try simp only [Act.put, List.getElem_toArray, List.getElem_cons_succ, List.getElem_cons_zero, List.setIfInBounds_toArray, List.set_cons_zero, List.set_cons_succ]
                refine wpAnyH_ready (rs := [1, 9]) (by kernel_rfl) (by simp) ?_
                refine AllReadyH.cons rfl (fun Kc hKc => ?_) (AllReadyH.cons rfl (fun Kc hKc => ?_) AllReadyH.nil)
                · go_simp
                  refine hKc.out _ _ ?_ (fun hHeld => ?_)
                  · assumption
                  clear hKc Kc
                  try simp only [Act.put, List.getElem_toArray, List.getElem_cons_succ, List.getElem_cons_zero, List.setIfInBounds_toArray, List.set_cons_zero, List.set_cons_succ]
                  refine wpAnyH_ready (rs := [9]) (by kernel_rfl) (by simp) ?_
                  refine AllReadyH.cons rfl (fun Kc hKc => ?_) AllReadyH.nil
                  go_simp
                  refine hKc.out _ _ ?_ (fun hHeld => ?_)
                  · exact ⟨grown_trans hgK2 (grown_of_ext _ (World.grownBy_alloc _ _ _)), (World.grownBy_alloc wK _ none).cell hk0 (by simp)⟩
                  clear hKc Kc
                  try simp only [Act.put, List.getElem_toArray, List.getElem_cons_succ, List.getElem_cons_zero, List.setIfInBounds_toArray, List.set_cons_zero, List.set_cons_succ]
                  refine wpAnyH_ready (rs := [10]) (by kernel_rfl) (by simp) ?_
                  refine AllReadyH.cons rfl (fun Kc hKc => ?_) AllReadyH.nil
                  refine step_app_int rfl _ _ rfl wZ.heap.size (.slice mva mvn mvc) (natI ((L.take k).map (mskU P))) (q : Int) rfl wK hOK rfl rfl HU.out.2 (by omega) ?_
                  intro v8 w8 hO8 hg8
                  have hbk : ∀ b, (Value.slice mva mvn mvc).ownBlock = some b → wZ.heap.size ≤ b := fun b hb => (hOK.lt b hb).1
                  have hj0 := hg8.cell hk0 (fun e => by have h0 : wZ.heap.size ≤ ob := hbk _ e.symm; omega)
                  have hj1 := hg8.cell hk1 (fun e => by have h0 : wZ.heap.size ≤ ob := hbk _ e.symm; omega)
                  have hjf : ∀ k, w8.frozen? ⟨ob, k, none⟩ = false := fun k => (World.frozen?_of_block (w := wK) (hg8.block ob (by omega) (fun e => by have := hbk _ e.symm; omega))).trans (hkf k)
                  have hgw8 : wZ.grownBy w8 (some ob) := grown_own hgK2 hg8 (fun b hb hlt => by have := hbk b hb; omega)
                  obtain ⟨ja, jn, jc, hj8⟩ : ∃ a n c, v8 = .slice a n c := (by rcases hO8.2 with ⟨h1, _⟩ | ⟨g, cp, _, h1, _⟩ <;> exact ⟨_, _, _, h1⟩)
                  subst hj8
                  have hgp := grown_put w8 ⟨ob, 1, none⟩ (.slice ja jn jc)
                  have hn0 : (w8.setCell ⟨ob, 1, none⟩ (.slice ja jn jc)).cell? ⟨ob, 0, none⟩ = some (.slice (some ⟨bL, oL, none⟩) L.length sc) := (World.cell?_setCell_other _ _ _ _ (by simp)).trans hj0
                  have hn1 : (w8.setCell ⟨ob, 1, none⟩ (.slice ja jn jc)).cell? ⟨ob, 1, none⟩ = some (.slice ja jn jc) := World.cell?_setCell_same _ _ _ hj1
                  have hnf : ∀ k, (w8.setCell ⟨ob, 1, none⟩ (.slice ja jn jc)).frozen? ⟨ob, k, none⟩ = false := fun k => by rw [World.frozen?_setCell]; exact hjf k
                  have hns : ob < (w8.setCell ⟨ob, 1, none⟩ (.slice ja jn jc)).heap.size := by have := hgp.size; have := hg8.size; omega
                  have hne8 : (Value.slice ja jn jc).ownBlock = none ∨ (Value.slice ja jn jc).ownBlock ≠ some ob := .inr (fun e => by have := (hO8.lt _ e).1; omega)
                  have hO9 : Own wZ.heap.size (w8.setCell ⟨ob, 1, none⟩ (.slice ja jn jc)) (.slice ja jn jc) (natI ((L.take (k + 1)).map (mskU P))) := by rw [HU.out.1]; exact Own.of (hO8.v.kept hgp hne8)
                  have hgw9 := grown_trans hgw8 hgp
                  refine hKc.out _ _ ?_ (fun hHeld => ?_)
                  · exact ⟨hgw8, hj0⟩
                  clear hKc Kc
                  try simp only [Act.put, List.getElem_toArray, List.getElem_cons_succ, List.getElem_cons_zero, List.setIfInBounds_toArray, List.set_cons_zero, List.set_cons_succ]
                  refine wpAnyH_take (i := 11) (v := ?vb11_9) rfl (by kernel_rfl) (by kernel_rfl) (by kernel_rfl) (fun _ _ _ h => h) (Or.inl ⟨by rfl, ?hyb11_9⟩) (by assumption) ?restb11_9
                  case hyb11_9 => (intro w hSw; (try dsimp only at hSw); obtain ⟨hSw, hSc⟩ := hSw; go_simp; try with_reducible rfl)
                  try simp only [Act.put, List.getElem_toArray, List.getElem_cons_succ, List.getElem_cons_zero, List.setIfInBounds_toArray, List.set_cons_zero, List.set_cons_succ]
                  refine wpAnyH_ready (rs := [12]) (by kernel_rfl) (by simp) ?_
                  refine AllReadyH.cons rfl (fun Kc hKc => ?_) AllReadyH.nil
                  go_simp
                  refine hKc.out _ _ ?_ (fun hHeld => ?_)
                  · exact ⟨hgw9, hn0⟩
                  clear hKc Kc
                  try simp only [Act.put, List.getElem_toArray, List.getElem_cons_succ, List.getElem_cons_zero, List.setIfInBounds_toArray, List.set_cons_zero, List.set_cons_succ]
                  refine wpAnyH_done (by kernel_rfl) ?_ _
                  clear hk0 hk1 hkf hj0 hj1 hjf ho0 ho1 hof
                  go_wp2
                  go_roundw
                  case rel => exact ⟨k + 1, _, by go_num, by omega, hgw9, hn0, hn1, hnf, hns, hO9⟩
                  case measure => simp [intOf]; omega
                · go_simp
                  refine hKc.out _ _ ?_ (fun hHeld => ?_)
                  · exact ⟨grown_trans hgK2 (grown_of_ext _ (World.grownBy_alloc _ _ _)), (World.grownBy_alloc wK _ none).cell hk0 (by simp)⟩
                  clear hKc Kc
                  try simp only [Act.put, List.getElem_toArray, List.getElem_cons_succ, List.getElem_cons_zero, List.setIfInBounds_toArray, List.set_cons_zero, List.set_cons_succ]
                  refine wpAnyH_ready (rs := [1]) (by kernel_rfl) (by simp) ?_
                  refine AllReadyH.cons rfl (fun Kc hKc => ?_) AllReadyH.nil
                  go_simp
                  refine hKc.out _ _ ?_ (fun hHeld => ?_)
                  · assumption
                  clear hKc Kc
                  try simp only [Act.put, List.getElem_toArray, List.getElem_cons_succ, List.getElem_cons_zero, List.setIfInBounds_toArray, List.set_cons_zero, List.set_cons_succ]
                  refine wpAnyH_ready (rs := [10]) (by kernel_rfl) (by simp) ?_
                  refine AllReadyH.cons rfl (fun Kc hKc => ?_) AllReadyH.nil
                  refine step_app_int rfl _ _ rfl wZ.heap.size (.slice mva mvn mvc) (natI ((L.take k).map (mskU P))) (q : Int) rfl wK hOK rfl rfl HU.out.2 (by omega) ?_
                  intro v8 w8 hO8 hg8
                  have hbk : ∀ b, (Value.slice mva mvn mvc).ownBlock = some b → wZ.heap.size ≤ b := fun b hb => (hOK.lt b hb).1
                  have hj0 := hg8.cell hk0 (fun e => by have h0 : wZ.heap.size ≤ ob := hbk _ e.symm; omega)
                  have hj1 := hg8.cell hk1 (fun e => by have h0 : wZ.heap.size ≤ ob := hbk _ e.symm; omega)
                  have hjf : ∀ k, w8.frozen? ⟨ob, k, none⟩ = false := fun k => (World.frozen?_of_block (w := wK) (hg8.block ob (by omega) (fun e => by have := hbk _ e.symm; omega))).trans (hkf k)
                  have hgw8 : wZ.grownBy w8 (some ob) := grown_own hgK2 hg8 (fun b hb hlt => by have := hbk b hb; omega)
                  obtain ⟨ja, jn, jc, hj8⟩ : ∃ a n c, v8 = .slice a n c := (by rcases hO8.2 with ⟨h1, _⟩ | ⟨g, cp, _, h1, _⟩ <;> exact ⟨_, _, _, h1⟩)
                  subst hj8
                  have hgp := grown_put w8 ⟨ob, 1, none⟩ (.slice ja jn jc)
                  have hn0 : (w8.setCell ⟨ob, 1, none⟩ (.slice ja jn jc)).cell? ⟨ob, 0, none⟩ = some (.slice (some ⟨bL, oL, none⟩) L.length sc) := (World.cell?_setCell_other _ _ _ _ (by simp)).trans hj0
                  have hn1 : (w8.setCell ⟨ob, 1, none⟩ (.slice ja jn jc)).cell? ⟨ob, 1, none⟩ = some (.slice ja jn jc) := World.cell?_setCell_same _ _ _ hj1
                  have hnf : ∀ k, (w8.setCell ⟨ob, 1, none⟩ (.slice ja jn jc)).frozen? ⟨ob, k, none⟩ = false := fun k => by rw [World.frozen?_setCell]; exact hjf k
                  have hns : ob < (w8.setCell ⟨ob, 1, none⟩ (.slice ja jn jc)).heap.size := by have := hgp.size; have := hg8.size; omega
                  have hne8 : (Value.slice ja jn jc).ownBlock = none ∨ (Value.slice ja jn jc).ownBlock ≠ some ob := .inr (fun e => by have := (hO8.lt _ e).1; omega)
                  have hO9 : Own wZ.heap.size (w8.setCell ⟨ob, 1, none⟩ (.slice ja jn jc)) (.slice ja jn jc) (natI ((L.take (k + 1)).map (mskU P))) := by rw [HU.out.1]; exact Own.of (hO8.v.kept hgp hne8)
                  have hgw9 := grown_trans hgw8 hgp
                  refine hKc.out _ _ ?_ (fun hHeld => ?_)
                  · exact ⟨hgw8, hj0⟩
                  clear hKc Kc
                  try simp only [Act.put, List.getElem_toArray, List.getElem_cons_succ, List.getElem_cons_zero, List.setIfInBounds_toArray, List.set_cons_zero, List.set_cons_succ]
                  refine wpAnyH_take (i := 11) (v := ?vb11_10) rfl (by kernel_rfl) (by kernel_rfl) (by kernel_rfl) (fun _ _ _ h => h) (Or.inl ⟨by rfl, ?hyb11_10⟩) (by assumption) ?restb11_10
                  case hyb11_10 => (intro w hSw; (try dsimp only at hSw); obtain ⟨hSw, hSc⟩ := hSw; go_simp; try with_reducible rfl)
                  try simp only [Act.put, List.getElem_toArray, List.getElem_cons_succ, List.getElem_cons_zero, List.setIfInBounds_toArray, List.set_cons_zero, List.set_cons_succ]
                  refine wpAnyH_ready (rs := [12]) (by kernel_rfl) (by simp) ?_
                  refine AllReadyH.cons rfl (fun Kc hKc => ?_) AllReadyH.nil
                  go_simp
                  refine hKc.out _ _ ?_ (fun hHeld => ?_)
                  · exact ⟨hgw9, hn0⟩
                  clear hKc Kc
                  try simp only [Act.put, List.getElem_toArray, List.getElem_cons_succ, List.getElem_cons_zero, List.setIfInBounds_toArray, List.set_cons_zero, List.set_cons_succ]
                  refine wpAnyH_done (by kernel_rfl) ?_ _
                  clear hk0 hk1 hkf hj0 hj1 hjf ho0 ho1 hof
                  go_wp2
                  go_roundw
                  case rel => exact ⟨k + 1, _, by go_num, by omega, hgw9, hn0, hn1, hnf, hns, hO9⟩
                  case measure => simp [intOf]; omega
            · have hke : k = L.length := by omega
              have hO2 : Own wZ.heap.size wr mv (natI (L.map (mskU P))) := by rw [List.take_of_length_le (by omega)] at hO; exact hO
              have hMI : Ints (fun j => w0.heap.size ≤ j) wr mv (natI (L.map (mskU P))) := ints_of_own hO2 (by rw [natI_len, List.length_map]; omega) (fun j hj => by
                have h1 := (hO2.lt j hj).1
                have := hg0Z.size
                omega)
              obtain ⟨ma, mc, hmv, _, _⟩ := hMI.shape
              subst hmv
              have hsw0 := hgZ.size
              have hsw2 := hg2.size
              have hswF := hg2F.size
              have hszw := hgw.size
              have hLR : Rows3 (fun j => w0.heap.size ≤ j) wr (.slice (some ⟨bL, oL, none⟩) L.length sc) L := Rows3.mono hL (frame_of hg (fun j hj _ => ⟨by have := hj.2; omega, fun e => hj.1 (by simpa using e.symm)⟩))
              have hswx := HB.out.2.1
              have hrc : ∀ k, k < 2 → wr.cell? ⟨w.heap.size + 1, k, none⟩ = some (.slice none 0 0) ∧ wr.frozen? ⟨w.heap.size + 1, k, none⟩ = false := fun k hk => by
                have h1 := (grown_of_ext (some ob) hg0Z)
                have h2 := grown_trans h1 hg
                exact ⟨h2.cell (HB.out.2.2.1 k hk).1 (by simp; omega), (World.frozen?_of_block (w := w0) (h2.block (w.heap.size + 1) (by omega) (by simp; omega))).trans (HB.out.2.2.1 k hk).2⟩
              obtain ⟨hr0, hf0⟩ := hrc 0 (by omega)
              obtain ⟨hr1, hf1⟩ := hrc 1 (by omega)
              have hEw : Ext w wr := grown_own (grown_trans hgw hg0Z) hg (fun b hb hlt => by have : ob = b := (by simpa using hb); omega)
              generalize (natI (L.map (mskU P))).length = nl at *
              have HR := Lib.hid (And.intro hMI (And.intro hLR hEw)); clear hMI hLR hEw hrc hO hO2
              have hnk : ¬ (k : Int) < L.length := by omega
              have hgr : wr.grownBy ((wr.setCell ⟨w.heap.size + 1, 0, none⟩ (.slice (some ⟨bL, oL, none⟩) L.length sc)).setCell ⟨w.heap.size + 1, 1, none⟩ (.slice ma nl mc)) (some (w.heap.size + 1)) := grown_trans (grown_put wr ⟨w.heap.size + 1, 0, none⟩ _) (grown_put _ ⟨w.heap.size + 1, 1, none⟩ _)
              have hE9 := grown_own HR.out.2.2 hgr (fun b hb hlt => by have : w.heap.size + 1 = b := (by simpa using hb); omega)
              have hL9 : Rows3 (From w.heap.size) ((wr.setCell ⟨w.heap.size + 1, 0, none⟩ (.slice (some ⟨bL, oL, none⟩) L.length sc)).setCell ⟨w.heap.size + 1, 1, none⟩ (.slice ma nl mc)) (.slice (some ⟨bL, oL, none⟩) L.length sc) L := Rows3.mono HR.out.2.1 (frame_of hgr (fun j hj _ => ⟨by show w.heap.size ≤ j; omega, fun e => by have : w.heap.size + 1 = j := (by simpa using e); omega⟩))
              have hM9 : Ints (From w.heap.size) ((wr.setCell ⟨w.heap.size + 1, 0, none⟩ (.slice (some ⟨bL, oL, none⟩) L.length sc)).setCell ⟨w.heap.size + 1, 1, none⟩ (.slice ma nl mc)) (.slice ma nl mc) (natI (L.map (mskU P))) := Ints.mono HR.out.1 (frame_of hgr (fun j hj _ => ⟨by show w.heap.size ≤ j; omega, fun e => by have : w.heap.size + 1 = j := (by simpa using e); omega⟩))
              have H9 := Lib.hid (And.intro hE9 (And.intro hL9 hM9)); clear hE9 hL9 hM9 hgr
              go_wp2
              have q0 : ((wr.setCell ⟨w.heap.size + 1, 0, none⟩ (.slice (some ⟨bL, oL, none⟩) L.length sc)).setCell ⟨w.heap.size + 1, 1, none⟩ (.slice ma nl mc)).cell? ⟨w.heap.size + 1, 0, none⟩ = some (.slice (some ⟨bL, oL, none⟩) L.length sc) := (World.cell?_setCell_other _ _ _ _ (by simp)).trans (World.cell?_setCell_same _ _ _ hr0)
              have q1 : ((wr.setCell ⟨w.heap.size + 1, 0, none⟩ (.slice (some ⟨bL, oL, none⟩) L.length sc)).setCell ⟨w.heap.size + 1, 1, none⟩ (.slice ma nl mc)).cell? ⟨w.heap.size + 1, 1, none⟩ = some (.slice ma nl mc) := World.cell?_setCell_same _ _ _ ((World.cell?_setCell_other _ _ _ _ (by simp)).trans hr1)
              refine bodyPost_ret (v := .agg #[.slice (some ⟨bL, oL, none⟩) L.length sc, .slice ma nl mc]) (by simp [results, Tryz.results141, go_sem, q0, q1]) rfl ?_
              exact ⟨_, rfl, H9.out.1, _, _, rfl, L, HL.out, H9.out.2.1, H9.out.2.2⟩

end Go.Proofs.YtdklekdpdbjfiaaGreat

/- The list of all subgroups as one value; its bounds. -/
namespace Go.Proofs.YtdklekdpdbjfiaaGreat
open Go.RowKit

open Classical in
/-- the one ascending list of all subgroups -/
noncomputable def latL (P : Pr) : List (List (List Int)) := if h : ∃ L, LatL P L then Classical.choose h else []
theorem latL_eq {P : Pr} {L : List (List (List Int))} (h : LatL P L) : latL P = L := by
  have hx : ∃ L, LatL P L := ⟨L, h⟩
  unfold latL
  rw [dif_pos hx]
  exact LatL.one (Classical.choose_spec hx) h
theorem latC_zero {P : Pr} (h : latC P = 0) : rconsB P = true ∧ ordP P ≤ 32 := by
  unfold latC at h
  cases hr : rconsB P with
  | false => rw [hr] at h; simp at h
  | true =>
    rw [hr] at h
    simp only [if_true] at h
    refine ⟨rfl, ?_⟩
    split at h <;> omega

theorem sz_bnd {α : Type} [Inhabited α] (sz : α → Nat) (xs : List α) (b : Nat) (h : ∀ x ∈ xs, sz x ≤ b) (k : Nat) (hk : k ≤ xs.length) : szTo sz xs k ≤ b * k := by
  induction k with
  | zero => simp [szTo]
  | succ k ih =>
    have h1 := ih (by omega)
    have h2 := h _ (gt_mem (l := xs) (i := k) (by omega))
    simp only [szTo, Nat.mul_succ]; omega

section
variable {P : Pr} (G : Grp P)
include G
theorem Grp.mskU_inj {u v : List (List Int)} (hu : SubB P u) (hv : SubB P v) (h : mskU P u = mskU P v) : u = v := by
  have := G.msk_inj (G.subB hu) (G.subB hv) h
  rw [hu.2, hv.2, this]
theorem Grp.lat_len (h32 : ordP P ≤ 32) {L : List (List (List Int))} (h : LatL P L) : L.length ≤ 17408 := by
  have hn : (L.map (mskU P)).Nodup := by
    refine List.nodup_iff_pairwise_ne.2 ?_
    rw [List.pairwise_map]
    refine h.1.imp_of_mem (fun {a b} ha hb hab e => ?_)
    have := G.mskU_inj ((h.2 a).1 ha) ((h.2 b).1 hb) e
    subst this
    exact subLt_irrefl hab
  have := G.few_subs h32 hn (fun m hm => by
    obtain ⟨u, hu, rfl⟩ := List.mem_map.1 hm
    exact ⟨_, G.subB ((h.2 u).1 hu), rfl⟩)
  rwa [List.length_map] at this
theorem Grp.lat_row {L : List (List (List Int))} (h : LatL P L) : ∀ u ∈ L, u.length ≤ 6 ∧ ∀ x ∈ u, x.length ≤ 6 := fun u hu => by
  have hb := (h.2 u).1 hu
  have := G.sub_len hb
  have := G.v.n6
  exact ⟨by omega, fun x hx => by rw [(hb.1 x hx).1]; omega⟩
end

/-- a part of the list of all subgroups: its size -/
theorem part_tot {X : List (List (List Int))} (hl : X.length ≤ 17408) (hr : ∀ u ∈ X, u.length ≤ 6 ∧ ∀ x ∈ u, x.length ≤ 6) : tot3 X ≤ 100000000 := by
  have h2 : ∀ u ∈ X, tot2 u ≤ 36 := fun u hu => by
    have := sz_bnd List.length u 6 (hr u hu).2 _ (Nat.le_refl _)
    have := (hr u hu).1
    unfold tot2; omega
  have := sz_bnd tot2 X 36 h2 _ (Nat.le_refl _)
  unfold tot3; omega

end Go.Proofs.YtdklekdpdbjfiaaGreat

/- spec.l19Code, l19All, l19Own. -/
namespace Go.Proofs.YtdklekdpdbjfiaaGreat
open Go.RowKit

set_option maxRecDepth 100000 in
set_option maxHeartbeats 1000000 in
theorem l19All_ok (P : Pr) (G : Grp P) (w : World) (pv : Value) (Sp : Nat → Prop) (h32 : ordP P ≤ 32) (hpv : PresV Sp w pv P) :
    Calls Tryz.prog 99 #[pv] w (Ret w fun w' v => LatL P (latL P) ∧ Rows3 (From w.heap.size) w' v (latL P)) := by
  obtain ⟨vo, vp, vc, rfl, h3⟩ := hpv
  have hg0 : Ext w (w.alloc (.cells #[vo, vp, vc] 31)) := World.grownBy_alloc _ _ _
  have hf := l19Full_ok P G _ (.agg #[vo, vp, vc]) Sp h32 ⟨_, _, _, rfl, h3.ext hg0⟩
  go_enter Tryz.func99, Tryz.ntmps99
  go_wp2_with fail
  generalize hw0 : w.alloc (.cells #[vo, vp, vc] 31) = w0 at *
  clear hw0
  refine Calls.mono hf ?_
  rintro e1 w1 ⟨v1, rfl, hg1, sv, mv, rfl, L, hL, hR, hM⟩
  have hfd : ∀ w, (Instr.field 130 (.agg #[sv, mv]) 0).run Tryz.prog w = .ok sv w := fun _ => by kernel_rfl
  have HL := Lib.hid (And.intro hL hR); clear hL hR hM hf
  obtain ⟨sa, sc, hsv, _, _⟩ := Sl.shape HL.out.2
  subst hsv
  go_wp2
  go_ret
  have he := latL_eq HL.out.1
  exact ⟨_, rfl, grown_trans hg0 hg1, by rw [he]; exact HL.out.1, by rw [he]; exact Rows3.sub HL.out.2 (fun k hk _ => Nat.le_trans hg0.size hk)⟩

set_option maxRecDepth 100000 in
set_option maxHeartbeats 2000000 in
theorem l19Own_ok (w : World) (lv : Value) (L : List (List (List Int))) (S : Nat → Prop) (hl : Rows3 S w lv L) (hr : ∀ u ∈ L, u.length ≤ 6 ∧ ∀ x ∈ u, x.length ≤ 6) (hn : L.length ≤ 100000) :
    Calls Tryz.prog 78 #[lv] w (Ret w fun w' v => SlO (fun F w u (x : List (List Int)) => RowsD F w u x) 23 w.heap.size w' v L) := by
  obtain ⟨al, capl, rfl, _, _⟩ := Sl.shape hl
  have HR := Lib.hid hr; clear hr
  go_enter Tryz.func78, Tryz.ntmps78
  go_wp2
  go_loopw [3, 4] (fun ov iv wr => ∃ (i : Nat) (v4 : Value), v4 = ov ∧ iv = .int .i64 i ∧ i ≤ L.length ∧ Ext w wr ∧ SlO (fun F w u (x : List (List Int)) => RowsD F w u x) 23 w.heap.size wr v4 (L.take i)) (fun _ iv _ => L.length - (intOf iv).toNat)
  case atStart => exact ⟨0, _, rfl, rfl, by omega, World.grownBy_alloc _ _ _, ⟨[], fun _ _ => False, rfl, World.ownsRow_lit w #[] 0 (Nat.le_refl _) (by decide) rfl, by simp, by simp, by simp⟩⟩
  case round =>
    obtain ⟨i, v4, rfl, rfl, hi, hg, hO⟩ := hrel
    by_cases hlt : i < L.length
    · have hlt' : (i : Int) < L.length := by omega
      obtain ⟨b, off, a2, cap2, rfl, _, _, hc, hx⟩ := Rows3.at hl i hlt
      have hcr := hg.cell hc (by simp)
      have hrow := HR.out _ (gt_mem hlt)
      have hstep := take_succ_gt L i hlt
      have hl2 : (L.take i).length ≤ 1000000 := by rw [List.length_take]; omega
      obtain ⟨x, hxd⟩ : ∃ x, x = gt L i := ⟨_, rfl⟩
      rw [← hxd] at hcr hx hrow hstep
      have HX := Lib.hid (And.intro hrow (And.intro hstep hl2)); clear hrow hstep hl2 hc hxd
      go_wp2_with fail
      clear hcr
      refine Calls.mono (l01Own2_ok wr _ x S (Rows2.ext hx hg) (fun z hz => by have := HX.out.1.2 z hz; omega) (by have := HX.out.1.1; omega)) ?_
      rintro eC wC ⟨uv, rfl, hgC, hU⟩
      have hUD : RowsD (From wr.heap.size) wC uv x := hU.toD (by have := HX.out.1.1; omega)
      obtain ⟨ua, uc, hvu, _, _⟩ := SlD.shape hUD
      subst hvu
      go_wp2_with (first | (at_builtin; refine wp_app_one rdRows 24 23 (.slice none 0 0) 24 und_r3 Tryz.infoR3 rfl (by decide) rfl _ _ rfl w.heap.size wr wC v4 _ (L.take i) x rfl hO hgC hUD rfl rfl HX.out.2.2 hg.size ?_; intro v5 w5 hO5 hg5 _) | fail)
      have hg5' : Ext w w5 := grown_own hg hg5 (fun b hb hlt => by have := (SlO.lt hO b hb).1; omega)
      rw [← HX.out.2.1] at hO5
      go_roundw
      case rel => exact ⟨i + 1, v5, rfl, by go_num, by omega, hg5', hO5⟩
      case measure => simp [intOf]; omega
    · have hie : i = L.length := by omega
      have hO2 := hO
      rw [List.take_of_length_le (by omega)] at hO2
      obtain ⟨az, capz, hvz, _, _⟩ := SlD.shape (hO2.toD (by omega))
      subst hvz
      have hnl : ¬ (i : Int) < L.length := by omega
      clear hO hie
      go_wp2
      go_ret
      exact ⟨_, rfl, hg, hO2⟩

end Go.Proofs.YtdklekdpdbjfiaaGreat

/- The library's sort on a slice that the call has built: any elements of one cell in blocks of their own, any comparison that lays blocks and draws but turns nothing. -/
namespace Go.Proofs.YtdklekdpdbjfiaaGreat
open Go.Proofs Go.Shelf Go.RowKit Go.Lib Go.Sort

/-- a world that grew and drew: the sort's own form -/
theorem ext_grow {W w' : World} (h : Ext W w') (hd : W.drawn ≤ w'.drawn) : ∃ q os', w' = grow (W.drewN q) os' := by
  refine ⟨w'.drawn - W.drawn, w'.heap.extract W.heap.size w'.heap.size, ?_⟩
  obtain ⟨h1, h2, h3, h4, h5⟩ := h
  have hh : W.heap ++ w'.heap.extract W.heap.size w'.heap.size = w'.heap := by
    apply Array.ext
    · simp; omega
    · intro i hi1 hi2
      by_cases hlt : i < W.heap.size
      · rw [Array.getElem_append_left hlt]
        have := h5 i hlt (by simp)
        rw [Array.getElem?_eq_getElem hi2, Array.getElem?_eq_getElem hlt] at this
        exact (Option.some.inj this).symm
      · rw [Array.getElem_append_right (by omega)]
        simp only [Array.getElem_extract]
        congr 1; omega
  cases w' with
  | mk heap tape drawn os output =>
    cases W with
    | mk heap2 tape2 drawn2 os2 output2 =>
      simp only at h1 h2 h3 hh hd
      subst h1; subst h2; subst h3
      unfold grow World.drewN
      simp only [World.mk.injEq]
      exact ⟨hh.symm, trivial, by omega, trivial, trivial⟩

section
variable {α : Type} [Inhabited α]

theorem swo_at {cf : α → α → Int} (h : SWO (ltOf cf)) (L : List α) : SWO (ltOf (fun i j : Nat => cf (gt L i) (gt L j))) where
  irrefl x := h.irrefl (gt L x)
  trans x y z := h.trans (gt L x) (gt L y) (gt L z)
  ntrans x y z := h.ntrans (gt L x) (gt L y) (gt L z)

set_option maxHeartbeats 1000000 in
theorem sortG {P : Program} {ρ : Ren} (Lay : SlLaysF.n6 P ρ) {El : (Nat → Prop) → World → Value → α → Prop} (hEl : RdOk El) (E B : Nat) (cf : α → α → Int) (hS : SWO (ltOf cf)) (g : Nat) (cb : Array Value)
    (eg : ∀ args w, (callFunc g args).run P w = .ok (.enter g args) w) (w : World) (v : Value) (L : List α) (A : Nat → Prop) (hL : SlOA El E B A w v L) (hne : 0 < L.length) (hlen : L.length ≤ 1000000)
    (hnil : ∀ W, El (fun _ => True) W (.slice none 0 0) default)
    (hcmp : ∀ (W : World) (u1 u2 : Value) (x y : α), w.grownBy W v.ownBlock → (x ∈ L ∨ x = default) → (y ∈ L ∨ y = default) → El (fun _ => True) W u1 x → El (fun _ => True) W u2 y →
      Calls P g (#[u1, u2] ++ cb) W fun e w' => e = .returned (.int .i64 (cf x y)) ∧ Ext W w' ∧ W.drawn ≤ w'.drawn) :
    Calls P (ρ.f 6) #[v, .func (.func g) #[] cb] w fun e w' => e = .returned (.tuple #[]) ∧ ∃ L', SlOA El E B A w' v L' ∧ L'.Perm L ∧ L'.Pairwise (fun x y => 0 ≤ cf y x) ∧ w.grownBy w' v.ownBlock := by
  obtain ⟨vs, G, hvl, hO, hG, hd, hE, hav, hav2⟩ := hL
  obtain ⟨_, ⟨rfl, h0⟩ | ⟨gb, cap, cur, rfl, hBg, hb, hnc, hcm, hsz, hx⟩⟩ := hO
  · omega
  have hgs : gb < w.heap.size := (Array.getElem?_eq_some_iff.1 hb).1
  have hone : OneCell (encAt vs) := encAt_one fun i hi => hEl.one (hE i (by omega))
  have hmap : (List.range L.length).map (encAt vs) = vs := by
    apply List.ext_getElem (by simp [hvl])
    intro j h1 h2
    simp [encAt, gt, h2]
  have hH : Go.Sort.Holds (encAt vs) w gb 0 (List.range L.length).toArray := holds_of_blockV hb (by rw [hmap, List.length_range, ← hvl]; simpa using hx)
  have hlays : CmpLays1 P g cb (encAt vs) (fun i j : Nat => cf (gt L i) (gt L j)) gb 0 (List.range L.length).toArray.size w := by
    intro m os dk _ x y
    have hgr : w.grownBy (sortWorld (encAt vs) w gb 0 m dk os) (some gb) := grownBy_sortedV dk
    have hread : ∀ k, El (fun _ => True) (sortWorld (encAt vs) w gb 0 m dk os) (encAt vs k) (gt L k) ∧ (gt L k ∈ L ∨ gt L k = default) := by
      intro k
      by_cases hk : k < vs.length
      · have he := hE k (by omega)
        unfold encAt
        rw [if_pos hk]
        exact ⟨hEl.mono he (fun b hb2 hlt => ⟨trivial, Nat.lt_of_lt_of_le hlt hgr.size, hgr.block b hlt (fun e => (hG k b (by omega) hb2).2.1 (by cases e; rfl))⟩), .inl (gt_mem (by omega))⟩
      · have h1 : gt L k = default := by simp [gt, show ¬ k < L.length by omega]
        unfold encAt
        rw [if_neg hk, h1]
        exact ⟨hnil _, .inr rfl⟩
    refine (hcmp _ _ _ _ _ hgr (hread x).2 (hread y).2 (hread x).1 (hread y).1).mono ?_
    rintro e w' ⟨rfl, he, hdr⟩
    exact ⟨rfl, ext_grow he hdr⟩
  have hcon := Any.slices_SortFunc Lay (encAt vs) hone (fun i j : Nat => cf (gt L i) (gt L j)) (swo_at hS L) g cb gb 0 cap (List.range L.length).toArray w eg hlays hH hgs (by simp; omega)
  have hsz2 : (List.range L.length).toArray.size = vs.length := by simp [hvl]
  rw [hsz2] at hcon
  refine hcon.mono ?_
  rintro e w' ⟨he, d', n, os, ⟨hs1, _, hperm⟩, hsorted, rfl⟩
  have hts : d'.toList.length = L.length := by simpa [hvl] using hs1
  have hP : d'.toList.Perm (List.range L.length) := by
    have h1 : d'.extract 0 vs.length = d' := by
      apply Array.ext'
      rw [hvl, ← hts]; simp
    have h2 : (List.range L.length).toArray.extract 0 vs.length = (List.range L.length).toArray := by
      apply Array.ext'
      rw [hvl]; simp
    rw [h1, h2] at hperm
    simpa using hperm
  have hin : ∀ i, i < L.length → gt d'.toList i < L.length := fun i hi => by
    have := hP.subset (gt_mem (l := d'.toList) (i := i) (by omega))
    simpa using this
  have hnd : d'.toList.Nodup := hP.symm.nodup List.nodup_range
  have hmapL : (List.range L.length).map (gt L) = L := by
    apply List.ext_getElem (by simp)
    intro j h1 h2
    simp [gt, h2]
  have hgr : w.grownBy (sortWorld (encAt vs) w gb 0 n d' os) (some gb) := grownBy_sortedV d'
  have hgv : ∀ i, i < L.length → gt (d'.toList.map (encAt vs)) i = gt vs (gt d'.toList i) := fun i hi => by
    have h1 : gt (d'.toList.map (encAt vs)) i = encAt vs (gt d'.toList i) := gt_map _ _ _ (by omega)
    rw [h1]; unfold encAt; rw [if_pos (by rw [hvl]; exact hin i hi)]
  have hgL : ∀ i, i < L.length → gt (d'.toList.map (gt L)) i = gt L (gt d'.toList i) := fun i hi => gt_map _ _ _ (by omega)
  refine ⟨he, d'.toList.map (gt L), ⟨d'.toList.map (encAt vs), fun i k => G (gt d'.toList i) k, by simp, ?_, ?_, ?_, ?_, fun i k hi hk => hav (gt d'.toList i) k (hin i (by simp only [List.length_map] at hi; omega)) hk, hav2⟩, ?_, ?_, hgr⟩
  · have := ownsRow_sortedV (enc := encAt vs) (n := n) (os := os) (ss := List.range L.length) (ts := d'.toList) (by rw [hts, List.length_range]) hBg hb (by rw [List.length_range, ← hvl]; exact hnc) hcm hsz
    rw [List.length_range, ← hvl] at this
    unfold OwnV
    rw [show (d'.toList.map (encAt vs)).length = vs.length by rw [List.length_map, hts, hvl]]
    simpa using this
  · intro i k hi hk
    obtain ⟨a1, a2, a3⟩ := hG _ k (hin i (by simp only [List.length_map] at hi; omega)) hk
    exact ⟨a1, a2, Nat.lt_of_lt_of_le a3 hgr.size⟩
  · intro i j k hi hj hk hk'
    simp only [List.length_map] at hi hj
    exact gt_inj hnd (by omega) (by omega) (hd _ _ k (hin i (by omega)) (hin j (by omega)) hk hk')
  · intro i hi
    simp only [List.length_map] at hi
    rw [hgv i (by omega), hgL i (by omega)]
    have he := hE _ (hin i (by omega))
    exact hEl.mono he (fun b hb2 hlt => ⟨hb2, Nat.lt_of_lt_of_le hlt hgr.size, hgr.block b hlt (fun e => (hG _ b (hin i (by omega)) hb2).2.1 (by cases e; rfl))⟩)
  · have := hP.map (gt L)
    rwa [hmapL] at this
  · refine List.pairwise_iff_getElem.2 ?_
    intro i j hi hj hij
    have hi' : i < d'.size := by simpa using hi
    have hj' : j < d'.size := by simpa using hj
    have h1 := hsorted i j (Nat.zero_le _) hij (by rw [hs1, hsz2] at hj'; exact hj')
    rw [getElem!_pos d' i hi', getElem!_pos d' j hj'] at h1
    unfold ltOf at h1
    rw [decide_eq_false_iff_not] at h1
    simp only [List.getElem_map, Array.getElem_toList]
    have h2 : ¬ cf (gt L d'[j]) (gt L d'[i]) < 0 := h1
    omega
end

end Go.Proofs.YtdklekdpdbjfiaaGreat

/- The library's sort at [][][]int64 with the lattice's comparison. -/
namespace Go.Proofs.YtdklekdpdbjfiaaGreat
open Go.Proofs Go.Shelf Go.RowKit Go.Lib Go.Sort
def Tryz.sortRows3_ren : Go.Shelf.Ren := ⟨fun | 6 => 138 | 15 => 200 | 14 => 199 | 28 => 240 | 29 => 241 | 20 => 232 | 21 => 233 | 22 => 234 | 23 => 235 | 24 => 236 | 25 => 237 | 26 => 238 | 27 => 239 | 46 => 251 | 47 => 252 | 48 => 253 | 49 => 254 | 50 => 255 | 57 => 265 | n => n, fun | 22 => 24 | 24 => 23 | 25 => 128 | 3 => 3 | 39 => 168 | 0 => 0 | 53 => 198 | 55 => 95 | 4 => 4 | 46 => 191 | 45 => 190 | 50 => 195 | 5 => 5 | 9 => 9 | 66 => 204 | 70 => 208 | 76 => 216 | 77 => 217 | n => n, fun | n => n⟩
theorem Tryz.sortRows3 : Go.Proofs.SlLaysF.n6 Tryz.prog Tryz.sortRows3_ren := {
  mixed := by kernel_rfl
  f6 := ⟨Tryz.f138.name, by decide, Tryz.func138.trans (congrArg some (by kernel_rfl))⟩
  f14 := ⟨Tryz.f199.name, by decide, Tryz.func199.trans (congrArg some (by kernel_rfl))⟩
  f15 := Tryz.func200.trans (congrArg some (by kernel_rfl))
  f20 := ⟨Tryz.f232.name, by decide, Tryz.func232.trans (congrArg some (by kernel_rfl))⟩
  f21 := ⟨Tryz.f233.name, by decide, Tryz.func233.trans (congrArg some (by kernel_rfl))⟩
  f22 := ⟨Tryz.f234.name, by decide, Tryz.func234.trans (congrArg some (by kernel_rfl))⟩
  f23 := ⟨Tryz.f235.name, by decide, Tryz.func235.trans (congrArg some (by kernel_rfl))⟩
  f24 := ⟨Tryz.f236.name, by decide, Tryz.func236.trans (congrArg some (by kernel_rfl))⟩
  f25 := ⟨Tryz.f237.name, by decide, Tryz.func237.trans (congrArg some (by kernel_rfl))⟩
  f26 := ⟨Tryz.f238.name, by decide, Tryz.func238.trans (congrArg some (by kernel_rfl))⟩
  f27 := ⟨Tryz.f239.name, by decide, Tryz.func239.trans (congrArg some (by kernel_rfl))⟩
  f28 := Tryz.func240.trans (congrArg some (by kernel_rfl))
  f29 := Tryz.func241.trans (congrArg some (by kernel_rfl))
  f46 := ⟨Tryz.f251.name, by decide, Tryz.func251.trans (congrArg some (by kernel_rfl))⟩
  f47 := Tryz.func252.trans (congrArg some (by kernel_rfl))
  f48 := Tryz.func253.trans (congrArg some (by kernel_rfl))
  f49 := ⟨Tryz.f254.name, by decide, Tryz.func254.trans (congrArg some (by kernel_rfl))⟩
  f50 := ⟨Tryz.f255.name, by decide, Tryz.func255.trans (congrArg some (by kernel_rfl))⟩
  f57 := ⟨Tryz.f265.name, by decide, Tryz.func265.trans (congrArg some (by kernel_rfl))⟩
  t0 := Tryz.underlying0
  a0 := Tryz.isAgg0
  z0 := Tryz.sizeOf0
  v0 := Tryz.zeroValue0
  t3 := Tryz.underlying3
  a3 := Tryz.isAgg3
  z3 := Tryz.sizeOf3
  v3 := Tryz.zeroValue3
  t4 := Tryz.underlying4
  a4 := Tryz.isAgg4
  z4 := Tryz.sizeOf4
  v4 := Tryz.zeroValue4
  t5 := Tryz.underlying5
  a5 := Tryz.isAgg5
  z5 := Tryz.sizeOf5
  v5 := Tryz.zeroValue5
  t9 := Tryz.underlying9
  a9 := Tryz.isAgg9
  z9 := Tryz.sizeOf9
  v9 := Tryz.zeroValue9
  t22 := Tryz.underlying24
  a22 := Tryz.isAgg24
  z22 := Tryz.sizeOf24
  v22 := Tryz.zeroValue24
  a24 := Tryz.isAgg23
  z24 := Tryz.sizeOf23
  t25 := Tryz.underlying128
  a25 := Tryz.isAgg128
  z25 := Tryz.sizeOf128
  v25 := Tryz.zeroValue128
  t39 := Tryz.underlying168
  a39 := Tryz.isAgg168
  z39 := Tryz.sizeOf168
  v39 := Tryz.zeroValue168
  t45 := Tryz.underlying190
  a45 := Tryz.isAgg190
  z45 := Tryz.sizeOf190
  v45 := Tryz.zeroValue190
  t46 := Tryz.underlying191
  a46 := Tryz.isAgg191
  z46 := Tryz.sizeOf191
  v46 := Tryz.zeroValue191
  t50 := Tryz.underlying195
  a50 := Tryz.isAgg195
  z50 := Tryz.sizeOf195
  v50 := Tryz.zeroValue195
  t53 := Tryz.underlying198
  a53 := Tryz.isAgg198
  z53 := Tryz.sizeOf198
  v53 := Tryz.zeroValue198
  t55 := Tryz.underlying95
  a55 := Tryz.isAgg95
  z55 := Tryz.sizeOf95
  v55 := Tryz.zeroValue95
  t66 := Tryz.underlying204
  a66 := Tryz.isAgg204
  z66 := Tryz.sizeOf204
  v66 := Tryz.zeroValue204
  t70 := Tryz.underlying208
  a70 := Tryz.isAgg208
  z70 := Tryz.sizeOf208
  v70 := Tryz.zeroValue208
  t76 := Tryz.underlying216
  a76 := Tryz.isAgg216
  z76 := Tryz.sizeOf216
  v76 := Tryz.zeroValue216
  t77 := Tryz.underlying217
  a77 := Tryz.isAgg217
  z77 := Tryz.sizeOf217
  v77 := Tryz.zeroValue217 }

theorem seqOk_nil (P : Pr) : SeqOk P [] := ⟨by simp, by simp⟩

theorem sortSubs_ok (P : Pr) (hP : Valid P) (w : World) (v : Value) (L : List (List (List Int))) (A : Nat → Prop) (B bx pb po : Nat) (hL : SlOA (fun F w u (x : List (List Int)) => RowsD F w u x) 23 B A w v L) (hne : 0 < L.length) (hlen : L.length ≤ 1000000)
    (hU : ∀ u ∈ L, SeqOk P u ∧ u.length ≤ 100) (hc : w.cell? ⟨bx, 0, none⟩ = some (.pointer (some ⟨pb, po, none⟩))) (hbx : v.ownBlock ≠ some bx) (hp : PresP (fun k => v.ownBlock ≠ some k) w (.pointer (some ⟨pb, po, none⟩)) P) :
    Calls Tryz.prog 138 #[v, .func (.func 148) #[] #[.pointer (some ⟨bx, 0, none⟩)]] w fun e w' => e = .returned (.tuple #[]) ∧
      ∃ L', SlOA (fun F w u (x : List (List Int)) => RowsD F w u x) 23 B A w' v L' ∧ L'.Perm L ∧ L'.Pairwise (fun x y => 0 ≤ cmpS P y x) ∧ w.grownBy w' v.ownBlock := by
  have eg : ∀ args w, (callFunc 148 args).run Tryz.prog w = .ok (.enter 148 args) w := enters_of Tryz.func148 (by kernel_rfl) rfl
  have h := sortG Tryz.sortRows3 rdRows 23 B (cmpS P) (swo_cmpS P) 148 #[.pointer (some ⟨bx, 0, none⟩)] eg w v L A hL hne hlen (fun W => (SlO.nil OwnIn 22 0 W).toD (by simp) |> fun h => rdRows.mono h (fun k hk hlt => ⟨trivial, hlt, rfl⟩)) (by
    intro W u1 u2 x y hg hx hy h1 h2
    have hp' : PresP Any W (.pointer (some ⟨pb, po, none⟩)) P := PresP.mono hp (frame_of hg (fun k hk _ => ⟨trivial, hk⟩))
    have hc' : W.cell? ⟨bx, 0, none⟩ = some (.pointer (some ⟨pb, po, none⟩)) := hg.cell hc (fun e => hbx e.symm)
    have hq : ∀ z, (z ∈ L ∨ z = default) → SeqOk P z ∧ z.length ≤ 100 := fun z hz => by
      rcases hz with hz | hz
      · exact hU z hz
      · rw [hz]; exact ⟨seqOk_nil P, by decide⟩
    refine (latCmp_ok P hP W bx pb po u1 u2 x y Any _ _ hc' hp' (RowsD.rows h1) (RowsD.rows h2) (hq x hx).1 (hq y hy).1 (hq x hx).2 (hq y hy).2).mono ?_
    rintro e w' ⟨v1, rfl, hg1, rfl, hd⟩
    exact ⟨rfl, hg1, hd⟩)
  exact h

end Go.Proofs.YtdklekdpdbjfiaaGreat

/- The members that a mask tells, one after the other. -/
namespace Go.Proofs.YtdklekdpdbjfiaaGreat
open Go.RowKit

def bitsTo (P : Pr) (m x : Nat) (y : List Int) : Prop := ∃ t, t < x ∧ m.testBit t = true ∧ y = elAt P (t : Int)

theorem bitsTo_zero (P : Pr) (m : Nat) : bitsTo P m 0 = fun _ => False :=
  funext fun y => propext ⟨fun ⟨t, h, _⟩ => by omega, fun h => h.elim⟩
theorem bitsTo_skip {P : Pr} {m x : Nat} (h : m.testBit x = false) : bitsTo P m (x + 1) = bitsTo P m x := by
  funext y
  refine propext ⟨fun ⟨t, h1, h2, h3⟩ => ?_, fun ⟨t, h1, h2, h3⟩ => ⟨t, by omega, h2, h3⟩⟩
  rcases Nat.lt_or_ge t x with h4 | h4
  · exact ⟨t, h4, h2, h3⟩
  · obtain rfl : t = x := by omega
    rw [h] at h2; cases h2
theorem bitsTo_add {P : Pr} {m x : Nat} (h : m.testBit x = true) : genP P (fun z => genP P (bitsTo P m x) z ∨ z ∈ [elAt P (x : Int)]) = genP P (bitsTo P m (x + 1)) := by
  rw [genP_or]
  congr 1
  funext z
  refine propext ⟨fun hz => ?_, fun ⟨t, h1, h2, h3⟩ => ?_⟩
  · rcases hz with ⟨t, h1, h2, h3⟩ | hz
    · exact ⟨t, by omega, h2, h3⟩
    · exact ⟨x, by omega, h, by simpa using hz⟩
  · rcases Nat.lt_or_ge t x with h4 | h4
    · exact .inl ⟨t, h4, h2, h3⟩
    · obtain rfl : t = x := by omega
      exact .inr (by simpa using h3)

section
variable {P : Pr} (G : Grp P)
include G
theorem Grp.bitsTo_all {H : List Int → Prop} (S : Sub P H) : genP P (bitsTo P (msk P H) (ordP P).toNat) = H := by
  have : bitsTo P (msk P H) (ordP P).toNat = H := funext fun y => propext ⟨fun ⟨t, h1, h2, h3⟩ => by
    rw [h3]; exact (msk_bit h1).1 h2, fun hy => by
    obtain ⟨h1, h2⟩ := G.num_lt (S.vec y hy)
    exact ⟨_, h1, (msk_bit h1).2 (by rw [h2]; exact hy), h2.symm⟩⟩
  rw [this]; exact genP_self S
end

end Go.Proofs.YtdklekdpdbjfiaaGreat

/- The key tells the subgroup. -/
namespace Go.Proofs.YtdklekdpdbjfiaaGreat
open Go.RowKit

theorem strOf_inj : ∀ {xs ys : List Int}, (∀ a ∈ xs, 0 ≤ a ∧ a < 256) → (∀ a ∈ ys, 0 ≤ a ∧ a < 256) → strOfNums xs = strOfNums ys → xs = ys := by
  intro xs ys hx hy h
  have h1 : xs.map (fun n => UInt8.ofNat n.toNat) = ys.map (fun n => UInt8.ofNat n.toNat) := by
    rw [← strOfNums_data, ← strOfNums_data, h]
  have key : ∀ {xs ys : List Int}, (∀ a ∈ xs, 0 ≤ a ∧ a < 256) → (∀ a ∈ ys, 0 ≤ a ∧ a < 256) → xs.map (fun n => UInt8.ofNat n.toNat) = ys.map (fun n => UInt8.ofNat n.toNat) → xs = ys := by
    intro xs
    induction xs with
    | nil => intro ys _ _ h; cases ys with
      | nil => rfl
      | cons => simp at h
    | cons x xs ih =>
      intro ys hx hy h
      cases ys with
      | nil => simp at h
      | cons y ys =>
        simp only [List.map_cons, List.cons.injEq] at h
        obtain ⟨a1, a2⟩ := hx x (List.mem_cons_self ..)
        obtain ⟨b1, b2⟩ := hy y (List.mem_cons_self ..)
        have he := congrArg UInt8.toNat h.1
        rw [UInt8.toNat_ofNat', UInt8.toNat_ofNat', Nat.mod_eq_of_lt (by omega), Nat.mod_eq_of_lt (by omega)] at he
        rw [show x = y by omega, ih (fun a ha => hx a (List.mem_cons_of_mem _ ha)) (fun a ha => hy a (List.mem_cons_of_mem _ ha)) h.2]
  exact key hx hy h1

theorem keyL_bytes {u : List (List Int)} (h : ∀ x ∈ u, ∀ e ∈ x, 0 ≤ e ∧ e < 256) : ∀ a ∈ keyL u, 0 ≤ a ∧ a < 256 := by
  intro a ha
  unfold keyL at ha
  obtain ⟨r, hr, har⟩ := List.mem_flatten.1 ha
  obtain ⟨x, hx, rfl⟩ := List.mem_map.1 hr
  rcases List.mem_append.1 har with h1 | h1
  · exact h x hx a h1
  · simp at h1; omega

theorem keyRow_inj {x y : List Int} (h : keyRow x = keyRow y) : x = y := List.append_cancel_right h

theorem keyS_inj {n : Nat} {u v : List (List Int)} (hu : ∀ x ∈ u, x.length = n ∧ ∀ e ∈ x, 0 ≤ e ∧ e < 256) (hv : ∀ x ∈ v, x.length = n ∧ ∀ e ∈ x, 0 ≤ e ∧ e < 256) (h : keyS u = keyS v) : u = v := by
  have h1 := strOf_inj (keyL_bytes fun x hx => (hu x hx).2) (keyL_bytes fun x hx => (hv x hx).2) h
  have h2 : u.map keyRow = v.map keyRow := flatten_inj (n := n + 1) (by omega)
    (fun r hr => by obtain ⟨x, hx, rfl⟩ := List.mem_map.1 hr; simp [keyRow, (hu x hx).1])
    (fun r hr => by obtain ⟨x, hx, rfl⟩ := List.mem_map.1 hr; simp [keyRow, (hv x hx).1]) h1
  have key : ∀ {u v : List (List Int)}, u.map keyRow = v.map keyRow → u = v := by
    intro u
    induction u with
    | nil => intro v h; cases v with
      | nil => rfl
      | cons => simp at h
    | cons x u ih =>
      intro v h
      cases v with
      | nil => simp at h
      | cons y v =>
        simp only [List.map_cons, List.cons.injEq] at h
        rw [keyRow_inj h.1, ih h.2]
  exact key h2

/-- rows of vectors are bytes -/
theorem vec_bytes {P : Pr} (hP : Valid P) {x : List Int} (hx : Vec P.orders x) : x.length = P.orders.length ∧ ∀ e ∈ x, 0 ≤ e ∧ e < 256 := by
  refine ⟨hx.1, fun e he => ?_⟩
  obtain ⟨i, hi, rfl⟩ := List.getElem_of_mem he
  have h1 := hx.2 i (by rw [← hx.1]; exact hi)
  rw [← gt_eq _ _ hi]
  have h2 := hP.ord7 i (by rw [← hx.1]; exact hi)
  omega

theorem subB_key {P : Pr} (hP : Valid P) {u v : List (List Int)} (hu : SubB P u) (hv : SubB P v) (h : keyS u = keyS v) : u = v :=
  keyS_inj (fun x hx => vec_bytes hP (hu.1 x hx)) (fun x hx => vec_bytes hP (hv.1 x hx)) h

end Go.Proofs.YtdklekdpdbjfiaaGreat
