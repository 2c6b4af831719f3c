/-
  What a run does to the count of draws: it never falls.
  impl.pivots and impl.sizeOf again: the count of draws does not fall. (Printed from PivW and SizeW.)
  slices.Concat at integers: the numbers of all rows, in order. cmp.Or at int.
  impl.compareSubgroups, impl.latticeOf$1, cmp.Or at int.
  The library's sort at [][][]int64 with the lattice's comparison.
  The library's sort with the comparison of Hall subgroups. (Turned from CmpW, SortL3.)
  The key tells the subgroup.
  append of a subgroup that lay there before to a list of subgroups. (Printed from AppTake.)
  impl.extendMask.
  impl.multiplicationTable.
  The reference's coset representatives and membership: spec.l12Reduce, l12Sift, l12Has.
  The reference's membership and order: spec.l01Zero, l12Sift, l12Has, l12Order.
  Plain: the elements of a subgroup as products with exponents (for the reference's list of elements).
  The reference's list of the elements of a subgroup: spec.l12Orders, l10At at orders alone, l12Product, l12Elements.
  The reference's list of the elements of a subgroup: spec.l12Product, l12Elements.
  The reference's list of the elements of a subgroup: spec.l12Elements.
  spec.l19Table: the numbers of all products.
  spec.l19Span: the mask of the subgroup that some elements generate.
  spec.l19Sequence: the sequence of the subgroup that a mask tells.
  spec.l03Flat, spec.l01Less, spec.l19Before.
  Lists of subgroups whose rows are shared with older lists.
  The reference's test of a sequence: spec.l10Element, l10Elements, l01Same2, l12Is, IsSubgroup, l13Two.
  spec.l19Insert.
  append of a row that lay there before: the list takes it out of the set of blocks that it avoids.
  [][]int64{row} as a list of the call's own.
-/
import Derived.Test.YtdklekdpdbjfiaaGreatK1
import Derived.Test.YtdklekdpdbjfiaaGreatK5
import Derived.Test.YtdklekdpdbjfiaaGreatK4
import Derived.Shelf.Spec.SlicesGrow
import Derived.Test.YtdklekdpdbjfiaaGreatK7
import Derived.Test.YtdklekdpdbjfiaaGreatK6
import Derived.Test.YtdklekdpdbjfiaaGreatK2
import Derived.Laws.BitsAllLaws
/- What a run does to the count of draws: it never falls. -/
namespace Go.Proofs.YtdklekdpdbjfiaaGreat

theorem freeze_drawn (w : World) (a : Addr) (n : Nat) : (w.freeze a n).drawn = w.drawn := by
  unfold World.freeze; split <;> rfl

theorem ask_drawn {α : Type} (q : Ask α) : ∀ w : World, w.drawn ≤ (w.ask q).2.drawn := by
  induction q with
  | done a => intro w; exact Nat.le_refl _
  | ask what range k ih =>
    intro w
    unfold World.ask
    dsimp only
    split
    · exact ih _ _
    · exact Nat.le_trans (Nat.le_succ _) (ih _ { w with drawn := w.drawn + 1 })

theorem sys_drawn (w : World) (c : Sys) : w.drawn ≤ (w.sys c).2.drawn := by
  unfold World.sys
  have h := ask_drawn (Kernel.perform c w.os) w
  revert h
  generalize w.ask (Kernel.perform c w.os) = r
  intro h
  split
  · exact Nat.le_refl _
  · exact h

theorem viewStore_drawn (p : Program) (w : World) (at_ : Addr) (u : TypeId) (k : Addr) (v : Value) (atomic : Bool) (r : World × List Addr) (h : w.viewStore p at_ u k v atomic = .ok r) : r.1.drawn = w.drawn := by
  unfold World.viewStore at h
  simp only [bind, Except.bind, pure, Except.pure] at h
  repeat' split at h
  all_goals first | (cases h; done) | (cases h; rfl)

theorem farStore_drawn (p : Program) (w : World) (a : Addr) (v : Value) (atomic : Bool) (r : World × List Addr) (h : w.farStore p a v atomic = .ok r) : r.1.drawn = w.drawn := by
  unfold World.farStore at h
  split at h
  · split at h
    · rename_i hv
      cases h
      exact viewStore_drawn _ _ _ _ _ _ _ _ hv
    · cases h
  · cases h

theorem run_drawn {α : Type} (p : Program) (s : Sem α) : ∀ (w w' : World) (a : α), s.run p w = .ok a w' → w.drawn ≤ w'.drawn := by
  induction s with
  | pure a => intro w w' b h; cases h; exact Nat.le_refl _
  | load m a k ih =>
    intro w w' b h
    unfold Sem.run at h
    split at h
    · exact ih _ _ _ _ h
    · split at h
      · exact ih _ _ _ _ h
      · cases h
  | store m a v k ih =>
    intro w w' b h
    cases v <;> simp only [Sem.run] at h
    all_goals try (cases h; done)
    all_goals
      split at h
      · split at h
        · cases h
        · exact ih (w.setCell a _) _ _ h
      · split at h
        · rename_i w1 l hf
          have h1 := farStore_drawn _ _ _ _ _ _ hf
          have h2 := ih _ _ _ h
          dsimp only at h1
          omega
        · cases h
  | new o k ih => intro w w' b h; exact ih _ { w with heap := w.heap.push o } _ _ h
  | shape r k ih => intro w w' b h; exact ih _ _ _ _ h
  | freeze a n k ih => intro w w' b h; have := ih _ _ _ h; rw [freeze_drawn] at this; exact this
  | frozen a k ih => intro w w' b h; exact ih _ _ _ _ h
  | getObj r k ih =>
    intro w w' b h
    unfold Sem.run at h
    split at h
    · cases h
    · exact ih _ _ _ _ h
    · cases h
  | setObj r o k ih =>
    intro w w' b h
    unfold Sem.run at h
    split at h
    · cases h
    · exact ih { w with heap := w.heap.setIfInBounds r o } _ _ h
    · cases h
  | choose q k ih =>
    intro w w' b h
    unfold Sem.run at h
    split at h
    · exact ih _ _ _ _ h
    · exact Nat.le_trans (Nat.le_succ _) (ih _ _ _ _ h)
  | sys c k ih => intro w w' b h; exact Nat.le_trans (sys_drawn w c) (ih _ _ _ _ h)
  | program k ih => intro w w' b h; exact ih _ _ _ _ h
  | mark m k ih => intro w w' b h; exact ih _ _ _ h
  | halt hh => intro w w' b h; cases h

/-- an operation that hands back a value: its run never lets the count of draws fall -/
theorem wpList_drawn {P : Program} {ops : Array Oper} {rest : List Oper} {o : Oper} {a : Act} {Q : Exit → Act → World → Prop} {w : World} {Φ : Act → World → Prop} (hgd : o.guard = none)
    (hnc : ∀ f args w', (execOp a.eval o).run P w ≠ .ok (.enter f args) w') (hnr : ∀ r args w', (execOp a.eval o).run P w ≠ .ok (.row r args) w')
    (h : wpList P ops (fun e a' w' => e = .normal ∧ Φ a' w') [o] a w) (k : ∀ a' w', Φ a' w' → w.drawn ≤ w'.drawn → wpList P ops Q rest a' w') :
    wpList P ops Q (o :: rest) a w := by
  have hw : Region.wanted o (yielded ops a.tmps) = true := by simp [Region.wanted, hgd]
  unfold wpList at h ⊢
  rw [if_pos hw] at h ⊢
  rcases h with h | ⟨_, ⟨_, _, he, _⟩⟩
  · left
    unfold Oper.wp at h ⊢
    cases hr : (execOp a.eval o).run P w with
    | ok n w' =>
      have hd := run_drawn _ _ _ _ _ hr
      rw [hr] at h
      cases n with
      | value v => exact k _ _ h.2 hd
      | skip => exact k _ _ h.2 hd
      | defer d => exact k _ _ h.2 hd
      | enter f args => exact absurd hr (hnc _ _ _)
      | row r args => exact absurd hr (hnr _ _ _)
      | _ => exact h.elim
    | halt hh w' =>
      rw [hr] at h
      cases hh with
      | panic v => cases h.1
      | _ => exact h.elim
  · cases he

theorem run_value_only (P : Program) (s : Sem Value) (w w' : World) (n : Next) (h : Sem.run P (do pure (Next.value (← s))) w = .ok n w') : ∃ v, n = .value v := by
  rw [Sem.run_bind] at h
  cases hs : Sem.run P s w with
  | ok v w1 => rw [hs] at h; cases h; exact ⟨v, rfl⟩
  | halt hh w1 => rw [hs] at h; cases h

theorem append_value {P : Program} {o : Oper} {a : Act} {w w' : World} {n : Next} {args : Array Operand} {tys : Array TypeId} (ho : o.op = Op.call { callee := Callee.builtin Builtin.append, args := args, argTypes := tys })
    (h : (execOp a.eval o).run P w = .ok n w') : ∃ v, n = .value v := by
  unfold execOp at h
  rw [ho] at h
  exact run_value_only P (Builtin.append_ tys o.type (args.map a.eval)) w w' n h

/-- the builtin append does not let the count of draws fall -/
theorem append_drawn {P : Program} {ops : Array Oper} {rest : List Oper} {o : Oper} {a : Act} {Q : Exit → Act → World → Prop} {w : World} {Φ : Act → World → Prop} (hgd : o.guard = none) {args : Array Operand} {tys : Array TypeId}
    (ho : o.op = Op.call { callee := Callee.builtin Builtin.append, args := args, argTypes := tys })
    (h : wpList P ops (fun e a' w' => e = .normal ∧ Φ a' w') [o] a w) (k : ∀ a' w', Φ a' w' → w.drawn ≤ w'.drawn → wpList P ops Q rest a' w') :
    wpList P ops Q (o :: rest) a w :=
  wpList_drawn hgd (fun f x w' hr => by obtain ⟨v, hv⟩ := append_value ho hr; cases hv) (fun f x w' hr => by obtain ⟨v, hv⟩ := append_value ho hr; cases hv) h k

end Go.Proofs.YtdklekdpdbjfiaaGreat

/- impl.pivots and impl.sizeOf again: the count of draws does not fall. (Printed from PivW and SizeW.) -/
namespace Go.Proofs.YtdklekdpdbjfiaaGreat
open Go.RowKit

theorem wp_app_valD (T E : Nat) (z : Value) (bytes : Nat) (hT : Tryz.prog.underlying T = some (.slice E)) (hE : (Tryz.prog.info? E).map (fun i => (i.zero, i.size, i.bytes)) = some (some z, 1, bytes))
    (hzs : z.cells.size = 1) (hbt : bytes ≤ 64) {ops : Array Oper} {rest : List Oper} {o : Oper} {a : Act} {Q : Exit → Act → World → Prop} {w : World} (hgd : o.guard = none) (s x : Operand)
    (ho : o.op = Op.call { callee := Callee.builtin Builtin.append, args := #[s, x], argTypes := #[T, T] }) (B : Nat) (v u : Value) (xs : List Value) (hs : a.eval s = v) (w0 : World) (hown : OwnV B E w0 v xs) (hw : w = w0.alloc (.cells #[u] E)) (h1 : u.oneCell' = true)
    (hx : a.eval x = .slice (some ⟨w0.heap.size, 0, none⟩) 1 1) (hlen : xs.length ≤ 1000000) (hbase : B ≤ w0.heap.size)
    (h : ∀ v' w', OwnV B E w' v' (xs ++ [u]) → w0.grownBy w' v.ownBlock → w0.drawn ≤ w'.drawn → wpList Tryz.prog ops Q rest (a.put o.dst v') w') :
    wpList Tryz.prog ops Q (o :: rest) a w := by
  refine append_drawn (Φ := fun a' w' => ∃ v', OwnV B E w' v' (xs ++ [u]) ∧ w0.grownBy w' v.ownBlock ∧ a' = a.put o.dst v') hgd ho ?_ ?_
  · exact wp_app_val T E z bytes hT hE hzs hbt hgd s x ho B v u xs hs w0 hown hw h1 hx hlen hbase (fun v' w' k1 k2 => ⟨rfl, v', k1, k2, rfl⟩)
  · rintro a' w' ⟨v', k1, k2, rfl⟩ hd
    subst hw
    exact h v' w' k1 k2 hd

set_option maxHeartbeats 1000000 in
theorem pivotsD_ok (v : Value) (U : List (List Int)) (w : World) (S : Nat → Prop) (h : Rows2 S w v U) (hU : ∀ z ∈ U, dep z < z.length) (hl : U.length ≤ 100000) :
    Calls Tryz.prog 120 #[v] w (Ret w fun w' r => OwnV w.heap.size 3 w' r (depV U) ∧ w.drawn ≤ w'.drawn) := by
  obtain ⟨a, cap, rfl, _, _⟩ := Sl.shape h
  have HU := Lib.hid hU; clear hU
  go_enter Tryz.func120, Tryz.ntmps120
  go_wp2
  go_loopw [3, 8] (fun ov iv wr => ∃ (k : Nat) (v4 : Value), v4 = ov ∧ iv = .int .i64 k ∧ k ≤ U.length ∧ Ext w wr ∧ OwnV w.heap.size 3 wr v4 (depV (U.take k)) ∧ w.drawn ≤ wr.drawn) (fun _ iv _ => U.length - (intOf iv).toNat)
  case atStart => exact ⟨0, _, rfl, rfl, by omega, Ext.refl _, World.ownsRow_nil _ _ _ _, Nat.le_refl _⟩
  case round =>
    obtain ⟨k, v4, rfl, rfl, hk, hg, hO, hdr⟩ := hrel
    by_cases hlt : k < U.length
    · obtain ⟨b, off, a2, cap2, rfl, _, _, hc, hi⟩ := Rows2.at (Rows2.ext h hg) k hlt
      have hstep : depV (U.take (k + 1)) = depV (U.take k) ++ [.int .i64 (dep (gt U k))] := by unfold depV; rw [take_succ_gt U k hlt, List.map_append]; rfl
      have hdl : (depV (U.take k)).length ≤ 1000000 := by unfold depV; rw [List.length_map, List.length_take]; omega
      have HS := Lib.hid hstep; clear hstep
      have hlt' : (k : Int) < U.length := by omega
      go_wp2_with fail
      refine Calls.mono (idxNz_ok _ (gt U k) wr _ hi (HU.out _ (gtMem hlt))) ?_
      rintro e1 w1 ⟨rfl, rfl⟩
      go_wp2_with (first | (at_builtin; refine wp_app_valD 110 3 (.int .i64 0) 8 und_intsG Tryz.infoIntG rfl (by decide) rfl _ _ rfl w.heap.size v4 _ (depV (U.take k)) rfl wr hO rfl rfl rfl hdl hg.size ?_; intro v5 w5 hO5 hg5 hd5) | fail)
      have hg6 : Ext w w5 := grown_own hg hg5 (fun j hj hlt => by have := (hO.lt j hj).1; omega)
      go_roundw
      case rel => exact ⟨k + 1, v5, rfl, by go_num, by omega, hg6, by rw [HS.out]; exact hO5, Nat.le_trans hdr hd5⟩
      case measure => simp [intOf]; omega
    · have hke : k = U.length := by omega
      subst hke
      rw [List.take_length] at hO
      have hsh : ∃ az capz, v4 = .slice az U.length capz := by
        rcases hO.form with ⟨h1, h2⟩ | ⟨g, cp, h1, _⟩
        · have h3 : U.length = 0 := by unfold depV at h2; rw [List.map_eq_nil_iff] at h2; rw [h2]; rfl
          exact ⟨none, 0, by rw [h1, h3]⟩
        · exact ⟨_, _, by rw [h1]; unfold depV; rw [List.length_map]⟩
      obtain ⟨az, capz, rfl⟩ := hsh
      go_wp2
      go_ret
      exact ⟨_, rfl, hg, hO, hdr⟩

set_option maxHeartbeats 1000000 in
theorem sizeOfD_ok (P : Pr) (hP : Valid P) (w : World) (p uv : Value) (U : List (List Int)) (Sp Su : Nat → Prop) (hp : PresP Sp w p P) (hu : Rows2 Su w uv U) (hU : SeqOk P U) (hl : U.length ≤ 100) :
    Calls Tryz.prog 69 #[p, uv] w (Ret w fun w' v => v = .int .i64 (prodU P U U.length) ∧ w.drawn ≤ w'.drawn) := by
  have hn6 := hP.n6
  obtain ⟨pb, po, rfl⟩ := hp.shape
  obtain ⟨ao, capo, hco0, hoi⟩ := hp.ordAt
  obtain ⟨au, capu, rfl, _, _⟩ := Sl.shape hu
  have hUz : ∀ z ∈ U, dep z < z.length := fun z hz => by have := hU.1 z hz; rw [this.1.1]; exact this.2.1
  have HU := Lib.hid hU; clear hU
  go_enter Tryz.func69, Tryz.ntmps69
  go_wp2_with fail
  refine Calls.mono (pivotsD_ok _ U w Su hu hUz (by omega)) ?_
  rintro e1 w1 ⟨pv, rfl, hg1, hV1, hd1⟩
  have hpvs : ∃ az capz, pv = .slice az U.length capz := by
    rcases hV1.form with ⟨h1, h2⟩ | ⟨g, cp, h1, _⟩
    · have h3 : U.length = 0 := by unfold depV at h2; rw [List.map_eq_nil_iff] at h2; rw [h2]; rfl
      exact ⟨none, 0, by rw [h1, h3]⟩
    · exact ⟨_, _, by rw [h1]; unfold depV; rw [List.length_map]⟩
  obtain ⟨ap, capp, rfl⟩ := hpvs
  go_wp2
  go_loopw [5, 11] (fun mv iv wr => ∃ i : Nat, mv = .int .i64 (prodU P U i) ∧ iv = .int .i64 i ∧ i ≤ U.length ∧ w1 = wr) (fun _ iv _ => U.length - (intOf iv).toNat)
  case atStart => exact ⟨0, rfl, rfl, by omega, rfl⟩
  case round =>
    obtain ⟨i, rfl, rfl, hi, rfl⟩ := hrel
    by_cases hlt : i < U.length
    · have hlt' : (i : Int) < U.length := by omega
      have hdi : gt (depV U) i = .int .i64 (dep (gt U i)) := by unfold depV; rw [gt_map _ _ _ hlt]
      have hpf : ∃ g, ap = some ⟨g, 0, none⟩ := by
        rcases hV1.form with ⟨h1, h2⟩ | ⟨g, cp, h1, _⟩
        · unfold depV at h2; rw [List.map_eq_nil_iff] at h2; rw [h2] at hlt; simp at hlt
        · simp only [Value.slice.injEq] at h1; exact ⟨g, h1.1⟩
      obtain ⟨gp, rfl⟩ := hpf
      have hcp := hV1.cell i (by unfold depV; rw [List.length_map]; exact hlt)
      rw [hdi] at hcp
      clear hdi
      have hst : prodU P U (i + 1) = prodU P U i * gt P.orders (dep (gt U i)) := rfl
      have hb := prodU_729 hP HU.out (i + 1) hlt
      rw [hst] at hb
      obtain ⟨d, hd⟩ : ∃ d, d = dep (gt U i) := ⟨_, rfl⟩
      rw [← hd] at hcp hst hb
      have hdn : d < P.orders.length := by rw [hd]; exact (HU.out.1 _ (gtMem hlt)).2.1
      clear hd
      have hdn' : (d : Int) < P.orders.length := by omega
      obtain ⟨b, off, rfl, _, _, hco⟩ := Ints.at (hoi.ext hg1) d hdn
      have hc0 := hg1.cell hco0 (by simp)
      have hw : IntKind.i64.wrap (prodU P U i * gt P.orders d) = prodU P U i * gt P.orders d := IntWalk.i64_in _ (by omega)
      have HS := Lib.hid hst; clear hst hb
      go_wp2
      go_roundw
      case rel => exact ⟨i + 1, by rw [HS.out], by go_num, by omega, trivial⟩
      case measure => simp [intOf]; omega
    · have hie : i = U.length := by omega
      subst hie
      go_wp2
      go_ret
      exact ⟨_, rfl, hg1, rfl, hd1⟩

end Go.Proofs.YtdklekdpdbjfiaaGreat

/- slices.Concat at integers: the numbers of all rows, in order. cmp.Or at int. -/
namespace Go.Proofs.YtdklekdpdbjfiaaGreat
open Go.Proofs Go.Shelf Go.RowKit
section
open Go.Lib
def Tryz.growInts_ren : Go.Shelf.Ren := ⟨fun | 4 => 156 | n => n, fun | 22 => 22 | 25 => 2 | 3 => 3 | 4 => 4 | 9 => 9 | 20 => 20 | 0 => 0 | n => n, fun | n => n⟩
theorem Tryz.growInts : Go.Proofs.Lays8.n4 Tryz.prog Tryz.growInts_ren := {
  mixed := by kernel_rfl
  f4 := ⟨Tryz.f156.name, by decide, Tryz.func156.trans (congrArg some (by kernel_rfl))⟩
  t0 := Tryz.underlying0
  a0 := Tryz.isAgg0
  z0 := Tryz.sizeOf0
  v0 := Tryz.zeroValue0
  t3 := Tryz.underlying3
  a3 := Tryz.isAgg3
  z3 := Tryz.sizeOf3
  v3 := Tryz.zeroValue3
  t4 := Tryz.underlying4
  a4 := Tryz.isAgg4
  z4 := Tryz.sizeOf4
  v4 := Tryz.zeroValue4
  t9 := Tryz.underlying9
  a9 := Tryz.isAgg9
  z9 := Tryz.sizeOf9
  v9 := Tryz.zeroValue9
  t20 := Tryz.underlying20
  a20 := Tryz.isAgg20
  z20 := Tryz.sizeOf20
  v20 := Tryz.zeroValue20
  t22 := Tryz.underlying22
  a22 := Tryz.isAgg22
  z22 := Tryz.sizeOf22
  v22 := Tryz.zeroValue22 }

theorem growInts_ok (n : Nat) (hn : n ≤ 1000000) (w : World) : Calls Tryz.prog 156 #[.slice none 0 0, .int .i64 n] w (Ret w fun w' v => Own w.heap.size w' v [] ∧ w.drawn ≤ w'.drawn) := by
  rcases Nat.eq_zero_or_pos n with rfl | h0
  · have h := Any8.slices_Grow_room Tryz.growInts none 0 0 0 w (by omega) (by omega) (by omega) (by omega)
    change Calls Tryz.prog 156 _ _ _ at h
    refine h.mono ?_
    rintro e w' ⟨rfl, rfl⟩
    exact ⟨_, rfl, Ext.refl _, Own.of (World.ownsRow_nil _ _ _ _), Nat.le_refl _⟩
  · obtain ⟨i0, hi, hz0, hz1, hz2⟩ := info_parts Tryz.infoInt
    have hmax : 0 + n ≤ maxLen := by unfold maxLen; omega
    have h := Any8.slices_Grow_grow Tryz.growInts i0 (.int .i64 0) hi hz0 (by rw [hz1]; decide) none 0 0 n [] w (by omega) (by omega) (by rw [hz2]; omega) (by omega) (by simp) (fun _ => rfl) (fun a ha => by cases ha)
    change Calls Tryz.prog 156 _ _ _ at h
    refine h.mono ?_
    rintro e w' ⟨rfl, rfl⟩
    have hge := grownCap_ge w (0 + n) 0 2
    have hle := grownCap_le_maxLen w (0 + n) 0 2 hmax
    refine ⟨_, rfl, grown_trans (grown_drew w none) (World.grownBy_alloc _ _ _), Own.of ⟨rfl, .inr ⟨w.heap.size, _, _, rfl, Nat.le_refl _, Array.getElem?_push_size (xs := w.heap), Nat.zero_le _, hle, ?_, by simp⟩⟩, by first | exact Nat.le_refl _ | exact Nat.le_succ _⟩
    simp only [Array.size_append, size_zeroCells, List.size_toArray, List.length_nil]
    have e1 : (Value.cells (.int .i64 0)).size = 1 := rfl
    have hge2 : 0 + n ≤ grownCap w (0 + n) 0 2 := hge
    rw [e1]
    show 0 + (0 + n - 0) * 1 + (grownCap w (0 + n) 0 2 - (0 + n)) * 1 = grownCap w (0 + n) 0 2 * 1
    omega

end
theorem wp_app_intsD {ops : Array Oper} {rest : List Oper} {o : Oper} {a : Act} {Q : Exit → Act → World → Prop} {w : World} (hgd : o.guard = none) (s x : Operand)
    (ho : o.op = Op.call { callee := Callee.builtin Builtin.append, args := #[s, x], argTypes := #[22, 22] }) (base : Nat) (v : Value) (l : List Int) (hs : a.eval s = v) (hown : Own base w v l)
    (u : Value) (m : List Int) (hx : a.eval x = u) (S : Nat → Prop) (hu : Ints S w u m) (hlen : l.length + m.length ≤ 2147483648) (hbase : base ≤ w.heap.size)
    (h : ∀ v' w', Own base w' v' (l ++ m) → w.grownBy w' v.ownBlock → w.drawn ≤ w'.drawn → wpList Tryz.prog ops Q rest (a.put o.dst v') w') :
    wpList Tryz.prog ops Q (o :: rest) a w := by
  refine append_drawn (Φ := fun a' w' => ∃ v', Own base w' v' (l ++ m) ∧ w.grownBy w' v.ownBlock ∧ a' = a.put o.dst v') hgd ho ?_ ?_
  · exact wp_app_ints hgd s x ho base v l hs hown u m hx S hu hlen hbase (fun v' w' k1 k2 _ => ⟨rfl, v', k1, k2, rfl⟩)
  · rintro a' w' ⟨v', k1, k2, rfl⟩ hd
    exact h v' w' k1 k2 hd

/-- the numbers of the first k rows -/
def rowsTo (us : List (List Int)) : Nat → List Int
  | 0 => []
  | k + 1 => rowsTo us k ++ gt us k

theorem rowsTo_len (us : List (List Int)) (b : Nat) (h : ∀ u ∈ us, u.length ≤ b) (k : Nat) (hk : k ≤ us.length) : (rowsTo us k).length ≤ b * k := by
  induction k with
  | zero => simp [rowsTo]
  | succ k ih =>
    have h1 := ih (by omega)
    have h2 := h _ (gt_mem (l := us) (i := k) (by omega))
    simp only [rowsTo, List.length_append, Nat.mul_succ]; omega

theorem rowsTo_take (us : List (List Int)) (k : Nat) (hk : k ≤ us.length) : rowsTo us k = (us.take k).flatten := by
  induction k with
  | zero => simp [rowsTo]
  | succ k ih =>
    have hlt : k < us.length := by omega
    rw [rowsTo, ih (by omega), List.take_succ_eq_append_getElem hlt, List.flatten_append]
    simp [gt, hlt]

theorem rowsTo_all (us : List (List Int)) : rowsTo us us.length = us.flatten := by
  rw [rowsTo_take us _ (Nat.le_refl _), List.take_length]

set_option maxRecDepth 100000 in
set_option maxHeartbeats 4000000 in
theorem concatInts_ok (w : World) (lv : Value) (us : List (List Int)) (Sr : Nat → Prop) (hl : Rows2 Sr w lv us) (hb : ∀ u ∈ us, u.length ≤ 1000) (hn : us.length ≤ 100) :
    Calls Tryz.prog 95 #[lv] w (Ret w fun w' v => Own w.heap.size w' v us.flatten ∧ w.drawn ≤ w'.drawn) := by
  obtain ⟨al, capl, rfl, _, _⟩ := Sl.shape hl
  have hfl : ∀ k, k ≤ us.length → (rowsTo us k).length ≤ 100000 := fun k hk => by have := rowsTo_len us 1000 hb k hk; omega
  have HF := Lib.hid (And.intro hfl hb); clear hfl hb
  rw [← rowsTo_all]
  go_enter Tryz.func95, Tryz.ntmps95
  go_wp2
  go_loopw [3, 11] (fun sv iv wr => ∃ k : Nat, sv = .int .i64 ((rowsTo us k).length : Nat) ∧ iv = .int .i64 k ∧ k ≤ us.length ∧ w = wr) (fun _ iv _ => us.length - (intOf iv).toNat)
  case atStart => exact ⟨0, rfl, rfl, by omega, rfl⟩
  case round =>
    obtain ⟨k, rfl, rfl, hk, rfl⟩ := hrel
    have hfk := HF.out.1 k hk
    by_cases hlt : k < us.length
    · have hlt' : (k : Int) < us.length := by omega
      obtain ⟨b, off, a2, cap2, rfl, _, _, hc, hr⟩ := Rows2.at hl k hlt
      have hfk2 := HF.out.1 (k + 1) hlt
      have hst : (rowsTo us (k + 1)).length = (rowsTo us k).length + (gt us k).length := by simp only [rowsTo, List.length_append]
      obtain ⟨m, hm⟩ : ∃ m, m = (rowsTo us k).length := ⟨_, rfl⟩
      obtain ⟨m2, hm2⟩ : ∃ m2, m2 = (gt us k).length := ⟨_, rfl⟩
      rw [← hm] at hfk hst ⊢
      rw [← hm2] at hc hr hst
      have hmm : m + m2 ≤ 100000 := by omega
      have hw : IntKind.i64.wrap ((m : Int) + (m2 : Int)) = ((m + m2 : Nat) : Int) := by rw [IntWalk.i64_in _ (by omega)]; omega
      have hnn : ¬ ((m + m2 : Nat) : Int) < 0 := by omega
      have HS := Lib.hid (And.intro hst (And.intro hm hm2)); clear hst hm hm2 hfk2
      go_wp2
      go_roundw
      case rel => exact ⟨k + 1, by rw [HS.out.1, Int.natCast_add], by go_num, by omega, trivial⟩
      case measure => simp [intOf]; omega
    · have hke : k = us.length := by omega
      subst hke
      obtain ⟨m, hm⟩ : ∃ m, m = (rowsTo us us.length).length := ⟨_, rfl⟩
      rw [← hm] at hfk ⊢
      clear hm
      go_wp2_with fail
      refine Calls.mono (growInts_ok m (by omega) w) ?_
      rintro e1 w1 ⟨v1, rfl, hg1, hO1, hd1⟩
      go_wp2
      go_loopw [6, 27] (fun ov iv wr => ∃ (k : Nat) (v4 : Value), v4 = ov ∧ iv = .int .i64 k ∧ k ≤ us.length ∧ Ext w wr ∧ Own w.heap.size wr v4 (rowsTo us k) ∧ w.drawn ≤ wr.drawn) (fun _ iv _ => us.length - (intOf iv).toNat)
      case atStart => exact ⟨0, v1, rfl, rfl, by omega, hg1, hO1, hd1⟩
      case round =>
        clear hO1
        obtain ⟨k, v4, rfl, rfl, hk, hg, hO, hdr⟩ := hrel
        by_cases hlt : k < us.length
        · have hlt' : (k : Int) < us.length := by omega
          obtain ⟨b, off, a2, cap2, rfl, _, _, hc, hr⟩ := Rows2.at hl k hlt
          have hcr := hg.cell hc (by simp)
          have hr2 := Ints.ext hr hg
          have hlk := HF.out.2 _ (gt_mem hlt)
          have hfk := HF.out.1 k hk
          have hlen : (rowsTo us k).length + (gt us k).length ≤ 2147483648 := by omega
          have HN := Lib.hid (And.intro hr2 hlen); clear hlen hr2 hlk hfk hc
          go_wp2_with (first | (at_builtin; refine wp_app_intsD rfl _ _ rfl w.heap.size _ (rowsTo us k) rfl hO _ (gt us k) rfl _ HN.out.1 HN.out.2 hg.size ?_; intro v5 w5 hO5 hg5 hd5; have hgw5 := grown_own hg hg5 (fun j hj hlt => by have := (hO.lt j hj).1; omega)) | fail)
          clear hcr
          go_roundw
          case rel => exact ⟨k + 1, v5, rfl, by go_num, by omega, hgw5, hO5, Nat.le_trans hdr hd5⟩
          case measure => simp [intOf]; omega
        · have hke : k = us.length := by omega
          subst hke
          obtain ⟨az, capz, nz, hvz⟩ : ∃ az capz nz, v4 = .slice az nz capz := by
            rcases hO.2 with ⟨h1, _⟩ | ⟨g, cp, _, h1, _⟩
            · exact ⟨_, _, _, h1⟩
            · exact ⟨_, _, _, h1⟩
          subst hvz
          go_wp2
          go_ret
          exact ⟨_, rfl, hg, hO, hdr⟩

end Go.Proofs.YtdklekdpdbjfiaaGreat

/- impl.compareSubgroups, impl.latticeOf$1, cmp.Or at int. -/
namespace Go.Proofs.YtdklekdpdbjfiaaGreat
open Go.RowKit

set_option maxHeartbeats 1000000 in
theorem orInt_ok (a b : Int) (w : World) (v : Value) (S : Nat → Prop) (h : Ints S w v [a, b]) :
    Calls Tryz.prog 201 #[v] w fun e w' => e = .returned (.int .i64 (if a = 0 then b else a)) ∧ w' = w := by
  obtain ⟨av, capv, rfl, _, _⟩ := h.shape
  obtain ⟨b0, o0, rfl, _, _, hc0⟩ := Ints.at h 0 (by simp)
  have hc1 : w.cell? ⟨b0, o0 + 1, none⟩ = some (.int .i64 b) := by
    obtain ⟨b1, o1, e, _, _, hc1⟩ := Ints.at h 1 (by simp)
    cases e; exact hc1
  have hc0' : w.cell? ⟨b0, o0, none⟩ = some (.int .i64 a) := hc0
  clear hc0 h
  have hln : (([a, b] : List Int).length : Int) = 2 := rfl
  rw [show ([a, b] : List Int).length = 2 from rfl]
  clear hln
  go_enter Tryz.func201, Tryz.ntmps201
  go_wp2
  go_loopw [8] (fun iv wr => ∃ k : Nat, iv = .int .i64 k ∧ k ≤ 2 ∧ wr = w ∧ (1 ≤ k → a = 0) ∧ (2 ≤ k → b = 0)) (fun iv _ => 2 - (intOf iv).toNat)
  case atStart => exact ⟨0, rfl, by omega, rfl, fun h => by omega, fun h => by omega⟩
  case round =>
    obtain ⟨k, rfl, hk, rfl, ha, hb⟩ := hrel
    by_cases h0 : k = 0
    · subst h0
      clear ha hb hk
      by_cases hz : a = 0
      · subst hz
        go_wp2
        go_roundw
        case rel => exact ⟨1, by go_num, by omega, trivial, by simp, by omega⟩
        case measure => simp [intOf]
      · go_wp2
        exact bodyPost_ret (v := .int .i64 a) (by simp [results, Tryz.results201, go_sem]) rfl ⟨rfl, rfl⟩
    · by_cases h1 : k = 1
      · subst h1
        have ha' := ha (by omega)
        subst ha'
        clear ha hb hk h0
        by_cases hz : b = 0
        · subst hz
          go_wp2
          go_roundw
          case rel => exact ⟨2, by go_num, by omega, trivial, by simp, by simp⟩
          case measure => simp [intOf]
        · go_wp2
          exact bodyPost_ret (v := .int .i64 b) (by simp [results, Tryz.results201, go_sem]) rfl ⟨rfl, rfl⟩
      · have h2 : k = 2 := by omega
        subst h2
        have ha' := ha (by omega)
        have hb' := hb (by omega)
        subst ha'; subst hb'
        clear ha hb hk h0 h1
        go_wp2
        exact bodyPost_ret (v := .int .i64 0) (by simp [results, Tryz.results201, go_sem]) rfl ⟨rfl, rfl⟩

theorem seqOk_row {P : Pr} {U : List (List Int)} (hU : SeqOk P U) : ∀ u ∈ U, u.length = P.orders.length := fun u hu => (hU.1 u hu).1.1

set_option maxRecDepth 100000 in
set_option maxHeartbeats 2000000 in
theorem compareSubgroups_ok (P : Pr) (hP : Valid P) (w : World) (p uv vv : Value) (U V : List (List Int)) (Sp Su Sv : Nat → Prop) (hp : PresP Sp w p P) (hu : Rows2 Su w uv U) (hv : Rows2 Sv w vv V) (hU : SeqOk P U) (hV : SeqOk P V) (hlu : U.length ≤ 100) (hlv : V.length ≤ 100) :
    Calls Tryz.prog 140 #[p, uv, vv] w (Ret w fun w' v => v = .int .i64 (cmpS P U V) ∧ w.drawn ≤ w'.drawn) := by
  have hn6 := hP.n6
  obtain ⟨pb, po, rfl⟩ := hp.shape
  obtain ⟨au, capu, rfl, _, _⟩ := Sl.shape hu
  obtain ⟨av, capv, rfl, _, _⟩ := Sl.shape hv
  have hUl : ∀ u ∈ U, u.length ≤ 1000 := fun u h => by have := seqOk_row hU u h; omega
  have hVl : ∀ u ∈ V, u.length ≤ 1000 := fun u h => by have := seqOk_row hV u h; omega
  have hUf : U.flatten.length ≤ 100000 := by have := rowsTo_len U 1000 hUl _ (Nat.le_refl _); rw [rowsTo_all] at this; omega
  have hVf : V.flatten.length ≤ 100000 := by have := rowsTo_len V 1000 hVl _ (Nat.le_refl _); rw [rowsTo_all] at this; omega
  have hdef : cmpS P U V = if cmpI (prodU P U U.length) (prodU P V V.length) = 0 then cmpL U.flatten V.flatten else cmpI (prodU P U U.length) (prodU P V V.length) := rfl
  have HH := Lib.hid (And.intro (And.intro hU hV) (And.intro (And.intro hUl hVl) (And.intro hUf (And.intro hVf hdef)))); clear hU hV hUl hVl hUf hVf hdef
  go_enter Tryz.func140, Tryz.ntmps140
  go_wp2_with fail
  refine Calls.mono (sizeOfD_ok P hP w _ _ U Sp Su hp hu HH.out.1.1 hlu) ?_
  rintro e1 w1 ⟨v1, rfl, hg1, rfl, hd1⟩
  obtain ⟨a, ha⟩ : ∃ a, a = prodU P U U.length := ⟨_, rfl⟩
  rw [← ha]
  have HA := Lib.hid (And.intro ha hd1); clear ha hd1
  go_wp2_with fail
  refine Calls.mono (sizeOfD_ok P hP w1 _ _ V Sp Sv (hp.ext hg1) (Rows2.ext hv hg1) HH.out.1.2 hlv) ?_
  rintro e2 w2 ⟨v2, rfl, hg2, rfl, hd2⟩
  obtain ⟨b, hb⟩ : ∃ b, b = prodU P V V.length := ⟨_, rfl⟩
  rw [← hb]
  have hdef := HH.out.2.2.2.2
  rw [← HA.out.1, ← hb] at hdef
  have HD := Lib.hid (And.intro hdef hd2); clear hdef hb hd2
  go_wp2_with fail
  refine Calls.mono (cmpI_ok a b w2) ?_
  rintro e3 w3 ⟨rfl, rfl⟩
  obtain ⟨c, hc⟩ : ∃ c, c = cmpI a b := ⟨_, rfl⟩
  rw [← hc]
  have hdef := HD.out.1
  rw [← hc] at hdef
  have HD2 := Lib.hid hdef; clear hdef hc
  have hg12 := grown_trans hg1 hg2
  go_wp2_with fail
  refine Calls.mono (concatInts_ok w3 _ U Su (Rows2.ext hu hg12) HH.out.2.1.1 hlu) ?_
  rintro e4 w4 ⟨v4, rfl, hg4, hO4, hd4⟩
  have hg14 := grown_trans hg12 hg4
  have HD4 := Lib.hid hd4; clear hd4
  go_wp2_with fail
  refine Calls.mono (concatInts_ok w4 _ V Sv (Rows2.ext hv hg14) HH.out.2.1.2 hlv) ?_
  rintro e5 w5 ⟨v5, rfl, hg5, hO5, hd5⟩
  have hI4 : Ints Any w5 v4 U.flatten := Ints.sub (Ints.ext (ints_of_own (S := Any) hO4 (by have := HH.out.2.2.1; omega) (fun _ _ => trivial)) hg5) (fun _ _ _ => trivial)
  have hI5 : Ints Any w5 v5 V.flatten := ints_of_own (S := Any) hO5 (by have := HH.out.2.2.2.1; omega) (fun _ _ => trivial)
  have HI := Lib.hid (And.intro hI4 hI5); clear hI4 hI5 hO4 hO5
  have HD5 := Lib.hid hd5; clear hd5
  go_wp2_with fail
  refine Calls.mono (sCompare_ok v4 v5 U.flatten V.flatten w5 Any Any HI.out.1 HI.out.2) ?_
  rintro e6 w6 ⟨rfl, rfl⟩
  obtain ⟨d, hd⟩ : ∃ d, d = cmpL U.flatten V.flatten := ⟨_, rfl⟩
  rw [← hd]
  have hdef := HD2.out
  rw [← hd] at hdef
  have HD3 := Lib.hid hdef; clear hdef hd HD2 HH HI
  have hga : Ext w6 (w6.alloc (.cells #[.int .i64 c, .int .i64 d] 3)) := World.grownBy_alloc _ _ _
  have hO7 : OwnV w6.heap.size 3 (w6.alloc (.cells #[.int .i64 c, .int .i64 d] 3)) (.slice (some ⟨w6.heap.size, 0, none⟩) 2 2) [.int .i64 c, .int .i64 d] := World.ownsRow_lit w6 #[.int .i64 c, .int .i64 d] 2 (Nat.le_refl _) (by decide) rfl
  have hI7 : Ints Any (w6.alloc (.cells #[.int .i64 c, .int .i64 d] 3)) (.slice (some ⟨w6.heap.size, 0, none⟩) 2 2) [c, d] := by
    refine ⟨_, _, rfl, ⟨by simp, by simp, fun h => by cases h⟩, fun i hi => ⟨w6.heap.size, 0, .int .i64 (gt [c, d] i), rfl, trivial, by simp, ?_, rfl⟩⟩
    have := hO7.cell i (by simpa using hi)
    rw [Nat.zero_add, this]
    have hi2 : i < 2 := by simpa using hi
    have : i = 0 ∨ i = 1 := by omega
    rcases this with rfl | rfl <;> rfl
  have H7 := Lib.hid hI7; clear hI7 hO7
  go_wp2_with fail
  refine Calls.mono (orInt_ok c d _ _ Any H7.out) ?_
  rintro e8 w8 ⟨rfl, rfl⟩
  rw [← HD3.out]
  go_wp2
  go_ret
  exact ⟨_, rfl, grown_trans hg14 (grown_trans hg5 hga), rfl, Nat.le_trans (Nat.le_trans HA.out.2 HD.out.2) (Nat.le_trans HD4.out HD5.out)⟩

end Go.Proofs.YtdklekdpdbjfiaaGreat

/- The library's sort at [][][]int64 with the lattice's comparison. -/
namespace Go.Proofs.YtdklekdpdbjfiaaGreat
open Go.Proofs Go.Shelf Go.RowKit Go.Lib Go.Sort
def Tryz.sortRows3_ren : Go.Shelf.Ren := ⟨fun | 6 => 138 | 15 => 200 | 14 => 199 | 28 => 240 | 29 => 241 | 20 => 232 | 21 => 233 | 22 => 234 | 23 => 235 | 24 => 236 | 25 => 237 | 26 => 238 | 27 => 239 | 46 => 251 | 47 => 252 | 48 => 253 | 49 => 254 | 50 => 255 | 57 => 265 | n => n, fun | 22 => 24 | 24 => 23 | 25 => 128 | 3 => 3 | 39 => 168 | 0 => 0 | 53 => 198 | 55 => 95 | 4 => 4 | 46 => 191 | 45 => 190 | 50 => 195 | 5 => 5 | 9 => 9 | 66 => 204 | 70 => 208 | 76 => 216 | 77 => 217 | n => n, fun | n => n⟩
theorem Tryz.sortRows3 : Go.Proofs.SlLaysF.n6 Tryz.prog Tryz.sortRows3_ren := {
  mixed := by kernel_rfl
  f6 := ⟨Tryz.f138.name, by decide, Tryz.func138.trans (congrArg some (by kernel_rfl))⟩
  f14 := ⟨Tryz.f199.name, by decide, Tryz.func199.trans (congrArg some (by kernel_rfl))⟩
  f15 := Tryz.func200.trans (congrArg some (by kernel_rfl))
  f20 := ⟨Tryz.f232.name, by decide, Tryz.func232.trans (congrArg some (by kernel_rfl))⟩
  f21 := ⟨Tryz.f233.name, by decide, Tryz.func233.trans (congrArg some (by kernel_rfl))⟩
  f22 := ⟨Tryz.f234.name, by decide, Tryz.func234.trans (congrArg some (by kernel_rfl))⟩
  f23 := ⟨Tryz.f235.name, by decide, Tryz.func235.trans (congrArg some (by kernel_rfl))⟩
  f24 := ⟨Tryz.f236.name, by decide, Tryz.func236.trans (congrArg some (by kernel_rfl))⟩
  f25 := ⟨Tryz.f237.name, by decide, Tryz.func237.trans (congrArg some (by kernel_rfl))⟩
  f26 := ⟨Tryz.f238.name, by decide, Tryz.func238.trans (congrArg some (by kernel_rfl))⟩
  f27 := ⟨Tryz.f239.name, by decide, Tryz.func239.trans (congrArg some (by kernel_rfl))⟩
  f28 := Tryz.func240.trans (congrArg some (by kernel_rfl))
  f29 := Tryz.func241.trans (congrArg some (by kernel_rfl))
  f46 := ⟨Tryz.f251.name, by decide, Tryz.func251.trans (congrArg some (by kernel_rfl))⟩
  f47 := Tryz.func252.trans (congrArg some (by kernel_rfl))
  f48 := Tryz.func253.trans (congrArg some (by kernel_rfl))
  f49 := ⟨Tryz.f254.name, by decide, Tryz.func254.trans (congrArg some (by kernel_rfl))⟩
  f50 := ⟨Tryz.f255.name, by decide, Tryz.func255.trans (congrArg some (by kernel_rfl))⟩
  f57 := ⟨Tryz.f265.name, by decide, Tryz.func265.trans (congrArg some (by kernel_rfl))⟩
  t0 := Tryz.underlying0
  a0 := Tryz.isAgg0
  z0 := Tryz.sizeOf0
  v0 := Tryz.zeroValue0
  t3 := Tryz.underlying3
  a3 := Tryz.isAgg3
  z3 := Tryz.sizeOf3
  v3 := Tryz.zeroValue3
  t4 := Tryz.underlying4
  a4 := Tryz.isAgg4
  z4 := Tryz.sizeOf4
  v4 := Tryz.zeroValue4
  t5 := Tryz.underlying5
  a5 := Tryz.isAgg5
  z5 := Tryz.sizeOf5
  v5 := Tryz.zeroValue5
  t9 := Tryz.underlying9
  a9 := Tryz.isAgg9
  z9 := Tryz.sizeOf9
  v9 := Tryz.zeroValue9
  t22 := Tryz.underlying24
  a22 := Tryz.isAgg24
  z22 := Tryz.sizeOf24
  v22 := Tryz.zeroValue24
  a24 := Tryz.isAgg23
  z24 := Tryz.sizeOf23
  t25 := Tryz.underlying128
  a25 := Tryz.isAgg128
  z25 := Tryz.sizeOf128
  v25 := Tryz.zeroValue128
  t39 := Tryz.underlying168
  a39 := Tryz.isAgg168
  z39 := Tryz.sizeOf168
  v39 := Tryz.zeroValue168
  t45 := Tryz.underlying190
  a45 := Tryz.isAgg190
  z45 := Tryz.sizeOf190
  v45 := Tryz.zeroValue190
  t46 := Tryz.underlying191
  a46 := Tryz.isAgg191
  z46 := Tryz.sizeOf191
  v46 := Tryz.zeroValue191
  t50 := Tryz.underlying195
  a50 := Tryz.isAgg195
  z50 := Tryz.sizeOf195
  v50 := Tryz.zeroValue195
  t53 := Tryz.underlying198
  a53 := Tryz.isAgg198
  z53 := Tryz.sizeOf198
  v53 := Tryz.zeroValue198
  t55 := Tryz.underlying95
  a55 := Tryz.isAgg95
  z55 := Tryz.sizeOf95
  v55 := Tryz.zeroValue95
  t66 := Tryz.underlying204
  a66 := Tryz.isAgg204
  z66 := Tryz.sizeOf204
  v66 := Tryz.zeroValue204
  t70 := Tryz.underlying208
  a70 := Tryz.isAgg208
  z70 := Tryz.sizeOf208
  v70 := Tryz.zeroValue208
  t76 := Tryz.underlying216
  a76 := Tryz.isAgg216
  z76 := Tryz.sizeOf216
  v76 := Tryz.zeroValue216
  t77 := Tryz.underlying217
  a77 := Tryz.isAgg217
  z77 := Tryz.sizeOf217
  v77 := Tryz.zeroValue217 }

theorem seqOk_nil (P : Pr) : SeqOk P [] := ⟨by simp, by simp⟩

end Go.Proofs.YtdklekdpdbjfiaaGreat

/- The library's sort with the comparison of Hall subgroups. (Turned from CmpW, SortL3.) -/
namespace Go.Proofs.YtdklekdpdbjfiaaGreat
open Go.Proofs Go.Shelf Go.RowKit Go.Lib Go.Sort

set_option maxHeartbeats 1000000 in
theorem hallCmp_ok (P : Pr) (hP : Valid P) (w : World) (bx pb po : Nat) (uv vv : Value) (U V : List (List Int)) (Sp Su Sv : Nat → Prop) (hc : w.cell? ⟨bx, 0, none⟩ = some (.pointer (some ⟨pb, po, none⟩))) (hp : PresP Sp w (.pointer (some ⟨pb, po, none⟩)) P)
    (hu : Rows2 Su w uv U) (hv : Rows2 Sv w vv V) (hU : SeqOk P U) (hV : SeqOk P V) (hlu : U.length ≤ 100) (hlv : V.length ≤ 100) :
    Calls Tryz.prog 139 #[uv, vv, .pointer (some ⟨bx, 0, none⟩)] w (Ret w fun w' v => v = .int .i64 (cmpS P U V) ∧ w.drawn ≤ w'.drawn) := by
  go_enter Tryz.func139, Tryz.ntmps139
  go_wp2_with fail
  refine Calls.mono (compareSubgroups_ok P hP w _ uv vv U V Sp Su Sv hp hu hv hU hV hlu hlv) ?_
  rintro e1 w1 ⟨v1, rfl, hg1, rfl, hd1⟩
  obtain ⟨c, hc⟩ : ∃ c, c = cmpS P U V := ⟨_, rfl⟩
  rw [← hc]
  have HC := Lib.hid (And.intro hc hd1); clear hc hd1
  go_wp2
  go_ret
  exact ⟨_, rfl, hg1, congrArg (Value.int .i64) HC.out.1, HC.out.2⟩

theorem sortHall_ok (P : Pr) (hP : Valid P) (w : World) (v : Value) (L : List (List (List Int))) (A : Nat → Prop) (B bx pb po : Nat) (hL : SlOA (fun F w u (x : List (List Int)) => RowsD F w u x) 23 B A w v L) (hne : 0 < L.length) (hlen : L.length ≤ 1000000)
    (hU : ∀ u ∈ L, SeqOk P u ∧ u.length ≤ 100) (hc : w.cell? ⟨bx, 0, none⟩ = some (.pointer (some ⟨pb, po, none⟩))) (hbx : v.ownBlock ≠ some bx) (hp : PresP (fun k => v.ownBlock ≠ some k) w (.pointer (some ⟨pb, po, none⟩)) P) :
    Calls Tryz.prog 138 #[v, .func (.func 139) #[] #[.pointer (some ⟨bx, 0, none⟩)]] w fun e w' => e = .returned (.tuple #[]) ∧
      ∃ L', SlOA (fun F w u (x : List (List Int)) => RowsD F w u x) 23 B A w' v L' ∧ L'.Perm L ∧ L'.Pairwise (fun x y => 0 ≤ cmpS P y x) ∧ w.grownBy w' v.ownBlock := by
  have eg : ∀ args w, (callFunc 139 args).run Tryz.prog w = .ok (.enter 139 args) w := enters_of Tryz.func139 (by kernel_rfl) rfl
  have h := sortG Tryz.sortRows3 rdRows 23 B (cmpS P) (swo_cmpS P) 139 #[.pointer (some ⟨bx, 0, none⟩)] eg w v L A hL hne hlen (fun W => (SlO.nil OwnIn 22 0 W).toD (by simp) |> fun h => rdRows.mono h (fun k hk hlt => ⟨trivial, hlt, rfl⟩)) (by
    intro W u1 u2 x y hg hx hy h1 h2
    have hp' : PresP Any W (.pointer (some ⟨pb, po, none⟩)) P := PresP.mono hp (frame_of hg (fun k hk _ => ⟨trivial, hk⟩))
    have hc' : W.cell? ⟨bx, 0, none⟩ = some (.pointer (some ⟨pb, po, none⟩)) := hg.cell hc (fun e => hbx e.symm)
    have hq : ∀ z, (z ∈ L ∨ z = default) → SeqOk P z ∧ z.length ≤ 100 := fun z hz => by
      rcases hz with hz | hz
      · exact hU z hz
      · rw [hz]; exact ⟨seqOk_nil P, by decide⟩
    refine (hallCmp_ok P hP W bx pb po u1 u2 x y Any _ _ hc' hp' (RowsD.rows h1) (RowsD.rows h2) (hq x hx).1 (hq y hy).1 (hq x hx).2 (hq y hy).2).mono ?_
    rintro e w' ⟨v1, rfl, hg1, rfl, hd⟩
    exact ⟨rfl, hg1, hd⟩)
  exact h

end Go.Proofs.YtdklekdpdbjfiaaGreat

/- The key tells the subgroup. -/
namespace Go.Proofs.YtdklekdpdbjfiaaGreat
open Go.RowKit

theorem strOf_inj : ∀ {xs ys : List Int}, (∀ a ∈ xs, 0 ≤ a ∧ a < 256) → (∀ a ∈ ys, 0 ≤ a ∧ a < 256) → strOfNums xs = strOfNums ys → xs = ys := by
  intro xs ys hx hy h
  have h1 : xs.map (fun n => UInt8.ofNat n.toNat) = ys.map (fun n => UInt8.ofNat n.toNat) := by
    rw [← strOfNums_data, ← strOfNums_data, h]
  have key : ∀ {xs ys : List Int}, (∀ a ∈ xs, 0 ≤ a ∧ a < 256) → (∀ a ∈ ys, 0 ≤ a ∧ a < 256) → xs.map (fun n => UInt8.ofNat n.toNat) = ys.map (fun n => UInt8.ofNat n.toNat) → xs = ys := by
    intro xs
    induction xs with
    | nil => intro ys _ _ h; cases ys with
      | nil => rfl
      | cons => simp at h
    | cons x xs ih =>
      intro ys hx hy h
      cases ys with
      | nil => simp at h
      | cons y ys =>
        simp only [List.map_cons, List.cons.injEq] at h
        obtain ⟨a1, a2⟩ := hx x (List.mem_cons_self ..)
        obtain ⟨b1, b2⟩ := hy y (List.mem_cons_self ..)
        have he := congrArg UInt8.toNat h.1
        rw [UInt8.toNat_ofNat', UInt8.toNat_ofNat', Nat.mod_eq_of_lt (by omega), Nat.mod_eq_of_lt (by omega)] at he
        rw [show x = y by omega, ih (fun a ha => hx a (List.mem_cons_of_mem _ ha)) (fun a ha => hy a (List.mem_cons_of_mem _ ha)) h.2]
  exact key hx hy h1

theorem keyL_bytes {u : List (List Int)} (h : ∀ x ∈ u, ∀ e ∈ x, 0 ≤ e ∧ e < 256) : ∀ a ∈ keyL u, 0 ≤ a ∧ a < 256 := by
  intro a ha
  unfold keyL at ha
  obtain ⟨r, hr, har⟩ := List.mem_flatten.1 ha
  obtain ⟨x, hx, rfl⟩ := List.mem_map.1 hr
  rcases List.mem_append.1 har with h1 | h1
  · exact h x hx a h1
  · simp at h1; omega

theorem keyRow_inj {x y : List Int} (h : keyRow x = keyRow y) : x = y := List.append_cancel_right h

theorem keyS_inj {n : Nat} {u v : List (List Int)} (hu : ∀ x ∈ u, x.length = n ∧ ∀ e ∈ x, 0 ≤ e ∧ e < 256) (hv : ∀ x ∈ v, x.length = n ∧ ∀ e ∈ x, 0 ≤ e ∧ e < 256) (h : keyS u = keyS v) : u = v := by
  have h1 := strOf_inj (keyL_bytes fun x hx => (hu x hx).2) (keyL_bytes fun x hx => (hv x hx).2) h
  have h2 : u.map keyRow = v.map keyRow := flatten_inj (n := n + 1) (by omega)
    (fun r hr => by obtain ⟨x, hx, rfl⟩ := List.mem_map.1 hr; simp [keyRow, (hu x hx).1])
    (fun r hr => by obtain ⟨x, hx, rfl⟩ := List.mem_map.1 hr; simp [keyRow, (hv x hx).1]) h1
  have key : ∀ {u v : List (List Int)}, u.map keyRow = v.map keyRow → u = v := by
    intro u
    induction u with
    | nil => intro v h; cases v with
      | nil => rfl
      | cons => simp at h
    | cons x u ih =>
      intro v h
      cases v with
      | nil => simp at h
      | cons y v =>
        simp only [List.map_cons, List.cons.injEq] at h
        rw [keyRow_inj h.1, ih h.2]
  exact key h2

/-- rows of vectors are bytes -/
theorem vec_bytes {P : Pr} (hP : Valid P) {x : List Int} (hx : Vec P.orders x) : x.length = P.orders.length ∧ ∀ e ∈ x, 0 ≤ e ∧ e < 256 := by
  refine ⟨hx.1, fun e he => ?_⟩
  obtain ⟨i, hi, rfl⟩ := List.getElem_of_mem he
  have h1 := hx.2 i (by rw [← hx.1]; exact hi)
  rw [← gt_eq _ _ hi]
  have h2 := hP.ord7 i (by rw [← hx.1]; exact hi)
  omega

theorem subB_key {P : Pr} (hP : Valid P) {u v : List (List Int)} (hu : SubB P u) (hv : SubB P v) (h : keyS u = keyS v) : u = v :=
  keyS_inj (fun x hx => vec_bytes hP (hu.1 x hx)) (fun x hx => vec_bytes hP (hv.1 x hx)) h

end Go.Proofs.YtdklekdpdbjfiaaGreat

/- append of a subgroup that lay there before to a list of subgroups. (Printed from AppTake.) -/
namespace Go.Proofs.YtdklekdpdbjfiaaGreat
open Go.RowKit

end Go.Proofs.YtdklekdpdbjfiaaGreat

/- impl.extendMask. -/
namespace Go.Proofs.YtdklekdpdbjfiaaGreat
open Go.RowKit

end Go.Proofs.YtdklekdpdbjfiaaGreat

/- impl.multiplicationTable. -/
namespace Go.Proofs.YtdklekdpdbjfiaaGreat
open Go.RowKit

/-- append of one value to a row of the call's own -/
theorem wp_app_v (T E : Nat) (z : Value) (bytes : Nat) (hT : Tryz.prog.underlying T = some (.slice E)) (hE : (Tryz.prog.info? E).map (fun i => (i.zero, i.size, i.bytes)) = some (some z, 1, bytes))
    (hzs : z.cells.size = 1) (hbt : bytes ≤ 64) {ops : Array Oper} {rest : List Oper} {o : Oper} {a : Act} {Q : Exit → Act → World → Prop} {w : World} (hgd : o.guard = none) (s x : Operand)
    (ho : o.op = Op.call { callee := Callee.builtin Builtin.append, args := #[s, x], argTypes := #[T, T] }) (base : Nat) (w1 : World) (v u : Value) (xs : List Value) (hs : a.eval s = v) (hown : OwnV base E w1 v xs)
    (hw : w = w1.alloc (.cells #[u] E)) (hu : u.oneCell' = true) (hx : a.eval x = .slice (some ⟨w1.heap.size, 0, none⟩) 1 1) (hlen : xs.length ≤ 1000000) (hbase : base ≤ w1.heap.size)
    (h : ∀ v' w', OwnV base E w' v' (xs ++ [u]) → w1.grownBy w' v.ownBlock → wpList Tryz.prog ops Q rest (a.put o.dst v') w') :
    wpList Tryz.prog ops Q (o :: rest) a w := by
  subst hw
  have hga : Ext w1 (w1.alloc (.cells #[u] E)) := World.grownBy_alloc _ _ _
  refine wp_app T E z bytes hT hE hzs hbt hgd s x ho base v xs hs (hown.kept hga (by cases hv : v.ownBlock <;> simp)) (some ⟨w1.heap.size, 0, none⟩) 1 1 [u] hx rfl (by simp) ?_ ?_ (by omega) (by have := hga.size; omega) ?_
  · intro j hj
    have : j = 0 := by omega
    subst this
    exact ⟨_, _, rfl, by rw [World.cell?_alloc_at _ _ _ _ rfl]; rfl⟩
  · intro u' hu'
    simp at hu'; subst hu'; exact hu
  · intro v' w' h1 h2 _ _
    exact h v' w' h1 (grown_trans (grown_of_ext _ hga) h2)

end Go.Proofs.YtdklekdpdbjfiaaGreat

/- The reference's coset representatives and membership: spec.l12Reduce, l12Sift, l12Has. -/
namespace Go.Proofs.YtdklekdpdbjfiaaGreat
open Go.RowKit

set_option maxRecDepth 100000 in
set_option maxHeartbeats 2000000 in
theorem l12Reduce_ok (P : Pr) (G : Grp P) (w : World) (pv tv xv : Value) (b : List (List Int)) (X : List Int) (H : List Int → Prop) (Sp Sb Sx : Nat → Prop) (hpv : PresV Sp w pv P) (ht : Rows2 Sb w tv b) (hx : Ints Sx w xv X) (hX : Vec P.orders X)
    (hlb : b.length = P.orders.length) (hI : Ind P H (gt b)) :
    Calls Tryz.prog 244 #[pv, tv, xv] w (Ret w fun w' v => ∃ Y, Own w.heap.size w' v Y ∧ RedTo P H b X P.orders.length Y) := by
  have hP := G.v
  have hn6 := hP.n6
  obtain ⟨vo, vp, vc, rfl, h3⟩ := hpv
  have hp0 := PresP.box h3 31
  have hg0 : Ext w (w.alloc (.cells #[vo, vp, vc] 31)) := World.grownBy_alloc _ _ _
  have hx0 := hx.ext hg0
  have ht0 := Rows2.ext ht hg0
  have hXl : X.length ≤ 6 := by rw [hX.1]; omega
  have hs0 : (w.alloc (.cells #[vo, vp, vc] 31)).heap.size = w.heap.size + 1 := by simp
  obtain ⟨at_, capt, hvt, _, _⟩ := Sl.shape ht
  rw [hlb] at hvt
  subst hvt
  have HI := Lib.hid (And.intro hI (And.intro hX hlb)); clear hI hX hlb
  obtain ⟨vo6, vp6, vc6, _, _, hc0, hc1, hc2, h36⟩ := hp0.at
  simp only [Nat.zero_add] at hc1 hc2
  clear hp0
  go_enter Tryz.func244, Tryz.ntmps244
  go_wp2_with fail
  have HS := Lib.hid hs0; clear hs0
  generalize hw0 : w.alloc (.cells #[vo, vp, vc] 31) = w0 at *
  clear hw0
  refine Calls.mono (l01Own_ok w0 xv X Sx hx0 (by omega)) ?_
  rintro e1 w1 ⟨ov, rfl, hg1, hO1⟩
  go_wp2
  go_loopw [7, 8] (fun ov iv wr => ∃ (d : Nat) (Y : List Int), iv = .int .i64 d ∧ d ≤ P.orders.length ∧ Ext w0 wr ∧ Own w.heap.size wr ov Y ∧ Hid (RedTo P H b X d Y)) (fun _ iv _ => P.orders.length - (intOf iv).toNat)
  case atStart => exact ⟨0, X, rfl, by omega, hg1, hO1.weak (by have := HS.out; omega), Lib.hid (G.redTo_zero HI.out.1.sub HI.out.2.1)⟩
  case round =>
    clear hO1
    obtain ⟨d, Y, rfl, hd, hg, hO, hR⟩ := hrel
    have hYV := hR.out.vec
    have hYl : Y.length = P.orders.length := hYV.1
    have hYi := hO.ints (by omega)
    obtain ⟨ay, capy, hvy, _, _⟩ := hYi.shape
    rw [hYl] at hvy
    subst hvy
    by_cases hlt : d < P.orders.length
    · have hlt' : (d : Int) < P.orders.length := by omega
      obtain ⟨bb, off, a2, cap2, rfl, _, _, hc, hr⟩ := Rows2.at (Rows2.ext ht0 hg) d (by rw [HI.out.2.2]; exact hlt)
      obtain ⟨by_, oy, rfl, _, _, hcy⟩ := Ints.at hYi d (by omega)
      by_cases hb : gt b d = []
      · have hbl : ¬ (0 : Int) < (gt b d).length := by rw [hb]; simp
        have hR2 := Lib.hid (hR.out.skip (.inl hb)); clear hb hYV
        go_wp2
        go_roundw
        case rel => exact ⟨d + 1, Y, by go_num, by omega, hg, hO, hR2⟩
        case measure => simp [intOf]; omega
      · have hbl : (0 : Int) < (gt b d).length := by
          have : 0 < (gt b d).length := List.length_pos_iff.2 hb
          omega
        by_cases hy : gt Y d = 0
        · have hyb : (gt Y d != 0) = false := by simp [hy]
          have hR2 := Lib.hid (hR.out.skip (.inr hy)); clear hb hYV hy
          go_wp2
          go_roundw
          case rel => exact ⟨d + 1, Y, by go_num, by omega, hg, hO, hR2⟩
          case measure => simp [intOf]; omega
        · have hyb : (gt Y d != 0) = true := by simp [hy]
          have hyd := hYV.2 d hlt
          have ho := hP.ord7 d hlt
          have hwn : IntKind.i64.wrap (-(gt Y d)) = -(gt Y d) := IntWalk.i64_in _ (by omega)
          obtain ⟨m1, m2, m3⟩ := HI.out.1.mem d hlt hb
          have hR2 := Lib.hid (G.redTo_step HI.out.1 HI.out.2.1 hlt hb hR.out)
          have hpV := G.pwZ_vec m2.1 (-(gt Y d))
          have hpl : (pwZ P (gt b d) (-(gt Y d))).length ≤ 6 := by rw [hpV.1]; omega
          have HB := Lib.hid (And.intro m2.1 (And.intro hpV (And.intro hpl (And.intro hYV (And.intro hyd ho))))); clear m1 m2 m3 hpV hpl hYV hyd ho hb hy
          have e1 : ∀ w', Ext wr w' → w'.cell? ⟨w.heap.size, 0, none⟩ = some vo6 := fun w' h => (grown_trans hg h).cell hc0 (by simp)
          have e2 : ∀ w', Ext wr w' → w'.cell? ⟨w.heap.size, 1, none⟩ = some vp6 := fun w' h => (grown_trans hg h).cell hc1 (by simp)
          have e3 : ∀ w', Ext wr w' → w'.cell? ⟨w.heap.size, 2, none⟩ = some vc6 := fun w' h => (grown_trans hg h).cell hc2 (by simp)
          have e4 : ∀ w', Ext wr w' → w'.cell? ⟨bb, off + d, none⟩ = some (.slice a2 (gt b d).length cap2) := fun w' h => h.cell hc (by simp)
          have e5 : ∀ w', Ext wr w' → w'.cell? ⟨by_, oy + d, none⟩ = some (.int .i64 (gt Y d)) := fun w' h => h.cell hcy (by simp)
          go_wp2
          clear hc hcy
          go_region_held3 (fun w' => Ext wr w') (first | exact grown_drew _ _ | assumption)
            (first
              | (go_at_call 113; refine Calls.mono (Calls.rel (w0 := wr) (by assumption) (l10Pow_ok P G _ _ _ (gt b d) _ Any Any ⟨_, _, _, rfl, Pres3.ext (Pres3.ext h36 hg) (by assumption)⟩ (Ints.sub (Ints.ext hr (by assumption)) (fun _ _ _ => trivial)) HB.out.1 (by have := HB.out.2.2.2.2.1; have := HB.out.2.2.2.2.2; omega))) ?_; rintro eA wA ⟨vA, rfl, hgA, hsA, hOA⟩; have hOA2 := hOA.ints (by have := HB.out.2.2.1; omega))
              | (go_at_call 176; refine Calls.mono (Calls.rel (w0 := wr) (by assumption) (l08Mul_ok P hP _ _ _ _ Y _ Any Any Any ⟨_, _, _, rfl, Pres3.ext (Pres3.ext h36 hg) (by assumption)⟩ (Ints.sub (Ints.ext hYi (by assumption)) (fun _ _ _ => trivial)) hOA2 HB.out.2.2.2.1 HB.out.2.1)) ?_; rintro eB wB ⟨vB, rfl, hgB, hsB, hOB⟩))
          clear e1 e2 e3 e4 e5
          go_wp2
          go_roundw
          case rel => exact ⟨d + 1, _, by go_num, by omega, grown_trans hg hgB, hOB.weak (by have := hg.size; have := HS.out; omega), hR2⟩
          case measure => simp [intOf]; omega
    · have hde : d = P.orders.length := by omega
      subst hde
      go_wp2
      go_ret
      exact ⟨_, rfl, grown_trans hg0 hg, Y, hO, hR.out⟩

end Go.Proofs.YtdklekdpdbjfiaaGreat

/- The reference's membership and order: spec.l01Zero, l12Sift, l12Has, l12Order. -/
namespace Go.Proofs.YtdklekdpdbjfiaaGreat
open Go.RowKit

theorem l01Zero_ok (v : Value) (l : List Int) (w : World) (S : Nat → Prop) (h : Ints S w v l) :
    Calls Tryz.prog 212 #[v] w fun e w' => e = .returned (.bool (isZeroB l)) ∧ w = w' := by
  obtain ⟨a, cap, rfl, _, _⟩ := h.shape
  go_enter Tryz.func212, Tryz.ntmps212
  go_wp2
  go_loop [3] (fun i => ∃ k : Nat, i = .int .i64 k ∧ k ≤ l.length ∧ ∀ j, j < k → gt l j = 0) (fun i => l.length - (intOf i).toNat)
  case atStart => exact ⟨0, rfl, by omega, fun j hj => by omega⟩
  case round =>
    obtain ⟨k, rfl, hk, hz⟩ := hrel
    have HZ := Lib.hid hz; clear hz
    by_cases hlt : k < l.length
    · obtain ⟨b, off, rfl, _, _, hc⟩ := Ints.at h k hlt
      by_cases hx : gt l k = 0
      · have hb : (gt l k != 0) = false := by simp [hx]
        have HX := Lib.hid hx; clear hx
        go_wp2
        go_round
        case rel => exact ⟨k + 1, by go_num, by omega, fun j hj => by
          rcases Nat.lt_succ_iff_lt_or_eq.1 hj with h1 | h1
          · exact HZ.out j h1
          · rw [h1]; exact HX.out⟩
        case measure => simp [intOf]; omega
      · have hb : (gt l k != 0) = true := by simp [hx]
        have he : isZeroB l = false := by
          cases hq : isZeroB l with
          | false => rfl
          | true => exact absurd (isZeroB_true.1 hq k hlt) hx
        have HE := Lib.hid he; clear he hx
        go_wp2
        go_ret
        exact ⟨by rw [HE.out]; rfl, rfl⟩
    · have he : isZeroB l = true := isZeroB_true.2 (fun j hj => HZ.out j (by omega))
      have HE := Lib.hid he; clear he
      go_wp2
      go_ret
      exact ⟨by rw [HE.out]; rfl, rfl⟩

set_option maxRecDepth 100000 in
set_option maxHeartbeats 2000000 in
theorem l12Sift_ok (P : Pr) (G : Grp P) (w : World) (pv uv xv : Value) (H : List Int → Prop) (X : List Int) (Sp Su Sx : Nat → Prop) (S : Sub P H) (hpv : PresV Sp w pv P) (hu : Rows2 Su w uv (cseq P H)) (hx : Ints Sx w xv X) (hX : Vec P.orders X) :
    Calls Tryz.prog 213 #[pv, uv, xv] w (Ret w fun w' v => ∃ Y, Own w.heap.size w' v Y ∧ Rep P H (gt (tabTo (cseq P H) P.orders.length (cseq P H).length)) X Y) := by
  have hP := G.v
  have hn6 := hP.n6
  have hl := G.cseq_len S
  have hsq := (G.seq_facts S).1
  have hI := G.ind_tab S
  obtain ⟨vo, vp, vc, rfl, h3⟩ := hpv
  have hp0 := PresP.box h3 31
  have hg0 : Ext w (w.alloc (.cells #[vo, vp, vc] 31)) := World.grownBy_alloc _ _ _
  have hu0 := Rows2.ext hu hg0
  have hx0 := hx.ext hg0
  have hs0 : (w.alloc (.cells #[vo, vp, vc] 31)).heap.size = w.heap.size + 1 := by simp
  obtain ⟨au, capu, hvu, _, _⟩ := Sl.shape hu
  obtain ⟨ax, capx, hvx, _, _⟩ := hx.shape
  subst hvu hvx
  obtain ⟨vo6, vp6, vc6, _, _, hc0, hc1, hc2, h36⟩ := hp0.at
  simp only [Nat.zero_add] at hc1 hc2
  have HI := Lib.hid (And.intro hsq (And.intro hI (And.intro hX hl))); clear hsq hI hX hl hp0 hu hx
  go_enter Tryz.func213, Tryz.ntmps213
  go_wp2
  have HS := Lib.hid hs0; clear hs0
  generalize hw0 : w.alloc (.cells #[vo, vp, vc] 31) = w0 at *
  clear hw0
  have e1 : ∀ w', Ext w0 w' → w'.cell? ⟨w.heap.size, 0, none⟩ = some vo6 := fun w' h => h.cell hc0 (by simp)
  have e2 : ∀ w', Ext w0 w' → w'.cell? ⟨w.heap.size, 1, none⟩ = some vp6 := fun w' h => h.cell hc1 (by simp)
  have e3 : ∀ w', Ext w0 w' → w'.cell? ⟨w.heap.size, 2, none⟩ = some vc6 := fun w' h => h.cell hc2 (by simp)
  clear hc0 hc1 hc2
  go_region_held3 (fun w' => Ext w0 w') (first | exact grown_drew _ _ | assumption)
    (first
      | (go_at_call 245; refine Calls.mono (Calls.rel (w0 := w0) (by assumption) (l12Table_ok P hP _ _ _ (cseq P H) Any Any ⟨_, _, _, rfl, Pres3.ext h36 (by assumption)⟩ (Rows2.sub (Rows2.ext hu0 (by assumption)) (fun _ _ _ => trivial)) HI.out.1 (by have := HI.out.2.2.2; omega))) ?_; rintro eA wA ⟨tA, rfl, hgA, hsA, hTA⟩; obtain ⟨aA, capA, hvA, _, _⟩ := Sl.shape hTA; subst hvA)
      | (go_at_call 244; refine Calls.mono (Calls.rel (w0 := w0) (by assumption) (l12Reduce_ok P G _ _ _ _ _ X H Any Any Any ⟨_, _, _, rfl, Pres3.ext h36 (by assumption)⟩ hTA (Ints.sub (Ints.ext hx0 (by assumption)) (fun _ _ _ => trivial)) HI.out.2.2.1 (tabTo_len _ _ _) HI.out.2.1)) ?_; rintro eB wB ⟨vB, rfl, hgB, hsB, Y, hOB, hRB⟩))
  clear e1 e2 e3
  have HR := Lib.hid hRB; clear hRB
  go_wp2
  go_ret
  exact ⟨_, rfl, grown_trans hg0 hgB, Y, hOB.weak (by have := HS.out; omega), HR.out.rep⟩

set_option maxHeartbeats 1000000 in
theorem l12Has_ok (P : Pr) (G : Grp P) (w : World) (pv uv xv : Value) (H : List Int → Prop) (X : List Int) (Sp Su Sx : Nat → Prop) (S : Sub P H) (hpv : PresV Sp w pv P) (hu : Rows2 Su w uv (cseq P H)) (hx : Ints Sx w xv X) (hX : Vec P.orders X) :
    Calls Tryz.prog 153 #[pv, uv, xv] w (Ret w fun _ v => ∃ r : Bool, v = .bool r ∧ (r = true ↔ H X)) := by
  have hn6 := G.v.n6
  have hI := G.ind_tab S
  obtain ⟨vo, vp, vc, rfl, h3⟩ := hpv
  have hp0 := PresP.box h3 31
  have hg0 : Ext w (w.alloc (.cells #[vo, vp, vc] 31)) := World.grownBy_alloc _ _ _
  have hu0 := Rows2.ext hu hg0
  have hx0 := hx.ext hg0
  obtain ⟨au, capu, hvu, _, _⟩ := Sl.shape hu
  obtain ⟨ax, capx, hvx, _, _⟩ := hx.shape
  subst hvu hvx
  obtain ⟨vo6, vp6, vc6, _, _, hc0, hc1, hc2, h36⟩ := hp0.at
  simp only [Nat.zero_add] at hc1 hc2
  have hcon := l12Sift_ok P G (w.alloc (.cells #[vo, vp, vc] 31)) _ _ _ H X Any Su Sx S ⟨_, _, _, rfl, h36⟩ hu0 hx0 hX
  have HI := Lib.hid (And.intro hI hX); clear hI hX hp0 hu hx
  go_enter Tryz.func153, Tryz.ntmps153
  go_wp2_with fail
  clear hc0 hc1 hc2
  refine Calls.mono hcon ?_
  rintro e1 w1 ⟨v1, rfl, hg1, Y, hO, hR⟩
  clear hcon
  have hYi := hO.ints (by rw [hR.1.1]; omega)
  obtain ⟨ay, capy, rfl, _, _⟩ := hYi.shape
  have hiff := (isZeroB_zeros hR.1).trans (G.rep_mem HI.out.1 HI.out.2 hR)
  have hz := l01Zero_ok _ _ w1 Any hYi
  cases hb : isZeroB Y with
  | true =>
    rw [hb] at hiff hz
    have HF := Lib.hid hiff
    clear hiff hb hR
    go_wp2_with fail
    refine Calls.mono hz ?_
    rintro e2 w2 ⟨rfl, rfl⟩
    clear hz
    go_wp2
    go_ret
    exact ⟨_, rfl, grown_trans hg0 hg1, true, rfl, by simpa using HF.out⟩
  | false =>
    rw [hb] at hiff hz
    have HF := Lib.hid hiff
    clear hiff hb hR
    go_wp2_with fail
    refine Calls.mono hz ?_
    rintro e2 w2 ⟨rfl, rfl⟩
    clear hz
    go_wp2
    go_ret
    exact ⟨_, rfl, grown_trans hg0 hg1, false, rfl, by simpa using HF.out⟩

set_option maxRecDepth 100000 in
set_option maxHeartbeats 2000000 in
theorem l12Order_ok (P : Pr) (hP : Valid P) (w : World) (pv uv : Value) (U : List (List Int)) (Sp Su : Nat → Prop) (hpv : PresV Sp w pv P) (hu : Rows2 Su w uv U) (hU : SeqOk P U) (hl : U.length ≤ 100) :
    Calls Tryz.prog 61 #[pv, uv] w (Ret w fun _ v => v = .int .i64 (prodU P U U.length)) := by
  have hn6 := hP.n6
  obtain ⟨vo, vp, vc, rfl, h3⟩ := hpv
  have hp0 := PresP.box h3 31
  have hg0 : Ext w (w.alloc (.cells #[vo, vp, vc] 31)) := World.grownBy_alloc _ _ _
  have hu0 := Rows2.ext hu hg0
  obtain ⟨ao, capo, hco, hoi⟩ := hp0.ordAt
  obtain ⟨au, capu, rfl, _, _⟩ := Sl.shape hu
  have HU := Lib.hid hU; clear hU hp0 hu
  go_enter Tryz.func61, Tryz.ntmps61
  go_wp2
  generalize hw0 : w.alloc (.cells #[vo, vp, vc] 31) = w0 at *
  clear hw0
  go_loopw [5, 6] (fun mv iv wr => ∃ i : Nat, mv = .int .i64 (prodU P U i) ∧ iv = .int .i64 i ∧ i ≤ U.length ∧ Ext w0 wr) (fun _ iv _ => U.length - (intOf iv).toNat)
  case atStart => exact ⟨0, rfl, rfl, by omega, Ext.refl _⟩
  case round =>
    obtain ⟨i, rfl, rfl, hi, hg⟩ := hrel
    by_cases hlt : i < U.length
    · have hlt' : (i : Int) < U.length := by omega
      obtain ⟨b, off, a2, cap2, rfl, _, _, hc, hr⟩ := Rows2.at (Rows2.ext hu0 hg) i hlt
      have hst : prodU P U (i + 1) = prodU P U i * gt P.orders (dep (gt U i)) := rfl
      have hb := prodU_729 hP HU.out (i + 1) hlt
      rw [hst] at hb
      obtain ⟨z, hz⟩ : ∃ z, z = gt U i := ⟨_, rfl⟩
      rw [← hz] at hc hr hst hb
      obtain ⟨d, hd⟩ : ∃ d, d = dep z := ⟨_, rfl⟩
      rw [← hd] at hst hb
      have hdn : d < P.orders.length := by rw [hd, hz]; exact (HU.out.1 _ (gtMem hlt)).2.1
      have HD := Lib.hid (And.intro hd hz); clear hd hz
      have hdn' : (d : Int) < P.orders.length := by omega
      obtain ⟨bo, oo, rfl, _, _, hcd⟩ := Ints.at (hoi.ext hg) d hdn
      have hw : IntKind.i64.wrap (prodU P U i * gt P.orders d) = prodU P U i * gt P.orders d := IntWalk.i64_in _ (by omega)
      have HS := Lib.hid hst; clear hst hb
      have e1 : ∀ w', Ext wr w' → w'.cell? ⟨w.heap.size, 0, none⟩ = some (.slice (some ⟨bo, oo, none⟩) P.orders.length capo) := fun w' h => (grown_trans hg h).cell hco (by simp)
      have e2 : ∀ w', Ext wr w' → w'.cell? ⟨b, off + i, none⟩ = some (.slice a2 z.length cap2) := fun w' h => h.cell hc (by simp)
      have e3 : ∀ w', Ext wr w' → w'.cell? ⟨bo, oo + d, none⟩ = some (.int .i64 (gt P.orders d)) := fun w' h => h.cell hcd (by simp)
      clear hc hcd
      go_wp2
      go_region_held3 (fun w' => Ext wr w') (first | exact grown_drew _ _ | assumption)
        (first
          | (go_at_call 111; refine Calls.mono (Calls.rel (w0 := wr) (by first | exact grown_drew _ _ | assumption) (l12Depth_ok _ z _ Any (Ints.sub (Ints.ext hr (by first | exact grown_drew _ _ | assumption)) (fun _ _ _ => trivial)))) ?_; rintro eE wE ⟨vE, rfl, hgE, hsE, hvE⟩; rw [← HD.out.1] at hvE; subst hvE))
      clear e1 e2 e3
      go_wp2
      go_roundw
      case rel => exact ⟨i + 1, by rw [HS.out], by go_num, by omega, grown_trans hg hgE⟩
      case measure => simp [intOf]; omega
    · have hie : i = U.length := by omega
      subst hie
      go_wp2
      go_ret
      exact ⟨_, rfl, grown_trans hg0 hg, rfl⟩

end Go.Proofs.YtdklekdpdbjfiaaGreat

/- Plain: the elements of a subgroup as products with exponents (for the reference's list of elements). -/
namespace Go.Proofs.YtdklekdpdbjfiaaGreat

/-- the orders at the depths of rows -/
def ordsU (P : Pr) (U : List (List Int)) : List Int := U.map (fun z => gt P.orders (dep z))

theorem ordsU_len (P : Pr) (U : List (List Int)) : (ordsU P U).length = U.length := by unfold ordsU; rw [List.length_map]
theorem ordsU_at (P : Pr) (U : List (List Int)) (i : Nat) (hi : i < U.length) : gt (ordsU P U) i = gt P.orders (dep (gt U i)) := by unfold ordsU; rw [gt_map _ _ _ hi]

/-- the product of powers of the first k rows -/
def prodR (P : Pr) (U : List (List Int)) (a : List Int) : Nat → List Int
  | 0 => zeros P.orders.length
  | k + 1 => rMul P (prodR P U a k) (pwZ P (gt U k) (gt a k))

/-- a plain structure with given orders, of which only the orders count -/
def shapeP (o : List Int) : Pr := ⟨o, List.replicate o.length (zeros o.length), (List.range o.length).map (fun i => List.replicate (o.length - 1 - i) (zeros o.length))⟩

theorem gt_rep {α : Type} [Inhabited α] (n : Nat) (x : α) (i : Nat) (hi : i < n) : gt (List.replicate n x) i = x := by simp [gt, hi]

theorem shapeP_valid {o : List Int} (hn : o.length ≤ 6) (ho : ∀ i, i < o.length → gt o i = 2 ∨ gt o i = 3 ∨ gt o i = 5 ∨ gt o i = 7) (hp : prodTo o o.length ≤ 729) : Valid (shapeP o) := by
  have hz : Vec o (zeros o.length) := ⟨by simp [zeros], fun i hi => by
    have : gt (zeros o.length) i = 0 := gt_replicate _ _
    rw [this]; rcases ho i hi with h | h | h | h <;> rw [h] <;> decide⟩
  have hz0 : ∀ i, ZeroTo i (zeros o.length) := fun i j _ => gt_replicate _ _
  refine ⟨hp, hn, by simp [shapeP], by simp [shapeP], ho, fun i hi => ?_, fun i hi => ?_⟩
  · show Vec o (gt (List.replicate o.length (zeros o.length)) i) ∧ ZeroTo i (gt (List.replicate o.length (zeros o.length)) i)
    rw [gt_rep o.length _ _ hi]
    exact ⟨hz, hz0 i⟩
  · have e : gt (shapeP o).conj i = List.replicate (o.length - 1 - i) (zeros o.length) := by
      unfold shapeP
      have h2 : i < (List.range o.length).length := by rw [List.length_range]; exact hi
      have := gt_map (fun i => List.replicate (o.length - 1 - i) (zeros o.length)) (List.range o.length) i h2
      rw [this]
      simp [gt, show i < o.length from hi]
    rw [e]
    refine ⟨by simp [shapeP], fun k hk => ?_⟩
    rw [gt_rep (o.length - 1 - i) _ _ hk]
    exact ⟨hz, hz0 i⟩

theorem prodR_congr {P : Pr} {U : List (List Int)} {a a' : List Int} (k : Nat) (h : ∀ j, j < k → gt a j = gt a' j) : prodR P U a k = prodR P U a' k := by
  induction k with
  | zero => rfl
  | succ k ih =>
    simp only [prodR]
    rw [ih (fun j hj => h j (by omega)), h k (by omega)]

theorem prodTo_ordsU (P : Pr) (U : List (List Int)) (k : Nat) (hk : k ≤ U.length) : prodTo (ordsU P U) k = prodU P U k := by
  induction k with
  | zero => rfl
  | succ k ih => simp only [prodTo, prodU]; rw [ih (by omega), ordsU_at P U k (by omega)]

section
variable {P : Pr} (G : Grp P)
include G

theorem Grp.prodR_vec {U : List (List Int)} (hU : ∀ z ∈ U, Vec P.orders z) (a : List Int) (k : Nat) (hk : k ≤ U.length) : Vec P.orders (prodR P U a k) := by
  induction k with
  | zero => exact G.oneV
  | succ k ih => exact G.mulV (ih (by omega)) (G.pwZ_vec (hU _ (gtMem (by omega))) _)

theorem Grp.mem_elsP {U : List (List Int)} (hU : SeqOk P U) (x : List Int) : ∀ k, k ≤ U.length → (x ∈ elsP P U k ↔ ∃ a : List Int, a.length = U.length ∧ (∀ j, j < k → 0 ≤ gt a j ∧ gt a j < gt P.orders (dep (gt U j))) ∧ x = prodR P U a k) := by
  intro k
  induction k generalizing x with
  | zero =>
    intro _
    simp only [elsP, List.mem_singleton, prodR]
    exact ⟨fun h => ⟨List.replicate U.length 0, by simp, fun j hj => by omega, h⟩, fun ⟨_, _, _, h⟩ => h⟩
  | succ k ih =>
    intro hk
    have hd := (hU.1 _ (gtMem (show k < U.length by omega))).2.1
    have ho := G.v.ord7 _ hd
    simp only [elsP, List.mem_flatMap, stepE, List.mem_map, List.mem_range]
    constructor
    · rintro ⟨y, hy, t, ht, rfl⟩
      obtain ⟨a, ha, hb, rfl⟩ := (ih y (by omega)).1 hy
      refine ⟨a.set k t, by simp [ha], fun j hj => ?_, ?_⟩
      · rcases Nat.lt_succ_iff_lt_or_eq.1 hj with h | h
        · rw [gt_set_ne _ _ _ _ (by omega)]; exact hb j h
        · subst h; rw [gt_set_eq _ _ _ (by omega)]; omega
      · simp only [prodR]
        rw [gt_set_eq _ _ _ (by omega), pwZ_nat _ _ _ (by omega), prodR_congr (a := a.set k t) (a' := a) k (fun j hj => gt_set_ne _ _ _ _ (by omega))]
        rfl
    · rintro ⟨a, ha, hb, rfl⟩
      have hk2 := hb k (by omega)
      refine ⟨prodR P U a k, (ih _ (by omega)).2 ⟨a, ha, fun j hj => hb j (by omega), rfl⟩, (gt a k).toNat, by omega, ?_⟩
      simp only [prodR]
      rw [pwZ_nat _ _ _ hk2.1]

/-- the members of a subgroup are the products with exponents below the orders -/
theorem Grp.mem_prods {H : List Int → Prop} (S : Sub P H) (x : List Int) : H x ↔ ∃ m : Int, 0 ≤ m ∧ m < prodU P (cseq P H) (cseq P H).length ∧ x = prodR P (cseq P H) (elAt (shapeP (ordsU P (cseq P H))) m) (cseq P H).length := by
  obtain ⟨h1, h2, h3⟩ := G.seq_facts S
  obtain ⟨U, hU⟩ : ∃ U, U = cseq P H := ⟨_, rfl⟩
  rw [← hU] at h1 h2 h3 ⊢
  have hlen : U.length ≤ P.orders.length := by rw [hU]; exact G.cseq_len S
  have hn6 := G.v.n6
  have hol := ordsU_len P U
  have hV : Valid (shapeP (ordsU P U)) := by
    refine shapeP_valid (by omega) (fun i hi => ?_) ?_
    · rw [ordsU_at P U i (by omega)]
      exact G.v.ord _ (h1.1 _ (gtMem (by omega))).2.1
    · rw [hol, prodTo_ordsU P U U.length (Nat.le_refl _)]
      exact (prodU_729 G.v h1 U.length (Nat.le_refl _)).2
  have hO : ordP (shapeP (ordsU P U)) = prodU P U U.length := by
    unfold ordP
    show prodTo (ordsU P U) (ordsU P U).length = _
    rw [hol]; exact prodTo_ordsU P U U.length (Nat.le_refl _)
  rw [← G.elsP_mem S h1 h2 h3 x, G.mem_elsP h1 x U.length (Nat.le_refl _)]
  constructor
  · rintro ⟨a, ha, hb, rfl⟩
    have hav : Vec (shapeP (ordsU P U)).orders a := ⟨by rw [ha]; exact hol.symm, fun i hi => by
      have hi : i < (ordsU P U).length := hi
      show _ ∧ _ < gt (ordsU P U) i
      rw [ordsU_at P U i (by omega)]; exact hb i (by omega)⟩
    have hbd := num_bd hV hav
    refine ⟨num _ a, hbd.1, by rw [← hO]; exact hbd.2, ?_⟩
    rw [elAt_num hV hav]
  · rintro ⟨m, h4, h5, rfl⟩
    have hv := elAt_vec hV m h4
    have hvl : (elAt (shapeP (ordsU P U)) m).length = (ordsU P U).length := hv.1
    refine ⟨_, by rw [hvl, hol], fun j hj => ?_, rfl⟩
    have h6 : 0 ≤ gt (elAt (shapeP (ordsU P U)) m) j ∧ gt (elAt (shapeP (ordsU P U)) m) j < gt (ordsU P U) j := hv.2 j (by show j < (ordsU P U).length; omega)
    rw [ordsU_at P U j hj] at h6; exact h6

end

end Go.Proofs.YtdklekdpdbjfiaaGreat

/- The reference's list of the elements of a subgroup: spec.l12Orders, l10At at orders alone, l12Product, l12Elements. -/
namespace Go.Proofs.YtdklekdpdbjfiaaGreat
open Go.RowKit

/-- l10One, of which the orders alone count -/
theorem l10OneO_ok (o : List Int) (w : World) (vo vp vc : Value) (S : Nat → Prop) (ho : Ints S w vo o) (hn : o.length ≤ 6) :
    Calls Tryz.prog 195 #[.agg #[vo, vp, vc]] w (Ret w fun w' v => Own w.heap.size w' v (zeros o.length)) := by
  obtain ⟨ao, capo, rfl, _, _⟩ := ho.shape
  have hco : (w.alloc (.cells #[.slice ao o.length capo, vp, vc] 31)).cell? ⟨w.heap.size, 0, none⟩ = some (.slice ao o.length capo) := by rw [World.cell?_alloc_at _ _ _ _ rfl]; rfl
  go_enter Tryz.func195, Tryz.ntmps195
  go_wp2_with (at_make; refine wp_make_ints rfl _ _ rfl (w.heap.size + 1) o.length (w.heap.size + 1) (by simp) _ rfl rfl rfl (by omega) (by simp) ?_; intro w1 ho1 hg1 _)
  go_ret
  exact ⟨_, rfl, grown_trans (World.grownBy_alloc _ _ _) hg1, ho1.weak (by omega)⟩

set_option maxHeartbeats 1000000 in
theorem l10AtO_ok (o : List Int) (hP : Valid (shapeP o)) (w : World) (vo vp vc : Value) (m : Int) (S : Nat → Prop) (hov : Ints S w vo o) (hm : 0 ≤ m) (hm2 : m ≤ 1000000000) :
    Calls Tryz.prog 130 #[.agg #[vo, vp, vc], .int .i64 m] w (Ret w fun w' v => Own w.heap.size w' v (elAt (shapeP o) m)) := by
  have hn6 : o.length ≤ 6 := hP.n6
  have ho7 : ∀ i, i < o.length → 2 ≤ gt o i ∧ gt o i ≤ 7 := fun i hi => hP.ord7 i hi
  have hinv : ∀ k, k ≤ o.length → (elTo o o.length m k).1.length = o.length ∧ 0 ≤ (elTo o o.length m k).2 ∧ (elTo o o.length m k).2 ≤ m := fun k hk => ⟨elTo_len _ _ _ _, (elTo_inv hP m hm k hk).2⟩
  have HO := Lib.hid (And.intro ho7 hinv); clear ho7 hinv hP
  obtain ⟨ao, capo, rfl, _, _⟩ := hov.shape
  have hg0 : Ext w (w.alloc (.cells #[.slice ao o.length capo, vp, vc] 31)) := World.grownBy_alloc _ _ _
  have hco0 : (w.alloc (.cells #[.slice ao o.length capo, vp, vc] 31)).cell? ⟨w.heap.size, 0, none⟩ = some (.slice ao o.length capo) := by rw [World.cell?_alloc_at _ _ _ _ rfl]; rfl
  have hco1 : (w.alloc (.cells #[.slice ao o.length capo, vp, vc] 31)).cell? ⟨w.heap.size, 1, none⟩ = some vp := by rw [World.cell?_alloc_at _ _ _ _ rfl]; rfl
  have hco2 : (w.alloc (.cells #[.slice ao o.length capo, vp, vc] 31)).cell? ⟨w.heap.size, 2, none⟩ = some vc := by rw [World.cell?_alloc_at _ _ _ _ rfl]; rfl
  have hoi := hov.ext hg0
  have hs0 : (w.alloc (.cells #[.slice ao o.length capo, vp, vc] 31)).heap.size = w.heap.size + 1 := by simp
  go_enter Tryz.func130, Tryz.ntmps130
  go_wp2_with fail
  have HS := Lib.hid hs0; clear hs0
  clear hco1 hco2
  have HCO := Lib.hid hco0; clear hco0
  generalize hw0 : w.alloc (.cells #[.slice ao o.length capo, vp, vc] 31) = w0 at *
  clear hw0
  refine Calls.mono (l10OneO_ok o w0 _ _ _ S hoi hn6) ?_
  rintro e1 w1 ⟨r, rfl, hg1, ho1⟩
  have hri := ho1.ints (by simp [zeros]; omega)
  obtain ⟨ar, capr, rfl, _, _⟩ := hri.shape
  have hzl : (zeros o.length).length = o.length := by simp [zeros]
  rw [hzl] at hri
  have ho1 : Own w0.heap.size w1 (.slice ar o.length capr) (zeros o.length) := by rw [hzl] at ho1; exact ho1
  simp only [hzl]
  clear hzl hri
  go_wp2
  go_loopw [1, 6] (fun mv i wr => ∃ k : Nat, i = .int .i64 ((o.length : Int) - 1 - k) ∧ mv = .int .i64 (elTo o o.length m k).2 ∧ k ≤ o.length ∧ Ext w0 wr ∧
      Own w0.heap.size wr (.slice ar o.length capr) (elTo o o.length m k).1) (fun _ i _ => (intOf i + 1).toNat)
  case atStart => exact ⟨0, by simp, rfl, by omega, hg1, ho1⟩
  case round =>
    clear ho1
    obtain ⟨k, rfl, rfl, hk, hg, hO⟩ := hrel
    obtain ⟨hv, hm0, hm1⟩ := HO.out.2 k hk
    by_cases hlt : k < o.length
    · obtain ⟨g, capg, hfm, hgb, hgs⟩ := hO.form (by omega)
      rw [hv] at hfm
      obtain ⟨rfl, _⟩ : ar = some ⟨g, 0, none⟩ ∧ capr = capg := by cases hfm; exact ⟨rfl, rfl⟩
      clear hfm
      obtain ⟨b2, off2, rfl, _, _, hc20⟩ := Ints.at hoi (o.length - 1 - k) (by omega)
      have hco := hg.cell HCO.out (by simp)
      have hc2 := hg.cell hc20 (by simp)
      have ho7 := HO.out.1 (o.length - 1 - k) (by omega)
      have hc := hO.cell (o.length - 1 - k) (by omega)
      have hf := hO.frozen (o.length - 1 - k)
      have hsucc : elTo o o.length m (k + 1) = ((elTo o o.length m k).1.set (o.length - 1 - k) ((elTo o o.length m k).2 % gt o (o.length - 1 - k)), (elTo o o.length m k).2 / gt o (o.length - 1 - k)) := rfl
      have HSC := Lib.hid hsucc; clear hsucc
      obtain ⟨hO2, hg2⟩ := hO.store (o.length - 1 - k) ((elTo o o.length m k).2 % gt o (o.length - 1 - k))
      have hgx : Ext w0 (wr.setCell ⟨g, o.length - 1 - k, none⟩ (.int .i64 ((elTo o o.length m k).2 % gt o (o.length - 1 - k)))) := grown_own hg hg2 (fun j hj hlt => by cases hj; omega)
      have hco3 := hgx.cell HCO.out (by simp)
      have hc23 := hgx.cell hc20 (by simp)
      clear hc20 hv
      have hidx : ((o.length : Int) - 1 - k).toNat = o.length - 1 - k := by omega
      generalize hi : o.length - 1 - k = i at *
      generalize (elTo o o.length m k).1 = L at *
      generalize (elTo o o.length m k).2 = M at *
      have ho70 : 2 ≤ gt o i := ho7.1
      have ho71 : gt o i ≤ 7 := ho7.2
      have HI := Lib.hid hi; clear hi ho7
      go_wp2
      go_roundw
      case rel => exact ⟨k + 1, by congr 1; omega, by rw [HSC.out], by omega, hgx, by rw [HSC.out]; exact hO2⟩
      case measure => simp [intOf]; omega
    · have hke : k = o.length := by omega
      subst hke
      clear hv
      go_wp2
      go_ret
      exact ⟨_, rfl, grown_trans hg0 hg, hO.weak (by have := HS.out; omega)⟩

set_option maxRecDepth 100000 in
set_option maxHeartbeats 2000000 in
theorem l12Orders_ok (P : Pr) (hP : Valid P) (w : World) (pv uv : Value) (U : List (List Int)) (Sp Su : Nat → Prop) (hpv : PresV Sp w pv P) (hu : Rows2 Su w uv U) (hU : SeqOk P U) (hl : U.length ≤ 100) :
    Calls Tryz.prog 214 #[pv, uv] w (Ret w fun w' v => Own w.heap.size w' v (ordsU P U)) := by
  have hn6 := hP.n6
  obtain ⟨vo, vp, vc, rfl, h3⟩ := hpv
  have hp0 := PresP.box h3 31
  have hg0 : Ext w (w.alloc (.cells #[vo, vp, vc] 31)) := World.grownBy_alloc _ _ _
  have hu0 := Rows2.ext hu hg0
  obtain ⟨ao, capo, hco, hoi⟩ := hp0.ordAt
  obtain ⟨au, capu, rfl, _, _⟩ := Sl.shape hu
  have hs0 : (w.alloc (.cells #[vo, vp, vc] 31)).heap.size = w.heap.size + 1 := by simp
  have hol := ordsU_len P U
  have HU := Lib.hid (And.intro hU hol); clear hU hol hp0 hu
  go_enter Tryz.func214, Tryz.ntmps214
  go_wp2
  have HS := Lib.hid hs0; clear hs0
  generalize hw0 : w.alloc (.cells #[vo, vp, vc] 31) = w0 at *
  clear hw0
  go_loopw [5, 6] (fun ov iv wr => ∃ (i : Nat) (v4 : Value), v4 = ov ∧ iv = .int .i64 i ∧ i ≤ U.length ∧ Ext w0 wr ∧ Own w0.heap.size wr v4 ((ordsU P U).take i)) (fun _ iv _ => U.length - (intOf iv).toNat)
  case atStart => exact ⟨0, _, rfl, rfl, by omega, World.grownBy_alloc _ _ _, by rw [← HS.out]; exact World.ownsRow_lit w0 #[] 0 (Nat.le_refl _) (by decide) rfl⟩
  case round =>
    obtain ⟨i, v4, rfl, rfl, hi, hg, hO⟩ := hrel
    by_cases hlt : i < U.length
    · have hlt' : (i : Int) < U.length := by omega
      obtain ⟨b, off, a2, cap2, rfl, _, _, hc, hr⟩ := Rows2.at hu0 i hlt
      have hst : (ordsU P U).take (i + 1) = (ordsU P U).take i ++ [gt P.orders (dep (gt U i))] := by rw [take_succ_gt _ i (by rw [HU.out.2]; exact hlt), ordsU_at P U i hlt]
      obtain ⟨z, hz⟩ : ∃ z, z = gt U i := ⟨_, rfl⟩
      rw [← hz] at hc hr hst
      obtain ⟨d, hd⟩ : ∃ d, d = dep z := ⟨_, rfl⟩
      rw [← hd] at hst
      have hdn : d < P.orders.length := by rw [hd, hz]; exact (HU.out.1.1 _ (gtMem hlt)).2.1
      have htl : ((ordsU P U).take i).length ≤ 1000000 := by rw [List.length_take]; omega
      have HD := Lib.hid (And.intro hd (And.intro hz htl)); clear hd hz htl
      have hdn' : (d : Int) < P.orders.length := by omega
      obtain ⟨bo, oo, rfl, _, _, hcd⟩ := Ints.at hoi d hdn
      have HST := Lib.hid hst; clear hst
      have e1 : ∀ w', Ext w0 w' → w'.cell? ⟨w.heap.size, 0, none⟩ = some (.slice (some ⟨bo, oo, none⟩) P.orders.length capo) := fun w' h => h.cell hco (by simp)
      have e2 : ∀ w', Ext w0 w' → w'.cell? ⟨b, off + i, none⟩ = some (.slice a2 z.length cap2) := fun w' h => h.cell hc (by simp)
      have e3 : ∀ w', Ext w0 w' → w'.cell? ⟨bo, oo + d, none⟩ = some (.int .i64 (gt P.orders d)) := fun w' h => h.cell hcd (by simp)
      clear hc hcd
      go_wp2
      go_region_held3 (fun w' => Ext w0 w') (first | exact grown_trans hg (grown_drew _ _) | assumption | exact grown_trans hgE (World.grownBy_alloc _ _ _))
        (first
          | (go_at_call 111; refine Calls.mono (Calls.rel2 (w0 := w0) (by assumption) (l12Depth_ok _ z _ Any (Ints.sub (Ints.ext hr (by assumption)) (fun _ _ _ => trivial)))) ?_; rintro eE wE ⟨vE, rfl, hgE, hgE2, hsE, hvE⟩; rw [← HD.out.1] at hvE; subst hvE)
          | (refine step_app_int rfl _ _ rfl w0.heap.size _ ((ordsU P U).take i) (gt P.orders d) rfl wE (hO.ext0 (grown_trans (grown_drew _ _) hgE2)) rfl rfl HD.out.2.2 hgE.size ?_; intro v5 w5 hO5 hg5; have hgw5 : Ext w0 w5 := grown_own hgE hg5 (fun j hj hlt => by have := (hO.lt j hj).1; omega)))
      clear e1 e2 e3
      rw [← HST.out] at hO5
      go_wp2
      go_roundw
      case rel => exact ⟨i + 1, v5, rfl, by go_num, by omega, hgw5, hO5⟩
      case measure => simp [intOf]; omega
    · have hie : i = U.length := by omega
      subst hie
      rw [List.take_of_length_le (by rw [HU.out.2]; exact Nat.le_refl _)] at hO
      obtain ⟨az, capz, hvz, _, _⟩ := (hO.ints (by rw [HU.out.2]; omega)).shape
      subst hvz
      go_wp2
      go_ret
      exact ⟨_, rfl, grown_trans hg0 hg, hO.weak (by have := HS.out; omega)⟩

end Go.Proofs.YtdklekdpdbjfiaaGreat

/- The reference's list of the elements of a subgroup: spec.l12Product, l12Elements. -/
namespace Go.Proofs.YtdklekdpdbjfiaaGreat
open Go.RowKit

set_option maxRecDepth 100000 in
set_option maxHeartbeats 2000000 in
theorem l12Product_ok (P : Pr) (G : Grp P) (w : World) (pv uv av : Value) (U : List (List Int)) (A : List Int) (Sp Su Sa : Nat → Prop) (hpv : PresV Sp w pv P) (hu : Rows2 Su w uv U) (ha : Ints Sa w av A) (hU : ∀ z ∈ U, Vec P.orders z) (hl : U.length ≤ A.length)
    (hA : ∀ i, i < U.length → 0 ≤ gt A i ∧ gt A i ≤ 1000) :
    Calls Tryz.prog 215 #[pv, uv, av] w (Ret w fun w' v => Own w.heap.size w' v (prodR P U A U.length)) := by
  have hP := G.v
  have hn6 := hP.n6
  obtain ⟨vo, vp, vc, rfl, h3⟩ := hpv
  have hp0 := PresP.box h3 31
  have hg0 : Ext w (w.alloc (.cells #[vo, vp, vc] 31)) := World.grownBy_alloc _ _ _
  have hu0 := Rows2.ext hu hg0
  have ha0 := ha.ext hg0
  obtain ⟨au, capu, rfl, _, _⟩ := Sl.shape hu
  obtain ⟨aa, capa, rfl, _, _⟩ := ha.shape
  have hs0 : (w.alloc (.cells #[vo, vp, vc] 31)).heap.size = w.heap.size + 1 := by simp
  obtain ⟨vo6, vp6, vc6, _, _, hc0, hc1, hc2, h36⟩ := hp0.at
  simp only [Nat.zero_add] at hc1 hc2
  have HU := Lib.hid (And.intro hU hA); clear hU hA hp0 hu ha
  go_enter Tryz.func215, Tryz.ntmps215
  go_wp2_with fail
  have HS := Lib.hid hs0; clear hs0
  generalize hw0 : w.alloc (.cells #[vo, vp, vc] 31) = w0 at *
  clear hw0
  refine Calls.mono (l10One_ok P hP w0 _ Any ⟨_, _, _, rfl, h36⟩) ?_
  rintro e1 w1 ⟨r, rfl, hg1, ho1⟩
  go_wp2
  go_loopw [7, 8] (fun ov iv wr => ∃ i : Nat, iv = .int .i64 i ∧ i ≤ U.length ∧ Ext w0 wr ∧ Own w.heap.size wr ov (prodR P U A i)) (fun _ iv _ => U.length - (intOf iv).toNat)
  case atStart => exact ⟨0, rfl, by omega, hg1, ho1.weak (by have := HS.out; omega)⟩
  case round =>
    clear ho1
    obtain ⟨i, rfl, hi, hg, hO⟩ := hrel
    have hYV := G.prodR_vec HU.out.1 A i hi
    have hYl : (prodR P U A i).length = P.orders.length := hYV.1
    have hYi := hO.ints (by omega)
    obtain ⟨ay, capy, hvy, _, _⟩ := hYi.shape
    subst hvy
    by_cases hlt : i < U.length
    · have hlt' : (i : Int) < U.length := by omega
      have hla : (i : Int) < A.length := by omega
      obtain ⟨bb, off, a2, cap2, rfl, _, _, hc, hr⟩ := Rows2.at (Rows2.ext hu0 hg) i hlt
      obtain ⟨ba, oa, rfl, _, _, hca⟩ := Ints.at (ha0.ext hg) i (by omega)
      have hzV := HU.out.1 _ (gtMem hlt)
      have hab := HU.out.2 i hlt
      have hst : prodR P U A (i + 1) = rMul P (prodR P U A i) (pwZ P (gt U i) (gt A i)) := rfl
      have hpV := G.pwZ_vec hzV (gt A i)
      have hpl : (pwZ P (gt U i) (gt A i)).length ≤ 6 := by rw [hpV.1]; omega
      have HB := Lib.hid (And.intro hzV (And.intro hpV (And.intro hpl (And.intro hYV (And.intro hab hst))))); clear hzV hpV hpl hYV hab hst hYl
      have e1 : ∀ w', Ext wr w' → w'.cell? ⟨w.heap.size, 0, none⟩ = some vo6 := fun w' h => (grown_trans hg h).cell hc0 (by simp)
      have e2 : ∀ w', Ext wr w' → w'.cell? ⟨w.heap.size, 1, none⟩ = some vp6 := fun w' h => (grown_trans hg h).cell hc1 (by simp)
      have e3 : ∀ w', Ext wr w' → w'.cell? ⟨w.heap.size, 2, none⟩ = some vc6 := fun w' h => (grown_trans hg h).cell hc2 (by simp)
      have e4 : ∀ w', Ext wr w' → w'.cell? ⟨bb, off + i, none⟩ = some (.slice a2 (gt U i).length cap2) := fun w' h => h.cell hc (by simp)
      have e5 : ∀ w', Ext wr w' → w'.cell? ⟨ba, oa + i, none⟩ = some (.int .i64 (gt A i)) := fun w' h => h.cell hca (by simp)
      clear hc hca
      go_wp2
      go_region_held3 (fun w' => Ext wr w') (first | exact grown_drew _ _ | assumption)
        (first
          | (go_at_call 113; refine Calls.mono (Calls.rel (w0 := wr) (by assumption) (l10Pow_ok P G _ _ _ (gt U i) _ Any Any ⟨_, _, _, rfl, Pres3.ext (Pres3.ext h36 hg) (by assumption)⟩ (Ints.sub (Ints.ext hr (by assumption)) (fun _ _ _ => trivial)) HB.out.1 (by have := HB.out.2.2.2.2.1; omega))) ?_; rintro eA wA ⟨vA, rfl, hgA, hsA, hOA⟩; have hOA2 := hOA.ints (by have := HB.out.2.2.1; omega))
          | (go_at_call 176; refine Calls.mono (Calls.rel (w0 := wr) (by assumption) (l08Mul_ok P hP _ _ _ _ (prodR P U A i) _ Any Any Any ⟨_, _, _, rfl, Pres3.ext (Pres3.ext h36 hg) (by assumption)⟩ (Ints.sub (Ints.ext hYi (by assumption)) (fun _ _ _ => trivial)) hOA2 HB.out.2.2.2.1 HB.out.2.1)) ?_; rintro eB wB ⟨vB, rfl, hgB, hsB, hOB⟩))
      clear e1 e2 e3 e4 e5
      rw [← HB.out.2.2.2.2.2] at hOB
      go_wp2
      go_roundw
      case rel => exact ⟨i + 1, by go_num, by omega, grown_trans hg hgB, hOB.weak (by have := hg.size; have := HS.out; omega)⟩
      case measure => simp [intOf]; omega
    · have hie : i = U.length := by omega
      subst hie
      clear hYl
      go_wp2
      go_ret
      exact ⟨_, rfl, grown_trans hg0 hg, hO⟩

/-- marks at places -/
def markAt (N : Nat) (f : Nat → Nat) : Nat → List Bool
  | 0 => List.replicate N false
  | k + 1 => (markAt N f k).set (f k) true

theorem markAt_len (N : Nat) (f : Nat → Nat) (k : Nat) : (markAt N f k).length = N := by
  induction k with
  | zero => simp [markAt]
  | succ k ih => simp only [markAt, List.length_set]; exact ih

theorem markAt_true (N : Nat) (f : Nat → Nat) (k t : Nat) (ht : t < N) : gt (markAt N f k) t = true ↔ ∃ j, j < k ∧ f j = t := by
  induction k with
  | zero => simp [markAt, gt, ht]
  | succ k ih =>
    simp only [markAt]
    by_cases e : f k = t
    · rw [e, gt_set_eq _ _ _ (by rw [markAt_len]; exact ht)]
      exact ⟨fun _ => ⟨k, by omega, e⟩, fun _ => rfl⟩
    · rw [gt_set_ne _ _ _ _ e, ih]
      exact ⟨fun ⟨j, h1, h2⟩ => ⟨j, by omega, h2⟩, fun ⟨j, h1, h2⟩ => by
        rcases Nat.lt_succ_iff_lt_or_eq.1 h1 with h | h
        · exact ⟨j, h, h2⟩
        · subst h; exact absurd h2 e⟩

/-- the product with a number -/
def prodN (P : Pr) (U : List (List Int)) (k : Nat) : List Int := prodR P U (elAt (shapeP (ordsU P U)) (k : Int)) U.length

theorem Grp.marks_elems {P : Pr} (G : Grp P) {H : List Int → Prop} (S : Sub P H) (t : Nat) (ht : t < (ordP P).toNat) :
    gt (markAt (ordP P).toNat (fun k => (num P (prodN P (cseq P H) k)).toNat) (prodU P (cseq P H) (cseq P H).length).toNat) t = true ↔ H (elAt P (t : Int)) := by
  have hV := fun z hz => S.vec z ((G.seq_facts S).2.1 z hz)
  have hpv : ∀ k, Vec P.orders (prodN P (cseq P H) k) := fun k => G.prodR_vec hV _ _ (Nat.le_refl _)
  rw [markAt_true _ _ _ _ ht, G.mem_prods S]
  constructor
  · rintro ⟨j, hj, h⟩
    have hb := num_bd G.v (hpv j)
    refine ⟨(j : Int), by omega, by omega, ?_⟩
    have h2 : num P (prodN P (cseq P H) j) = (t : Int) := by omega
    rw [← h2, elAt_num G.v (hpv j)]; rfl
  · rintro ⟨m, h1, h2, h3⟩
    refine ⟨m.toNat, by omega, ?_⟩
    have h4 : prodN P (cseq P H) m.toNat = elAt P (t : Int) := by
      unfold prodN
      rw [show ((m.toNat : Nat) : Int) = m by omega]
      exact h3.symm
    rw [h4, num_elAt G.v _ (by omega) (by omega)]; omega

/-- the first k numbers of elements in a set -/
noncomputable def elemsTo (P : Pr) (H : List Int → Prop) (k : Nat) : List (List Int) := by
  classical exact (List.range k).filterMap (fun t : Nat => if H (elAt P (t : Int)) then some (elAt P (t : Int)) else none)

theorem elemsTo_succ (P : Pr) (H : List Int → Prop) (k : Nat) : elemsTo P H (k + 1) = elemsTo P H k ++ (by classical exact if H (elAt P (k : Int)) then [elAt P (k : Int)] else []) := by
  unfold elemsTo
  rw [List.range_succ, List.filterMap_append]
  congr 1
  by_cases h : H (elAt P (k : Int)) <;> simp [h]

theorem elemsTo_all (P : Pr) (H : List Int → Prop) : elemsTo P H (ordP P).toNat = elemsIn P H := by
  unfold elemsTo elemsIn
  rfl

theorem elemsTo_len (P : Pr) (H : List Int → Prop) (k : Nat) : (elemsTo P H k).length ≤ k := by
  unfold elemsTo
  have := List.length_filterMap_le (fun t : Nat => by classical exact (if H (elAt P (t : Int)) then some (elAt P (t : Int)) else none)) (List.range k)
  rw [List.length_range] at this
  exact this

end Go.Proofs.YtdklekdpdbjfiaaGreat

/- The reference's list of the elements of a subgroup: spec.l12Elements. -/
namespace Go.Proofs.YtdklekdpdbjfiaaGreat
open Go.RowKit

set_option maxRecDepth 100000 in
set_option maxHeartbeats 8000000 in
theorem l12Elements_ok (P : Pr) (G : Grp P) (w : World) (pv uv : Value) (H : List Int → Prop) (Sp Su : Nat → Prop) (S : Sub P H) (hpv : PresV Sp w pv P) (hu : Rows2 Su w uv (cseq P H)) :
    Calls Tryz.prog 155 #[pv, uv] w (Ret w fun w' v => RowsO w.heap.size w' v (elemsIn P H)) := by
  have hP := G.v
  have hn6 := hP.n6
  have h729 : ordP P ≤ 729 := hP.le729
  have hpos := hP.ordP_pos
  have hl := G.cseq_len S
  have hsq := (G.seq_facts S).1
  have hUV : ∀ z ∈ cseq P H, Vec P.orders z := fun z hz => S.vec z ((G.seq_facts S).2.1 z hz)
  have hmk := G.marks_elems S
  obtain ⟨U, hU⟩ : ∃ U, U = cseq P H := ⟨_, rfl⟩
  rw [← hU] at hl hsq hUV hmk hu
  have hpr := prodU_729 hP hsq U.length (Nat.le_refl _)
  have hol := ordsU_len P U
  have hshape : Valid (shapeP (ordsU P U)) := by
    refine shapeP_valid (by omega) (fun i hi => ?_) ?_
    · rw [ordsU_at P U i (by omega)]
      exact hP.ord _ (hsq.1 _ (gtMem (by omega))).2.1
    · rw [hol, prodTo_ordsU P U U.length (Nat.le_refl _)]; exact hpr.2
  obtain ⟨vo, vp, vc, rfl, h3⟩ := hpv
  have hp0 := PresP.box h3 31
  have hg0 : Ext w (w.alloc (.cells #[vo, vp, vc] 31)) := World.grownBy_alloc _ _ _
  have hu0 := Rows2.ext hu hg0
  have hs0 : (w.alloc (.cells #[vo, vp, vc] 31)).heap.size = w.heap.size + 1 := by simp
  obtain ⟨au, capu, rfl, _, _⟩ := Sl.shape hu
  obtain ⟨vo6, vp6, vc6, _, _, hc0, hc1, hc2, h36⟩ := hp0.at
  simp only [Nat.zero_add] at hc1 hc2
  have hbx : ∀ w', Ext (w.alloc (.cells #[vo, vp, vc] 31)) w' → w'.cell? ⟨w.heap.size, 0, none⟩ = some vo6 ∧ w'.cell? ⟨w.heap.size, 1, none⟩ = some vp6 ∧ w'.cell? ⟨w.heap.size, 2, none⟩ = some vc6 := fun w' h => ⟨h.cell hc0 (by simp), h.cell hc1 (by simp), h.cell hc2 (by simp)⟩
  have HB := Lib.hid hbx; clear hbx
  have hE := l12Order_ok P hP (w.alloc (.cells #[vo, vp, vc] 31)) _ _ U Any Su ⟨_, _, _, rfl, h36⟩ hu0 hsq (by omega)
  have HU := Lib.hid (And.intro hsq (And.intro hUV (And.intro hshape (And.intro hU hol)))); clear hsq hUV hshape hU hol hp0 hu
  go_enter Tryz.func155, Tryz.ntmps155
  go_wp2_with fail
  have HS := Lib.hid hs0; clear hs0 hc0 hc1 hc2
  generalize hw0 : w.alloc (.cells #[vo, vp, vc] 31) = w0 at *
  clear hw0
  refine Calls.mono hE ?_
  rintro e1 w1 ⟨v1, rfl, hg1, rfl⟩
  clear hE
  obtain ⟨hb0, hb1, hb2⟩ := HB.out w1 hg1
  go_wp2_with fail
  clear hb0 hb1 hb2
  refine Calls.mono (l10Order_ok w1 _ P Any hP ⟨_, _, _, rfl, Pres3.ext h36 hg1⟩) ?_
  rintro e2 w2 ⟨v2, rfl, hg2, rfl⟩
  have hg02 := grown_trans hg1 hg2
  obtain ⟨hb0, hb1, hb2⟩ := HB.out w2 hg02
  have hle1 := hg1.size
  have hle2 := hg2.size
  go_wp2_with (first | (at_make; refine wp_make_bools rfl _ _ rfl w2.heap.size (ordP P).toNat w2.heap.size rfl (ordP P) rfl rfl (by omega) (by omega) (Nat.le_refl _) ?_; intro w3 hM3 hg3 hlt3; have hb03 := HB.out w3 (grown_trans hg02 hg3); obtain ⟨hc0, hc1, hc2⟩ := hb03) | fail)
  clear hb0 hb1 hb2 hc0 hc1 hc2
  have hg03 := grown_trans hg02 hg3
  refine Calls.mono (l12Orders_ok P hP w3 _ _ U Any Su ⟨_, _, _, rfl, Pres3.ext h36 hg03⟩ (Rows2.ext hu0 hg03) HU.out.1 (by omega)) ?_
  rintro e4 w4 ⟨ov, rfl, hg4, hO4⟩
  have hOi := hO4.ints (by rw [HU.out.2.2.2.2]; omega)
  obtain ⟨aor, capor, hvo, _, _⟩ := hOi.shape
  subst hvo
  have hg04 := grown_trans hg03 hg4
  have hs2 : w.heap.size < w2.heap.size := by have := HS.out; omega
  have hs4 : w3.heap.size ≤ w4.heap.size := hg4.size
  have hgm : w2.heap.size ≠ w4.heap.size := by omega
  have hE5 : Ext w4 (w4.alloc (.cells #[.slice aor (ordsU P U).length capor, .slice none 0 0, .slice none 0 0] 31)) := World.grownBy_alloc _ _ _
  have hS5 : ∀ k, k < 3 → (w4.alloc (.cells #[.slice aor (ordsU P U).length capor, .slice none 0 0, .slice none 0 0] 31)).cell? ⟨w4.heap.size, k, none⟩ = some (gt [Value.slice aor (ordsU P U).length capor, .slice none 0 0, .slice none 0 0] k) := fun k hk => by
    rw [World.cell?_alloc_at _ _ _ _ rfl]
    rcases (show k = 0 ∨ k = 1 ∨ k = 2 by omega) with rfl | rfl | rfl <;> rfl
  have hO5 : Ints (fun k => w3.heap.size ≤ k) (w4.alloc (.cells #[.slice aor (ordsU P U).length capor, .slice none 0 0, .slice none 0 0] 31)) (.slice aor (ordsU P U).length capor) (ordsU P U) := (ints_of_own hO4 (by rw [HU.out.2.2.2.2]; omega) (fun k hk => (hO4.lt k hk).1)).ext hE5
  have hM5 := (hM3.ext0 hg4).ext0 hE5
  have hE25 := grown_trans hg3 (grown_trans hg4 hE5)
  have hsz5 : (w4.alloc (.cells #[.slice aor (ordsU P U).length capor, .slice none 0 0, .slice none 0 0] 31)).heap.size = w4.heap.size + 1 := by simp
  have HSZ := Lib.hid hsz5; clear hsz5
  go_wp2_with fail
  generalize hw5 : w4.alloc (.cells #[.slice aor (ordsU P U).length capor, .slice none 0 0, .slice none 0 0] 31) = w5 at *
  clear hw5 hO4 hOi hM3
  obtain ⟨N, hN⟩ : ∃ N, N = (ordP P).toNat := ⟨_, rfl⟩
  obtain ⟨f, hf⟩ : ∃ f : Nat → Nat, f = fun k => (num P (prodN P U k)).toNat := ⟨_, rfl⟩
  rw [← hf, ← hN] at hmk
  have HN := Lib.hid (And.intro hf (And.intro hmk hN)); clear hf hmk
  rw [← hN] at hM5 ⊢
  have hNo : (N : Int) = ordP P := by omega
  clear hN
  have HNo := Lib.hid hNo; clear hNo
  have hM0 : BOwn w2.heap.size w5 (.slice (some ⟨w2.heap.size, 0, none⟩) N N) (markAt N f 0) := hM5
  clear hM5
  go_loopw [8] (fun kv wr => ∃ k : Nat, kv = .int .i64 k ∧ (k : Int) ≤ prodU P U U.length ∧ w5.grownBy wr (some w2.heap.size) ∧ BOwn w2.heap.size wr (.slice (some ⟨w2.heap.size, 0, none⟩) N N) (markAt N f k)) (fun kv _ => (prodU P U U.length).toNat - (intOf kv).toNat)
  case atStart => exact ⟨0, rfl, by omega, grown_refl _ _, hM0⟩
  case round =>
    clear hM0
    obtain ⟨k, rfl, hk, hgk, hM⟩ := hrel
    have hE2r : Ext w2 wr := grown_own hE25 hgk (fun j hj hlt => by cases hj; omega)
    have hE0r := grown_trans hg02 hE2r
    by_cases hlt : (k : Int) < prodU P U U.length
    · have hkx : (k : Int) ≤ 729 := by omega
      have hgr : w5.heap.size ≤ wr.heap.size := hgk.size
      have hbr := HB.out wr hE0r
      obtain ⟨hb0, hb1, hb2⟩ := hbr
      have hs0 : wr.cell? ⟨w4.heap.size, 0, none⟩ = some (.slice aor (ordsU P U).length capor) := hgk.cell (hS5 0 (by omega)) (by simp; omega)
      have hs1 : wr.cell? ⟨w4.heap.size, 1, none⟩ = some (.slice none 0 0) := hgk.cell (hS5 1 (by omega)) (by simp; omega)
      have hs2' : wr.cell? ⟨w4.heap.size, 2, none⟩ = some (.slice none 0 0) := hgk.cell (hS5 2 (by omega)) (by simp; omega)
      have hOr : Ints Any wr (.slice aor (ordsU P U).length capor) (ordsU P U) := Ints.mono hO5 (frame_of hgk (fun j hj _ => ⟨trivial, fun e => by cases e; omega⟩))
      have hvA := elAt_vec HU.out.2.2.1 (k : Int) (by omega)
      have hvl : (elAt (shapeP (ordsU P U)) (k : Int)).length = U.length := hvA.1.trans HU.out.2.2.2.2
      have hvb : ∀ i, i < U.length → 0 ≤ gt (elAt (shapeP (ordsU P U)) (k : Int)) i ∧ gt (elAt (shapeP (ordsU P U)) (k : Int)) i ≤ 1000 := fun i hi => by
        have h1 : 0 ≤ gt (elAt (shapeP (ordsU P U)) (k : Int)) i ∧ gt (elAt (shapeP (ordsU P U)) (k : Int)) i < gt (ordsU P U) i := hvA.2 i (by show i < (ordsU P U).length; rw [HU.out.2.2.2.2]; exact hi)
        have h2 : 2 ≤ gt (ordsU P U) i ∧ gt (ordsU P U) i ≤ 7 := HU.out.2.2.1.ord7 i (by show i < (ordsU P U).length; rw [HU.out.2.2.2.2]; exact hi)
        omega
      have hpV : Vec P.orders (prodN P U k) := G.prodR_vec HU.out.2.1 _ _ (Nat.le_refl _)
      have hpl : (prodN P U k).length ≤ 6 := by rw [hpV.1]; omega
      have hnb := num_bd hP hpV
      have hpe : prodR P U (elAt (shapeP (ordsU P U)) (k : Int)) U.length = prodN P U k := rfl
      have hfk : f k = (num P (prodN P U k)).toNat := by rw [HN.out.1]
      have hNo2 := HNo.out
      obtain ⟨n0, n1⟩ := hnb
      obtain ⟨m, hm⟩ : ∃ m, m = num P (prodN P U k) := ⟨_, rfl⟩
      rw [← hm] at n0 n1 hfk
      have hmN : m < N := by omega
      have hmk2 : markAt N f (k + 1) = (markAt N f k).set m.toNat true := by rw [← hfk]; rfl
      have HV := Lib.hid (And.intro hvl (And.intro hvb (And.intro hpV (And.intro hpl (And.intro hpe (And.intro hm hmk2)))))); clear hvl hvb hpV hpl hpe hm hmk2 hvA hfk hNo2
      have hcel := hM.cell m.toNat (by rw [markAt_len]; omega)
      have hfr := hM.frozen m.toNat
      have e1 : ∀ w', Near wr w2.heap.size w' → w'.cell? ⟨w.heap.size, 0, none⟩ = some vo6 := fun w' h => h.cell hb0 (by simp; omega)
      have e2 : ∀ w', Near wr w2.heap.size w' → w'.cell? ⟨w.heap.size, 1, none⟩ = some vp6 := fun w' h => h.cell hb1 (by simp; omega)
      have e3 : ∀ w', Near wr w2.heap.size w' → w'.cell? ⟨w.heap.size, 2, none⟩ = some vc6 := fun w' h => h.cell hb2 (by simp; omega)
      have e4 : ∀ w', Near wr w2.heap.size w' → w'.cell? ⟨w4.heap.size, 0, none⟩ = some (.slice aor (ordsU P U).length capor) := fun w' h => h.cell hs0 (by simp; omega)
      have e5 : ∀ w', Near wr w2.heap.size w' → w'.cell? ⟨w4.heap.size, 1, none⟩ = some (.slice none 0 0) := fun w' h => h.cell hs1 (by simp; omega)
      have e6 : ∀ w', Near wr w2.heap.size w' → w'.cell? ⟨w4.heap.size, 2, none⟩ = some (.slice none 0 0) := fun w' h => h.cell hs2' (by simp; omega)
      clear hb0 hb1 hb2 hs0 hs1 hs2'
      have h3r := Pres3.ext h36 hE0r
      have hur := Rows2.ext hu0 hE0r
      go_wp2
      go_region_held3 (fun w' => Near wr w2.heap.size w') (first | exact Near.of (grown_drew _ _) | exact Near.of (by assumption) | exact Near.store (by assumption) | assumption)
        (first
          | (go_at_call 130; refine Calls.mono (Calls.rel (w0 := wr) (by first | exact grown_drew _ _ | assumption) (l10AtO_ok (ordsU P U) HU.out.2.2.1 _ _ _ _ (k : Int) Any (Ints.ext hOr (by first | exact grown_drew _ _ | assumption)) (by omega) (by omega))) ?_; rintro eE wE ⟨vE, rfl, hgE, hsE, hOE⟩; have hEi := hOE.ints (by rw [HV.out.1]; omega))
          | (go_at_call 215; refine Calls.mono (Calls.rel (w0 := wr) (by assumption) (l12Product_ok P G _ _ _ _ U _ Any Any Any ⟨_, _, _, rfl, Pres3.ext h3r (by assumption)⟩ (Rows2.sub (Rows2.ext hur (by assumption)) (fun _ _ _ => trivial)) hEi HU.out.2.1 (by rw [HV.out.1]; exact Nat.le_refl _) HV.out.2.1)) ?_; rintro eF wF ⟨vF, rfl, hgF, hsF, hOF⟩; rw [HV.out.2.2.2.2.1] at hOF; have hFi := hOF.ints (by have := HV.out.2.2.2.1; omega))
          | (go_at_call 207; refine Calls.mono (Calls.rel (w0 := wr) (by assumption) (l10Number_ok P hP _ _ _ _ Any Any ⟨_, _, _, rfl, Pres3.ext h3r (by assumption)⟩ hFi HV.out.2.2.1)) ?_; rintro eG wG ⟨vG, rfl, hgG, hsG, hvG⟩; rw [← HV.out.2.2.2.2.2.1] at hvG; subst hvG; have hcel2 := hgG.cell hcel (by simp); have hfr2 := (hM.ext0 hgG).frozen m.toNat))
      clear e1 e2 e3 e4 e5 e6
      obtain ⟨hO3, hgs⟩ := (hM.ext0 hgG).store m.toNat true
      have hgn : w5.grownBy (wG.setCell ⟨w2.heap.size, m.toNat, none⟩ (.bool true)) (some w2.heap.size) := grown_trans (grown_trans hgk (grown_of_ext _ hgG)) hgs
      rw [← HV.out.2.2.2.2.2.2] at hO3
      clear hcel hcel2 hfr hfr2 hgs
      go_wp2
      go_roundw
      case rel => exact ⟨k + 1, by go_num, by omega, hgn, hO3⟩
      case measure => simp [intOf]; omega
    · have hke : k = (prodU P U U.length).toNat := by omega
      obtain ⟨wo, rfl⟩ : ∃ wo : World, wo = wr := ⟨_, rfl⟩
      rw [hke] at hM
      have HK := Lib.hid hke; clear hke
      go_wp2
      go_loopw [9, 10] (fun ov tv wr => ∃ (t : Nat) (v4 : Value), v4 = ov ∧ tv = .int .i64 t ∧ t ≤ N ∧ Ext wo wr ∧ RowsO wo.heap.size wr v4 (elemsTo P H t)) (fun _ tv _ => N - (intOf tv).toNat)
      case atStart => exact ⟨0, _, rfl, rfl, by omega, World.grownBy_alloc _ _ _, [], fun _ _ => False, by simp [elemsTo], World.ownsRow_lit wo #[] 0 (Nat.le_refl _) (by decide) rfl, by simp, by simp, by simp [elemsTo]⟩
      case round =>
        obtain ⟨t, v4, rfl, rfl, ht, hgt, hO⟩ := hrel
        by_cases htl : t < N
        · have htl' : (t : Int) < N := by omega
          have hcm := hgt.cell (hM.cell t (by rw [markAt_len]; exact htl)) (by simp)
          have hiff := HN.out.2.1 t htl
          have hst := elemsTo_succ P H t
          have htlen := elemsTo_len P H t
          have hbx := HB.out wr (grown_trans hE0r hgt)
          obtain ⟨hb0, hb1, hb2⟩ := hbx
          cases hq : gt (markAt N f (prodU P U U.length).toNat) t with
          | true =>
            rw [hq] at hcm
            rw [if_pos (hiff.1 hq)] at hst
            have htN := HNo.out
            have hvE := elAt_vec hP (t : Int) (by omega)
            have hvl : (elAt P (t : Int)).length = P.orders.length := hvE.1
            have HST := Lib.hid (And.intro hst (And.intro hvl htN)); clear hst hvl hiff hq hvE htN
            have hN729 : N ≤ 729 := by have := HST.out.2.2; omega
            go_wp2_with fail
            clear hb0 hb1 hb2 hcm
            refine Calls.mono (l10At_ok P hP wr _ (t : Int) Any ⟨_, _, _, rfl, Pres3.ext h36 (grown_trans hE0r hgt)⟩ (by omega) (by omega)) ?_
            rintro eA wA ⟨vA, rfl, hgA, hOA⟩
            have hYO : OwnIn (From wr.heap.size) wA vA (elAt P (t : Int)) := OwnIn.of hOA (by rw [HST.out.2.1]; omega) (fun j h1 _ => h1)
            obtain ⟨ay, capy, hvy, _, _⟩ := hYO.ints.shape
            subst hvy
            go_wp2_with (first | (at_builtin; refine wp_app_row rfl _ _ rfl wo.heap.size wr wA v4 _ (elemsTo P H t) (elAt P (t : Int)) rfl hO hgA hYO rfl rfl (by omega) hgt.size ?_; intro v5 w6 hO6 hg6 hg7; have hgw6 := hO.extw hgt (Nat.le_refl _) hg6) | fail)
            go_roundw
            case rel => exact ⟨t + 1, v5, rfl, by go_num, by omega, hgw6, by rw [HST.out.1]; exact hO6⟩
            case measure => simp [intOf]; omega
          | false =>
            rw [hq] at hcm
            rw [if_neg (fun h => by have := hiff.2 h; rw [hq] at this; cases this), List.append_nil] at hst
            have HST := Lib.hid hst; clear hst hiff hq
            have hN729 : N ≤ 729 := by have := HNo.out; omega
            go_wp2
            go_roundw
            case rel => exact ⟨t + 1, v4, rfl, by go_num, by omega, hgt, by rw [HST.out]; exact hO⟩
            case measure => simp [intOf]; omega
        · have hte : t = N := by omega
          have hel : elemsTo P H t = elemsIn P H := by rw [hte, HN.out.2.2]; exact elemsTo_all P H
          have htlen := elemsTo_len P H t
          rw [hel] at hO htlen
          have hN729 : N ≤ 729 := by have := HNo.out; omega
          obtain ⟨az, capz, hvz, _, _⟩ := SlD.shape (hO.toD (by omega))
          subst hvz
          have HX := Lib.hid (And.intro hte hel); clear hte hel
          go_wp2
          go_ret
          exact ⟨_, rfl, grown_trans hg0 (grown_trans hE0r hgt), hO.weak (by have := hE0r.size; have := HS.out; omega)⟩

end Go.Proofs.YtdklekdpdbjfiaaGreat

/- spec.l19Table: the numbers of all products. -/
namespace Go.Proofs.YtdklekdpdbjfiaaGreat
open Go.RowKit

end Go.Proofs.YtdklekdpdbjfiaaGreat

/- spec.l19Span: the mask of the subgroup that some elements generate. -/
namespace Go.Proofs.YtdklekdpdbjfiaaGreat
open Go.RowKit

end Go.Proofs.YtdklekdpdbjfiaaGreat

/- spec.l19Sequence: the sequence of the subgroup that a mask tells. -/
namespace Go.Proofs.YtdklekdpdbjfiaaGreat
open Go.RowKit

end Go.Proofs.YtdklekdpdbjfiaaGreat

/- spec.l03Flat, spec.l01Less, spec.l19Before. -/
namespace Go.Proofs.YtdklekdpdbjfiaaGreat
open Go.RowKit

set_option maxRecDepth 100000 in
set_option maxHeartbeats 2000000 in
theorem l03Flat_ok (w : World) (lv : Value) (us : List (List Int)) (Sr : Nat → Prop) (hl : Rows2 Sr w lv us) (hb : ∀ u ∈ us, u.length ≤ 1000) (hn : us.length ≤ 100) :
    Calls Tryz.prog 231 #[lv] w (Ret w fun w' v => Own w.heap.size w' v us.flatten) := by
  obtain ⟨al, capl, rfl, _, _⟩ := Sl.shape hl
  have hfl : ∀ k, k ≤ us.length → (rowsTo us k).length ≤ 100000 := fun k hk => by have := rowsTo_len us 1000 hb k hk; omega
  have HF := Lib.hid (And.intro hfl hb); clear hfl hb
  rw [← rowsTo_all]
  go_enter Tryz.func231, Tryz.ntmps231
  go_wp2
  go_loopw [3, 4] (fun ov iv wr => ∃ (k : Nat) (v4 : Value), v4 = ov ∧ iv = .int .i64 k ∧ k ≤ us.length ∧ Ext w wr ∧ Own w.heap.size wr v4 (rowsTo us k)) (fun _ iv _ => us.length - (intOf iv).toNat)
  case atStart => exact ⟨0, _, rfl, rfl, by omega, World.grownBy_alloc _ _ _, World.ownsRow_lit w #[] 0 (Nat.le_refl _) (by decide) rfl⟩
  case round =>
    obtain ⟨k, v4, rfl, rfl, hk, hg, hO⟩ := hrel
    by_cases hlt : k < us.length
    · have hlt' : (k : Int) < us.length := by omega
      obtain ⟨b, off, a2, cap2, rfl, _, _, hc, hr⟩ := Rows2.at hl k hlt
      have hcr := hg.cell hc (by simp)
      have hr2 := Ints.ext hr hg
      have hlk := HF.out.2 _ (gt_mem hlt)
      have hfk := HF.out.1 k hk
      have hlen : (rowsTo us k).length + (gt us k).length ≤ 2147483648 := by omega
      have HN := Lib.hid (And.intro hr2 hlen); clear hlen hr2 hlk hfk hc
      go_wp2_with (first | (at_builtin; refine wp_app_ints rfl _ _ rfl w.heap.size _ (rowsTo us k) rfl hO _ (gt us k) rfl _ HN.out.1 HN.out.2 hg.size ?_; intro v5 w5 hO5 hg5 _; have hgw5 := grown_own hg hg5 (fun j hj hlt => by have := (hO.lt j hj).1; omega)) | fail)
      clear hcr
      go_roundw
      case rel => exact ⟨k + 1, v5, rfl, by go_num, by omega, hgw5, hO5⟩
      case measure => simp [intOf]; omega
    · have hke : k = us.length := by omega
      subst hke
      obtain ⟨az, nz, capz, hvz⟩ : ∃ az nz capz, v4 = .slice az nz capz := by
        rcases hO.2 with ⟨h1, _⟩ | ⟨g, cp, _, h1, _⟩
        · exact ⟨_, _, _, h1⟩
        · exact ⟨_, _, _, h1⟩
      subst hvz
      go_wp2
      go_ret
      exact ⟨_, rfl, hg, hO⟩

theorem cmpL_end {X Y : List Int} {k : Nat} (hx : k ≤ X.length) (hy : k ≤ Y.length) (h : k = X.length ∨ k = Y.length) : (cmpL (X.drop k) (Y.drop k) < 0 ↔ X.length < Y.length) := by
  by_cases h1 : k < X.length
  · have h2 : k = Y.length := by omega
    rw [drop_gt h1, List.drop_eq_nil_of_le (show Y.length ≤ k by omega)]
    simp only [cmpL]; omega
  · rw [List.drop_eq_nil_of_le (show X.length ≤ k by omega)]
    by_cases h2 : k < Y.length
    · rw [drop_gt h2]; simp only [cmpL]; omega
    · rw [List.drop_eq_nil_of_le (show Y.length ≤ k by omega)]
      simp only [cmpL]; omega

set_option maxRecDepth 100000 in
set_option maxHeartbeats 4000000 in
theorem l01Less_ok (a b : Value) (X Y : List Int) (w : World) (Sa Sb : Nat → Prop) (ha : Ints Sa w a X) (hb : Ints Sb w b Y) :
    Calls Tryz.prog 230 #[a, b] w (Ret w fun _ v => v = .bool (decide (cmpL X Y < 0))) := by
  obtain ⟨aa, capa, rfl, hla, _⟩ := ha.shape
  obtain ⟨ab, capb, rfl, hlb, _⟩ := hb.shape
  go_enter Tryz.func230, Tryz.ntmps230
  go_wp2
  go_loopw [5] (fun v wr => ∃ k : Nat, v = .int .i64 k ∧ k ≤ X.length ∧ k ≤ Y.length ∧ Ext w wr ∧ Hid (cmpL X Y = cmpL (X.drop k) (Y.drop k))) (fun v _ => X.length - (intOf v).toNat)
  case atStart => exact ⟨0, rfl, by omega, by omega, Ext.refl _, Lib.hid (by simp)⟩
  case round =>
    obtain ⟨k, rfl, hk, hkY, hg, hcmp⟩ := hrel
    by_cases hlt : k < X.length
    · obtain ⟨ba, oa, rfl, _, _, hca⟩ := Ints.at (Ints.ext ha hg) k hlt
      have hlt' : (k : Int) < X.length := by omega
      by_cases hltY : k < Y.length
      · obtain ⟨bb, ob, rfl, _, _, hcb⟩ := Ints.at (Ints.ext hb hg) k hltY
        have hltY' : (k : Int) < Y.length := by omega
        have hc2 := hcmp.out
        rw [drop_gt hlt, drop_gt hltY] at hc2
        simp only [cmpL] at hc2
        obtain ⟨x, hx⟩ : ∃ x, x = gt X k := ⟨_, rfl⟩
        obtain ⟨y, hy⟩ : ∃ y, y = gt Y k := ⟨_, rfl⟩
        rw [← hx] at hca hc2
        rw [← hy] at hcb hc2
        have HC := Lib.hid hc2; clear hc2 hcmp hx hy
        go_wp2
        go_quiet (fail)
        rename_i nq _
        have hgq : Ext w (wr.drewN nq) := grown_trans hg (grown_drewN _ _ _)
        have hca2 : (wr.drewN nq).cell? ⟨ba, oa + k, none⟩ = some (.int .i64 x) := hca
        have hcb2 : (wr.drewN nq).cell? ⟨bb, ob + k, none⟩ = some (.int .i64 y) := hcb
        clear hca hcb
        generalize wr.drewN nq = wq at *
        by_cases hz : x = y
        · subst hz
          have hcn := HC.out
          have h0 : cmpI x x = 0 := by unfold cmpI; simp
          rw [if_pos h0] at hcn
          have HC2 := Lib.hid hcn; clear hcn HC h0
          go_wp2
          go_roundw
          case rel => exact ⟨k + 1, by go_num, by omega, by omega, hgq, HC2⟩
          case measure => simp [intOf]; omega
        · have hcn := HC.out
          have h1 : cmpI x y ≠ 0 := by
            rcases cmpI_cases x y with ⟨h, k⟩ | ⟨h, k⟩ | ⟨h, k⟩ <;> omega
          rw [if_neg h1] at hcn
          have h2 : (decide (cmpL X Y < 0)) = decide (x < y) := by
            rw [hcn]
            rcases cmpI_cases x y with ⟨h, k⟩ | ⟨h, k⟩ | ⟨h, k⟩
            · rw [h]; simp [k]
            · exact absurd k hz
            · rw [h]; simp; omega
          have HC2 := Lib.hid h2; clear hcn HC h1 h2
          have hne : (x != y) = true := by simpa using hz
          go_wp2
          go_quiet (fail)
          rename_i nq2 _
          go_wp2
          go_ret
          exact ⟨_, rfl, grown_trans hgq (grown_drewN _ _ _), congrArg Value.bool HC2.out.symm⟩
      · have hend := cmpL_end hk hkY (.inr (by omega))
        have h2 : (decide (cmpL X Y < 0)) = decide (X.length < Y.length) := by rw [hcmp.out]; exact decide_eq_decide.2 hend
        have HC2 := Lib.hid h2; clear h2 hend hcmp
        have hltY' : ¬ (k : Int) < Y.length := by omega
        go_wp2
        go_ret
        exact ⟨_, rfl, hg, congrArg Value.bool HC2.out.symm⟩
    · have hend := cmpL_end hk hkY (.inl (by omega))
      have h2 : (decide (cmpL X Y < 0)) = decide (X.length < Y.length) := by rw [hcmp.out]; exact decide_eq_decide.2 hend
      have HC2 := Lib.hid h2; clear h2 hend hcmp
      have hlt' : ¬ (k : Int) < X.length := by omega
      go_wp2
      go_ret
      exact ⟨_, rfl, hg, congrArg Value.bool HC2.out.symm⟩

def ltB (P : Pr) (u v : List (List Int)) : Bool := decide (cmpS P u v < 0)
theorem ltB_iff {P : Pr} {u v : List (List Int)} : ltB P u v = true ↔ subLt P u v := by unfold ltB; rw [decide_eq_true_iff]; exact cmpS_neg

set_option maxRecDepth 100000 in
set_option maxHeartbeats 4000000 in
theorem l19Before_ok (P : Pr) (hP : Valid P) (w : World) (pv uv vv : Value) (U V : List (List Int)) (Sp Su Sv : Nat → Prop) (hpv : PresV Sp w pv P) (hu : Rows2 Su w uv U) (hv : Rows2 Sv w vv V) (hU : SeqOk P U) (hV : SeqOk P V) (hlu : U.length ≤ 100) (hlv : V.length ≤ 100) :
    Calls Tryz.prog 193 #[pv, uv, vv] w (Ret w fun _ v => v = .bool (ltB P U V)) := by
  have hn6 := hP.n6
  obtain ⟨vo, vp, vc, rfl, h3⟩ := hpv
  have hp0 := PresP.box h3 31
  have hg0 : Ext w (w.alloc (.cells #[vo, vp, vc] 31)) := World.grownBy_alloc _ _ _
  obtain ⟨vo6, vp6, vc6, _, _, hc0, hc1, hc2, h36⟩ := hp0.at
  simp only [Nat.zero_add] at hc1 hc2
  have hbx : ∀ w', Ext (w.alloc (.cells #[vo, vp, vc] 31)) w' → w'.cell? ⟨w.heap.size, 0, none⟩ = some vo6 ∧ w'.cell? ⟨w.heap.size, 1, none⟩ = some vp6 ∧ w'.cell? ⟨w.heap.size, 2, none⟩ = some vc6 := fun w' h => ⟨h.cell hc0 (by simp), h.cell hc1 (by simp), h.cell hc2 (by simp)⟩
  have HB := Lib.hid hbx; clear hbx hp0
  obtain ⟨au, capu, rfl, _, _⟩ := Sl.shape hu
  obtain ⟨av, capv, rfl, _, _⟩ := Sl.shape hv
  have hUl : ∀ u ∈ U, u.length ≤ 1000 := fun u h => by have := seqOk_row hU u h; omega
  have hVl : ∀ u ∈ V, u.length ≤ 1000 := fun u h => by have := seqOk_row hV u h; omega
  have hUf : U.flatten.length ≤ 100000 := by have := rowsTo_len U 1000 hUl _ (Nat.le_refl _); rw [rowsTo_all] at this; omega
  have hVf : V.flatten.length ≤ 100000 := by have := rowsTo_len V 1000 hVl _ (Nat.le_refl _); rw [rowsTo_all] at this; omega
  have hdef : ltB P U V = decide ((if cmpI (prodU P U U.length) (prodU P V V.length) = 0 then cmpL U.flatten V.flatten else cmpI (prodU P U U.length) (prodU P V V.length)) < 0) := rfl
  have hu0 := Rows2.ext hu hg0
  have hv0 := Rows2.ext hv hg0
  have HH := Lib.hid (And.intro (And.intro hU hV) (And.intro (And.intro hUl hVl) (And.intro hUf (And.intro hVf hdef)))); clear hU hV hUl hVl hUf hVf hdef hu hv
  go_enter Tryz.func193, Tryz.ntmps193
  go_wp2
  clear hc0 hc1 hc2
  generalize hw0 : w.alloc (.cells #[vo, vp, vc] 31) = w0 at *
  clear hw0
  obtain ⟨a, ha⟩ : ∃ a, a = prodU P U U.length := ⟨_, rfl⟩
  obtain ⟨b, hb⟩ : ∃ b, b = prodU P V V.length := ⟨_, rfl⟩
  have hdef := HH.out.2.2.2.2
  rw [← ha, ← hb] at hdef
  have HD := Lib.hid (And.intro hdef (And.intro ha hb)); clear hdef ha hb
  have e1 : ∀ w', Ext w0 w' → w'.cell? ⟨w.heap.size, 0, none⟩ = some vo6 := fun w' h => (HB.out w' h).1
  have e2 : ∀ w', Ext w0 w' → w'.cell? ⟨w.heap.size, 1, none⟩ = some vp6 := fun w' h => (HB.out w' h).2.1
  have e3 : ∀ w', Ext w0 w' → w'.cell? ⟨w.heap.size, 2, none⟩ = some vc6 := fun w' h => (HB.out w' h).2.2
  go_region_held3 (fun w' => Ext w0 w') (first | exact grown_drew _ _ | assumption)
    (first
      | (revert hgA; intro hgA; go_at_call 61; refine Calls.mono (Calls.rel (w0 := w0) (by assumption) (l12Order_ok P hP _ _ _ V Any Any ⟨_, _, _, rfl, Pres3.ext h36 (by assumption)⟩ (Rows2.sub (Rows2.ext hv0 (by assumption)) (fun _ _ _ => trivial)) HH.out.1.2 (by omega))) ?_; rintro eB wB ⟨vB, rfl, hgB, hsB, hvB⟩; rw [← HD.out.2.2] at hvB; subst hvB)
      | (go_at_call 61; refine Calls.mono (Calls.rel (w0 := w0) (by assumption) (l12Order_ok P hP _ _ _ U Any Any ⟨_, _, _, rfl, Pres3.ext h36 (by assumption)⟩ (Rows2.sub (Rows2.ext hu0 (by assumption)) (fun _ _ _ => trivial)) HH.out.1.1 (by omega))) ?_; rintro eA wA ⟨vA, rfl, hgA, hsA, hvA⟩; rw [← HD.out.2.1] at hvA; subst hvA))
  clear e1 e2 e3 hgA hsA hsB
  by_cases hab : a = b
  · subst hab
    have h0 : cmpI a a = 0 := by unfold cmpI; simp
    have hd := HD.out.1
    rw [if_pos h0] at hd
    have HD2 := Lib.hid hd; clear hd h0
    go_wp2_with fail
    refine Calls.mono (l03Flat_ok wB _ U Any (Rows2.sub (Rows2.ext hu0 hgB) (fun _ _ _ => trivial)) HH.out.2.1.1 hlu) ?_
    rintro e4 w4 ⟨v4, rfl, hg4, hO4⟩
    have hg04 := grown_trans hgB hg4
    go_wp2_with fail
    refine Calls.mono (l03Flat_ok w4 _ V Any (Rows2.sub (Rows2.ext hv0 hg04) (fun _ _ _ => trivial)) HH.out.2.1.2 hlv) ?_
    rintro e5 w5 ⟨v5, rfl, hg5, hO5⟩
    have hI4 : Ints Any w5 v4 U.flatten := Ints.sub (Ints.ext (ints_of_own (S := Any) hO4 (by have := HH.out.2.2.1; omega) (fun _ _ => trivial)) hg5) (fun _ _ _ => trivial)
    have hI5 : Ints Any w5 v5 V.flatten := ints_of_own (S := Any) hO5 (by have := HH.out.2.2.2.1; omega) (fun _ _ => trivial)
    have HI := Lib.hid (And.intro hI4 hI5); clear hI4 hI5 hO4 hO5
    go_wp2_with fail
    refine Calls.mono (l01Less_ok v4 v5 U.flatten V.flatten w5 Any Any HI.out.1 HI.out.2) ?_
    rintro e6 w6 ⟨v6, rfl, hg6, hv6⟩
    rw [← HD2.out] at hv6
    obtain ⟨r, hr⟩ : ∃ r, r = ltB P U V := ⟨_, rfl⟩
    rw [← hr] at hv6
    subst hv6
    have HR := Lib.hid hr; clear hr
    go_wp2
    go_ret
    exact ⟨_, rfl, grown_trans hg0 (grown_trans hg04 (grown_trans hg5 hg6)), congrArg Value.bool HR.out⟩
  · have hd := HD.out.1
    have h1 : cmpI a b ≠ 0 := by
      rcases cmpI_cases a b with ⟨h, k⟩ | ⟨h, k⟩ | ⟨h, k⟩ <;> omega
    rw [if_neg h1] at hd
    have hd2 : ltB P U V = decide (a < b) := by
      rw [hd]
      rcases cmpI_cases a b with ⟨h, k⟩ | ⟨h, k⟩ | ⟨h, k⟩
      · rw [h]; simp [k]
      · exact absurd k hab
      · rw [h]; simp; omega
    have HD2 := Lib.hid hd2; clear hd2 hd h1
    have hne : (a != b) = true := by simpa using hab
    go_wp2
    go_ret
    exact ⟨_, rfl, grown_trans hg0 hgB, congrArg Value.bool HD2.out.symm⟩

end Go.Proofs.YtdklekdpdbjfiaaGreat

/- Lists of subgroups whose rows are shared with older lists. -/
namespace Go.Proofs.YtdklekdpdbjfiaaGreat
open Go.RowKit

/-- the slices lie in the call's own vector, their rows in older blocks of S -/
def Sh3 (S : Nat → Prop) (B : Nat) (w : World) (v : Value) (xs : List (List (List Int))) : Prop :=
  ∃ vs, vs.length = xs.length ∧ OwnV B 23 w v vs ∧ ∀ i, i < xs.length → Rows2 (fun k => S k ∧ k < B) w (gt vs i) (gt xs i)

theorem Sh3.kept {S : Nat → Prop} {B : Nat} {w w' : World} {v : Value} {xs : List (List (List Int))} {r : Option Nat} (h : Sh3 S B w v xs) (hg : w.grownBy w' r) (hne : v.ownBlock = none ∨ v.ownBlock ≠ r) (hr : ∀ k, r = some k → B ≤ k) : Sh3 S B w' v xs := by
  obtain ⟨vs, h1, h2, h3⟩ := h
  exact ⟨vs, h1, h2.kept hg hne, fun i hi => Rows2.mono (h3 i hi) (frame_of hg (fun k hk _ => ⟨hk, fun e => by have := hr k e; omega⟩))⟩
theorem Sh3.ext {S : Nat → Prop} {B : Nat} {w w' : World} {v : Value} {xs : List (List (List Int))} (h : Sh3 S B w v xs) (hg : Ext w w') : Sh3 S B w' v xs :=
  h.kept hg (by cases hv : v.ownBlock <;> simp) (fun k hk => by cases hk)
theorem Sh3.lt {S : Nat → Prop} {B : Nat} {w : World} {v : Value} {xs : List (List (List Int))} (h : Sh3 S B w v xs) (k : Nat) (hk : v.ownBlock = some k) : B ≤ k ∧ k < w.heap.size := by
  obtain ⟨vs, h1, h2, h3⟩ := h
  exact h2.lt k hk
theorem Sh3.shape {S : Nat → Prop} {B : Nat} {w : World} {v : Value} {xs : List (List (List Int))} (h : Sh3 S B w v xs) : ∃ a c, v = .slice a xs.length c := by
  obtain ⟨vs, h1, h2, h3⟩ := h
  rcases h2.form with ⟨e1, e2⟩ | ⟨g, cp, e1, _⟩
  · have : xs.length = 0 := by rw [← h1, e2]; rfl
    exact ⟨none, 0, by rw [e1, this]⟩
  · exact ⟨_, _, by rw [e1, h1]⟩

theorem Sh3.rows {S : Nat → Prop} {B : Nat} {w : World} {v : Value} {xs : List (List (List Int))} (h : Sh3 S B w v xs) (hl : xs.length ≤ 1000000) : Rows3 (fun k => S k ∨ B ≤ k) w v xs := by
  obtain ⟨vs, h1, h2, h3⟩ := h
  rcases h2.form with ⟨rfl, e2⟩ | ⟨g, cp, rfl, hc, hB, hgs⟩
  · have : xs = [] := List.eq_nil_of_length_eq_zero (by rw [← h1, e2]; rfl)
    subst this
    exact ⟨none, 0, rfl, ⟨by simp, by simp, fun _ => rfl⟩, fun i hi => by simp at hi⟩
  · refine ⟨_, cp, by rw [h1], ⟨by omega, by omega, fun h => by cases h⟩, fun i hi => ⟨g, 0, gt vs i, rfl, .inr hB, hgs, ?_, Rows2.sub (h3 i hi) (fun k hk _ => .inl hk.1)⟩⟩
    rw [Nat.zero_add]; exact h2.cell i (by omega)

theorem Sh3.nil (S : Nat → Prop) (B : Nat) (w : World) : Sh3 S B w (.slice none 0 0) [] := ⟨[], rfl, World.ownsRow_nil _ _ _ _, by simp⟩
theorem Sh3.lit0 (S : Nat → Prop) (B : Nat) (w : World) (hB : B ≤ w.heap.size) : Sh3 S B (w.alloc (.cells #[] 23)) (.slice (some ⟨w.heap.size, 0, none⟩) 0 0) [] :=
  ⟨[], rfl, World.ownsRow_lit w #[] 0 hB (by decide) rfl, by simp⟩

theorem rows2_one {S : Nat → Prop} {w : World} {v : Value} {xs : List (List Int)} (h : Rows2 S w v xs) : v.oneCell' = true := by obtain ⟨a, cap, rfl, _⟩ := h; rfl

theorem wp_app_r3 {ops : Array Oper} {rest : List Oper} {o : Oper} {a : Act} {Q : Exit → Act → World → Prop} {w : World} (hgd : o.guard = none) (s x : Operand)
    (ho : o.op = Op.call { callee := Callee.builtin Builtin.append, args := #[s, x], argTypes := #[24, 24] }) (S : Nat → Prop) (B : Nat) (v u : Value) (xs : List (List (List Int))) (y : List (List Int)) (hs : a.eval s = v) (w2 : World) (hown : Sh3 S B w2 v xs)
    (hu : Rows2 (fun k => S k ∧ k < B) w2 u y) (hw : w = w2.alloc (.cells #[u] 23)) (hx : a.eval x = .slice (some ⟨w2.heap.size, 0, none⟩) 1 1) (hlen : xs.length ≤ 1000000) (hbase : B ≤ w2.heap.size)
    (h : ∀ v' w', Sh3 S B w' v' (xs ++ [y]) → w2.grownBy w' v.ownBlock → wpList Tryz.prog ops Q rest (a.put o.dst v') w') :
    wpList Tryz.prog ops Q (o :: rest) a w := by
  obtain ⟨vs, h1, h2, h3⟩ := hown
  refine wp_app_v 24 23 (.slice none 0 0) 24 und_r3 Tryz.infoR3 rfl (by decide) hgd s x ho B w2 v u vs hs h2 hw (rows2_one hu) hx (by omega) hbase ?_
  intro v' w' k1 k2
  have hown : ∀ k, v.ownBlock = some k → B ≤ k := fun k hk => (h2.lt k hk).1
  refine h v' w' ⟨vs ++ [u], by simp [h1], k1, fun i hi => ?_⟩ k2
  simp only [List.length_append, List.length_singleton] at hi
  have hfr : ∀ {z : Value} {q : List (List Int)}, Rows2 (fun k => S k ∧ k < B) w2 z q → Rows2 (fun k => S k ∧ k < B) w' z q := fun hz => Rows2.mono hz (frame_of k2 (fun k hk _ => ⟨hk, fun e => by have := hown k e; omega⟩))
  by_cases hlt : i < xs.length
  · rw [gt_append_left _ _ _ (by omega), gt_append_left _ _ _ hlt]
    exact hfr (h3 i hlt)
  · have hi2 : i = xs.length := by omega
    subst hi2
    rw [gt_concat, ← h1, gt_concat]
    exact hfr hu

end Go.Proofs.YtdklekdpdbjfiaaGreat

/- The reference's test of a sequence: spec.l10Element, l10Elements, l01Same2, l12Is, IsSubgroup, l13Two. -/
namespace Go.Proofs.YtdklekdpdbjfiaaGreat
open Go.RowKit

set_option maxRecDepth 100000 in
set_option maxHeartbeats 2000000 in
theorem l01Same2_ok (v1 v2 : Value) (l1 l2 : List (List Int)) (w : World) (S1 S2 : Nat → Prop) (h1 : Rows2 S1 w v1 l1) (h2 : Rows2 S2 w v2 l2) :
    Calls Tryz.prog 109 #[v1, v2] w (Ret w fun _ v => v = .bool (eqB l1 l2)) := by
  obtain ⟨a, cap, rfl, _, _⟩ := Sl.shape h1
  obtain ⟨a2, cap2, rfl, _, _⟩ := Sl.shape h2
  by_cases hl : l1.length = l2.length
  · have hd : ((l1.length : Int) != (l2.length : Int)) = false := by simp [hl]
    have hl1 : l1.length ≤ l2.length ∧ l2.length ≤ l1.length := by omega
    have HL := Lib.hid hl; clear hl
    go_enter Tryz.func109, Tryz.ntmps109
    go_wp2
    go_loopw [5] (fun i wr => ∃ k : Nat, i = .int .i64 k ∧ k ≤ l1.length ∧ Ext w wr ∧ ∀ i, i < k → gt l1 i = gt l2 i) (fun i _ => l1.length - (intOf i).toNat)
    case atStart => exact ⟨0, rfl, by omega, Ext.refl _, fun i hi => by omega⟩
    case round =>
      obtain ⟨k, rfl, hk, hg, hz⟩ := hrel
      have HZ := Lib.hid hz; clear hz
      by_cases hlt : k < l1.length
      · obtain ⟨b, off, x1, c1, rfl, _, _, hc, hi1⟩ := Rows2.at (Rows2.ext h1 hg) k hlt
        obtain ⟨b2, off2, x2, c2, rfl, _, _, hc2, hi2⟩ := Rows2.at (Rows2.ext h2 hg) k (by omega)
        have e1 : ∀ w', Ext wr w' → w'.cell? ⟨b, off + k, none⟩ = some (.slice x1 (gt l1 k).length c1) := fun w' h => h.cell hc (by simp)
        have e2 : ∀ w', Ext wr w' → w'.cell? ⟨b2, off2 + k, none⟩ = some (.slice x2 (gt l2 k).length c2) := fun w' h => h.cell hc2 (by simp)
        clear hc hc2
        have hlt2 : k < l2.length := by omega
        go_wp2
        cases hx : eqB (gt l1 k) (gt l2 k) with
        | true =>
          have hx2 := Lib.hid hx
          go_region_held3 (fun w' => Ext wr w') (first | exact grown_drew _ _ | assumption)
            (first
              | (go_at_call 174; refine Calls.mono (Calls.rel (w0 := wr) (by assumption) (l01Same_ok _ _ _ _ _ Any Any (Ints.sub (Ints.ext hi1 (by assumption)) (fun _ _ _ => trivial)) (Ints.sub (Ints.ext hi2 (by assumption)) (fun _ _ _ => trivial)))) ?_; rintro eA wA ⟨vA, rfl, hgA, hsA, rfl⟩))
          clear e1 e2
          go_wp2
          go_roundw
          case rel => exact ⟨k + 1, by go_num, by omega, grown_trans hg hgA, fun i hi => by
            rcases Nat.lt_or_ge i k with h1 | h1
            · exact HZ.out i h1
            · have : i = k := by omega
              rw [this]; exact eqB_true.1 hx2.out⟩
          case measure => simp [intOf]; omega
        | false =>
          have hx2 := Lib.hid hx
          go_region_held3 (fun w' => Ext wr w') (first | exact grown_drew _ _ | assumption)
            (first
              | (go_at_call 174; refine Calls.mono (Calls.rel (w0 := wr) (by assumption) (l01Same_ok _ _ _ _ _ Any Any (Ints.sub (Ints.ext hi1 (by assumption)) (fun _ _ _ => trivial)) (Ints.sub (Ints.ext hi2 (by assumption)) (fun _ _ _ => trivial)))) ?_; rintro eA wA ⟨vA, rfl, hgA, hsA, rfl⟩))
          clear e1 e2
          go_wp2
          go_ret
          exact ⟨_, rfl, grown_trans hg hgA, by rw [eqB_false_at (hx := eqB_false.1 hx2.out)]; rfl⟩
      · go_wp2
        go_ret
        exact ⟨_, rfl, hg, by rw [eqB_true.2 (ext_gt HL.out (fun i hi => HZ.out i (by omega)))]; rfl⟩
  · have hd : ((l1.length : Int) != (l2.length : Int)) = true := by simp; omega
    have HL := Lib.hid hl; clear hl
    go_enter Tryz.func109, Tryz.ntmps109
    go_wp2
    go_ret
    exact ⟨_, rfl, Ext.refl _, by rw [eqB_false.2 (fun e => HL.out (by rw [e]))]; rfl⟩

end Go.Proofs.YtdklekdpdbjfiaaGreat

/- spec.l19Insert. -/
namespace Go.Proofs.YtdklekdpdbjfiaaGreat
open Go.RowKit

theorem ins_start (P : Pr) (L : List (List (List Int))) (u : List (List Int)) : Ins P L u 0 [] false :=
  ⟨fun j hj => by omega, fun _ => ⟨by simp, fun j hj => by omega⟩, fun h => by cases h⟩
theorem ins_new {P : Pr} {L : List (List (List Int))} {u : List (List Int)} {k : Nat} {out : List (List (List Int))} {b : Bool} (I : Ins P L u k out b) (hne : gt L k ≠ u) : ∀ j, j < k + 1 → gt L j ≠ u := fun j hj => by
  rcases Nat.lt_succ_iff_lt_or_eq.1 hj with h | h
  · exact I.new j h
  · subst h; exact hne
theorem ins_no {P : Pr} {L : List (List (List Int))} {u : List (List Int)} {k : Nat} {out : List (List (List Int))} (I : Ins P L u k out false) (hk : k < L.length) (hne : gt L k ≠ u) (h : ¬ subLt P u (gt L k)) : Ins P L u (k + 1) (out ++ [gt L k]) false := by
  refine ⟨ins_new I hne, fun _ => ?_, fun h => by cases h⟩
  obtain ⟨h1, h2⟩ := I.no rfl
  refine ⟨by rw [take_succ_gt L k hk, h1], fun j hj => ?_⟩
  rcases Nat.lt_succ_iff_lt_or_eq.1 hj with h3 | h3
  · exact h2 j h3
  · subst h3; exact h
theorem ins_put {P : Pr} {L : List (List (List Int))} {u : List (List Int)} {k : Nat} {out : List (List (List Int))} (I : Ins P L u k out false) (hk : k < L.length) (hne : gt L k ≠ u) (h : subLt P u (gt L k)) : Ins P L u (k + 1) (out ++ [u] ++ [gt L k]) true := by
  refine ⟨ins_new I hne, (fun h => by cases h), fun _ => ?_⟩
  obtain ⟨h1, h2⟩ := I.no rfl
  refine ⟨k, by omega, ?_, h, h2⟩
  have hd : (L.take (k + 1)).drop k = [gt L k] := by
    rw [take_succ_gt L k hk]
    have : k = (L.take k).length := by rw [List.length_take]; omega
    rw [List.drop_append_of_le_length (by omega), List.drop_of_length_le (by omega)]; rfl
  rw [hd, h1]; simp
theorem ins_yes {P : Pr} {L : List (List (List Int))} {u : List (List Int)} {k : Nat} {out : List (List (List Int))} (I : Ins P L u k out true) (hk : k < L.length) (hne : gt L k ≠ u) : Ins P L u (k + 1) (out ++ [gt L k]) true := by
  refine ⟨ins_new I hne, (fun h => by cases h), fun _ => ?_⟩
  obtain ⟨p, h1, h2, h3, h4⟩ := I.yes rfl
  refine ⟨p, by omega, ?_, h3, h4⟩
  have hd : (L.take (k + 1)).drop p = (L.take k).drop p ++ [gt L k] := by
    rw [take_succ_gt L k hk, List.drop_append_of_le_length (by rw [List.length_take]; omega)]
  rw [hd, h2]; simp

set_option linter.unusedSimpArgs false in
set_option maxRecDepth 100000 in
set_option maxHeartbeats 8000000 in
theorem l19Insert_ok (P : Pr) (G : Grp P) (w : World) (pv lv uv : Value) (L : List (List (List Int))) (u : List (List Int)) (Sp S : Nat → Prop) (hpv : PresV Sp w pv P) (hl : Rows3 S w lv L) (hu : Rows2 S w uv u) (hL : ∀ v ∈ L, SubB P v) (hub : SubB P u) (hlp : L.Pairwise (subLt P)) (hlen : L.length ≤ 100000) :
    Calls Tryz.prog 128 #[pv, lv, uv] w (Ret w fun w' r => ∃ R : List (List (List Int)), R.Pairwise (subLt P) ∧ (∀ v, v ∈ R ↔ v ∈ L ∨ v = u) ∧ R.length ≤ L.length + 1 ∧ Rows3 (fun k => S k ∨ w.heap.size ≤ k) w' r R) := by
  have hP := G.v
  have hn6 := hP.n6
  obtain ⟨vo, vp, vc, rfl, h3⟩ := hpv
  have hp0 := PresP.box h3 31
  have hg0 : Ext w (w.alloc (.cells #[vo, vp, vc] 31)) := World.grownBy_alloc _ _ _
  have hs0 : (w.alloc (.cells #[vo, vp, vc] 31)).heap.size = w.heap.size + 1 := by simp
  obtain ⟨vo6, vp6, vc6, _, _, hc0, hc1, hc2, h36⟩ := hp0.at
  simp only [Nat.zero_add] at hc1 hc2
  have hbx : ∀ w', Ext (w.alloc (.cells #[vo, vp, vc] 31)) w' → w'.cell? ⟨w.heap.size, 0, none⟩ = some vo6 ∧ w'.cell? ⟨w.heap.size, 1, none⟩ = some vp6 ∧ w'.cell? ⟨w.heap.size, 2, none⟩ = some vc6 := fun w' h => ⟨h.cell hc0 (by simp), h.cell hc1 (by simp), h.cell hc2 (by simp)⟩
  have hseq : ∀ v, SubB P v → SeqOk P v ∧ v.length ≤ 100 := fun v h1 => by
    have h2 := (G.seq_facts (G.subB h1)).1
    rw [← h1.2] at h2
    have := G.sub_len h1
    exact ⟨h2, by omega⟩
  have HB := Lib.hid (And.intro hbx (And.intro hs0 (And.intro hseq (And.intro hL hub)))); clear hbx hs0 hseq hL hub hp0
  obtain ⟨al, capl, rfl, _, _⟩ := Sl.shape hl
  obtain ⟨au, capu, rfl, _, _⟩ := Sl.shape hu
  have hu0 := Rows2.ext hu hg0
  go_enter Tryz.func128, Tryz.ntmps128
  go_wp2
  clear hc0 hc1 hc2
  generalize hw0 : w.alloc (.cells #[vo, vp, vc] 31) = w0 at *
  clear hw0
  go_loopw [7, 8, 9] (fun ov bv iv wr => ∃ (i : Nat) (placed : Bool) (out : List (List (List Int))) (v7 : Value), v7 = ov ∧ bv = .bool placed ∧ iv = .int .i64 i ∧ i ≤ L.length ∧ out.length ≤ i + 1 ∧ Ext w0 wr ∧ Sh3 S w0.heap.size wr v7 out ∧ Hid (Ins P L u i out placed)) (fun _ _ iv _ => L.length - (intOf iv).toNat)
  case atStart => exact ⟨0, false, [], _, rfl, rfl, rfl, by omega, by simp, World.grownBy_alloc _ _ _, by rw [← HB.out.2.1]; exact Sh3.lit0 _ _ _ (Nat.le_refl _), Lib.hid (ins_start P L u)⟩
  case round =>
    obtain ⟨i, placed, out, v7, rfl, rfl, rfl, hi, hol, hg, hO, hI⟩ := hrel
    by_cases hlt : i < L.length
    · have hlt' : (i : Int) < L.length := by omega
      obtain ⟨bl, ol, a2, cap2, rfl, _, hbl, hcl, hx⟩ := Rows3.at hl i hlt
      have hcr := hg.cell (hg0.cell hcl (by simp)) (by simp)
      have hxb := HB.out.2.2.2.1 _ (gt_mem hlt)
      obtain ⟨x, hxd⟩ : ∃ x, x = gt L i := ⟨_, rfl⟩
      rw [← hxd] at hcl hcr hx hxb
      have hxw := Rows2.ext (Rows2.ext hx hg0) hg
      have huw := Rows2.ext hu0 hg
      have hB0 := HB.out.2.1
      have hxS : Rows2 (fun k => S k ∧ k < w0.heap.size) wr (.slice a2 x.length cap2) x := Rows2.mono hx (fun k hk hlt => ⟨⟨hk, by omega⟩, Nat.lt_of_lt_of_le hlt (Nat.le_trans hg0.size hg.size), (hg.block k (Nat.lt_of_lt_of_le hlt hg0.size) (by simp)).trans (hg0.block k hlt (by simp))⟩)
      have huS : Rows2 (fun k => S k ∧ k < w0.heap.size) wr (.slice au u.length capu) u := Rows2.mono hu (fun k hk hlt => ⟨⟨hk, by omega⟩, Nat.lt_of_lt_of_le hlt (Nat.le_trans hg0.size hg.size), (hg.block k (Nat.lt_of_lt_of_le hlt hg0.size) (by simp)).trans (hg0.block k hlt (by simp))⟩)
      have HX := Lib.hid (And.intro hxb (And.intro hxd (And.intro hxS huS))); clear hxb hxd hxS huS hcl hx
      go_wp2_with fail
      refine Calls.mono (l01Same2_ok _ _ x u wr S S hxw huw) ?_
      rintro eS wS ⟨vS, rfl, hgS, rfl⟩
      have hgs := grown_trans hg hgS
      have hOS := hO.ext hgS
      have hcS := hgS.cell hcr (by simp)
      clear hO hcr
      cases heq : eqB x u with
      | true =>
        have he := eqB_true.1 heq
        have hin : u ∈ L := by rw [← he, HX.out.2.1]; exact gt_mem hlt
        have hRL : Rows3 (fun k => S k ∨ w.heap.size ≤ k) wS (.slice (some ⟨bl, ol, none⟩) L.length capl) L := Rows3.sub (Rows3.ext (Rows3.ext hl hg0) hgs) (fun k hk _ => .inl hk)
        have HIN := Lib.hid (And.intro hin hRL); clear he hin hRL heq hcS
        go_wp2
        go_ret
        exact ⟨_, rfl, grown_trans hg0 hgs, L, hlp, fun v => ⟨.inl, fun h => h.elim id (fun e => e ▸ HIN.out.1)⟩, Nat.le_succ _, HIN.out.2⟩
      | false =>
        have hne : gt L i ≠ u := fun e => by
          rw [← HX.out.2.1] at e
          rw [eqB_true.2 e] at heq; cases heq
        have HNE := Lib.hid hne; clear hne heq
        have hxS2 : Rows2 (fun k => S k ∧ k < w0.heap.size) wS (.slice a2 x.length cap2) x := Rows2.ext HX.out.2.2.1 hgS
        have huS2 : Rows2 (fun k => S k ∧ k < w0.heap.size) wS (.slice au u.length capu) u := Rows2.ext HX.out.2.2.2 hgS
        have HS := Lib.hid (And.intro hxS2 huS2); clear hxS2 huS2 hxw huw
        have e1 : ∀ w', Ext w0 w' → w'.cell? ⟨w.heap.size, 0, none⟩ = some vo6 := fun w' h => (HB.out.1 w' h).1
        have e2 : ∀ w', Ext w0 w' → w'.cell? ⟨w.heap.size, 1, none⟩ = some vp6 := fun w' h => (HB.out.1 w' h).2.1
        have e3 : ∀ w', Ext w0 w' → w'.cell? ⟨w.heap.size, 2, none⟩ = some vc6 := fun w' h => (HB.out.1 w' h).2.2
        cases placed with
        | true =>
          clear e1 e2 e3
          go_wp2
          refine wp_region_held_drew (S := fun w' => Ext w0 w') (by kernel_rfl) (grown_trans hgs (grown_drew _ _)) (fun hHeld => ?_)
          refine wpAnyH_take (i := 0) (v := ?v0) rfl (by kernel_rfl) (by kernel_rfl) (by kernel_rfl) (fun _ _ _ h => h) (Or.inl ⟨by rfl, ?hy0⟩) (by assumption) ?rest0
          case hy0 => (intro w hSw; (try dsimp only at hSw); go_simp; try with_reducible rfl)
          try simp only [Act.put, List.getElem_toArray, List.getElem_cons_succ, List.getElem_cons_zero, List.setIfInBounds_toArray, List.set_cons_zero, List.set_cons_succ]
          refine wpAnyH_take (i := 1) (v := ?v1) rfl (by kernel_rfl) (by kernel_rfl) (by kernel_rfl) (fun _ _ _ h => h) (Or.inl ⟨by rfl, ?hy1⟩) (by assumption) ?rest1
          case hy1 => (intro w hSw; (try dsimp only at hSw); go_simp; try with_reducible rfl)
          try simp only [Act.put, List.getElem_toArray, List.getElem_cons_succ, List.getElem_cons_zero, List.setIfInBounds_toArray, List.set_cons_zero, List.set_cons_succ]
          refine wpAnyH_take (i := 2) (v := ?v2) rfl (by kernel_rfl) (by kernel_rfl) (by kernel_rfl) (fun _ _ _ h => h) (Or.inl ⟨by rfl, ?hy2⟩) (by assumption) ?rest2
          case hy2 => (intro w hSw; (try dsimp only at hSw); go_simp; try with_reducible rfl)
          try simp only [Act.put, List.getElem_toArray, List.getElem_cons_succ, List.getElem_cons_zero, List.setIfInBounds_toArray, List.set_cons_zero, List.set_cons_succ]
          refine wpAnyH_take (i := 3) (v := undef) rfl (by kernel_rfl) (by kernel_rfl) (by kernel_rfl) (fun _ _ _ h => h) (Or.inr ⟨by rfl, rfl⟩) (by assumption) ?_
          try simp only [Act.put, List.getElem_toArray, List.getElem_cons_succ, List.getElem_cons_zero, List.setIfInBounds_toArray, List.set_cons_zero, List.set_cons_succ]
          refine wpAnyH_take (i := 4) (v := undef) rfl (by kernel_rfl) (by kernel_rfl) (by kernel_rfl) (fun _ _ _ h => h) (Or.inr ⟨by rfl, rfl⟩) (by assumption) ?_
          try simp only [Act.put, List.getElem_toArray, List.getElem_cons_succ, List.getElem_cons_zero, List.setIfInBounds_toArray, List.set_cons_zero, List.set_cons_succ]
          refine wpAnyH_take (i := 5) (v := undef) rfl (by kernel_rfl) (by kernel_rfl) (by kernel_rfl) (fun _ _ _ h => h) (Or.inr ⟨by rfl, rfl⟩) (by assumption) ?_
          try simp only [Act.put, List.getElem_toArray, List.getElem_cons_succ, List.getElem_cons_zero, List.setIfInBounds_toArray, List.set_cons_zero, List.set_cons_succ]
          refine wpAnyH_take (i := 6) (v := undef) rfl (by kernel_rfl) (by kernel_rfl) (by kernel_rfl) (fun _ _ _ h => h) (Or.inr ⟨by rfl, rfl⟩) (by assumption) ?_
          try simp only [Act.put, List.getElem_toArray, List.getElem_cons_succ, List.getElem_cons_zero, List.setIfInBounds_toArray, List.set_cons_zero, List.set_cons_succ]
          refine wpAnyH_take (i := 7) (v := undef) rfl (by kernel_rfl) (by kernel_rfl) (by kernel_rfl) (fun _ _ _ h => h) (Or.inr ⟨by rfl, rfl⟩) (by assumption) ?_
          try simp only [Act.put, List.getElem_toArray, List.getElem_cons_succ, List.getElem_cons_zero, List.setIfInBounds_toArray, List.set_cons_zero, List.set_cons_succ]
          refine wpAnyH_take (i := 8) (v := undef) rfl (by kernel_rfl) (by kernel_rfl) (by kernel_rfl) (fun _ _ _ h => h) (Or.inr ⟨by rfl, rfl⟩) (by assumption) ?_
          try simp only [Act.put, List.getElem_toArray, List.getElem_cons_succ, List.getElem_cons_zero, List.setIfInBounds_toArray, List.set_cons_zero, List.set_cons_succ]
          refine wpAnyH_take (i := 9) (v := undef) rfl (by kernel_rfl) (by kernel_rfl) (by kernel_rfl) (fun _ _ _ h => h) (Or.inr ⟨by rfl, rfl⟩) (by assumption) ?_
          try simp only [Act.put, List.getElem_toArray, List.getElem_cons_succ, List.getElem_cons_zero, List.setIfInBounds_toArray, List.set_cons_zero, List.set_cons_succ]
          refine wpAnyH_take (i := 10) (v := ?v10) rfl (by kernel_rfl) (by kernel_rfl) (by kernel_rfl) (fun _ _ _ h => h) (Or.inl ⟨by rfl, ?hy10⟩) (by assumption) ?rest10
          case hy10 => (intro w hSw; (try dsimp only at hSw); go_simp; try with_reducible rfl)
          try simp only [Act.put, List.getElem_toArray, List.getElem_cons_succ, List.getElem_cons_zero, List.setIfInBounds_toArray, List.set_cons_zero, List.set_cons_succ]
          refine wpAnyH_done (by kernel_rfl) ?_ _
          have hI2 := Lib.hid (ins_yes hI.out hlt HNE.out)
          rw [← HX.out.2.1] at hI2
          have hOd := hOS.ext (grown_drew wS none)
          have hcD : wS.drew.cell? ⟨bl, ol + i, none⟩ = some (.slice a2 x.length cap2) := hcS
          have hxD := Rows2.ext HS.out.1 (grown_drew wS none)
          have hgd := grown_trans hgs (grown_drew wS none)
          generalize wS.drew = wD at *
          clear hI hOS hcS
          go_wp2_with (first | (at_builtin; refine wp_app_r3 rfl _ _ rfl S w0.heap.size _ _ out x rfl wD hOd hxD rfl rfl (by omega) hgd.size ?_; intro v8 w8 hO8 hg8; have hg08 := grown_own hgd hg8 (fun b hb hlt => by have := (hOd.lt b hb).1; omega)) | fail)
          clear hcD
          go_roundw
          case rel => exact ⟨i + 1, true, out ++ [x], _, rfl, rfl, by go_num, by omega, by simp; omega, hg08, hO8, hI2⟩
          case measure => simp [intOf]; omega
        | false =>
          have e4 : ∀ w', Ext wS w' → w'.cell? ⟨bl, ol + i, none⟩ = some (.slice a2 x.length cap2) := fun w' h => h.cell hcS (by simp)
          have f1 : ∀ w', Ext wS w' → w'.cell? ⟨w.heap.size, 0, none⟩ = some vo6 := fun w' h => e1 w' (grown_trans hgs h)
          have f2 : ∀ w', Ext wS w' → w'.cell? ⟨w.heap.size, 1, none⟩ = some vp6 := fun w' h => e2 w' (grown_trans hgs h)
          have f3 : ∀ w', Ext wS w' → w'.cell? ⟨w.heap.size, 2, none⟩ = some vc6 := fun w' h => e3 w' (grown_trans hgs h)
          clear e1 e2 e3
          go_wp2
          go_region_held3 (fun w' => Ext wS w') (first | exact grown_drew _ _ | assumption)
            (first
              | (go_at_call 193; refine Calls.mono (Calls.rel (w0 := wS) (by assumption) (l19Before_ok P hP _ _ _ _ u x Any Any Any ⟨_, _, _, rfl, Pres3.ext h36 (grown_trans hgs (by assumption))⟩ (Rows2.sub (Rows2.ext HS.out.2 (by assumption)) (fun _ _ _ => trivial)) (Rows2.sub (Rows2.ext HS.out.1 (by assumption)) (fun _ _ _ => trivial)) (HB.out.2.2.1 u HB.out.2.2.2.2).1 (HB.out.2.2.1 x HX.out.1).1 (HB.out.2.2.1 u HB.out.2.2.2.2).2 (HB.out.2.2.1 x HX.out.1).2)) ?_; rintro eA wA ⟨vA, rfl, hgA, hsA, rfl⟩))
          have hgA0 := grown_trans hgs hgA
          have hOA := hOS.ext hgA
          have hcA := e4 wA hgA
          have hxA := Rows2.ext HS.out.1 hgA
          have huA := Rows2.ext HS.out.2 hgA
          clear e4 f1 f2 f3 hOS hcS
          cases hlb : ltB P u x with
          | true =>
            have hol2 : out.length ≤ i := by rw [(hI.out.no rfl).1, List.length_take]; omega
            have hI2 := ins_put hI.out hlt HNE.out (by rw [← HX.out.2.1]; exact ltB_iff.1 hlb)
            rw [← HX.out.2.1] at hI2
            have HI2 := Lib.hid hI2; clear hI2 hI hlb
            have hB0 := HB.out.2.1
            go_wp2_with (first
              | (revert hO8; intro hO8; at_builtin; refine wp_app_r3 rfl _ _ rfl S w0.heap.size _ _ (out ++ [u]) x rfl w8 hO8 hx8 rfl rfl (by simp; omega) hg08.size ?_; intro v9 w9 hO9 hg9; have hg09 := grown_own hg08 hg9 (fun b hb hlt => by have := (hO8.lt b hb).1; omega))
              | (at_builtin; refine wp_app_r3 rfl _ _ rfl S w0.heap.size _ _ out u rfl wA hOA huA rfl rfl (by omega) hgA0.size ?_; intro v8 w8 hO8 hg8; have hg08 := grown_own hgA0 hg8 (fun b hb hlt => by have := (hOA.lt b hb).1; omega); have hc8 := hg8.cell hcA (fun e => by have h1 : w0.heap.size ≤ bl := (hOA.lt _ e.symm).1; omega); have hx8 : Rows2 (fun k => S k ∧ k < w0.heap.size) w8 (.slice a2 x.length cap2) x := Rows2.mono hxA (frame_of hg8 (fun k hk _ => ⟨hk, fun e => by have := (hOA.lt k e).1; omega⟩)))
              | fail)
            clear hcA hc8
            go_roundw
            case rel => exact ⟨i + 1, true, out ++ [u] ++ [x], _, rfl, rfl, by go_num, by omega, by simp only [List.length_append, List.length_singleton]; omega, hg09, hO9, Lib.hid HI2.out⟩
            case measure => simp [intOf]; omega
          | false =>
            have hI2 := ins_no hI.out hlt HNE.out (by rw [← HX.out.2.1]; exact fun h => by rw [ltB_iff.2 h] at hlb; cases hlb)
            rw [← HX.out.2.1] at hI2
            have HI2 := Lib.hid hI2; clear hI2 hI hlb
            go_wp2_with (first | (at_builtin; refine wp_app_r3 rfl _ _ rfl S w0.heap.size _ _ out x rfl wA hOA hxA rfl rfl (by omega) hgA0.size ?_; intro v8 w8 hO8 hg8; have hg08 := grown_own hgA0 hg8 (fun b hb hlt => by have := (hOA.lt b hb).1; omega)) | fail)
            clear hcA
            go_roundw
            case rel => exact ⟨i + 1, false, out ++ [x], _, rfl, rfl, by go_num, by omega, by simp; omega, hg08, hO8, HI2⟩
            case measure => simp [intOf]; omega
    · have hie : i = L.length := by omega
      have hO2 := hO
      obtain ⟨va, vcp, hv7⟩ := hO.shape
      subst hv7
      have hI2 := hI.out
      rw [hie] at hI2
      have hB0 := HB.out.2.1
      have hsub : ∀ {r : Value} {w' : World} {Z : List (List (List Int))}, Rows3 (fun k => S k ∨ w0.heap.size ≤ k) w' r Z → Rows3 (fun k => S k ∨ w.heap.size ≤ k) w' r Z := fun h => Rows3.sub h (fun k hk _ => hk.imp id (fun h2 => by omega))
      have hnl : ¬ (i : Int) < L.length := by omega
      cases placed with
      | true =>
        have hR := hsub (hO.rows (by omega))
        have HR := Lib.hid (And.intro hI2 hR); clear hI2 hR hI hO hO2 hie
        go_wp2
        go_ret
        exact ⟨_, rfl, grown_trans hg0 hg, out, (ins_end G hlp HB.out.2.2.2.1 HB.out.2.2.2.2 HR.out.1 out rfl).1, (ins_end G hlp HB.out.2.2.2.1 HB.out.2.2.2.2 HR.out.1 out rfl).2, by omega, HR.out.2⟩
      | false =>
        have huS : Rows2 (fun k => S k ∧ k < w0.heap.size) wr (.slice au u.length capu) u := Rows2.mono hu (fun k hk hlt => ⟨⟨hk, by omega⟩, Nat.lt_of_lt_of_le hlt (Nat.le_trans hg0.size hg.size), (hg.block k (Nat.lt_of_lt_of_le hlt hg0.size) (by simp)).trans (hg0.block k hlt (by simp))⟩)
        have HR := Lib.hid hI2
        have HR2 : Hid ((out ++ [u]).length ≤ L.length + 1) := by
          have h1 := (hI2.no rfl).1
          exact Lib.hid (by rw [h1]; simp)
        clear hI2 hI hie
        go_wp2_with (first | (at_builtin; refine wp_app_r3 rfl _ _ rfl S w0.heap.size _ _ out u rfl wr hO huS rfl rfl (by omega) hg.size ?_; intro v8 w8 hO8 hg8; have hg08 := grown_own hg hg8 (fun b hb hlt => by have := (hO.lt b hb).1; omega); obtain ⟨vb, vcq, hv8⟩ := hO8.shape; subst hv8) | fail)
        have hR := hsub (hO8.rows (by simp; omega))
        rw [List.length_append, List.length_singleton] at hR
        go_ret
        exact ⟨_, rfl, grown_trans hg0 hg08, out ++ [u], (ins_end G hlp HB.out.2.2.2.1 HB.out.2.2.2.2 HR.out (out ++ [u]) rfl).1, (ins_end G hlp HB.out.2.2.2.1 HB.out.2.2.2.2 HR.out (out ++ [u]) rfl).2, HR2.out, hR⟩

end Go.Proofs.YtdklekdpdbjfiaaGreat

/- append of a row that lay there before: the list takes it out of the set of blocks that it avoids. -/
namespace Go.Proofs.YtdklekdpdbjfiaaGreat
open Go.RowKit

theorem wp_app_take {ops : Array Oper} {rest : List Oper} {o : Oper} {a : Act} {Q : Exit → Act → World → Prop} {w : World} (hgd : o.guard = none) (s x : Operand)
    (ho : o.op = Op.call { callee := Callee.builtin Builtin.append, args := #[s, x], argTypes := #[23, 23] }) (B : Nat) (A A' F : Nat → Prop) (w0 : World) (v u : Value) (xs : List (List Int)) (y : List Int) (hs : a.eval s = v)
    (hown : SlOA OwnIn 22 B A w0 v xs) (hu : OwnIn F w0 u y) (hF : ∀ k, F k → k < w0.heap.size → A k ∧ B ≤ k) (hA' : ∀ k, A' k → A k ∧ ¬ F k) (hAl : ∀ k, A k → k < w0.heap.size) (hw : w = w0.alloc (.cells #[u] 22))
    (hx : a.eval x = .slice (some ⟨w0.heap.size, 0, none⟩) 1 1) (hlen : xs.length ≤ 1000000) (hbase : B ≤ w0.heap.size)
    (h : ∀ v' w', SlOA OwnIn 22 B A' w' v' (xs ++ [y]) → w0.grownBy w' v.ownBlock → (v'.ownBlock = v.ownBlock ∨ ∀ k, v'.ownBlock = some k → w0.heap.size ≤ k) → wpList Tryz.prog ops Q rest (a.put o.dst v') w') :
    wpList Tryz.prog ops Q (o :: rest) a w := by
  subst hw
  obtain ⟨vs, G, hvl, hO, hG, hd, hE, hr, hr2⟩ := hown
  have hga : Ext w0 (w0.alloc (.cells #[u] 22)) := World.grownBy_alloc _ _ _
  refine wp_app 23 22 (.slice none 0 0) 24 und_rows Tryz.infoRow rfl (by decide) hgd s x ho B v vs hs (hO.kept hga (by cases hv : v.ownBlock <;> simp)) (some ⟨w0.heap.size, 0, none⟩) 1 1 [u] hx rfl (by simp) ?_ ?_ (by simp; omega) (by have := hga.size; omega) ?_
  · intro j hj
    have : j = 0 := by omega
    subst this
    exact ⟨_, _, rfl, by rw [World.cell?_alloc_at _ _ _ _ rfl]; rfl⟩
  · intro u' hu'
    simp at hu'; subst hu'; exact rdOwn.one hu
  · intro v' w' k1 k2 _ k4
    have hg : w0.grownBy w' v.ownBlock := grown_trans (grown_of_ext _ hga) k2
    have hown2 : v'.ownBlock = v.ownBlock ∨ ∀ k, v'.ownBlock = some k → w0.heap.size ≤ k := by
      rcases k4 with h | h
      · exact .inl h
      · refine .inr (fun k hk => ?_)
        rw [h] at hk
        have : (w0.alloc (.cells #[u] 22)).heap.size = k := by simpa using hk
        simp at this
        omega
    have hown : ∀ k, v'.ownBlock = some k → v.ownBlock = some k ∨ w0.heap.size ≤ k := fun k hk => by
      rcases k4 with h | h
      · exact .inl (by rw [← h]; exact hk)
      · rw [h] at hk
        have : (w0.alloc (.cells #[u] 22)).heap.size = k := by simpa using hk
        simp at this
        exact .inr (by omega)
    refine h v' w' ⟨vs ++ [u], fun i k => if i < xs.length then G i k else F k ∧ k < w0.heap.size, by simp [hvl], k1, ?_, ?_, ?_, ?_, ?_⟩ hg hown2
    · intro i k hi hk
      split at hk
      · rename_i hlt
        obtain ⟨a1, a2, a3⟩ := hG i k hlt hk
        exact ⟨a1, fun e => (hown k e).elim a2 (fun h => by omega), Nat.lt_of_lt_of_le a3 hg.size⟩
      · obtain ⟨b1, b2⟩ := hF k hk.1 hk.2
        exact ⟨b2, fun e => (hown k e).elim (fun h => hr2 k h b1) (fun h => by have := hk.2; omega), Nat.lt_of_lt_of_le hk.2 hg.size⟩
    · intro i j k hi hj hk hk'
      simp only [List.length_append, List.length_singleton] at hi hj
      split at hk <;> split at hk'
      · exact hd i j k (by assumption) (by assumption) hk hk'
      · exact absurd (hF k hk'.1 hk'.2).1 (hr i k (by assumption) hk)
      · exact absurd (hF k hk.1 hk.2).1 (hr j k (by assumption) hk')
      · omega
    · intro i hi
      simp only [List.length_append, List.length_singleton] at hi
      by_cases hlt : i < xs.length
      · rw [gt_append_left _ _ _ (by omega), gt_append_left _ _ _ hlt]
        simp only [if_pos hlt]
        exact rdOwn.mono (hE i hlt) (fun k hk hkl => ⟨hk, Nat.lt_of_lt_of_le hkl hg.size, hg.block k hkl (fun e => (hG i k hlt hk).2.1 e.symm)⟩)
      · have hi2 : i = xs.length := by omega
        subst hi2
        rw [gt_concat, ← hvl, gt_concat]
        simp only [hvl, Nat.lt_irrefl, if_false]
        exact rdOwn.mono hu (fun k hk hkl => ⟨⟨hk, hkl⟩, Nat.lt_of_lt_of_le hkl hg.size, hg.block k hkl (fun e => hr2 k e.symm (hF k hk hkl).1)⟩)
    · intro i k hi hk ha
      obtain ⟨c1, c2⟩ := hA' k ha
      split at hk
      · rename_i hlt; exact hr i k hlt hk c1
      · exact c2 hk.1
    · intro k hk ha
      obtain ⟨c1, _⟩ := hA' k ha
      rcases hown k hk with h | h
      · exact hr2 k h c1
      · have := hAl k c1; omega

end Go.Proofs.YtdklekdpdbjfiaaGreat

/- [][]int64{row} as a list of the call's own. -/
namespace Go.Proofs.YtdklekdpdbjfiaaGreat
open Go.RowKit

theorem rowsOne {B : Nat} {w2 : World} {u : Value} {y : List Int} (hu : OwnIn (From B) w2 u y) (hB : B ≤ w2.heap.size) : RowsO B (w2.alloc (.cells #[u] 22)) (.slice (some ⟨w2.heap.size, 0, none⟩) 1 1) [y] := by
  have hga : Ext w2 (w2.alloc (.cells #[u] 22)) := World.grownBy_alloc _ _ _
  refine ⟨[u], fun _ k => B ≤ k ∧ k < w2.heap.size, rfl, World.ownsRow_lit w2 #[u] 1 hB (by decide) rfl, fun i k hi hk => ?_, fun i j k hi hj _ _ => ?_, fun i hi => ?_⟩
  · exact ⟨hk.1, fun e => by have := own_blk e; omega, Nat.lt_of_lt_of_le hk.2 hga.size⟩
  · simp at hi hj; omega
  · have : i = 0 := by simpa using hi
    subst this
    exact rdOwn.mono hu (fun k hk hkl => ⟨⟨hk, hkl⟩, Nat.lt_of_lt_of_le hkl hga.size, hga.block k hkl (by simp)⟩)

end Go.Proofs.YtdklekdpdbjfiaaGreat
